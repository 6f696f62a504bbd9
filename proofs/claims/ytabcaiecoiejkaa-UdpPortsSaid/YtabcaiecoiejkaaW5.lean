/- Walks of the reference's ports: Find told by what stands there; Shut. Walks of the reference's ports: Take. Walks of the reference's ports: Offer. -/
import Derived.Test.YtabcaiecoiejkaaW4
set_option maxRecDepth 100000
set_option linter.unusedSimpArgs false
set_option linter.unusedVariables false
set_option maxHeartbeats 4000000
namespace Go.Proofs.Ytabcaiecoiejkaa
open Go K

theorem elt121 : Elt Try.prog 121 3 40 [.int .i64 0, .int .i64 0, .slice none 0 0] := ⟨by kernel_rfl, rfl, by decide⟩
theorem sV_of {sz n : Nat} {o : Own} {xs : List Value} (h : RowOk sz o n xs) : rowV o n = .slice (oA o) n (oC o n) := by
  cases o with
  | none => rw [h.nil rfl]; rfl
  | some p => rfl
def hdF (p : Nat) (o : Own) (n : Nat) : Nat × Blk := (p, .c [.slice (oA o) n (oC o n)] 115 0 0)
theorem mR_A {p : Nat} {o : Own} {es : List Ent} (h : RowOk 3 o es.length (entC es)) : mR ⟨p, o, es⟩ = hdF p o es.length :: (rowL 121 o (entC es) ++ rowsE es) := by
  show (p, .c [rowV o es.length] 115 0 0) :: (rowL 121 o (entC es) ++ rowsE es) = _
  rw [sV_of h]
  rfl
theorem oC_le {sz n : Nat} {o : Own} {xs : List Value} (h : RowOk sz o n xs) : n ≤ oC o n := by
  cases o with
  | none => rw [h.nil rfl]; exact Nat.le_refl _
  | some q => exact Nat.le_add_right _ _
theorem rowsE_app (a b : List Ent) : rowsE (a ++ b) = rowsE a ++ rowsE b := List.flatMap_append
theorem rowsE_cons (e : Ent) (b : List Ent) : rowsE (e :: b) = e.row ++ rowsE b := List.flatMap_cons
theorem rowsE_sub (pre : List Ent) (e : Ent) (post : List Ent) : (rowsE (pre ++ post)).Sublist (rowsE (pre ++ e :: post)) := by
  rw [rowsE_app, rowsE_app, rowsE_cons]
  exact List.Sublist.append (List.Sublist.refl _) (List.sublist_append_right _ _)
theorem FindMiss {p : Nat} {o : Own} {es : List Ent} (hy : WR ⟨p, o, es⟩) {n : Int} (h : look es n = none) : MQ 65 [ptr p, .int .i64 n] (hdF p o es.length :: rowL 121 o (entC es)) (.int .i64 (-1)) := by
  have hr : RowOk 3 o es.length (entC es) := hy.row
  have hl : es.length ≤ 16 := hy.len
  cases o with
  | none =>
    have h0 : es = [] := List.eq_nil_of_length_eq_zero (hr.nil rfl)
    subst h0
    exact Find_nil p n
  | some q =>
    obtain ⟨b, p0, r, rest⟩ := q
    exact Find_any p b p0 r rest es n (by omega) (-1) (.inr ⟨fun j x hj => look_none h x (List.mem_of_getElem? hj), rfl⟩)
theorem FindHit {p : Nat} {o : Own} {pre post : List Ent} {e : Ent} (hy : WR ⟨p, o, pre ++ e :: post⟩) : MQ 65 [ptr p, .int .i64 e.n] (hdF p o (pre ++ e :: post).length :: rowL 121 o (entC (pre ++ e :: post))) (.int .i64 (pre.length : Int)) := by
  have hr : RowOk 3 o (pre ++ e :: post).length (entC (pre ++ e :: post)) := hy.row
  have hl : (pre ++ e :: post).length ≤ 16 := hy.len
  cases o with
  | none =>
    have h0 := hr.nil rfl
    simp at h0
  | some q =>
    obtain ⟨b, p0, r, rest⟩ := q
    refine Find_any p b p0 r rest (pre ++ e :: post) e.n (by omega) _ (.inl ⟨pre.length, e, by simp, rfl, fun j x hj hlt => ?_, rfl⟩)
    rw [List.getElem?_append_left hlt] at hj
    exact Int.ne_of_lt ((sorted_at hy.sorted).1 x (List.mem_of_getElem? hj))
theorem ent_one (es : List Ent) : ∀ u ∈ entC es, u.oneCell' = true := fun u hu => by
  obtain ⟨e, he, hu⟩ := List.mem_flatMap.1 hu
  have hv : (rowV e.o e.ws.length).oneCell' = true := by
    cases e.o with
    | none => rfl
    | some q => rfl
  simp only [Ent.cells, List.mem_cons, List.not_mem_nil, or_false] at hu
  rcases hu with rfl | rfl | rfl
  · rfl
  · rfl
  · exact hv
/-- a part of the entries, as what is appended -/
theorem srcCut {o : Own} {es A M C : List Ent} (hes : es = A ++ (M ++ C)) (hrow : RowOk 3 o es.length (entC es)) {w0 : World} {ks : List Nat} {L : Mm} {w : World} (hm : Mem w0 ks L w) (hin : ∀ x ∈ rowL 121 o (entC es), x ∈ L) (l m : Nat) (h1 : l = A.length) (h2 : m = M.length) (k : Nat) :
    Src Try.prog 3 113 (.slice (if oC o es.length = l then oA o else (oA o).map (·.add (l * 3))) m k) M.length (entC M) w := by
  subst h1 h2 hes
  cases o with
  | none =>
    have h0 := hrow.nil rfl
    have hA : A = [] := List.eq_nil_of_length_eq_zero (by simp only [List.length_append] at h0; omega)
    have hM : M = [] := List.eq_nil_of_length_eq_zero (by simp only [List.length_append] at h0; omega)
    subst hA hM
    show Src Try.prog 3 113 (.slice (if 0 = 0 then none else none) 0 k) 0 [] w
    exact Src.ofNil w Try.underlying113 k
  | some q =>
    obtain ⟨b, p0, r, rest⟩ := q
    cases M with
    | nil =>
      have key : ∀ a : Addr, Src Try.prog 3 113 (.slice (some a) 0 k) 0 [] w := fun a => Src.ofSlice w Try.underlying113 a 0 k [] rfl (fun j u hu => by cases hu) (fun u hu => by cases hu)
      show Src Try.prog 3 113 (.slice (if _ = _ then some _ else some _) 0 k) 0 [] w
      split
      · exact key _
      · exact key _
    | cons e M =>
      have hne : ¬ (A ++ (e :: M ++ C)).length + r = A.length := by simp only [List.length_append, List.length_cons]; omega
      show Src Try.prog 3 113 (.slice (if (A ++ (e :: M ++ C)).length + r = A.length then some _ else some _) _ k) _ _ w
      rw [if_neg hne]
      obtain ⟨i, hi⟩ := List.mem_iff_getElem?.1 (hin _ (List.mem_singleton.2 rfl))
      refine Src.ofSlice w Try.underlying113 _ _ k _ (entC_len _) (fun j u hu => ?_) (ent_one _)
      have hj := (List.getElem?_eq_some_iff.1 hu).1
      show w.cell? (((⟨b, p0.length, none⟩ : Addr).add (A.length * 3)).add j) = some u
      rw [addr_add, addr_add]
      show w.cell? ⟨b, p0.length + A.length * 3 + j, none⟩ = some u
      rw [hm.cell hi, entC_app, entC_app, List.append_assoc p0, List.append_assoc (entC A)]
      have hA : (entC A).length = A.length * 3 := entC_len A
      rw [List.getElem?_append_right (by omega), List.getElem?_append_right (by omega), List.append_assoc, List.getElem?_append_left (by omega)]
      rw [show p0.length + A.length * 3 + j - p0.length - (entC A).length = j by omega]
      exact hu
theorem ShutR (y : Rq) (n : Int) (hy : WR y) : RC 113 [ptr y.p, .int .i64 n] y (.int .i64 (rShut (look y.es n))) n none := by
  obtain ⟨p, o, es⟩ := y
  have hrow : RowOk 3 o es.length (entC es) := hy.row
  have hlen : es.length ≤ 16 := hy.len
  show RC 113 [ptr p, .int .i64 n] ⟨p, o, es⟩ (.int .i64 (rShut (look es n))) n none
  cases hv : look es n with
  | none =>
    refine RC.ofMQ (fun w hw => ?_) (by have := StR.same (n := n) hy; rw [show look (Rq.mk p o es).es n = none from hv] at this; exact this)
    rw [mR_A hrow] at hw ⊢
    refine calls_of_z Try.func113 rfl Try.ntmps113 rfl hw ?_; intro cs b hb hk
    repeat (first | (refine st ?_) | (refine stx ?_) | (intro _))
    ((try (refine sg ?_)); (refine zx_call0 rfl fnc65 rfl rfl (fun w hm => at3q hm (List.Perm.refl _) (FindMiss hy hv)) ?_))
    repeat (first | (refine st ?_) | (refine stx ?_) | (refine sb ?_) | (intro _))
    refine z_ret1 tab_ok Try.func113 hb hk Try.results113 (.tmp rfl) (fun w hm => ?_)
    exact ⟨rfl, hm⟩
  | some v =>
    obtain ⟨pre, e, post, rfl, rfl, hne, rfl⟩ := look_some hv
    intro w hw
    have hlx : pre.length + (post.length + 1) ≤ 16 := by rw [List.length_append, List.length_cons] at hlen; exact hlen
    rw [mR_A hrow] at hw ⊢
    refine calls_of_z Try.func113 rfl Try.ntmps113 rfl hw ?_; intro cs b hb hk
    repeat (first | (refine st ?_) | (refine stx ?_) | (intro _))
    ((try (refine sg ?_)); (refine zx_call0 rfl fnc65 rfl rfl (fun w hm => at3q hm (List.Perm.refl _) (FindHit hy)) ?_))
    repeat (first | (refine st ?_) | (refine stx ?_) | (refine sb ?_) | (intro _))
    refine zx_sliceW tab_ok 0 pre.length (oC o (pre ++ e :: post).length) rfl rfl rfl rfl rfl rfl rfl (fun h => by cases h) rfl rfl rfl rfl (Nat.zero_le _) (Nat.le_trans (by rw [List.length_append]; exact Nat.le_add_right _ _) (oC_le hrow)) (Nat.le_refl _) ?_
    refine zx_append elt121 tab_ok (hdF p o (pre ++ e :: post).length :: (rowL 121 o (entC (pre ++ e :: post)) ++ rowsE (pre ++ e :: post))) none 0 [] (m := pre.length) (news := entC pre) rfl rfl rfl rfl (List.append_nil _).symm rfl (RowOk.nil0 3) (fun w hm => srcCut (A := []) (M := pre) (C := e :: post) rfl hrow hm (fun x hx => List.mem_cons_of_mem _ (List.mem_append_left _ hx)) 0 pre.length rfl rfl _) (by omega) (by omega) (fun o1 ho1 => ?_)
    refine zx_re 19 (rowV o1 pre.length) rfl (by rw [Nat.zero_add]) ?_
    rw [Nat.zero_add, List.nil_append] at ho1
    repeat (first | (refine st ?_) | (refine stx ?_) | (intro _))
    refine zx_re 27 (.int .i64 ((pre.length + 1 : Nat) : Int)) rfl (congrArg _ (by rw [wrW (by omega) (by omega)]; omega)) ?_
    refine zx_sliceW tab_ok (pre.length + 1) (pre ++ e :: post).length (oC o (pre ++ e :: post).length) rfl rfl rfl rfl rfl rfl rfl (fun h => by cases h) rfl rfl rfl rfl (by rw [List.length_append, List.length_cons]; omega) (oC_le hrow) (Nat.le_refl _) ?_
    refine zx_append elt121 tab_ok (hdF p o (pre ++ e :: post).length :: (rowL 121 o (entC (pre ++ e :: post)) ++ rowsE (pre ++ e :: post))) o1 pre.length (entC pre) (m := post.length) (news := entC post) rfl rfl rfl rfl rfl rfl ho1 (fun w hm => srcCut (A := pre ++ [e]) (M := post) (C := []) (by simp) hrow hm (fun x hx => List.mem_append_left _ (List.mem_cons_of_mem _ (List.mem_append_left _ hx))) (pre.length + 1) _ (by simp) (by rw [List.length_append, List.length_cons]; omega) _) (by omega) (by omega) (fun o2 ho2 => ?_)
    refine zx_re 29 (.slice (oA o2) (pre.length + post.length) (oC o2 (pre.length + post.length))) rfl (sV_of ho2) ?_
    repeat (first | (refine st ?_) | (refine stx ?_) | (intro _))
    refine z_ret1 tab_ok Try.func113 hb hk Try.results113 (.tmp rfl) (fun w hm => ?_)
    have hrow2 : RowOk 3 o2 (pre ++ post).length (entC (pre ++ post)) := by rw [List.length_append, entC_app]; exact ho2
    refine ⟨⟨p, o2, pre ++ post⟩, StR.struck hy hrow2, rfl, ?_⟩
    rw [mR_A hrow2]
    have hm2 : Mem _ _ (hdF p o2 (pre.length + post.length) :: (rowL 121 o (entC (pre ++ e :: post)) ++ rowsE (pre ++ e :: post)) ++ rowL 121 o2 (entC pre ++ entC post)) w := hm
    rw [show (pre ++ post).length = pre.length + post.length from List.length_append, entC_app pre post]
    refine (hm2.perm (L' := hdF p o2 (pre.length + post.length) :: (rowL 121 o2 (entC pre ++ entC post) ++ (rowL 121 o (entC (pre ++ e :: post)) ++ rowsE (pre ++ e :: post)))) (List.Perm.cons _ List.perm_append_comm)).weaken (fun _ h => h) (List.Sublist.cons_cons _ (List.Sublist.append (List.Sublist.refl _) ((rowsE_sub pre e post).trans (List.sublist_append_right _ _))))
end Go.Proofs.Ytabcaiecoiejkaa
namespace Go.Proofs.Ytabcaiecoiejkaa
open Go K

/-- the third cell of an entry turned -/
theorem ent_set {p0 rest : List Value} {pre post : List Ent} {e e' : Ent} (h1 : e'.n = e.n) (h2 : e'.d = e.d) {v : Value} (hv : rowV e'.o e'.ws.length = v) : over (p0 ++ entC (pre ++ e :: post) ++ rest) (p0.length + pre.length * 3 + 2) [v] = p0 ++ entC (pre ++ e' :: post) ++ rest := by
  subst hv
  have e1 : p0 ++ entC (pre ++ e :: post) ++ rest = (p0 ++ entC pre ++ [.int .i64 e.n, .int .i64 (e.d : Int)]) ++ (rowV e.o e.ws.length :: (entC post ++ rest)) := by
    rw [entC_app, entC_cons, Ent.cells]
    simp
  have e2 : p0 ++ entC (pre ++ e' :: post) ++ rest = (p0 ++ entC pre ++ [.int .i64 e.n, .int .i64 (e.d : Int)]) ++ [rowV e'.o e'.ws.length] ++ (entC post ++ rest) := by
    rw [entC_app, entC_cons, Ent.cells, h1, h2]
    simp
  have e3 : p0.length + pre.length * 3 + 2 = (p0 ++ entC pre ++ [Value.int .i64 e.n, Value.int .i64 (e.d : Int)]).length := by
    rw [List.length_append, List.length_append, entC_len]
    rfl
  rw [e1, e2, e3, over_eq _ _ _ (by simp)]
  rfl
theorem rowsE_at (pre : List Ent) (e : Ent) (post : List Ent) : (e.row ++ (rowsE pre ++ rowsE post)).Perm (rowsE (pre ++ e :: post)) := by
  rw [rowsE_app, rowsE_cons]
  exact px1 e.row (rowsE pre) (rowsE post)
theorem TakeR (y : Rq) (n : Int) (hy : WR y) : RC 115 [ptr y.p, .int .i64 n] y (.tuple #[.string (rTake (look y.es n)).1, .int .i64 (rTake (look y.es n)).2]) n (nTake (look y.es n)) := by
  obtain ⟨p, o, es⟩ := y
  have hrow : RowOk 3 o es.length (entC es) := hy.row
  have hlen : es.length ≤ 16 := hy.len
  show RC 115 [ptr p, .int .i64 n] ⟨p, o, es⟩ (.tuple #[.string (rTake (look es n)).1, .int .i64 (rTake (look es n)).2]) n (nTake (look es n))
  cases hv : look es n with
  | none =>
    refine RC.ofMQ (fun w hw => ?_) (by have := StR.same (n := n) hy; rw [show look (Rq.mk p o es).es n = none from hv] at this; exact this)
    rw [mR_A hrow] at hw ⊢
    refine calls_of_z Try.func115 rfl Try.ntmps115 rfl hw ?_; intro cs b hb hk
    repeat (first | (refine st ?_) | (refine stx ?_) | (intro _))
    ((try (refine sg ?_)); (refine zx_call0 rfl fnc65 rfl rfl (fun w hm => at3q hm (List.Perm.refl _) (FindMiss hy hv)) ?_))
    repeat (first | (refine st ?_) | (refine stx ?_) | (refine sb ?_) | (intro _))
    refine z_ret2 tab_ok Try.func115 hb hk Try.results115 (.tmp rfl) (.tmp rfl) (fun w hm => ?_)
    exact ⟨rfl, hm⟩
  | some v =>
    obtain ⟨pre, e, post, rfl, rfl, hne, rfl⟩ := look_some hv
    have hlx : pre.length + (post.length + 1) ≤ 16 := by rw [List.length_append, List.length_cons] at hlen; exact hlen
    have he : (pre ++ e :: post)[pre.length]? = some e := by simp
    have her : RowOk 1 e.o e.ws.length (strC e.ws) := hy.rows e (List.mem_append_right _ (List.mem_cons_self ..))
    have hec := hy.caps e (List.mem_append_right _ (List.mem_cons_self ..))
    have hfind := FindHit hy
    cases o with
    | none =>
      have h0 := hrow.nil rfl
      simp at h0
    | some q =>
      obtain ⟨b1, p0, r, rest⟩ := q
      intro w hw
      have hw1 : Mem w ((mR ⟨p, some (b1, p0, r, rest), pre ++ e :: post⟩).map (·.1)) ((p, .c [.slice (some ⟨b1, p0.length, none⟩) (pre ++ e :: post).length ((pre ++ e :: post).length + r)] 115 0 0) :: (b1, .c (p0 ++ entC (pre ++ e :: post) ++ rest) 121 0 0) :: (e.row ++ (rowsE pre ++ rowsE post))) w := hw.perm (((rowsE_at pre e post).cons _).cons _)
      cases hws : e.ws with
      | nil =>
        have hz : e.cells[2]? = some (.slice (oA e.o) 0 (oC e.o 0)) := by
          rw [hws] at her
          show some (rowV e.o e.ws.length) = _
          rw [hws]
          exact congrArg some (sV_of her)
        refine calls_of_z Try.func115 rfl Try.ntmps115 rfl hw1 ?_; intro cs b hb hk
        repeat (first | (refine st ?_) | (refine stx ?_) | (intro _))
        ((try (refine sg ?_)); (refine zx_call0 rfl fnc65 rfl rfl (fun w hm => at3q hm (List.Perm.refl _) hfind) ?_))
        repeat (first | (refine st ?_) | (refine stx ?_) | (refine sb ?_) | (intro _))
        refine zx_idxA (sz := pre.length * 3) tab_ok rfl rfl rfl rfl rfl rfl (by omega) (by rw [List.length_append, List.length_cons]; omega) (by simp) ?_
        repeat (first | (refine st ?_) | (refine stx ?_) | (intro _))
        refine zx_load tab_ok 1 rfl rfl rfl rfl rfl (ent_at (j := 2) he hz) rfl ?_
        repeat (first | (refine st ?_) | (refine stx ?_) | (refine sb ?_) | (intro _))
        refine z_ret2 tab_ok Try.func115 hb hk Try.results115 (.tmp rfl) (.tmp rfl) (fun w hm => ?_)
        refine ⟨⟨p, some (b1, p0, r, rest), pre ++ e :: post⟩, ?_, rfl, hm.perm (((rowsE_at pre e post).symm.cons _).cons _)⟩
        have h2 : StR ⟨p, some (b1, p0, r, rest), pre ++ e :: post⟩ ⟨p, some (b1, p0, r, rest), pre ++ e :: post⟩ e.n (look (pre ++ e :: post) e.n) := StR.same hy
        rw [hv, hws] at h2
        exact h2
      | cons s0 ws =>
        cases heo : e.o with
        | none => rw [heo, hws] at her; cases her.nil rfl
        | some q2 =>
          obtain ⟨b2, q0, r2, rest2⟩ := q2
          have hrow2 : e.row = [(b2, .c (q0 ++ strC (s0 :: ws) ++ rest2) 9 0 0)] := by unfold Ent.row; rw [heo, hws]; rfl
          rw [hrow2] at hw1
          have hw1 : Mem w _ ((p, .c [.slice (some ⟨b1, p0.length, none⟩) (pre ++ e :: post).length ((pre ++ e :: post).length + r)] 115 0 0) :: (b1, .c (p0 ++ entC (pre ++ e :: post) ++ rest) 121 0 0) :: (b2, .c (q0 ++ strC (s0 :: ws) ++ rest2) 9 0 0) :: (rowsE pre ++ rowsE post)) w := hw1
          have hc0 : e.cells[2]? = some (.slice (some ⟨b2, q0.length, none⟩) (ws.length + 1) (ws.length + 1 + r2)) := by
            show some (rowV e.o e.ws.length) = _
            rw [heo, hws]; rfl
          have hs0 : (q0 ++ strC (s0 :: ws) ++ rest2)[q0.length]? = some (.string s0) := by simp [strC]
          rw [heo, hws] at her
          rw [hws] at hec
          have hec : ws.length + 1 ≤ e.d ∧ e.d ≤ 16 := hec
          obtain ⟨od, hod⟩ : ∃ od, od = ownDrop (some (b2, q0, r2, rest2)) (strC (s0 :: ws)) 1 := ⟨_, rfl⟩
          refine calls_of_z Try.func115 rfl Try.ntmps115 rfl hw1 ?_; intro cs b hb hk
          repeat (first | (refine st ?_) | (refine stx ?_) | (intro _))
          ((try (refine sg ?_)); (refine zx_call0 rfl fnc65 rfl rfl (fun w hm => at3q hm (List.Perm.refl _) hfind) ?_))
          repeat (first | (refine st ?_) | (refine stx ?_) | (refine sb ?_) | (intro _))
          refine zx_idxA (sz := pre.length * 3) tab_ok rfl rfl rfl rfl rfl rfl (by omega) (by rw [List.length_append, List.length_cons]; omega) (by simp) ?_
          repeat (first | (refine st ?_) | (refine stx ?_) | (intro _))
          refine zx_load tab_ok 1 rfl rfl rfl rfl rfl (ent_at (j := 2) he hc0) rfl ?_
          repeat (first | (refine st ?_) | (refine stx ?_) | (refine sb ?_) | (intro _))
          refine zx_idxA (sz := pre.length * 3) tab_ok rfl rfl rfl rfl rfl rfl (by omega) (by rw [List.length_append, List.length_cons]; omega) (by simp) ?_
          repeat (first | (refine st ?_) | (refine stx ?_) | (intro _))
          refine zx_load tab_ok 1 rfl rfl rfl rfl rfl (ent_at (j := 2) he hc0) rfl ?_
          refine zx_idxA (sz := 0) tab_ok rfl rfl rfl rfl rfl rfl (by omega) (by omega) rfl ?_
          refine zx_load tab_ok 2 rfl rfl rfl rfl rfl hs0 rfl ?_
          repeat (first | (refine sn ?_) | (refine stx ?_) | (intro _))
          refine z_regionH [(p, .c [.slice (some ⟨b1, p0.length, none⟩) (pre ++ e :: post).length ((pre ++ e :: post).length + r)] 115 0 0)] (by rfl) follows_mixed (List.sublist_append_left [_] _) (m := 17) rfl ?_
          refine zh_take 0 (by kernel_rfl) rfl (by kernel_rfl) (by kernel_rfl) ?_ (by simp); (repeat (first | (refine sn ?_) | (refine stx ?_) | (refine sb ?_))); refine zh_took (by rfl) ?_
          refine zh_take 1 (by kernel_rfl) rfl (by kernel_rfl) (by kernel_rfl) ?_ (by simp); (repeat (first | (refine sn ?_) | (refine stx ?_) | (refine sb ?_))); refine zh_took (by rfl) ?_
          refine zh_take 2 (by kernel_rfl) rfl (by kernel_rfl) (by kernel_rfl) ?_ (by simp); (repeat (first | (refine sn ?_) | (refine stx ?_) | (refine sb ?_))); refine zh_took (by rfl) ?_
          refine zh_take 3 (by kernel_rfl) rfl (by kernel_rfl) (by kernel_rfl) ?_ (by simp); (repeat (first | (refine sn ?_) | (refine stx ?_) | (refine sb ?_))); refine zh_took (by rfl) ?_
          refine zh_take 4 (by kernel_rfl) rfl (by kernel_rfl) (by kernel_rfl) ?_ (by simp); (repeat (first | (refine sn ?_) | (refine stx ?_) | (refine sb ?_))); refine zh_took (by rfl) ?_
          refine zh_take 5 (by kernel_rfl) rfl (by kernel_rfl) (by kernel_rfl) ?_ (by simp); (repeat (first | (refine sn ?_) | (refine stx ?_) | (refine sb ?_))); refine zh_took (by rfl) ?_
          refine zh_take 6 (by kernel_rfl) rfl (by kernel_rfl) (by kernel_rfl) ?_ (by simp); (repeat (first | (refine sn ?_) | (refine stx ?_) | (refine sb ?_))); refine zh_took (by rfl) ?_
          refine zh_take 7 (by kernel_rfl) rfl (by kernel_rfl) (by kernel_rfl) ?_ (by simp); (repeat (first | (refine sn ?_) | (refine stx ?_) | (refine sb ?_))); refine zh_took (by rfl) ?_
          refine zh_take 8 (by kernel_rfl) rfl (by kernel_rfl) (by kernel_rfl) ?_ (by simp); (repeat (first | (refine sn ?_) | (refine stx ?_) | (refine sb ?_))); refine zh_took (by rfl) ?_
          refine zh_take 9 (by kernel_rfl) rfl (by kernel_rfl) (by kernel_rfl) ?_ (by simp); (repeat (first | (refine sn ?_) | (refine stx ?_) | (refine sb ?_))); refine zh_took (by rfl) ?_
          refine zh_take 10 (by kernel_rfl) rfl (by kernel_rfl) (by kernel_rfl) ?_ (by simp)
          refine zx_idxA (sz := pre.length * 3) tab_ok rfl rfl rfl rfl rfl rfl (by omega) (by rw [List.length_append, List.length_cons]; omega) (by simp) ?_
          refine zh_took (by rfl) ?_
          refine zh_take 11 (by kernel_rfl) rfl (by kernel_rfl) (by kernel_rfl) ?_ (by simp); (repeat (first | (refine sn ?_) | (refine stx ?_) | (refine sb ?_))); refine zh_took (by rfl) ?_
          refine zh_one 12 rfl (by kernel_rfl) ?_
          refine zx_load tab_ok 1 rfl rfl rfl rfl rfl (ent_at (j := 2) he hc0) rfl ?_
          refine zh_oned (by rfl) (by simp) ?_
          refine zh_one 13 rfl (by kernel_rfl) ?_
          refine zx_sliceW tab_ok 1 (ws.length + 1) (ws.length + 1 + r2) rfl rfl rfl rfl rfl rfl rfl (fun h => by cases h) rfl rfl rfl rfl (by omega) (by omega) (Nat.le_refl _) ?_
          refine zx_re 46 (.slice (oA od) ws.length (oC od ws.length)) rfl (by rw [hod]; exact sV_drop her 1 (by simp)) ?_
          refine zh_oned (by rfl) (by simp) ?_
          refine zh_take 14 (by kernel_rfl) rfl (by kernel_rfl) (by kernel_rfl) ?_ (by simp)
          refine zx_idxA (sz := pre.length * 3) tab_ok rfl rfl rfl rfl rfl rfl (by omega) (by rw [List.length_append, List.length_cons]; omega) (by simp) ?_
          refine zh_took (by rfl) ?_
          refine zh_take 15 (by kernel_rfl) rfl (by kernel_rfl) (by kernel_rfl) ?_ (by simp); (repeat (first | (refine sn ?_) | (refine stx ?_) | (refine sb ?_))); refine zh_took (by rfl) ?_
          refine zh_one 16 rfl (by kernel_rfl) ?_
          refine zx_storeG tab_ok 1 rfl rfl rfl rfl rfl rfl rfl rfl (by have := entC_len (pre ++ e :: post); simp only [List.length_append, List.length_cons, List.length_nil] at this ⊢; omega) ?_
          refine zh_oned (by rfl) (by simp) ?_
          refine zh_end (by rfl) (by kernel_rfl) ?_
          repeat (first | (refine st ?_) | (refine stx ?_) | (intro _))
          refine z_ret2 tab_ok Try.func115 hb hk Try.results115 (.tmp rfl) (.tmp rfl) (fun w hm => ?_)
          have hm2 : Mem _ _ ((p, .c [.slice (some ⟨b1, p0.length, none⟩) (pre ++ e :: post).length ((pre ++ e :: post).length + r)] 115 0 0) :: (b1, .c (over (p0 ++ entC (pre ++ e :: post) ++ rest) (p0.length + pre.length * 3 + 2) [.slice (oA od) ws.length (oC od ws.length)]) 121 0 0) :: (b2, .c (q0 ++ strC (s0 :: ws) ++ rest2) 9 0 0) :: (rowsE pre ++ rowsE post)) w := hm
          have hod2 : RowOk 1 od ws.length (strC ws) := by rw [hod]; exact rowOk_drop her 1 (by simp)
          have hrd : rowL 9 od (strC ws) = [(b2, .c (q0 ++ strC (s0 :: ws) ++ rest2) 9 0 0)] := by rw [hod]; exact rowL_drop 9 (some (b2, q0, r2, rest2)) (strC (s0 :: ws)) 1 (by simp [strC])
          have hset := ent_set (p0 := p0) (rest := rest) (pre := pre) (post := post) (e := e) (e' := ⟨e.n, e.d, od, ws⟩) (v := .slice (oA od) ws.length (oC od ws.length)) rfl rfl (sV_of hod2)
          rw [hset] at hm2
          have hl2 : (pre ++ (⟨e.n, e.d, od, ws⟩ : Ent) :: post).length = (pre ++ e :: post).length := by rw [List.length_append, List.length_append, List.length_cons, List.length_cons]
          refine ⟨⟨p, some (b1, p0, r, rest), pre ++ (⟨e.n, e.d, od, ws⟩ : Ent) :: post⟩, StR.turn (e' := ⟨e.n, e.d, od, ws⟩) hy rfl ⟨entC_len _, (fun h => by cases h), hrow.rest⟩ hod2 ⟨by show ws.length ≤ e.d; omega, hec.2⟩, rfl, ?_⟩
          refine hm2.perm ?_
          have hp := ((rowsE_at pre (⟨e.n, e.d, od, ws⟩ : Ent) post).symm.cons (b1, .c (p0 ++ entC (pre ++ (⟨e.n, e.d, od, ws⟩ : Ent) :: post) ++ rest) 121 0 0)).cons (p, .c [.slice (some ⟨b1, p0.length, none⟩) (pre ++ (⟨e.n, e.d, od, ws⟩ : Ent) :: post).length ((pre ++ (⟨e.n, e.d, od, ws⟩ : Ent) :: post).length + r)] 115 0 0)
          rw [show (⟨e.n, e.d, od, ws⟩ : Ent).row = [(b2, .c (q0 ++ strC (s0 :: ws) ++ rest2) 9 0 0)] from hrd] at hp
          rw [hl2] at hp
          show ((p, .c [.slice (some ⟨b1, p0.length, none⟩) (pre ++ (⟨e.n, e.d, od, ws⟩ : Ent) :: post).length ((pre ++ (⟨e.n, e.d, od, ws⟩ : Ent) :: post).length + r)] 115 0 0) :: (b1, .c (p0 ++ entC (pre ++ (⟨e.n, e.d, od, ws⟩ : Ent) :: post) ++ rest) 121 0 0) :: rowsE (pre ++ (⟨e.n, e.d, od, ws⟩ : Ent) :: post) : Mm).Perm _
          rw [hl2]
          exact hp
end Go.Proofs.Ytabcaiecoiejkaa
namespace Go.Proofs.Ytabcaiecoiejkaa
open Go K


/-- the first of some strings that came in, as what is appended -/
theorem srcStr {w w' : World} {ks : List Nat} {L : Mm} {ia : Option Addr} {l : List ByteArray} (hm : Mem w ks L w') (hs : StrsAt w ks ia l) {icap : Nat} (hc : l.length ≤ icap) (m : Nat) (hml : m ≤ l.length) (k : Nat) :
    Src Try.prog 1 117 (.slice (if icap = 0 then ia else ia.map (·.add (0 * 1))) (m - 0) k) m (strC (l.take m)) w' := by
  obtain ⟨bi, ioff, h1, h2, h3⟩ := hs
  have hlen : (strC (l.take m)).length = m * 1 := by rw [strC, List.length_map, List.length_take]; omega
  rcases h1 with rfl | ⟨rfl, hb⟩
  · obtain rfl : m = 0 := Nat.le_zero.1 hml
    cases ia with
    | none =>
      show Src Try.prog 1 117 (.slice (if _ = _ then none else none) 0 k) 0 [] w'
      rw [ite_self]
      exact Src.ofNil w' Try.underlying117 k
    | some a =>
      have key : ∀ a : Addr, Src Try.prog 1 117 (.slice (some a) 0 k) 0 [] w' := fun a => Src.ofSlice w' Try.underlying117 a 0 k [] rfl (fun j u hu => by cases hu) (fun u hu => by cases hu)
      show Src Try.prog 1 117 (.slice (if _ = _ then some _ else some _) 0 k) 0 [] w'
      split
      · exact key _
      · exact key _
  · have e0 : (⟨bi, ioff, none⟩ : Addr).add (0 * 1) = ⟨bi, ioff, none⟩ := by rw [addr_add]; congr 1
    have e1 : (if icap = 0 then some (⟨bi, ioff, none⟩ : Addr) else (some (⟨bi, ioff, none⟩ : Addr)).map (·.add (0 * 1))) = some ⟨bi, ioff, none⟩ := by
      show (if icap = 0 then some (⟨bi, ioff, none⟩ : Addr) else some ((⟨bi, ioff, none⟩ : Addr).add (0 * 1))) = _
      rw [e0]
      exact ite_self _
    rw [e1]
    refine Src.ofSlice w' Try.underlying117 _ m k _ hlen (fun j u hu => ?_) (fun u hu => ?_)
    · rw [addr_add]
      rw [strC, List.getElem?_map, List.getElem?_take] at hu
      split at hu
      · obtain ⟨x, hx, rfl⟩ := Option.map_eq_some_iff.1 hu
        exact hm.cellB (h3 j x hx) hb
      · cases hu
    · obtain ⟨x, _, rfl⟩ := List.mem_map.1 hu
      rfl
theorem rowsE_end (pre : List Ent) (e : Ent) (post : List Ent) : (rowsE (pre ++ e :: post)).Perm ((rowsE pre ++ rowsE post) ++ e.row) := (rowsE_at pre e post).symm.trans List.perm_append_comm
theorem OfferR (y : Rq) (n : Int) (ia : Option Addr) (l : List ByteArray) (icap : Nat) (hc : l.length ≤ icap) (hy : WR y) (w : World) (hw : Mem w ((mR y).map (·.1)) (mR y) w) (hl : StrsAt w ((mR y).map (·.1)) ia l) :
    Calls Try.prog 114 [ptr y.p, .int .i64 n, .slice ia l.length icap].toArray w fun e w' => ∃ y' : Rq, StR y y' n (nOffer (look y.es n) l) ∧ e = .returned (.tuple #[.int .i64 (rOffer (look y.es n) l).1, .int .i64 (rOffer (look y.es n) l).2]) ∧ Mem w ((mR y).map (·.1)) (mR y') w' := by
  obtain ⟨p, o, es⟩ := y
  have hrow : RowOk 3 o es.length (entC es) := hy.row
  have hlen : es.length ≤ 16 := hy.len
  show Calls Try.prog 114 [ptr p, .int .i64 n, .slice ia l.length icap].toArray w fun e w' => ∃ y' : Rq, StR ⟨p, o, es⟩ y' n (nOffer (look es n) l) ∧ e = .returned (.tuple #[.int .i64 (rOffer (look es n) l).1, .int .i64 (rOffer (look es n) l).2]) ∧ Mem w ((mR ⟨p, o, es⟩).map (·.1)) (mR y') w'
  cases hv : look es n with
  | none =>
    have h2 : StR ⟨p, o, es⟩ ⟨p, o, es⟩ n none := by have := StR.same (n := n) hy; rw [show look (Rq.mk p o es).es n = none from hv] at this; exact this
    have hw1 : Mem w ((mR ⟨p, o, es⟩).map (·.1)) (hdF p o es.length :: (rowL 121 o (entC es) ++ rowsE es)) w := by rw [← mR_A hrow]; exact hw
    refine calls_of_z Try.func114 rfl Try.ntmps114 rfl hw1 ?_; intro cs b hb hk
    repeat (first | (refine st ?_) | (refine stx ?_) | (intro _))
    ((try (refine sg ?_)); (refine zx_call0 rfl fnc65 rfl rfl (fun w hm => at3q hm (List.Perm.refl _) (FindMiss hy hv)) ?_))
    repeat (first | (refine st ?_) | (refine stx ?_) | (refine sb ?_) | (intro _))
    refine z_ret2 tab_ok Try.func114 hb hk Try.results114 (.tmp rfl) (.tmp rfl) (fun w hm => ?_)
    exact ⟨⟨p, o, es⟩, h2, rfl, by rw [mR_A hrow]; rw [mR_A hrow] at hm; exact hm⟩
  | some v =>
    obtain ⟨pre, e, post, rfl, rfl, hne, rfl⟩ := look_some hv
    have hlx : pre.length + (post.length + 1) ≤ 16 := by rw [List.length_append, List.length_cons] at hlen; exact hlen
    have he : (pre ++ e :: post)[pre.length]? = some e := by simp
    have her : RowOk 1 e.o e.ws.length (strC e.ws) := hy.rows e (List.mem_append_right _ (List.mem_cons_self ..))
    have hec := hy.caps e (List.mem_append_right _ (List.mem_cons_self ..))
    have hfind := FindHit hy
    have hl2 := hl
    obtain ⟨_, _, _, hll, _⟩ := hl2
    cases o with
    | none =>
      have h0 := hrow.nil rfl
      simp at h0
    | some q =>
      obtain ⟨b1, p0, r, rest⟩ := q
      have hw1 : Mem w ((mR ⟨p, some (b1, p0, r, rest), pre ++ e :: post⟩).map (·.1)) ((p, .c [.slice (some ⟨b1, p0.length, none⟩) (pre ++ e :: post).length ((pre ++ e :: post).length + r)] 115 0 0) :: (b1, .c (p0 ++ entC (pre ++ e :: post) ++ rest) 121 0 0) :: ((rowsE pre ++ rowsE post) ++ e.row)) w := hw.perm (((rowsE_end pre e post).symm.cons _).cons _)
      have hc0 : e.cells[2]? = some (.slice (oA e.o) e.ws.length (oC e.o e.ws.length)) := congrArg some (sV_of her)
      obtain ⟨M, hM⟩ : ∃ M, M = min (e.d - e.ws.length) l.length := ⟨_, rfl⟩
      generalize hks : (mR ⟨p, some (b1, p0, r, rest), pre ++ e :: post⟩).map (·.1) = ks at hw1 hl hw
      refine calls_of_z Try.func114 rfl Try.ntmps114 rfl hw1 ?_; intro cs b hb hk
      repeat (first | (refine st ?_) | (refine stx ?_) | (intro _))
      ((try (refine sg ?_)); (refine zx_call0 rfl fnc65 rfl rfl (fun w hm => at3q hm (List.Perm.refl _) hfind) ?_))
      repeat (first | (refine st ?_) | (refine stx ?_) | (refine sb ?_) | (intro _))
      refine zx_idxA (sz := pre.length * 3) tab_ok rfl rfl rfl rfl rfl rfl (by omega) (by rw [List.length_append, List.length_cons]; omega) (by simp) ?_
      repeat (first | (refine st ?_) | (refine stx ?_) | (intro _))
      refine zx_load tab_ok 1 rfl rfl rfl rfl rfl (ent_at (j := 1) he rfl) rfl ?_
      repeat (first | (refine st ?_) | (refine stx ?_) | (intro _))
      refine zx_idxA (sz := pre.length * 3) tab_ok rfl rfl rfl rfl rfl rfl (by omega) (by rw [List.length_append, List.length_cons]; omega) (by simp) ?_
      repeat (first | (refine st ?_) | (refine stx ?_) | (intro _))
      refine zx_load tab_ok 1 rfl rfl rfl rfl rfl (ent_at (j := 2) he hc0) rfl ?_
      repeat (first | (refine st ?_) | (refine stx ?_) | (intro _))
      by_cases hroom : l.length < e.d - e.ws.length
      · refine z_re 36 (.bool true) rfl (congrArg _ (decide_eq_true (by rw [wrW (by omega) (by omega)]; omega))) ?_
        repeat (first | (refine sn ?_) | (refine stx ?_) | (intro _))
        refine z_re 9 (.int .i64 (M : Int)) rfl (congrArg _ (by omega)) ?_
        clear hroom
        refine z_regionH [(p, .c [.slice (some ⟨b1, p0.length, none⟩) (pre ++ e :: post).length ((pre ++ e :: post).length + r)] 115 0 0)] (by rfl) follows_mixed (List.sublist_append_left [_] _) (m := 20) rfl ?_
        refine zh_take 0 (by kernel_rfl) rfl (by kernel_rfl) (by kernel_rfl) ?_ (by simp); (repeat (first | (refine sn ?_) | (refine stx ?_) | (refine sb ?_))); refine zh_took (by rfl) ?_
        refine zh_take 1 (by kernel_rfl) rfl (by kernel_rfl) (by kernel_rfl) ?_ (by simp); (repeat (first | (refine sn ?_) | (refine stx ?_) | (refine sb ?_))); refine zh_took (by rfl) ?_
        refine zh_take 2 (by kernel_rfl) rfl (by kernel_rfl) (by kernel_rfl) ?_ (by simp); (repeat (first | (refine sn ?_) | (refine stx ?_) | (refine sb ?_))); refine zh_took (by rfl) ?_
        refine zh_take 3 (by kernel_rfl) rfl (by kernel_rfl) (by kernel_rfl) ?_ (by simp); (repeat (first | (refine sn ?_) | (refine stx ?_) | (refine sb ?_))); refine zh_took (by rfl) ?_
        refine zh_take 4 (by kernel_rfl) rfl (by kernel_rfl) (by kernel_rfl) ?_ (by simp); (repeat (first | (refine sn ?_) | (refine stx ?_) | (refine sb ?_))); refine zh_took (by rfl) ?_
        refine zh_take 5 (by kernel_rfl) rfl (by kernel_rfl) (by kernel_rfl) ?_ (by simp); (repeat (first | (refine sn ?_) | (refine stx ?_) | (refine sb ?_))); refine zh_took (by rfl) ?_
        refine zh_take 6 (by kernel_rfl) rfl (by kernel_rfl) (by kernel_rfl) ?_ (by simp); (repeat (first | (refine sn ?_) | (refine stx ?_) | (refine sb ?_))); refine zh_took (by rfl) ?_
        refine zh_take 7 (by kernel_rfl) rfl (by kernel_rfl) (by kernel_rfl) ?_ (by simp); (repeat (first | (refine sn ?_) | (refine stx ?_) | (refine sb ?_))); refine zh_took (by rfl) ?_
        refine zh_take 8 (by kernel_rfl) rfl (by kernel_rfl) (by kernel_rfl) ?_ (by simp); (repeat (first | (refine sn ?_) | (refine stx ?_) | (refine sb ?_))); refine zh_took (by rfl) ?_
        refine zh_take 9 (by kernel_rfl) rfl (by kernel_rfl) (by kernel_rfl) ?_ (by simp); (repeat (first | (refine sn ?_) | (refine stx ?_) | (refine sb ?_))); refine zh_took (by rfl) ?_
        refine zh_take 10 (by kernel_rfl) rfl (by kernel_rfl) (by kernel_rfl) ?_ (by simp)
        refine zx_idxA (sz := pre.length * 3) tab_ok rfl rfl rfl rfl rfl rfl (by omega) (by rw [List.length_append, List.length_cons]; omega) (by simp) ?_
        refine zh_took (by rfl) ?_
        refine zh_take 11 (by kernel_rfl) rfl (by kernel_rfl) (by kernel_rfl) ?_ (by simp); (repeat (first | (refine sn ?_) | (refine stx ?_) | (refine sb ?_))); refine zh_took (by rfl) ?_
        refine zh_take 13 (by kernel_rfl) rfl (by kernel_rfl) (by kernel_rfl) ?_ (by simp); (repeat (first | (refine sn ?_) | (refine stx ?_) | (refine sb ?_))); refine zh_took (by rfl) ?_
        refine zh_take 14 (by kernel_rfl) rfl (by kernel_rfl) (by kernel_rfl) ?_ (by simp); (repeat (first | (refine sn ?_) | (refine stx ?_) | (refine sb ?_))); refine zh_took (by rfl) ?_
        refine zh_take 15 (by kernel_rfl) rfl (by kernel_rfl) (by kernel_rfl) ?_ (by simp)
        refine zx_sliceW tab_ok 0 M icap rfl rfl rfl rfl rfl rfl rfl (fun h => by cases h) rfl rfl rfl rfl (Nat.zero_le _) (by omega) (Nat.le_refl _) ?_
        refine zh_took (by rfl) ?_
        refine zh_one 12 rfl (by kernel_rfl) ?_
        refine zx_load tab_ok 1 rfl rfl rfl rfl rfl (ent_at (j := 2) he rfl) rfl ?_
        refine zh_oned (by rfl) (by simp) ?_
        refine zh_one 16 rfl (by kernel_rfl) ?_
        refine zx_append elt9 tab_ok ((p, .c [.slice (some ⟨b1, p0.length, none⟩) (pre ++ e :: post).length ((pre ++ e :: post).length + r)] 115 0 0) :: (b1, .c (p0 ++ entC (pre ++ e :: post) ++ rest) 121 0 0) :: (rowsE pre ++ rowsE post)) e.o e.ws.length (strC e.ws) (m := M) (news := strC (l.take M)) rfl rfl rfl rfl rfl rfl her (fun w hm => srcStr hm hl hc M (by omega) _) (by omega) (by omega) (fun o2 ho2 => ?_)
        refine zx_re 55 (.slice (oA o2) (e.ws.length + M) (oC o2 (e.ws.length + M))) rfl (sV_of ho2) ?_
        refine zh_oned (by rfl) (by simp) ?_
        refine zh_take 17 (by kernel_rfl) rfl (by kernel_rfl) (by kernel_rfl) ?_ (by simp)
        refine zx_idxA (sz := pre.length * 3) tab_ok rfl rfl rfl rfl rfl rfl (by omega) (by rw [List.length_append, List.length_cons]; omega) (by simp) ?_
        refine zh_took (by rfl) ?_
        refine zh_take 18 (by kernel_rfl) rfl (by kernel_rfl) (by kernel_rfl) ?_ (by simp); (repeat (first | (refine sn ?_) | (refine stx ?_) | (refine sb ?_))); refine zh_took (by rfl) ?_
        refine zh_one 19 rfl (by kernel_rfl) ?_
        refine zx_storeG tab_ok 1 rfl rfl rfl rfl rfl rfl rfl rfl (by have := entC_len (pre ++ e :: post); simp only [List.length_append, List.length_cons, List.length_nil] at this ⊢; omega) ?_
        refine zh_oned (by rfl) (by simp) ?_
        refine zh_end (by rfl) (by kernel_rfl) ?_
        repeat (first | (refine st ?_) | (refine stx ?_) | (intro _))
        refine z_ret2 tab_ok Try.func114 hb hk Try.results114 (.tmp rfl) (.tmp rfl) (fun w hm => ?_)
        have hm2 : Mem _ _ ((p, .c [.slice (some ⟨b1, p0.length, none⟩) (pre ++ e :: post).length ((pre ++ e :: post).length + r)] 115 0 0) :: (b1, .c (over (p0 ++ entC (pre ++ e :: post) ++ rest) (p0.length + pre.length * 3 + 2) [.slice (oA o2) (e.ws.length + M) (oC o2 (e.ws.length + M))]) 121 0 0) :: ((rowsE pre ++ rowsE post) ++ rowL 9 o2 (strC e.ws ++ strC (l.take M)))) w := hm
        have hws2 : (e.ws ++ l.take M).length = e.ws.length + M := by rw [List.length_append, List.length_take]; omega
        have hst : strC (e.ws ++ l.take M) = strC e.ws ++ strC (l.take M) := List.map_append
        have hod2 : RowOk 1 o2 (e.ws ++ l.take M).length (strC (e.ws ++ l.take M)) := by rw [hws2, hst]; exact ho2
        have hset := ent_set (p0 := p0) (rest := rest) (pre := pre) (post := post) (e := e) (e' := ⟨e.n, e.d, o2, e.ws ++ l.take M⟩) (v := .slice (oA o2) (e.ws.length + M) (oC o2 (e.ws.length + M))) rfl rfl (by rw [← hws2]; exact sV_of hod2)
        rw [hset, ← hst] at hm2
        have hl2 : (pre ++ (⟨e.n, e.d, o2, e.ws ++ l.take M⟩ : Ent) :: post).length = (pre ++ e :: post).length := by rw [List.length_append, List.length_append, List.length_cons, List.length_cons]
        refine ⟨⟨p, some (b1, p0, r, rest), pre ++ (⟨e.n, e.d, o2, e.ws ++ l.take M⟩ : Ent) :: post⟩, ?_, ?_, ?_⟩
        · have := StR.turn (e' := ⟨e.n, e.d, o2, e.ws ++ l.take M⟩) hy rfl ⟨entC_len _, (fun h => by cases h), hrow.rest⟩ hod2 ⟨by show (e.ws ++ l.take M).length ≤ e.d; rw [hws2]; omega, hec.2⟩
          rw [show nOffer (some (e.d, e.ws)) l = some (e.d, e.ws ++ l.take M) by rw [hM]; rfl]
          exact this
        · show Ending.returned (.tuple #[.int .i64 (M : Int), .int .i64 0]) = .returned (.tuple #[.int .i64 ((min (e.d - e.ws.length) l.length : Nat) : Int), .int .i64 0])
          rw [hM]
        · refine hm2.perm ?_
          have hp := ((rowsE_end pre (⟨e.n, e.d, o2, e.ws ++ l.take M⟩ : Ent) post).cons (b1, Blk.c (p0 ++ entC (pre ++ (⟨e.n, e.d, o2, e.ws ++ l.take M⟩ : Ent) :: post) ++ rest) 121 0 0)).cons (p, Blk.c [.slice (some ⟨b1, p0.length, none⟩) (pre ++ e :: post).length ((pre ++ e :: post).length + r)] 115 0 0)
          show ((p, .c [.slice (some ⟨b1, p0.length, none⟩) (pre ++ (⟨e.n, e.d, o2, e.ws ++ l.take M⟩ : Ent) :: post).length ((pre ++ (⟨e.n, e.d, o2, e.ws ++ l.take M⟩ : Ent) :: post).length + r)] 115 0 0) :: (b1, .c (p0 ++ entC (pre ++ (⟨e.n, e.d, o2, e.ws ++ l.take M⟩ : Ent) :: post) ++ rest) 121 0 0) :: rowsE (pre ++ (⟨e.n, e.d, o2, e.ws ++ l.take M⟩ : Ent) :: post) : Mm).Perm _
          rw [hl2]
          exact hp
      · refine z_re 36 (.bool false) rfl (congrArg _ (decide_eq_false (by rw [wrW (by omega) (by omega)]; omega))) ?_
        repeat (first | (refine sn ?_) | (refine stx ?_) | (intro _))
        refine z_re 9 (.int .i64 (M : Int)) rfl (congrArg _ (by rw [wrW (by omega) (by omega)]; omega)) ?_
        clear hroom
        refine z_regionH [(p, .c [.slice (some ⟨b1, p0.length, none⟩) (pre ++ e :: post).length ((pre ++ e :: post).length + r)] 115 0 0)] (by rfl) follows_mixed (List.sublist_append_left [_] _) (m := 20) rfl ?_
        refine zh_take 0 (by kernel_rfl) rfl (by kernel_rfl) (by kernel_rfl) ?_ (by simp); (repeat (first | (refine sn ?_) | (refine stx ?_) | (refine sb ?_))); refine zh_took (by rfl) ?_
        refine zh_take 1 (by kernel_rfl) rfl (by kernel_rfl) (by kernel_rfl) ?_ (by simp); (repeat (first | (refine sn ?_) | (refine stx ?_) | (refine sb ?_))); refine zh_took (by rfl) ?_
        refine zh_take 2 (by kernel_rfl) rfl (by kernel_rfl) (by kernel_rfl) ?_ (by simp); (repeat (first | (refine sn ?_) | (refine stx ?_) | (refine sb ?_))); refine zh_took (by rfl) ?_
        refine zh_take 3 (by kernel_rfl) rfl (by kernel_rfl) (by kernel_rfl) ?_ (by simp); (repeat (first | (refine sn ?_) | (refine stx ?_) | (refine sb ?_))); refine zh_took (by rfl) ?_
        refine zh_take 4 (by kernel_rfl) rfl (by kernel_rfl) (by kernel_rfl) ?_ (by simp); (repeat (first | (refine sn ?_) | (refine stx ?_) | (refine sb ?_))); refine zh_took (by rfl) ?_
        refine zh_take 5 (by kernel_rfl) rfl (by kernel_rfl) (by kernel_rfl) ?_ (by simp); (repeat (first | (refine sn ?_) | (refine stx ?_) | (refine sb ?_))); refine zh_took (by rfl) ?_
        refine zh_take 6 (by kernel_rfl) rfl (by kernel_rfl) (by kernel_rfl) ?_ (by simp); (repeat (first | (refine sn ?_) | (refine stx ?_) | (refine sb ?_))); refine zh_took (by rfl) ?_
        refine zh_take 7 (by kernel_rfl) rfl (by kernel_rfl) (by kernel_rfl) ?_ (by simp); (repeat (first | (refine sn ?_) | (refine stx ?_) | (refine sb ?_))); refine zh_took (by rfl) ?_
        refine zh_take 8 (by kernel_rfl) rfl (by kernel_rfl) (by kernel_rfl) ?_ (by simp); (repeat (first | (refine sn ?_) | (refine stx ?_) | (refine sb ?_))); refine zh_took (by rfl) ?_
        refine zh_take 9 (by kernel_rfl) rfl (by kernel_rfl) (by kernel_rfl) ?_ (by simp); (repeat (first | (refine sn ?_) | (refine stx ?_) | (refine sb ?_))); refine zh_took (by rfl) ?_
        refine zh_take 10 (by kernel_rfl) rfl (by kernel_rfl) (by kernel_rfl) ?_ (by simp)
        refine zx_idxA (sz := pre.length * 3) tab_ok rfl rfl rfl rfl rfl rfl (by omega) (by rw [List.length_append, List.length_cons]; omega) (by simp) ?_
        refine zh_took (by rfl) ?_
        refine zh_take 11 (by kernel_rfl) rfl (by kernel_rfl) (by kernel_rfl) ?_ (by simp); (repeat (first | (refine sn ?_) | (refine stx ?_) | (refine sb ?_))); refine zh_took (by rfl) ?_
        refine zh_take 13 (by kernel_rfl) rfl (by kernel_rfl) (by kernel_rfl) ?_ (by simp); (repeat (first | (refine sn ?_) | (refine stx ?_) | (refine sb ?_))); refine zh_took (by rfl) ?_
        refine zh_take 14 (by kernel_rfl) rfl (by kernel_rfl) (by kernel_rfl) ?_ (by simp); (repeat (first | (refine sn ?_) | (refine stx ?_) | (refine sb ?_))); refine zh_took (by rfl) ?_
        refine zh_take 15 (by kernel_rfl) rfl (by kernel_rfl) (by kernel_rfl) ?_ (by simp)
        refine zx_sliceW tab_ok 0 M icap rfl rfl rfl rfl rfl rfl rfl (fun h => by cases h) rfl rfl rfl rfl (Nat.zero_le _) (by omega) (Nat.le_refl _) ?_
        refine zh_took (by rfl) ?_
        refine zh_one 12 rfl (by kernel_rfl) ?_
        refine zx_load tab_ok 1 rfl rfl rfl rfl rfl (ent_at (j := 2) he rfl) rfl ?_
        refine zh_oned (by rfl) (by simp) ?_
        refine zh_one 16 rfl (by kernel_rfl) ?_
        refine zx_append elt9 tab_ok ((p, .c [.slice (some ⟨b1, p0.length, none⟩) (pre ++ e :: post).length ((pre ++ e :: post).length + r)] 115 0 0) :: (b1, .c (p0 ++ entC (pre ++ e :: post) ++ rest) 121 0 0) :: (rowsE pre ++ rowsE post)) e.o e.ws.length (strC e.ws) (m := M) (news := strC (l.take M)) rfl rfl rfl rfl rfl rfl her (fun w hm => srcStr hm hl hc M (by omega) _) (by omega) (by omega) (fun o2 ho2 => ?_)
        refine zx_re 55 (.slice (oA o2) (e.ws.length + M) (oC o2 (e.ws.length + M))) rfl (sV_of ho2) ?_
        refine zh_oned (by rfl) (by simp) ?_
        refine zh_take 17 (by kernel_rfl) rfl (by kernel_rfl) (by kernel_rfl) ?_ (by simp)
        refine zx_idxA (sz := pre.length * 3) tab_ok rfl rfl rfl rfl rfl rfl (by omega) (by rw [List.length_append, List.length_cons]; omega) (by simp) ?_
        refine zh_took (by rfl) ?_
        refine zh_take 18 (by kernel_rfl) rfl (by kernel_rfl) (by kernel_rfl) ?_ (by simp); (repeat (first | (refine sn ?_) | (refine stx ?_) | (refine sb ?_))); refine zh_took (by rfl) ?_
        refine zh_one 19 rfl (by kernel_rfl) ?_
        refine zx_storeG tab_ok 1 rfl rfl rfl rfl rfl rfl rfl rfl (by have := entC_len (pre ++ e :: post); simp only [List.length_append, List.length_cons, List.length_nil] at this ⊢; omega) ?_
        refine zh_oned (by rfl) (by simp) ?_
        refine zh_end (by rfl) (by kernel_rfl) ?_
        repeat (first | (refine st ?_) | (refine stx ?_) | (intro _))
        refine z_ret2 tab_ok Try.func114 hb hk Try.results114 (.tmp rfl) (.tmp rfl) (fun w hm => ?_)
        have hm2 : Mem _ _ ((p, .c [.slice (some ⟨b1, p0.length, none⟩) (pre ++ e :: post).length ((pre ++ e :: post).length + r)] 115 0 0) :: (b1, .c (over (p0 ++ entC (pre ++ e :: post) ++ rest) (p0.length + pre.length * 3 + 2) [.slice (oA o2) (e.ws.length + M) (oC o2 (e.ws.length + M))]) 121 0 0) :: ((rowsE pre ++ rowsE post) ++ rowL 9 o2 (strC e.ws ++ strC (l.take M)))) w := hm
        have hws2 : (e.ws ++ l.take M).length = e.ws.length + M := by rw [List.length_append, List.length_take]; omega
        have hst : strC (e.ws ++ l.take M) = strC e.ws ++ strC (l.take M) := List.map_append
        have hod2 : RowOk 1 o2 (e.ws ++ l.take M).length (strC (e.ws ++ l.take M)) := by rw [hws2, hst]; exact ho2
        have hset := ent_set (p0 := p0) (rest := rest) (pre := pre) (post := post) (e := e) (e' := ⟨e.n, e.d, o2, e.ws ++ l.take M⟩) (v := .slice (oA o2) (e.ws.length + M) (oC o2 (e.ws.length + M))) rfl rfl (by rw [← hws2]; exact sV_of hod2)
        rw [hset, ← hst] at hm2
        have hl2 : (pre ++ (⟨e.n, e.d, o2, e.ws ++ l.take M⟩ : Ent) :: post).length = (pre ++ e :: post).length := by rw [List.length_append, List.length_append, List.length_cons, List.length_cons]
        refine ⟨⟨p, some (b1, p0, r, rest), pre ++ (⟨e.n, e.d, o2, e.ws ++ l.take M⟩ : Ent) :: post⟩, ?_, ?_, ?_⟩
        · have := StR.turn (e' := ⟨e.n, e.d, o2, e.ws ++ l.take M⟩) hy rfl ⟨entC_len _, (fun h => by cases h), hrow.rest⟩ hod2 ⟨by show (e.ws ++ l.take M).length ≤ e.d; rw [hws2]; omega, hec.2⟩
          rw [show nOffer (some (e.d, e.ws)) l = some (e.d, e.ws ++ l.take M) by rw [hM]; rfl]
          exact this
        · show Ending.returned (.tuple #[.int .i64 (M : Int), .int .i64 0]) = .returned (.tuple #[.int .i64 ((min (e.d - e.ws.length) l.length : Nat) : Int), .int .i64 0])
          rw [hM]
        · refine hm2.perm ?_
          have hp := ((rowsE_end pre (⟨e.n, e.d, o2, e.ws ++ l.take M⟩ : Ent) post).cons (b1, Blk.c (p0 ++ entC (pre ++ (⟨e.n, e.d, o2, e.ws ++ l.take M⟩ : Ent) :: post) ++ rest) 121 0 0)).cons (p, Blk.c [.slice (some ⟨b1, p0.length, none⟩) (pre ++ e :: post).length ((pre ++ e :: post).length + r)] 115 0 0)
          show ((p, .c [.slice (some ⟨b1, p0.length, none⟩) (pre ++ (⟨e.n, e.d, o2, e.ws ++ l.take M⟩ : Ent) :: post).length ((pre ++ (⟨e.n, e.d, o2, e.ws ++ l.take M⟩ : Ent) :: post).length + r)] 115 0 0) :: (b1, .c (p0 ++ entC (pre ++ (⟨e.n, e.d, o2, e.ws ++ l.take M⟩ : Ent) :: post) ++ rest) 121 0 0) :: rowsE (pre ++ (⟨e.n, e.d, o2, e.ws ++ l.take M⟩ : Ent) :: post) : Mm).Perm _
          rw [hl2]
          exact hp
end Go.Proofs.Ytabcaiecoiejkaa
