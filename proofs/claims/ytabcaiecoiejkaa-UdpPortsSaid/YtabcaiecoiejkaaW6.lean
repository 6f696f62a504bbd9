/- Walks of the reference's ports: Open. The reference's Open, told by what stands at each port; what a call of both may change. Walk of does: a call of both answers the same, and both tell the same behind it. Walk of the law UdpPorts: it answers true. -/
import Derived.Test.YtabcaiecoiejkaaW5
set_option maxRecDepth 100000
set_option linter.unusedSimpArgs false
set_option linter.unusedVariables false
set_option maxHeartbeats 4000000
namespace Go.Proofs.Ytabcaiecoiejkaa
open Go K

theorem z_joinP {c : Cx} {n : Nat} {F : Fr} {w0 : World} {ks : List Nat} {L : Mm} {D : List Deferred} {k : List Item} {i1 i2 : Item} {G : Type} (Φ : G → Prop) (F' : G → Fr) (L' : G → Mm) (h1 : ∀ g, Φ g → Z c n (F' g) w0 ks (L' g) D k) (h2 : ∀ k', (∀ g, Φ g → Z c n (F' g) w0 ks (L' g) D k') → Z c n F w0 ks L D (i1 :: i2 :: k')) : Z c n F w0 ks L D (i1 :: i2 :: k) := h2 k h1
theorem aboveE_le {es : List Ent} {t : Int} : (es.filter fun c => decide (t ≤ c.n)).length ≤ es.length := List.length_filter_le ..
theorem aboveE_lt : ∀ {es : List Ent} {e : Ent}, e ∈ es → (es.filter fun x => decide (e.n + 1 ≤ x.n)).length + 1 ≤ (es.filter fun x => decide (e.n ≤ x.n)).length
  | x :: es, e, h => by
    have hmono : (es.filter fun x => decide (e.n + 1 ≤ x.n)).length ≤ (es.filter fun x => decide (e.n ≤ x.n)).length := by
      clear h
      induction es with
      | nil => exact Nat.le_refl _
      | cons y es ih =>
        rw [List.filter_cons, List.filter_cons]
        by_cases h1 : e.n + 1 ≤ y.n
        · rw [if_pos (decide_eq_true h1), if_pos (decide_eq_true (by omega))]
          exact Nat.succ_le_succ ih
        · rw [if_neg (by rw [decide_eq_true_eq]; exact h1)]
          split
          · exact Nat.le_succ_of_le ih
          · exact ih
    rw [List.filter_cons, List.filter_cons]
    rcases List.mem_cons.1 h with h | h
    · subst h
      rw [if_neg (by rw [decide_eq_true_eq]; omega), if_pos (decide_eq_true (Int.le_refl _))]
      exact Nat.succ_le_succ hmono
    · have ih := aboveE_lt h
      by_cases h1 : e.n + 1 ≤ x.n
      · rw [if_pos (decide_eq_true h1), if_pos (decide_eq_true (by omega))]
        exact Nat.succ_le_succ ih
      · rw [if_neg (by rw [decide_eq_true_eq]; exact h1)]
        split
        · exact Nat.le_succ_of_le ih
        · exact ih
theorem srcNew {w0 w : World} {ks : List Nat} {L : Mm} (h : Mem w0 ks L w) {b : Nat} {x y z : Value} (hL : L[0]? = some (b, .c [x, y, z] 121 0 0)) (h1 : x.oneCell' = true) (h2 : y.oneCell' = true) (h3 : z.oneCell' = true) : Src Try.prog 3 113 (.slice (some ⟨b, 0, none⟩) 1 1) 1 [x, y, z] w :=
  Src.ofSlice w Try.underlying113 ⟨b, 0, none⟩ 1 1 [x, y, z] rfl (fun j u hu => by
    rw [addr_add, h.cell hL, Nat.zero_add]
    exact hu) (fun u hu => by
    simp only [List.mem_cons, List.not_mem_nil, or_false] at hu
    rcases hu with rfl | rfl | rfl
    · exact h1
    · exact h2
    · exact h3)
/-- where a new number belongs -/
def Cut (es : List Ent) (t : Int) (g : List Ent × List Ent) : Prop := es = g.1 ++ g.2 ∧ (∀ x ∈ g.1, x.n < t) ∧ (∀ x ∈ g.2, t < x.n)
theorem Cut.all {es : List Ent} {t : Int} (h : ∀ (j : Nat) (x : Ent), es[j]? = some x → j < es.length → x.n < t) : Cut es t (es, []) :=
  ⟨(List.append_nil _).symm, fun x hx => by
    obtain ⟨j, hj⟩ := List.mem_iff_getElem?.1 hx
    exact h j x hj (List.getElem?_eq_some_iff.1 hj).1, fun x hx => by cases hx⟩
theorem Cut.at {es : List Ent} {t : Int} {i : Nat} {e : Ent} (hs : es.Pairwise fun a b => a.n < b.n) (hv : look es t = none) (he : es[i]? = some e) (h : ∀ (j : Nat) (x : Ent), es[j]? = some x → j < i → x.n < t) (hn : ¬ e.n < t) : Cut es t (es.take i, es.drop i) := by
  refine ⟨(List.take_append_drop i es).symm, fun x hx => ?_, fun x hx => ?_⟩
  · obtain ⟨j, hj⟩ := List.mem_iff_getElem?.1 hx
    rw [List.getElem?_take] at hj
    split at hj
    · exact h j x hj (by assumption)
    · cases hj
  · have hlt := (List.getElem?_eq_some_iff.1 he)
    obtain ⟨hi, hie⟩ := hlt
    have hne := look_none hv e (List.mem_of_getElem? he)
    rw [List.drop_eq_getElem_cons hi, hie] at hx
    rcases List.mem_cons.1 hx with rfl | hx
    · omega
    · have h2 := hs
      rw [← List.take_append_drop i es, List.drop_eq_getElem_cons hi, hie] at h2
      have := (sorted_at h2).2 x hx
      omega
theorem OpenR_bad (y : Rq) (n d : Int) (hb0 : opBad n d) (w : World) (hw : Mem w ((mR y).map (·.1)) (mR y) w) : Calls Try.prog 112 [ptr y.p, .int .i64 n, .int .i64 d].toArray w fun e w' => e = .returned (.tuple #[.int .i64 0, .int .i64 1]) ∧ Mem w ((mR y).map (·.1)) (mR y) w' := by
  refine calls_of_z Try.func112 rfl Try.ntmps112 rfl hw ?_; intro cs b hb hk
  by_cases h1 : n < 0
  · repeat (first | (refine st ?_) | (refine stx ?_) | (refine sb ?_) | (intro _))
    refine z_ret2 tab_ok Try.func112 hb hk Try.results112 (.tmp rfl) (.tmp rfl) (fun w hm => ?_)
    exact ⟨rfl, hm⟩
  by_cases h2 : 65535 < n
  · repeat (first | (refine st ?_) | (refine stx ?_) | (refine sb ?_) | (intro _))
    refine z_ret2 tab_ok Try.func112 hb hk Try.results112 (.tmp rfl) (.tmp rfl) (fun w hm => ?_)
    exact ⟨rfl, hm⟩
  by_cases h3 : d < 1
  · repeat (first | (refine st ?_) | (refine stx ?_) | (refine sb ?_) | (intro _))
    refine z_ret2 tab_ok Try.func112 hb hk Try.results112 (.tmp rfl) (.tmp rfl) (fun w hm => ?_)
    exact ⟨rfl, hm⟩
  · have h16 : 16 < d := by omega
    repeat (first | (refine st ?_) | (refine stx ?_) | (refine sb ?_) | (intro _))
    refine z_ret2 tab_ok Try.func112 hb hk Try.results112 (.tmp rfl) (.tmp rfl) (fun w hm => ?_)
    exact ⟨rfl, hm⟩
theorem OpenR_full (p : Nat) (o : Own) (es : List Ent) (hrow : RowOk 3 o es.length (entC es)) (n : Int) (d : Nat) (hn : 0 ≤ n ∧ n ≤ 65535) (hd : 1 ≤ d ∧ d ≤ 16) (hl : 16 ≤ es.length) (hl2 : es.length ≤ 16) (w : World) (hw : Mem w ((mR ⟨p, o, es⟩).map (·.1)) (mR ⟨p, o, es⟩) w) : Calls Try.prog 112 [ptr p, .int .i64 n, .int .i64 (d : Int)].toArray w fun e w' => e = .returned (.tuple #[.int .i64 0, .int .i64 81]) ∧ Mem w ((mR ⟨p, o, es⟩).map (·.1)) (mR ⟨p, o, es⟩) w' := by
  rw [mR_A hrow] at hw ⊢
  refine calls_of_z Try.func112 rfl Try.ntmps112 rfl hw ?_; intro cs b hb hk
  repeat (first | (refine st ?_) | (refine stx ?_) | (refine sb ?_) | (intro _))
  refine z_ret2 tab_ok Try.func112 hb hk Try.results112 (.tmp rfl) (.tmp rfl) (fun w hm => ?_)
  exact ⟨rfl, hm⟩
theorem OpenR_dup (p : Nat) (o : Own) (pre : List Ent) (e : Ent) (post : List Ent) (hy : WR ⟨p, o, pre ++ e :: post⟩) (d : Nat) (hn : 1 ≤ e.n ∧ e.n ≤ 65535) (hd : 1 ≤ d ∧ d ≤ 16) (hl : (pre ++ e :: post).length < 16) (w : World) (hw : Mem w ((mR ⟨p, o, pre ++ e :: post⟩).map (·.1)) (mR ⟨p, o, pre ++ e :: post⟩) w) : Calls Try.prog 112 [ptr p, .int .i64 e.n, .int .i64 (d : Int)].toArray w fun z w' => z = .returned (.tuple #[.int .i64 0, .int .i64 80]) ∧ Mem w ((mR ⟨p, o, pre ++ e :: post⟩).map (·.1)) (mR ⟨p, o, pre ++ e :: post⟩) w' := by
  have hrow : RowOk 3 o (pre ++ e :: post).length (entC (pre ++ e :: post)) := hy.row
  rw [mR_A hrow] at hw ⊢
  refine calls_of_z Try.func112 rfl Try.ntmps112 rfl hw ?_; intro cs b hb hk
  repeat (first | (refine st ?_) | (refine stx ?_) | (refine sb ?_) | (intro _))
  ((try (refine sg ?_)); (refine zx_call0 rfl fnc65 rfl rfl (fun w hm => at3q hm (List.Perm.refl _) (FindHit hy)) ?_))
  repeat (first | (refine st ?_) | (refine stx ?_) | (refine sb ?_) | (intro _))
  refine z_ret2 tab_ok Try.func112 hb hk Try.results112 (.tmp rfl) (.tmp rfl) (fun w hm => ?_)
  exact ⟨rfl, hm⟩
/-- what a new port leaves behind -/
def Fresh (p : Nat) (es : List Ent) (t : Int) (d : Nat) (w w' : World) (ks : List Nat) : Prop := ∃ (o' : Own) (pre post : List Ent), Cut es t (pre, post) ∧ RowOk 3 o' (pre ++ (⟨t, d, none, []⟩ : Ent) :: post).length (entC (pre ++ (⟨t, d, none, []⟩ : Ent) :: post)) ∧ Mem w ks (mR ⟨p, o', pre ++ (⟨t, d, none, []⟩ : Ent) :: post⟩) w'
theorem OpenR_new (p : Nat) (o : Own) (es : List Ent) (hy : WR ⟨p, o, es⟩) (t : Int) (hv : look es t = none) (d : Nat) (hn : 1 ≤ t ∧ t ≤ 65535) (hd : 1 ≤ d ∧ d ≤ 16) (hl : es.length < 16) (w : World) (hw : Mem w ((mR ⟨p, o, es⟩).map (·.1)) (mR ⟨p, o, es⟩) w) : Calls Try.prog 112 [ptr p, .int .i64 t, .int .i64 (d : Int)].toArray w fun e w' => e = .returned (.tuple #[.int .i64 t, .int .i64 0]) ∧ Fresh p es t d w w' ((mR ⟨p, o, es⟩).map (·.1)) := by
  have hrow : RowOk 3 o es.length (entC es) := hy.row
  have hsort : es.Pairwise fun a b => a.n < b.n := hy.sorted
  rw [mR_A hrow] at hw ⊢
  generalize hks : (hdF p o es.length :: (rowL 121 o (entC es) ++ rowsE es)).map (·.1) = ks at hw
  refine calls_of_z Try.func112 rfl Try.ntmps112 rfl hw ?_; intro cs b hb hk
  repeat (first | (refine st ?_) | (refine stx ?_) | (refine sb ?_) | (intro _))
  ((try (refine sg ?_)); (refine zx_call0 rfl fnc65 rfl rfl (fun w hm => at3q hm (List.Perm.refl _) (FindMiss hy hv)) ?_))
  repeat (first | (refine st ?_) | (refine stx ?_) | (refine sb ?_) | (intro _))
  refine z_joinP (fun g : List Ent × List Ent => Cut es t g) (fun g => [(0, ptr p), (1, .int .i64 t), (2, .int .i64 (d : Int)), (8, .int .i64 (g.1.length : Int))]) (fun _ => hdF p o es.length :: (rowL 121 o (entC es) ++ rowsE es)) (fun g hg => ?_) (fun k' J => ?_)
  · obtain ⟨pre, post⟩ := g
    have hcut := hg
    obtain ⟨hes, _, _⟩ := hg
    simp only at hes
    have hlx : pre.length + post.length = es.length := by rw [hes, List.length_append]
    have hpl : pre.length ≤ es.length := by omega
    repeat (first | (refine st ?_) | (refine stx ?_) | (refine sb ?_) | (intro _))
    refine zx_sliceW tab_ok 0 pre.length (oC o es.length) rfl rfl rfl rfl rfl rfl rfl (fun h => by cases h) rfl rfl rfl rfl (Nat.zero_le _) (Nat.le_trans hpl (oC_le hrow)) (Nat.le_refl _) ?_
    refine zx_append elt121 tab_ok (hdF p o es.length :: (rowL 121 o (entC es) ++ rowsE es)) none 0 [] (m := pre.length) (news := entC pre) rfl rfl rfl rfl (List.append_nil _).symm rfl (RowOk.nil0 3) (fun w hm => srcCut (A := []) (M := pre) (C := post) hes hrow hm (fun x hx => List.mem_cons_of_mem _ (List.mem_append_left _ hx)) 0 pre.length rfl rfl _) (by omega) (by omega) (fun o1 ho1 => ?_)
    refine zx_re 70 (rowV o1 pre.length) rfl (by rw [Nat.zero_add]) ?_
    rw [Nat.zero_add, List.nil_append] at ho1
    repeat (first | (refine st ?_) | (refine stx ?_) | (intro _))
    rename_i nb
    refine zx_append elt121 tab_ok ((nb, .c [.int .i64 t, .int .i64 (d : Int), .slice none 0 0] 121 0 0) :: hdF p o es.length :: (rowL 121 o (entC es) ++ rowsE es)) o1 pre.length (entC pre) (m := 1) (news := [.int .i64 t, .int .i64 (d : Int), .slice none 0 0]) rfl rfl rfl rfl rfl rfl ho1 (fun w hm => srcNew hm rfl rfl rfl rfl) (by omega) (by omega) (fun o2 ho2 => ?_)
    repeat (first | (refine st ?_) | (refine stx ?_) | (intro _))
    refine zx_sliceW tab_ok pre.length es.length (oC o es.length) rfl rfl rfl rfl rfl rfl rfl (fun h => by cases h) rfl rfl rfl rfl hpl (oC_le hrow) (Nat.le_refl _) ?_
    refine zx_append elt121 tab_ok ((nb, .c [.int .i64 t, .int .i64 (d : Int), .slice none 0 0] 121 0 0) :: hdF p o es.length :: (rowL 121 o (entC es) ++ rowsE es)) o2 (pre.length + 1) (entC pre ++ [.int .i64 t, .int .i64 (d : Int), .slice none 0 0]) (m := post.length) (news := entC post) rfl rfl rfl rfl rfl rfl ho2 (fun w hm => srcCut (A := pre) (M := post) (C := []) (by rw [hes, List.append_nil]) hrow hm (fun x hx => List.mem_append_left _ (List.mem_cons_of_mem _ (List.mem_cons_of_mem _ (List.mem_append_left _ hx)))) pre.length _ rfl (by omega) _) (by omega) (by omega) (fun o3 ho3 => ?_)
    refine zx_re 85 (.slice (oA o3) (pre.length + 1 + post.length) (oC o3 (pre.length + 1 + post.length))) rfl (sV_of ho3) ?_
    repeat (first | (refine st ?_) | (refine stx ?_) | (intro _))
    refine z_ret2 tab_ok Try.func112 hb hk Try.results112 (.tmp rfl) (.tmp rfl) (fun w hm => ?_)
    have hE : entC (pre ++ (⟨t, d, none, []⟩ : Ent) :: post) = entC pre ++ [.int .i64 t, .int .i64 (d : Int), .slice none 0 0] ++ entC post := by
      rw [entC_app, entC_cons, List.append_assoc]; rfl
    have hE2 : (pre ++ (⟨t, d, none, []⟩ : Ent) :: post).length = pre.length + 1 + post.length := by rw [List.length_append, List.length_cons]; omega
    have hE3 : rowsE (pre ++ (⟨t, d, none, []⟩ : Ent) :: post) = rowsE es := by rw [hes, rowsE_app, rowsE_app, rowsE_cons]; rfl
    have hrow3 : RowOk 3 o3 (pre ++ (⟨t, d, none, []⟩ : Ent) :: post).length (entC (pre ++ (⟨t, d, none, []⟩ : Ent) :: post)) := by rw [hE, hE2]; exact ho3
    refine ⟨rfl, o3, pre, post, hcut, hrow3, ?_⟩
    rw [mR_A hrow3, hE, hE2, hE3]
    have hm2 : Mem _ ks (((nb, .c [.int .i64 t, .int .i64 (d : Int), .slice none 0 0] 121 0 0) :: hdF p o3 (pre.length + 1 + post.length) :: (rowL 121 o (entC es) ++ rowsE es)) ++ rowL 121 o3 (entC pre ++ [.int .i64 t, .int .i64 (d : Int), .slice none 0 0] ++ entC post)) w := hm
    exact (hm2.weaken (L' := (hdF p o3 (pre.length + 1 + post.length) :: rowsE es) ++ rowL 121 o3 (entC pre ++ [.int .i64 t, .int .i64 (d : Int), .slice none 0 0] ++ entC post)) (fun _ h => h) (List.Sublist.append (List.Sublist.cons _ (List.Sublist.cons_cons _ (List.sublist_append_right _ _))) (List.Sublist.refl _))).perm (List.Perm.cons _ List.perm_append_comm)
  · refine z_loop (fun i : Nat => i ≤ es.length ∧ ∀ (j : Nat) (x : Ent), es[j]? = some x → j < i → x.n < t) (fun i => [(0, ptr p), (1, .int .i64 t), (2, .int .i64 (d : Int)), (8, .int .i64 (i : Int))]) (fun _ => hdF p o es.length :: (rowL 121 o (entC es) ++ rowsE es)) (fun i => es.length - i) 0 ⟨Nat.zero_le _, fun j x _ hj => absurd hj (Nat.not_lt_zero _)⟩ ⟨rfl, rfl, rfl, rfl, trivial⟩ (List.Sublist.refl _) ?_
    intro i hi ih
    obtain ⟨hi0, hi1⟩ := hi
    refine z_weaken [(0, ptr p), (1, .int .i64 t), (2, .int .i64 (d : Int)), (8, .int .i64 (i : Int))] (hdF p o es.length :: (rowL 121 o (entC es) ++ rowsE es)) ⟨rfl, rfl, rfl, rfl, trivial⟩ (List.Sublist.refl _) (fun _ h => h) ?_
    by_cases hlt : i < es.length
    · obtain ⟨e, he⟩ : ∃ e, es[i]? = some e := ⟨_, List.getElem?_eq_getElem hlt⟩
      cases o with
      | none => have := hrow.nil rfl; omega
      | some q =>
        obtain ⟨b1, p0, r, rest⟩ := q
        refine z_mem ((p, .c [.slice (some ⟨b1, p0.length, none⟩) es.length (es.length + r)] 115 0 0) :: (b1, .c (p0 ++ entC es ++ rest) 121 0 0) :: rowsE es) rfl ?_
        repeat (first | (refine st ?_) | (refine stx ?_) | (refine sb ?_) | (intro _))
        refine zx_idxA (sz := i * 3) tab_ok rfl rfl rfl rfl rfl rfl (by omega) (by omega) (by simp) ?_
        repeat (first | (refine st ?_) | (refine stx ?_) | (intro _))
        refine zx_load tab_ok 1 rfl rfl rfl rfl rfl (ent_at (j := 0) he rfl) rfl ?_
        by_cases hen : e.n < t
        · repeat (first | (refine st ?_) | (refine stx ?_) | (refine sb ?_) | (intro _))
          refine z_re 8 (.int .i64 ((i + 1 : Nat) : Int)) rfl (congrArg _ (wrW (by omega) (by omega))) ?_
          refine z_weaken _ _ ?_ (List.Sublist.refl _) (fun _ h => h) (ih (i + 1) ⟨hlt, fun j x hx hj => ?_⟩ (by omega))
          · exact ⟨rfl, rfl, rfl, rfl, trivial⟩
          · rcases Nat.lt_or_eq_of_le (Nat.le_of_lt_succ hj) with hj | hj
            · exact hi1 j x hx hj
            · subst hj
              rw [he] at hx
              cases hx
              exact hen
        · repeat (first | (refine st ?_) | (refine stx ?_) | (refine sb ?_) | (intro _))
          refine z_weaken _ _ ?_ (List.Sublist.refl _) (fun _ h => h) (J (es.take i, es.drop i) (Cut.at hsort hv he hi1 hen))
          exact ⟨rfl, rfl, rfl, by show some (Value.int .i64 (i : Int)) = some (.int .i64 ((es.take i).length : Int)); rw [List.length_take, Nat.min_eq_left (by omega)], trivial⟩
    · repeat (first | (refine st ?_) | (refine stx ?_) | (refine sb ?_) | (intro _))
      refine z_weaken _ _ ?_ (List.Sublist.refl _) (fun _ h => h) (J (es, []) (Cut.all fun j x hx hj => hi1 j x hx (by omega)))
      exact ⟨rfl, rfl, rfl, by show some (Value.int .i64 (i : Int)) = some (.int .i64 (es.length : Int)); rw [show i = es.length by omega], trivial⟩
theorem OpenR_zero (p : Nat) (o : Own) (es : List Ent) (hy : WR ⟨p, o, es⟩) (d : Nat) (hd : 1 ≤ d ∧ d ≤ 16) (hl : es.length < 16) (w : World) (hw : Mem w ((mR ⟨p, o, es⟩).map (·.1)) (mR ⟨p, o, es⟩) w) : Calls Try.prog 112 [ptr p, .int .i64 0, .int .i64 (d : Int)].toArray w fun e w' => ∃ t : Int, (t = nxt (fun m => (look es m).isSome) 16 49152 ∧ look es t = none ∧ 49152 ≤ t ∧ t ≤ 65535) ∧ e = .returned (.tuple #[.int .i64 t, .int .i64 0]) ∧ Fresh p es t d w w' ((mR ⟨p, o, es⟩).map (·.1)) := by
  have hrow : RowOk 3 o es.length (entC es) := hy.row
  have hsort : es.Pairwise fun a b => a.n < b.n := hy.sorted
  rw [mR_A hrow] at hw ⊢
  generalize hks : (hdF p o es.length :: (rowL 121 o (entC es) ++ rowsE es)).map (·.1) = ks at hw
  refine calls_of_z Try.func112 rfl Try.ntmps112 rfl hw ?_; intro cs b hb hk
  repeat (first | (refine st ?_) | (refine stx ?_) | (refine sb ?_) | (intro _))
  refine z_loop (fun t : Int => 49152 ≤ t ∧ t + ((es.filter fun c => decide (t ≤ c.n)).length : Nat) ≤ 49168 ∧ ∃ f, nxt (fun m => (look es m).isSome) f t = nxt (fun m => (look es m).isSome) 16 49152 ∧ (es.filter fun c => decide (t ≤ c.n)).length ≤ f) (fun t => [(0, ptr p), (1, .int .i64 t), (2, .int .i64 (d : Int))]) (fun t => hdF p o es.length :: (rowL 121 o (entC es) ++ rowsE es)) (fun t => (es.filter fun c => decide (t ≤ c.n)).length) 49152 ⟨by decide, by have := aboveE_le (es := es) (t := 49152); omega, 16, rfl, by have := aboveE_le (es := es) (t := 49152); omega⟩ ⟨rfl, rfl, rfl, trivial⟩ (List.Sublist.refl _) ?_
  intro t ht ih
  obtain ⟨t1, t2, f, t3, t4⟩ := ht
  refine z_weaken [(0, ptr p), (1, .int .i64 t), (2, .int .i64 (d : Int))] (hdF p o es.length :: (rowL 121 o (entC es) ++ rowsE es)) ⟨rfl, rfl, rfl, trivial⟩ (List.Sublist.refl _) (fun _ h => h) ?_
  cases hv : look es t with
  | some v =>
    obtain ⟨pre, e, post, rfl, rfl, hne, _⟩ := look_some hv
    have hab := aboveE_lt (es := pre ++ e :: post) (e := e) (List.mem_append_right _ (List.mem_cons_self ..))
    repeat (first | (refine st ?_) | (refine stx ?_) | (refine sb ?_) | (intro _))
    ((try (refine sg ?_)); (refine zx_call0 rfl fnc65 rfl rfl (fun w hm => at3q hm (List.Perm.refl _) (FindHit hy)) ?_))
    repeat (first | (refine st ?_) | (refine stx ?_) | (refine sb ?_) | (intro _))
    refine z_re 1 (.int .i64 (e.n + 1)) rfl (congrArg _ (by rw [wrW (by omega) (by omega)])) ?_
    refine z_weaken [(0, ptr p), (1, .int .i64 (e.n + 1)), (2, .int .i64 (d : Int))] _ ⟨rfl, rfl, rfl, trivial⟩ (List.Sublist.refl _) (fun _ h => h) ?_
    refine ih (e.n + 1) ⟨by omega, by omega, ?_⟩ (by omega)
    cases f with
    | zero => omega
    | succ f =>
      refine ⟨f, ?_, by omega⟩
      rw [← t3]
      show _ = if (look (pre ++ e :: post) e.n).isSome = true then _ else _
      rw [hv]
      rfl
  | none =>
    have hT : t = nxt (fun m => (look es m).isSome) 16 49152 := by
      rw [← t3, nxt_miss]
      show (look es t).isSome = false
      rw [hv]; rfl
    clear ih t3 t4
    repeat (first | (refine st ?_) | (refine stx ?_) | (refine sb ?_) | (intro _))
    ((try (refine sg ?_)); (refine zx_call0 rfl fnc65 rfl rfl (fun w hm => at3q hm (List.Perm.refl _) (FindMiss hy hv)) ?_))
    repeat (first | (refine st ?_) | (refine stx ?_) | (refine sb ?_) | (intro _))
    ((try (refine sg ?_)); (refine zx_call0 rfl fnc65 rfl rfl (fun w hm => at3q hm (List.Perm.refl _) (FindMiss hy hv)) ?_))
    repeat (first | (refine st ?_) | (refine stx ?_) | (refine sb ?_) | (intro _))
    refine z_joinP (fun g : List Ent × List Ent => Cut es t g) (fun g => [(0, ptr p), (1, .int .i64 t), (2, .int .i64 (d : Int)), (8, .int .i64 (g.1.length : Int))]) (fun _ => hdF p o es.length :: (rowL 121 o (entC es) ++ rowsE es)) (fun g hg => ?_) (fun k' J => ?_)
    · obtain ⟨pre, post⟩ := g
      have hcut := hg
      obtain ⟨hes, _, _⟩ := hg
      simp only at hes
      have hlx : pre.length + post.length = es.length := by rw [hes, List.length_append]
      have hpl : pre.length ≤ es.length := by omega
      repeat (first | (refine st ?_) | (refine stx ?_) | (refine sb ?_) | (intro _))
      refine zx_sliceW tab_ok 0 pre.length (oC o es.length) rfl rfl rfl rfl rfl rfl rfl (fun h => by cases h) rfl rfl rfl rfl (Nat.zero_le _) (Nat.le_trans hpl (oC_le hrow)) (Nat.le_refl _) ?_
      refine zx_append elt121 tab_ok (hdF p o es.length :: (rowL 121 o (entC es) ++ rowsE es)) none 0 [] (m := pre.length) (news := entC pre) rfl rfl rfl rfl (List.append_nil _).symm rfl (RowOk.nil0 3) (fun w hm => srcCut (A := []) (M := pre) (C := post) hes hrow hm (fun x hx => List.mem_cons_of_mem _ (List.mem_append_left _ hx)) 0 pre.length rfl rfl _) (by omega) (by omega) (fun o1 ho1 => ?_)
      refine zx_re 70 (rowV o1 pre.length) rfl (by rw [Nat.zero_add]) ?_
      rw [Nat.zero_add, List.nil_append] at ho1
      repeat (first | (refine st ?_) | (refine stx ?_) | (intro _))
      rename_i nb
      refine zx_append elt121 tab_ok ((nb, .c [.int .i64 t, .int .i64 (d : Int), .slice none 0 0] 121 0 0) :: hdF p o es.length :: (rowL 121 o (entC es) ++ rowsE es)) o1 pre.length (entC pre) (m := 1) (news := [.int .i64 t, .int .i64 (d : Int), .slice none 0 0]) rfl rfl rfl rfl rfl rfl ho1 (fun w hm => srcNew hm rfl rfl rfl rfl) (by omega) (by omega) (fun o2 ho2 => ?_)
      repeat (first | (refine st ?_) | (refine stx ?_) | (intro _))
      refine zx_sliceW tab_ok pre.length es.length (oC o es.length) rfl rfl rfl rfl rfl rfl rfl (fun h => by cases h) rfl rfl rfl rfl hpl (oC_le hrow) (Nat.le_refl _) ?_
      refine zx_append elt121 tab_ok ((nb, .c [.int .i64 t, .int .i64 (d : Int), .slice none 0 0] 121 0 0) :: hdF p o es.length :: (rowL 121 o (entC es) ++ rowsE es)) o2 (pre.length + 1) (entC pre ++ [.int .i64 t, .int .i64 (d : Int), .slice none 0 0]) (m := post.length) (news := entC post) rfl rfl rfl rfl rfl rfl ho2 (fun w hm => srcCut (A := pre) (M := post) (C := []) (by rw [hes, List.append_nil]) hrow hm (fun x hx => List.mem_append_left _ (List.mem_cons_of_mem _ (List.mem_cons_of_mem _ (List.mem_append_left _ hx)))) pre.length _ rfl (by omega) _) (by omega) (by omega) (fun o3 ho3 => ?_)
      refine zx_re 85 (.slice (oA o3) (pre.length + 1 + post.length) (oC o3 (pre.length + 1 + post.length))) rfl (sV_of ho3) ?_
      repeat (first | (refine st ?_) | (refine stx ?_) | (intro _))
      refine z_ret2 tab_ok Try.func112 hb hk Try.results112 (.tmp rfl) (.tmp rfl) (fun w hm => ?_)
      have hE : entC (pre ++ (⟨t, d, none, []⟩ : Ent) :: post) = entC pre ++ [.int .i64 t, .int .i64 (d : Int), .slice none 0 0] ++ entC post := by
        rw [entC_app, entC_cons, List.append_assoc]; rfl
      have hE2 : (pre ++ (⟨t, d, none, []⟩ : Ent) :: post).length = pre.length + 1 + post.length := by rw [List.length_append, List.length_cons]; omega
      have hE3 : rowsE (pre ++ (⟨t, d, none, []⟩ : Ent) :: post) = rowsE es := by rw [hes, rowsE_app, rowsE_app, rowsE_cons]; rfl
      have hrow3 : RowOk 3 o3 (pre ++ (⟨t, d, none, []⟩ : Ent) :: post).length (entC (pre ++ (⟨t, d, none, []⟩ : Ent) :: post)) := by rw [hE, hE2]; exact ho3
      refine ⟨t, ⟨hT, hv, t1, by omega⟩, rfl, o3, pre, post, hcut, hrow3, ?_⟩
      rw [mR_A hrow3, hE, hE2, hE3]
      have hm2 : Mem _ ks (((nb, .c [.int .i64 t, .int .i64 (d : Int), .slice none 0 0] 121 0 0) :: hdF p o3 (pre.length + 1 + post.length) :: (rowL 121 o (entC es) ++ rowsE es)) ++ rowL 121 o3 (entC pre ++ [.int .i64 t, .int .i64 (d : Int), .slice none 0 0] ++ entC post)) w := hm
      exact (hm2.weaken (L' := (hdF p o3 (pre.length + 1 + post.length) :: rowsE es) ++ rowL 121 o3 (entC pre ++ [.int .i64 t, .int .i64 (d : Int), .slice none 0 0] ++ entC post)) (fun _ h => h) (List.Sublist.append (List.Sublist.cons _ (List.Sublist.cons_cons _ (List.sublist_append_right _ _))) (List.Sublist.refl _))).perm (List.Perm.cons _ List.perm_append_comm)
    · refine z_loop (fun i : Nat => i ≤ es.length ∧ ∀ (j : Nat) (x : Ent), es[j]? = some x → j < i → x.n < t) (fun i => [(0, ptr p), (1, .int .i64 t), (2, .int .i64 (d : Int)), (8, .int .i64 (i : Int))]) (fun _ => hdF p o es.length :: (rowL 121 o (entC es) ++ rowsE es)) (fun i => es.length - i) 0 ⟨Nat.zero_le _, fun j x _ hj => absurd hj (Nat.not_lt_zero _)⟩ ⟨rfl, rfl, rfl, rfl, trivial⟩ (List.Sublist.refl _) ?_
      intro i hi ih
      obtain ⟨hi0, hi1⟩ := hi
      refine z_weaken [(0, ptr p), (1, .int .i64 t), (2, .int .i64 (d : Int)), (8, .int .i64 (i : Int))] (hdF p o es.length :: (rowL 121 o (entC es) ++ rowsE es)) ⟨rfl, rfl, rfl, rfl, trivial⟩ (List.Sublist.refl _) (fun _ h => h) ?_
      by_cases hlt : i < es.length
      · obtain ⟨e, he⟩ : ∃ e, es[i]? = some e := ⟨_, List.getElem?_eq_getElem hlt⟩
        cases o with
        | none => have := hrow.nil rfl; omega
        | some q =>
          obtain ⟨b1, p0, r, rest⟩ := q
          refine z_mem ((p, .c [.slice (some ⟨b1, p0.length, none⟩) es.length (es.length + r)] 115 0 0) :: (b1, .c (p0 ++ entC es ++ rest) 121 0 0) :: rowsE es) rfl ?_
          repeat (first | (refine st ?_) | (refine stx ?_) | (refine sb ?_) | (intro _))
          refine zx_idxA (sz := i * 3) tab_ok rfl rfl rfl rfl rfl rfl (by omega) (by omega) (by simp) ?_
          repeat (first | (refine st ?_) | (refine stx ?_) | (intro _))
          refine zx_load tab_ok 1 rfl rfl rfl rfl rfl (ent_at (j := 0) he rfl) rfl ?_
          by_cases hen : e.n < t
          · repeat (first | (refine st ?_) | (refine stx ?_) | (refine sb ?_) | (intro _))
            refine z_re 8 (.int .i64 ((i + 1 : Nat) : Int)) rfl (congrArg _ (wrW (by omega) (by omega))) ?_
            refine z_weaken _ _ ?_ (List.Sublist.refl _) (fun _ h => h) (ih (i + 1) ⟨hlt, fun j x hx hj => ?_⟩ (by omega))
            · exact ⟨rfl, rfl, rfl, rfl, trivial⟩
            · rcases Nat.lt_or_eq_of_le (Nat.le_of_lt_succ hj) with hj | hj
              · exact hi1 j x hx hj
              · subst hj
                rw [he] at hx
                cases hx
                exact hen
          · repeat (first | (refine st ?_) | (refine stx ?_) | (refine sb ?_) | (intro _))
            refine z_weaken _ _ ?_ (List.Sublist.refl _) (fun _ h => h) (J (es.take i, es.drop i) (Cut.at hsort hv he hi1 hen))
            exact ⟨rfl, rfl, rfl, by show some (Value.int .i64 (i : Int)) = some (.int .i64 ((es.take i).length : Int)); rw [List.length_take, Nat.min_eq_left (by omega)], trivial⟩
      · repeat (first | (refine st ?_) | (refine stx ?_) | (refine sb ?_) | (intro _))
        refine z_weaken _ _ ?_ (List.Sublist.refl _) (fun _ h => h) (J (es, []) (Cut.all fun j x hx hj => hi1 j x hx (by omega)))
        exact ⟨rfl, rfl, rfl, by show some (Value.int .i64 (i : Int)) = some (.int .i64 (es.length : Int)); rw [show i = es.length by omega], trivial⟩
end Go.Proofs.Ytabcaiecoiejkaa
namespace Go.Proofs.Ytabcaiecoiejkaa
open Go K

theorem Fresh.st {p : Nat} {o : Own} {es : List Ent} (hy : WR ⟨p, o, es⟩) {t : Int} {d : Nat} (hd : d ≤ 16) (hl : es.length < 16) {w w' : World} {ks : List Nat} (h : Fresh p es t d w w' ks) : ∃ y' : Rq, StR ⟨p, o, es⟩ y' t (some (d, [])) ∧ Mem w ks (mR y') w' := by
  obtain ⟨o', pre, post, ⟨hes, h1, h2⟩, hrow, hm⟩ := h
  simp only at hes h1 h2
  subst hes
  exact ⟨⟨p, o', pre ++ (⟨t, d, none, []⟩ : Ent) :: post⟩, StR.more hy h1 h2 hd hl hrow, hm⟩
theorem OpenR (y : Rq) (n d : Int) (hy : WR y) : RC 112 [ptr y.p, .int .i64 n, .int .i64 d] y (.tuple #[.int .i64 (opR (look y.es) y.es.length n d).1, .int .i64 (opR (look y.es) y.es.length n d).2]) (opM (look y.es) n) (opN (look y.es) y.es.length n d) := by
  unfold opR opN
  by_cases hb : opBad n d
  · rw [if_pos hb, if_pos hb]
    exact RC.ofMQ (fun w hw => OpenR_bad y n d hb w hw) (StR.same hy)
  rw [if_neg hb, if_neg hb]
  have hn : 0 ≤ n ∧ n ≤ 65535 := by omega
  obtain ⟨d', rfl⟩ : ∃ d' : Nat, d = (d' : Int) := ⟨d.toNat, by omega⟩
  have hd : 1 ≤ d' ∧ d' ≤ 16 := by omega
  rw [show (d' : Int).toNat = d' by omega]
  clear hb
  have hl : y.es.length ≤ 16 := hy.len
  obtain ⟨p, o, es⟩ := y
  have hl : es.length ≤ 16 := hl
  show RC 112 [ptr p, .int .i64 n, .int .i64 (d' : Int)] ⟨p, o, es⟩ (.tuple #[.int .i64 (if 16 ≤ es.length then ((0, 81) : Int × Int) else if (look es (opM (look es) n)).isSome = true then (0, 80) else (opM (look es) n, 0)).1, .int .i64 (if 16 ≤ es.length then ((0, 81) : Int × Int) else if (look es (opM (look es) n)).isSome = true then (0, 80) else (opM (look es) n, 0)).2]) (opM (look es) n) (if 16 ≤ es.length then look es (opM (look es) n) else if (look es (opM (look es) n)).isSome = true then look es (opM (look es) n) else some (d', []))
  by_cases hk : 16 ≤ es.length
  · rw [if_pos hk, if_pos hk]
    exact RC.ofMQ (fun w hw => OpenR_full p o es hy.row n d' hn hd hk hl w hw) (StR.same hy)
  rw [if_neg hk, if_neg hk]
  have hk : es.length < 16 := by omega
  by_cases h0 : n = 0
  · subst h0
    intro w hw
    refine (OpenR_zero p o es hy d' hd hk w hw).mono fun z w' ⟨t, ⟨h1, h2, _, _⟩, he, hf⟩ => ?_
    obtain ⟨y', hs, hm⟩ := hf.st hy hd.2 hk
    have hM : opM (look es) 0 = t := h1.symm
    rw [hM, h2]
    exact ⟨y', hs, he, hm⟩
  · have hM : opM (look es) n = n := if_neg h0
    rw [hM]
    cases hv : look es n with
    | none =>
      intro w hw
      refine (OpenR_new p o es hy n hv d' (by omega) hd hk w hw).mono fun z w' ⟨he, hf⟩ => ?_
      obtain ⟨y', hs, hm⟩ := hf.st hy hd.2 hk
      exact ⟨y', hs, he, hm⟩
    | some v =>
      obtain ⟨pre, e, post, rfl, rfl, hne, rfl⟩ := look_some hv
      have h2 : StR ⟨p, o, pre ++ e :: post⟩ ⟨p, o, pre ++ e :: post⟩ e.n (look (pre ++ e :: post) e.n) := StR.same hy
      rw [hv] at h2
      exact RC.ofMQ (fun w hw => OpenR_dup p o pre e post hy d' (by omega) hd hk w hw) h2
theorem opN_range {V : Int → Vw} {k : Nat} {n d : Int} (h : (opN V k n d).isSome = true) : (V (opM V n)).isSome = true ∨ (0 ≤ opM V n ∧ opM V n ≤ 65535) := by
  unfold opN at h
  by_cases hb : opBad n d
  · rw [if_pos hb] at h; exact .inl h
  · exact .inr (opM_range hb)
theorem nTake_some {v : Vw} (h : (nTake v).isSome = true) : v.isSome = true := by
  cases v with
  | none => exact h
  | some v => rfl
theorem nOffer_some {v : Vw} {l : List ByteArray} (h : (nOffer v l).isSome = true) : v.isSome = true := by
  cases v with
  | none => exact h
  | some v => rfl
theorem Rel.view {x : Pq} {y : Rq} (h : Rel x y) : vw x.cs = look y.es := funext h.all
/-- a call of the reference's ports, others beside it -/
theorem atR {f : Nat} {args : List Value} {y : Rq} {v : Value} {n : Int} {r : Vw} {w0 w : World} {ks : List Nat} {L R : Mm} (hm : Mem w0 ks L w) (hp : (mR y ++ R).Perm L) (T : Mm → Mm) (hT : ∀ S, (T S).Perm (S ++ R))
    (h : Mem w ((mR y).map (·.1)) (mR y) w → Calls Try.prog f args.toArray w fun e w' => ∃ y' : Rq, StR y y' n r ∧ e = .returned v ∧ Mem w ((mR y).map (·.1)) (mR y') w') :
    Calls Try.prog f args.toArray w fun e w' => ∃ y' : Rq, StR y y' n r ∧ e = .returned v ∧ Mem w0 ks (T (mR y')) w' := by
  have hm2 := hm.perm hp
  refine (h (Mem.now (S := mR y) (R := R) hm2)).mono fun e w' ⟨x', hs, he, hm'⟩ => ⟨x', hs, he, ?_⟩
  exact (Mem.call (S := mR y) (S' := mR x') (R := R) hm2 hm').perm (hT _)
theorem pxE (Q X Y : Mm) : (Q ++ (X ++ Y)).Perm (Y ++ (Q ++ X)) := by
  rw [← List.append_assoc]
  exact List.perm_append_comm
theorem StrsAt.on {w w1 : World} {ks : List Nat} {L S : Mm} {ia : Option Addr} {l : List ByteArray} (h : StrsAt w ks ia l) (hm : Mem w ks L w1) (hs : ∀ p ∈ S, p ∈ L) : StrsAt w1 (S.map (·.1)) ia l := by
  obtain ⟨bi, ioff, h1, h2, h3⟩ := h
  rcases h1 with rfl | ⟨h1, h0⟩
  · exact ⟨bi, ioff, .inl rfl, h2, fun j x hx => by cases hx⟩
  · refine ⟨bi, ioff, ?_, h2, fun j x hx => hm.cellB (h3 j x hx) h0⟩
    cases l with
    | nil => exact .inl rfl
    | cons y l =>
      refine .inr ⟨h1, fun hb => ?_⟩
      obtain ⟨p, hp, hpb⟩ := List.mem_map.1 hb
      have hlt := World.block_lt_of_cell? w _ (h3 0 y rfl)
      simp only at hlt
      rcases hm.kept p (hs p hp) with hk | hk
      · exact h0 (hpb ▸ hk)
      · omega
end Go.Proofs.Ytabcaiecoiejkaa
namespace Go.Proofs.Ytabcaiecoiejkaa
open Go K

def M2 (x : Pq) (y : Rq) : Mm := mQ x ++ mR y
theorem does_any (x : Pq) (y : Rq) (hr : Rel x y) (kind port n : Int) (la : Option Addr) (l : List ByteArray) (lcap : Nat) (hk1 : okW kind) (hcap : l.length ≤ lcap) (w : World) (hw : Mem w ((M2 x y).map (·.1)) (M2 x y) w) (hs : StrsAt w ((M2 x y).map (·.1)) la l) :
    Calls Try.prog 62 [ptr x.p, ptr y.p, .agg #[.int .i64 kind, .int .i64 port, .int .i64 n, .slice la l.length lcap]].toArray w fun e w' => ∃ g : Pq × Rq, (Rel g.1 g.2 ∧ g.1.p = x.p ∧ g.2.p = y.p) ∧ e = .returned (.bool true) ∧ Mem w ((M2 x y).map (·.1)) (M2 g.1 g.2) w' := by
  obtain ⟨hk1a, hk1b⟩ := hk1
  refine calls_of_z Try.func62 rfl Try.ntmps62 rfl hw ?_; intro cs b hb hk
  generalize hks : (M2 x y).map (·.1) = ks at hw hs
  repeat (first | (refine st ?_) | (refine stx ?_) | (intro _))
  rename_i ob
  refine z_mem ((ob, .c [.int .i64 kind, .int .i64 port, .int .i64 n, .slice la l.length lcap] 119 0 0) :: M2 x y) rfl ?_
  have hK1 := Int.tmod_lt_of_pos kind (b := 4) (by decide)
  have hK2 := Int.lt_tmod_of_pos kind (b := 4) (by decide)
  rcases (show kind.tmod 4 = 0 ∨ kind.tmod 4 = 1 ∨ kind.tmod 4 = -1 ∨ kind.tmod 4 = 2 ∨ kind.tmod 4 = -2 ∨ kind.tmod 4 = 3 ∨ kind.tmod 4 = -3 by omega) with hK | hK | hK | hK | hK | hK | hK
  · refine z_re 25 (.int .i64 (0)) rfl (congrArg _ hK) ?_
    refine z_re 7 (.int .i64 (0)) rfl (congrArg _ hK) ?_
    refine z_re 26 (.bool false) rfl (by show Value.bool (decide (kind.tmod 4 < 0)) = _; rw [hK]; rfl) ?_
    refine z_weaken [(0, ptr x.p), (1, ptr y.p), (5, ptr ob), (6, .bool false), (7, .int .i64 (0)), (26, .bool false)] ((ob, .c [.int .i64 kind, .int .i64 port, .int .i64 n, .slice la l.length lcap] 119 0 0) :: M2 x y) ⟨rfl, rfl, rfl, rfl, rfl, rfl, trivial⟩ (List.Sublist.refl _) (fun _ h => h) ?_
    clear hK1 hK2 hK hk1a hk1b
    have hvx := OpenVA x port n hr.wx (by rw [hr.len]; exact hr.wy.len)
    have hvc := OpenR y port n hr.wy
    have hrg := @opN_range (look y.es) y.es.length port n
    rw [hr.view, hr.len] at hvx
    generalize opR (look y.es) y.es.length port n = o at hvx hvc
    obtain ⟨o1, o2⟩ := o
    generalize opN (look y.es) y.es.length port n = r at hvx hvc hrg
    generalize opM (look y.es) port = m at hvx hvc hrg
    simp only at hvx hvc
    repeat (first | (refine st ?_) | (refine stx ?_) | (refine sb ?_) | (intro _))
    refine zx_call (Y := Pq) (v := fun _ => .tuple #[.int .i64 o1, .int .i64 o2]) (Φ := fun x' => Stp x x' m r) (L' := fun x' => (ob, .c [.int .i64 kind, .int .i64 port, .int .i64 n, .slice la l.length lcap] 119 0 0) :: M2 x' y) rfl fnc66 rfl rfl (fun w1 hm1 => at3 hm1 (px3 [_] (mQ x) (mR y)) (fun S => [_] ++ (S ++ mR y)) (fun S => px1 [_] S _) (fun hw => hvx w1 hw)) (fun x' hx' => ?_)
    repeat (first | (refine st ?_) | (refine stx ?_) | (refine sb ?_) | (intro _))
    refine zx_call (Y := Rq) (v := fun _ => .tuple #[.int .i64 o1, .int .i64 o2]) (Φ := fun y' => StR y y' m r) (L' := fun y' => (ob, .c [.int .i64 kind, .int .i64 port, .int .i64 n, .slice la l.length lcap] 119 0 0) :: M2 x' y') rfl fnc112 rfl rfl (fun w1 hm1 => atR hm1 (pxE [_] (mQ x') (mR y)).symm (fun S => [_] ++ (mQ x' ++ S)) (fun S => pxE [_] (mQ x') S) (fun hw => hvc w1 hw)) (fun y' hy' => ?_)
    repeat (first | (refine st ?_) | (refine stx ?_) | (intro _))
    refine zx_re 53 (.bool true) rfl (by first | rfl | simp) ?_
    repeat (first | (refine st ?_) | (refine stx ?_) | (intro _))
    refine z_re 6 (.bool true) rfl (by first | rfl | simp) ?_
    refine z_ret1 tab_ok Try.func62 hb hk Try.results62 (.tmp rfl) (fun w hm => ?_)
    exact ⟨(x', y'), ⟨hr.step hx' hy' hrg, hx'.p, hy'.p⟩, rfl, hm.weaken (fun _ h => h) (List.Sublist.cons _ (List.Sublist.refl _))⟩
  · refine z_re 25 (.int .i64 (1)) rfl (congrArg _ hK) ?_
    refine z_re 7 (.int .i64 (1)) rfl (congrArg _ hK) ?_
    refine z_re 26 (.bool false) rfl (by show Value.bool (decide (kind.tmod 4 < 0)) = _; rw [hK]; rfl) ?_
    refine z_weaken [(0, ptr x.p), (1, ptr y.p), (5, ptr ob), (6, .bool false), (7, .int .i64 (1)), (26, .bool false)] ((ob, .c [.int .i64 kind, .int .i64 port, .int .i64 n, .slice la l.length lcap] 119 0 0) :: M2 x y) ⟨rfl, rfl, rfl, rfl, rfl, rfl, trivial⟩ (List.Sublist.refl _) (fun _ h => h) ?_
    clear hK1 hK2 hK hk1a hk1b
    have hvx := ShutV x port hr.wx
    have hvc := ShutR y port hr.wy
    rw [hr.all port] at hvx
    generalize rShut (look y.es port) = o1 at hvx hvc
    obtain ⟨m, hmp⟩ : ∃ m, m = port := ⟨_, rfl⟩
    obtain ⟨r, hrn⟩ : ∃ r : Vw, r = none := ⟨_, rfl⟩
    have hrg : r.isSome = true → (look y.es m).isSome = true ∨ (0 ≤ m ∧ m ≤ 65535) := fun h => by rw [hrn] at h; cases h
    rw [← hrn] at hvx hvc
    repeat (first | (refine st ?_) | (refine stx ?_) | (refine sb ?_) | (intro _))
    refine zx_call (Y := Pq) (v := fun _ => .int .i64 o1) (Φ := fun x' => Stp x x' port r) (L' := fun x' => (ob, .c [.int .i64 kind, .int .i64 port, .int .i64 n, .slice la l.length lcap] 119 0 0) :: M2 x' y) rfl fnc67 rfl rfl (fun w1 hm1 => at3 hm1 (px3 [_] (mQ x) (mR y)) (fun S => [_] ++ (S ++ mR y)) (fun S => px1 [_] S _) (fun hw => hvx w1 hw)) (fun x' hx' => ?_)
    repeat (first | (refine st ?_) | (refine stx ?_) | (refine sb ?_) | (intro _))
    refine zx_call (Y := Rq) (v := fun _ => .int .i64 o1) (Φ := fun y' => StR y y' port r) (L' := fun y' => (ob, .c [.int .i64 kind, .int .i64 port, .int .i64 n, .slice la l.length lcap] 119 0 0) :: M2 x' y') rfl fnc113 rfl rfl (fun w1 hm1 => atR hm1 (pxE [_] (mQ x') (mR y)).symm (fun S => [_] ++ (mQ x' ++ S)) (fun S => pxE [_] (mQ x') S) (fun hw => hvc w1 hw)) (fun y' hy' => ?_)
    repeat (first | (refine st ?_) | (refine stx ?_) | (intro _))
    refine z_re 6 (.bool true) rfl (by first | rfl | simp) ?_
    refine z_ret1 tab_ok Try.func62 hb hk Try.results62 (.tmp rfl) (fun w hm => ?_)
    exact ⟨(x', y'), ⟨hr.step hx' hy' (fun h => by rw [hrn] at h; cases h), hx'.p, hy'.p⟩, rfl, hm.weaken (fun _ h => h) (List.Sublist.cons _ (List.Sublist.refl _))⟩
  · refine z_re 25 (.int .i64 (-1)) rfl (congrArg _ hK) ?_
    refine z_re 7 (.int .i64 (-1)) rfl (congrArg _ hK) ?_
    refine z_re 26 (.bool true) rfl (by show Value.bool (decide (kind.tmod 4 < 0)) = _; rw [hK]; rfl) ?_
    refine z_weaken [(0, ptr x.p), (1, ptr y.p), (5, ptr ob), (6, .bool false), (7, .int .i64 (-1)), (26, .bool true)] ((ob, .c [.int .i64 kind, .int .i64 port, .int .i64 n, .slice la l.length lcap] 119 0 0) :: M2 x y) ⟨rfl, rfl, rfl, rfl, rfl, rfl, trivial⟩ (List.Sublist.refl _) (fun _ h => h) ?_
    clear hK1 hK2 hK hk1a hk1b
    have hvx := TakeV x port hr.wx
    have hvc := TakeR y port hr.wy
    rw [hr.all port] at hvx
    generalize rTake (look y.es port) = o at hvx hvc
    obtain ⟨o1, o2⟩ := o
    have hrg : (nTake (look y.es port)).isSome = true → (look y.es port).isSome = true ∨ (0 ≤ port ∧ port ≤ 65535) := fun h => .inl (nTake_some h)
    generalize nTake (look y.es port) = r at hvx hvc hrg
    obtain ⟨m, hmp⟩ : ∃ m, m = port := ⟨_, rfl⟩
    simp only at hvx hvc
    repeat (first | (refine st ?_) | (refine stx ?_) | (refine sb ?_) | (intro _))
    refine zx_call (Y := Pq) (v := fun _ => .tuple #[.string o1, .int .i64 o2]) (Φ := fun x' => Stp x x' port r) (L' := fun x' => (ob, .c [.int .i64 kind, .int .i64 port, .int .i64 n, .slice la l.length lcap] 119 0 0) :: M2 x' y) rfl fnc69 rfl rfl (fun w1 hm1 => at3 hm1 (px3 [_] (mQ x) (mR y)) (fun S => [_] ++ (S ++ mR y)) (fun S => px1 [_] S _) (fun hw => hvx w1 hw)) (fun x' hx' => ?_)
    repeat (first | (refine st ?_) | (refine stx ?_) | (refine sb ?_) | (intro _))
    refine zx_call (Y := Rq) (v := fun _ => .tuple #[.string o1, .int .i64 o2]) (Φ := fun y' => StR y y' port r) (L' := fun y' => (ob, .c [.int .i64 kind, .int .i64 port, .int .i64 n, .slice la l.length lcap] 119 0 0) :: M2 x' y') rfl fnc115 rfl rfl (fun w1 hm1 => atR hm1 (pxE [_] (mQ x') (mR y)).symm (fun S => [_] ++ (mQ x' ++ S)) (fun S => pxE [_] (mQ x') S) (fun hw => hvc w1 hw)) (fun y' hy' => ?_)
    repeat (first | (refine st ?_) | (refine stx ?_) | (intro _))
    refine zx_re 116 (.bool true) rfl (by first | rfl | simp) ?_
    repeat (first | (refine st ?_) | (refine stx ?_) | (intro _))
    refine z_re 6 (.bool true) rfl (by first | rfl | simp) ?_
    refine z_ret1 tab_ok Try.func62 hb hk Try.results62 (.tmp rfl) (fun w hm => ?_)
    exact ⟨(x', y'), ⟨hr.step hx' hy' hrg, hx'.p, hy'.p⟩, rfl, hm.weaken (fun _ h => h) (List.Sublist.cons _ (List.Sublist.refl _))⟩
  · refine z_re 25 (.int .i64 (2)) rfl (congrArg _ hK) ?_
    refine z_re 7 (.int .i64 (2)) rfl (congrArg _ hK) ?_
    refine z_re 26 (.bool false) rfl (by show Value.bool (decide (kind.tmod 4 < 0)) = _; rw [hK]; rfl) ?_
    refine z_weaken [(0, ptr x.p), (1, ptr y.p), (5, ptr ob), (6, .bool false), (7, .int .i64 (2)), (26, .bool false)] ((ob, .c [.int .i64 kind, .int .i64 port, .int .i64 n, .slice la l.length lcap] 119 0 0) :: M2 x y) ⟨rfl, rfl, rfl, rfl, rfl, rfl, trivial⟩ (List.Sublist.refl _) (fun _ h => h) ?_
    clear hK1 hK2 hK hk1a hk1b
    have hvx := OfferV x port la l lcap hr.wx
    have hvc := OfferR y port la l lcap hcap hr.wy
    rw [hr.all port] at hvx
    generalize rOffer (look y.es port) l = o at hvx hvc
    obtain ⟨o1, o2⟩ := o
    have hrg : (nOffer (look y.es port) l).isSome = true → (look y.es port).isSome = true ∨ (0 ≤ port ∧ port ≤ 65535) := fun h => .inl (nOffer_some h)
    generalize nOffer (look y.es port) l = r at hvx hvc hrg
    obtain ⟨m, hmp⟩ : ∃ m, m = port := ⟨_, rfl⟩
    simp only at hvx hvc
    repeat (first | (refine st ?_) | (refine stx ?_) | (refine sb ?_) | (intro _))
    refine zx_call (Y := Pq) (v := fun _ => .tuple #[.int .i64 o1, .int .i64 o2]) (Φ := fun x' => Stp x x' port r) (L' := fun x' => (ob, .c [.int .i64 kind, .int .i64 port, .int .i64 n, .slice la l.length lcap] 119 0 0) :: M2 x' y) rfl fnc68 rfl rfl (fun w1 hm1 => at3 hm1 (px3 [_] (mQ x) (mR y)) (fun S => [_] ++ (S ++ mR y)) (fun S => px1 [_] S _) (fun hw => hvx w1 hw (hs.on hm1 (fun p hp => List.mem_cons_of_mem _ (List.mem_append_left _ hp))))) (fun x' hx' => ?_)
    repeat (first | (refine st ?_) | (refine stx ?_) | (refine sb ?_) | (intro _))
    refine zx_call (Y := Rq) (v := fun _ => .tuple #[.int .i64 o1, .int .i64 o2]) (Φ := fun y' => StR y y' port r) (L' := fun y' => (ob, .c [.int .i64 kind, .int .i64 port, .int .i64 n, .slice la l.length lcap] 119 0 0) :: M2 x' y') rfl fnc114 rfl rfl (fun w1 hm1 => atR hm1 (pxE [_] (mQ x') (mR y)).symm (fun S => [_] ++ (mQ x' ++ S)) (fun S => pxE [_] (mQ x') S) (fun hw => hvc w1 hw (hs.on hm1 (fun p hp => List.mem_cons_of_mem _ (List.mem_append_right _ hp))))) (fun y' hy' => ?_)
    repeat (first | (refine st ?_) | (refine stx ?_) | (intro _))
    refine zx_re 94 (.bool true) rfl (by first | rfl | simp) ?_
    repeat (first | (refine st ?_) | (refine stx ?_) | (intro _))
    refine z_re 6 (.bool true) rfl (by first | rfl | simp) ?_
    refine z_ret1 tab_ok Try.func62 hb hk Try.results62 (.tmp rfl) (fun w hm => ?_)
    exact ⟨(x', y'), ⟨hr.step hx' hy' hrg, hx'.p, hy'.p⟩, rfl, hm.weaken (fun _ h => h) (List.Sublist.cons _ (List.Sublist.refl _))⟩
  · refine z_re 25 (.int .i64 (-2)) rfl (congrArg _ hK) ?_
    refine z_re 7 (.int .i64 (-2)) rfl (congrArg _ hK) ?_
    refine z_re 26 (.bool true) rfl (by show Value.bool (decide (kind.tmod 4 < 0)) = _; rw [hK]; rfl) ?_
    refine z_weaken [(0, ptr x.p), (1, ptr y.p), (5, ptr ob), (6, .bool false), (7, .int .i64 (-2)), (26, .bool true)] ((ob, .c [.int .i64 kind, .int .i64 port, .int .i64 n, .slice la l.length lcap] 119 0 0) :: M2 x y) ⟨rfl, rfl, rfl, rfl, rfl, rfl, trivial⟩ (List.Sublist.refl _) (fun _ h => h) ?_
    clear hK1 hK2 hK hk1a hk1b
    have hvx := OfferV x port la l lcap hr.wx
    have hvc := OfferR y port la l lcap hcap hr.wy
    rw [hr.all port] at hvx
    generalize rOffer (look y.es port) l = o at hvx hvc
    obtain ⟨o1, o2⟩ := o
    have hrg : (nOffer (look y.es port) l).isSome = true → (look y.es port).isSome = true ∨ (0 ≤ port ∧ port ≤ 65535) := fun h => .inl (nOffer_some h)
    generalize nOffer (look y.es port) l = r at hvx hvc hrg
    obtain ⟨m, hmp⟩ : ∃ m, m = port := ⟨_, rfl⟩
    simp only at hvx hvc
    repeat (first | (refine st ?_) | (refine stx ?_) | (refine sb ?_) | (intro _))
    refine zx_call (Y := Pq) (v := fun _ => .tuple #[.int .i64 o1, .int .i64 o2]) (Φ := fun x' => Stp x x' port r) (L' := fun x' => (ob, .c [.int .i64 kind, .int .i64 port, .int .i64 n, .slice la l.length lcap] 119 0 0) :: M2 x' y) rfl fnc68 rfl rfl (fun w1 hm1 => at3 hm1 (px3 [_] (mQ x) (mR y)) (fun S => [_] ++ (S ++ mR y)) (fun S => px1 [_] S _) (fun hw => hvx w1 hw (hs.on hm1 (fun p hp => List.mem_cons_of_mem _ (List.mem_append_left _ hp))))) (fun x' hx' => ?_)
    repeat (first | (refine st ?_) | (refine stx ?_) | (refine sb ?_) | (intro _))
    refine zx_call (Y := Rq) (v := fun _ => .tuple #[.int .i64 o1, .int .i64 o2]) (Φ := fun y' => StR y y' port r) (L' := fun y' => (ob, .c [.int .i64 kind, .int .i64 port, .int .i64 n, .slice la l.length lcap] 119 0 0) :: M2 x' y') rfl fnc114 rfl rfl (fun w1 hm1 => atR hm1 (pxE [_] (mQ x') (mR y)).symm (fun S => [_] ++ (mQ x' ++ S)) (fun S => pxE [_] (mQ x') S) (fun hw => hvc w1 hw (hs.on hm1 (fun p hp => List.mem_cons_of_mem _ (List.mem_append_right _ hp))))) (fun y' hy' => ?_)
    repeat (first | (refine st ?_) | (refine stx ?_) | (intro _))
    refine zx_re 94 (.bool true) rfl (by first | rfl | simp) ?_
    repeat (first | (refine st ?_) | (refine stx ?_) | (intro _))
    refine z_re 6 (.bool true) rfl (by first | rfl | simp) ?_
    refine z_ret1 tab_ok Try.func62 hb hk Try.results62 (.tmp rfl) (fun w hm => ?_)
    exact ⟨(x', y'), ⟨hr.step hx' hy' hrg, hx'.p, hy'.p⟩, rfl, hm.weaken (fun _ h => h) (List.Sublist.cons _ (List.Sublist.refl _))⟩
  · refine z_re 25 (.int .i64 (3)) rfl (congrArg _ hK) ?_
    refine z_re 7 (.int .i64 (3)) rfl (congrArg _ hK) ?_
    refine z_re 26 (.bool false) rfl (by show Value.bool (decide (kind.tmod 4 < 0)) = _; rw [hK]; rfl) ?_
    refine z_weaken [(0, ptr x.p), (1, ptr y.p), (5, ptr ob), (6, .bool false), (7, .int .i64 (3)), (26, .bool false)] ((ob, .c [.int .i64 kind, .int .i64 port, .int .i64 n, .slice la l.length lcap] 119 0 0) :: M2 x y) ⟨rfl, rfl, rfl, rfl, rfl, rfl, trivial⟩ (List.Sublist.refl _) (fun _ h => h) ?_
    clear hK1 hK2 hK hk1a hk1b
    have hvx := TakeV x port hr.wx
    have hvc := TakeR y port hr.wy
    rw [hr.all port] at hvx
    generalize rTake (look y.es port) = o at hvx hvc
    obtain ⟨o1, o2⟩ := o
    have hrg : (nTake (look y.es port)).isSome = true → (look y.es port).isSome = true ∨ (0 ≤ port ∧ port ≤ 65535) := fun h => .inl (nTake_some h)
    generalize nTake (look y.es port) = r at hvx hvc hrg
    obtain ⟨m, hmp⟩ : ∃ m, m = port := ⟨_, rfl⟩
    simp only at hvx hvc
    repeat (first | (refine st ?_) | (refine stx ?_) | (refine sb ?_) | (intro _))
    refine zx_call (Y := Pq) (v := fun _ => .tuple #[.string o1, .int .i64 o2]) (Φ := fun x' => Stp x x' port r) (L' := fun x' => (ob, .c [.int .i64 kind, .int .i64 port, .int .i64 n, .slice la l.length lcap] 119 0 0) :: M2 x' y) rfl fnc69 rfl rfl (fun w1 hm1 => at3 hm1 (px3 [_] (mQ x) (mR y)) (fun S => [_] ++ (S ++ mR y)) (fun S => px1 [_] S _) (fun hw => hvx w1 hw)) (fun x' hx' => ?_)
    repeat (first | (refine st ?_) | (refine stx ?_) | (refine sb ?_) | (intro _))
    refine zx_call (Y := Rq) (v := fun _ => .tuple #[.string o1, .int .i64 o2]) (Φ := fun y' => StR y y' port r) (L' := fun y' => (ob, .c [.int .i64 kind, .int .i64 port, .int .i64 n, .slice la l.length lcap] 119 0 0) :: M2 x' y') rfl fnc115 rfl rfl (fun w1 hm1 => atR hm1 (pxE [_] (mQ x') (mR y)).symm (fun S => [_] ++ (mQ x' ++ S)) (fun S => pxE [_] (mQ x') S) (fun hw => hvc w1 hw)) (fun y' hy' => ?_)
    repeat (first | (refine st ?_) | (refine stx ?_) | (intro _))
    refine zx_re 116 (.bool true) rfl (by first | rfl | simp) ?_
    repeat (first | (refine st ?_) | (refine stx ?_) | (intro _))
    refine z_re 6 (.bool true) rfl (by first | rfl | simp) ?_
    refine z_ret1 tab_ok Try.func62 hb hk Try.results62 (.tmp rfl) (fun w hm => ?_)
    exact ⟨(x', y'), ⟨hr.step hx' hy' hrg, hx'.p, hy'.p⟩, rfl, hm.weaken (fun _ h => h) (List.Sublist.cons _ (List.Sublist.refl _))⟩
  · refine z_re 25 (.int .i64 (-3)) rfl (congrArg _ hK) ?_
    refine z_re 7 (.int .i64 (-3)) rfl (congrArg _ hK) ?_
    refine z_re 26 (.bool true) rfl (by show Value.bool (decide (kind.tmod 4 < 0)) = _; rw [hK]; rfl) ?_
    refine z_weaken [(0, ptr x.p), (1, ptr y.p), (5, ptr ob), (6, .bool false), (7, .int .i64 (-3)), (26, .bool true)] ((ob, .c [.int .i64 kind, .int .i64 port, .int .i64 n, .slice la l.length lcap] 119 0 0) :: M2 x y) ⟨rfl, rfl, rfl, rfl, rfl, rfl, trivial⟩ (List.Sublist.refl _) (fun _ h => h) ?_
    clear hK1 hK2 hK hk1a hk1b
    have hvx := ShutV x port hr.wx
    have hvc := ShutR y port hr.wy
    rw [hr.all port] at hvx
    generalize rShut (look y.es port) = o1 at hvx hvc
    obtain ⟨m, hmp⟩ : ∃ m, m = port := ⟨_, rfl⟩
    obtain ⟨r, hrn⟩ : ∃ r : Vw, r = none := ⟨_, rfl⟩
    have hrg : r.isSome = true → (look y.es m).isSome = true ∨ (0 ≤ m ∧ m ≤ 65535) := fun h => by rw [hrn] at h; cases h
    rw [← hrn] at hvx hvc
    repeat (first | (refine st ?_) | (refine stx ?_) | (refine sb ?_) | (intro _))
    refine zx_call (Y := Pq) (v := fun _ => .int .i64 o1) (Φ := fun x' => Stp x x' port r) (L' := fun x' => (ob, .c [.int .i64 kind, .int .i64 port, .int .i64 n, .slice la l.length lcap] 119 0 0) :: M2 x' y) rfl fnc67 rfl rfl (fun w1 hm1 => at3 hm1 (px3 [_] (mQ x) (mR y)) (fun S => [_] ++ (S ++ mR y)) (fun S => px1 [_] S _) (fun hw => hvx w1 hw)) (fun x' hx' => ?_)
    repeat (first | (refine st ?_) | (refine stx ?_) | (refine sb ?_) | (intro _))
    refine zx_call (Y := Rq) (v := fun _ => .int .i64 o1) (Φ := fun y' => StR y y' port r) (L' := fun y' => (ob, .c [.int .i64 kind, .int .i64 port, .int .i64 n, .slice la l.length lcap] 119 0 0) :: M2 x' y') rfl fnc113 rfl rfl (fun w1 hm1 => atR hm1 (pxE [_] (mQ x') (mR y)).symm (fun S => [_] ++ (mQ x' ++ S)) (fun S => pxE [_] (mQ x') S) (fun hw => hvc w1 hw)) (fun y' hy' => ?_)
    repeat (first | (refine st ?_) | (refine stx ?_) | (intro _))
    refine z_re 6 (.bool true) rfl (by first | rfl | simp) ?_
    refine z_ret1 tab_ok Try.func62 hb hk Try.results62 (.tmp rfl) (fun w hm => ?_)
    exact ⟨(x', y'), ⟨hr.step hx' hy' (fun h => by rw [hrn] at h; cases h), hx'.p, hy'.p⟩, rfl, hm.weaken (fun _ h => h) (List.Sublist.cons _ (List.Sublist.refl _))⟩
end Go.Proofs.Ytabcaiecoiejkaa
namespace Go.Proofs.Ytabcaiecoiejkaa
open Go K

theorem permP (h : Nat × Blk) (A Q E S : Mm) : (h :: (E ++ (A ++ (S ++ Q)))).Perm (A ++ (Q ++ (h :: (E ++ S)))) := by
  have h1 : (A ++ (Q ++ (h :: (E ++ S)))).Perm (h :: (A ++ (Q ++ (E ++ S)))) := ((List.perm_middle (l₁ := Q) (a := h) (l₂ := E ++ S)).append_left A).trans List.perm_middle
  have h2 : (Q ++ (E ++ S)).Perm (E ++ (S ++ Q)) := by rw [← List.append_assoc E]; exact List.perm_append_comm
  have h3 : (A ++ (Q ++ (E ++ S))).Perm (E ++ (A ++ (S ++ Q))) := (h2.append_left A).trans (px3 E A (S ++ Q))
  exact (h1.trans (h3.cons h)).symm
/-- List's slice, of which k have been turned -/
def vals (k : Nat) (es : List Ent) : List Value := (List.replicate k (-9 : Int) ++ (es.map Ent.n).drop k).map (Value.int .i64)
theorem vals_step {k : Nat} {es : List Ent} {e : Ent} (he : es[k]? = some e) : vals k es = (List.replicate k (-9 : Int)).map (Value.int .i64) ++ .int .i64 e.n :: ((es.map Ent.n).drop (k + 1)).map (Value.int .i64) := by
  obtain ⟨hlt, hee⟩ := List.getElem?_eq_some_iff.1 he
  unfold vals
  rw [List.map_append, List.drop_eq_getElem_cons (i := k) (by rw [List.length_map]; exact hlt), List.map_cons, List.getElem_map, hee]
theorem vals_at {q0 rest : List Value} {k : Nat} {es : List Ent} {e : Ent} (he : es[k]? = some e) : (q0 ++ vals k es ++ rest)[q0.length + k * 1]? = some (.int .i64 e.n) := by
  rw [vals_step he, Nat.mul_one, List.append_assoc, List.getElem?_append_right (by omega), show q0.length + k - q0.length = k by omega, List.append_assoc, List.getElem?_append_right (by simp)]
  simp
theorem vals_set {q0 rest : List Value} {k : Nat} {es : List Ent} {e : Ent} (he : es[k]? = some e) : over (q0 ++ vals k es ++ rest) (q0.length + k * 1) [.int .i64 (-9)] = q0 ++ vals (k + 1) es ++ rest := by
  have e1 : q0 ++ vals k es ++ rest = (q0 ++ (List.replicate k (-9 : Int)).map (Value.int .i64)) ++ (.int .i64 e.n :: (((es.map Ent.n).drop (k + 1)).map (Value.int .i64) ++ rest)) := by
    rw [vals_step he]; simp
  have e2 : q0 ++ vals (k + 1) es ++ rest = (q0 ++ (List.replicate k (-9 : Int)).map (Value.int .i64)) ++ [Value.int .i64 (-9)] ++ (((es.map Ent.n).drop (k + 1)).map (Value.int .i64) ++ rest) := by
    unfold vals; rw [List.replicate_succ']; simp
  have e3 : q0.length + k * 1 = (q0 ++ (List.replicate k (-9 : Int)).map (Value.int .i64)).length := by simp
  rw [e1, e2, e3, over_eq _ _ _ (by simp)]
  rfl
theorem vals_len {k : Nat} {es : List Ent} (h : k ≤ es.length) : (vals k es).length = es.length := by
  unfold vals
  rw [List.length_map, List.length_append, List.length_replicate, List.length_drop, List.length_map]
  omega
theorem Mem.call0 {w0 w w' : World} {ks : List Nat} {S S' : Mm} (h : Mem w0 ks S w) (h1 : Mem w (S.map (·.1)) S' w') : Mem w0 ks S' w' := by
  have := Mem.call (S := S) (S' := S') (R := []) (by rw [List.append_nil]; exact h) h1
  rwa [List.append_nil] at this
theorem Mem.now0 {w0 w : World} {ks : List Nat} {S : Mm} (h : Mem w0 ks S w) : Mem w (S.map (·.1)) S w := Mem.now (S := S) (R := []) (by rw [List.append_nil]; exact h)
theorem UdpPorts_any (a : Option Addr) (qs : List Oq) (cap bs off : Nat) (hqa : qs = [] ∨ a = some ⟨bs, off, none⟩) (hql : qs.length ≤ 1000000000000000) (w : World)
    (hqc : ∀ (i : Nat) q, qs[i]? = some q → okW q.kind ∧ okW q.port ∧ okW q.n ∧ q.l.length ≤ q.lcap ∧ StrsAt w [] q.la q.l ∧ ∀ j v, q.cells[j]? = some v → w.cell? ⟨bs, off + i * 4 + j, none⟩ = some v) :
    Calls Try.prog 15 [.slice a qs.length cap].toArray w fun e w' => e = .returned (.bool true) ∧ Mem w [] [] w' := by
  refine calls_of_z Try.func15 rfl Try.ntmps15 rfl (Mem.refl w) ?_; intro cs b hb hk
  repeat (first | (refine st ?_) | (refine stx ?_) | (refine sb ?_) | (intro _))
  ((try (refine sg ?_)); (refine zx_call0 rfl fnc17 rfl rfl (fun w hm => awake16_any w) ?_))
  repeat (first | (refine st ?_) | (refine stx ?_) | (refine sb ?_) | (intro _))
  refine zx_call (Y := Pq) (v := fun x => ptr x.p) (Φ := fun x => x.st = none) (L' := fun x => mQ x) rfl fnc61 rfl rfl (fun w1 hm1 => (NewPortsQ w1).mono fun e w' ⟨x, hx, he, hm'⟩ => ⟨x, hx, he, by have := hm1.trans0 hm'; rwa [List.append_nil] at this⟩) (fun x hx => ?_)
  repeat (first | (refine st ?_) | (refine stx ?_) | (refine sb ?_) | (intro _))
  rename_i pr
  obtain ⟨px, stx0⟩ := x
  obtain rfl : stx0 = none := hx
  refine z_perm (M2 ⟨px, none⟩ ⟨pr, none, []⟩) (List.perm_append_comm (l₁ := [pP px none]) (l₂ := [(pr, .c [.slice none 0 0] 115 0 0)])) ?_
  refine z_loop (fun g : Nat × Pq × Rq => g.1 ≤ qs.length ∧ Rel g.2.1 g.2.2) (fun g => [(0, .slice a qs.length cap), (3, .bool true), (4, ptr g.2.1.p), (5, ptr g.2.2.p), (6, .int .i64 (g.1 : Int))]) (fun g => M2 g.2.1 g.2.2) (fun g => qs.length - g.1) (0, ⟨px, none⟩, ⟨pr, none, []⟩) ⟨Nat.zero_le _, Rel.none0 px pr⟩ ⟨rfl, rfl, rfl, rfl, rfl, trivial⟩ (List.Sublist.refl _) ?_
  intro g hg ih
  obtain ⟨i, x, y⟩ := g
  obtain ⟨hi0, hr⟩ := hg
  simp only at hi0 hr
  refine z_weaken [(0, .slice a qs.length cap), (3, .bool true), (4, ptr x.p), (5, ptr y.p), (6, .int .i64 (i : Int))] (M2 x y) ⟨rfl, rfl, rfl, rfl, rfl, trivial⟩ (List.Sublist.refl _) (fun _ h => h) ?_
  by_cases hi : i < qs.length
  · obtain ⟨q, hq0⟩ : ∃ q, qs[i]? = some q := ⟨_, List.getElem?_eq_getElem hi⟩
    obtain ⟨hk1, hk2, hk3, hcap, hstr, hqc⟩ := hqc i q hq0
    obtain ⟨kind, port, n, la, l, lcap⟩ := q
    have hae : a = some ⟨bs, off, none⟩ := by
      rcases hqa with h | h
      · subst h; exact absurd hi (Nat.not_lt_zero _)
      · exact h
    subst hae
    repeat (first | (refine st ?_) | (refine stx ?_) | (refine sb ?_) | (intro _))
    refine zx_idxA (sz := i * 4) tab_ok rfl rfl rfl rfl rfl rfl (by omega) (by omega) (by simp) ?_
    refine zx_loadBB tab_ok [.int .i64 kind, .int .i64 port, .int .i64 n, .slice la l.length lcap] rfl rfl rfl rfl hqc (by simp) rfl rfl ?_
    (try (refine sg ?_))
    refine zx_call (Y := Pq × Rq) (v := fun _ => .bool true) (Φ := fun g => Rel g.1 g.2 ∧ g.1.p = x.p ∧ g.2.p = y.p) (L' := fun g => M2 g.1 g.2) rfl fnc62 rfl rfl (fun w1 hm1 => (does_any x y hr kind port n la l lcap hk1 hcap w1 (Mem.now0 hm1) (hstr.now hm1 (fun _ hp => hp))).mono fun e w' ⟨g, hg, he, hm'⟩ => ⟨g, hg, he, Mem.call0 hm1 hm'⟩) (fun g hg => ?_)
    obtain ⟨x', py, oy, es⟩ := g
    obtain ⟨hr', hxp, hyp⟩ := hg
    simp only at hr' hxp hyp
    have hrowY : RowOk 3 oy es.length (entC es) := hr'.wy.row
    have hsort : es.Pairwise fun a b => a.n < b.n := hr'.wy.sorted
    repeat (first | (refine st ?_) | (refine stx ?_) | (intro _))
    refine zx_re 30 (ptr x'.p) rfl (by rw [hxp]) ?_
    refine zx_re 4 (ptr x'.p) rfl (by rw [hxp]) ?_
    refine zx_re 5 (ptr py) rfl (by rw [← hyp]) ?_
    have hlen16 : es.length ≤ 16 := hr'.wy.len
    have hxl : x'.cs.length = es.length := hr'.len
    refine zx_call (Y := Own × List Int) (v := fun u => rowV u.1 x'.cs.length) (Φ := fun u => Lso x' u.1 u.2) (L' := fun u => rowL 3 u.1 (u.2.map (Value.int .i64)) ++ M2 x' ⟨py, oy, es⟩) rfl fnc63 rfl rfl (fun w1 hm1 => (ListO x' hr'.wx (by rw [hxl]; exact hlen16) hr'.inr w1 (Mem.now (S := mQ x') (R := mR ⟨py, oy, es⟩) hm1)).mono fun e w' ⟨u, hu, he, hm'⟩ => ⟨u, hu, he, hm1.trans0 hm'⟩) (fun u hu => ?_)
    obtain ⟨o, xs⟩ := u
    have hxs : xs = es.map Ent.n := hr'.list hu
    obtain ⟨_, _, horow⟩ := hu
    simp only at horow
    subst hxs
    rw [hxl] at horow
    refine zx_re 31 (.slice (oA o) es.length (oC o es.length)) rfl (by rw [hxl]; exact sV_of horow) ?_
    refine zx_perm (hdF py oy es.length :: (rowL 121 oy (entC es) ++ (rowL 3 o (vals 0 es) ++ (rowsE es ++ mQ x')))) (by
      show List.Perm _ (rowL 3 o (vals 0 es) ++ (mQ x' ++ mR ⟨py, oy, es⟩))
      rw [mR_A hrowY]
      exact permP _ _ _ _ _) ?_
    repeat (first | (refine st ?_) | (refine stx ?_) | (refine sb ?_) | (intro _))
    refine z_re 43 (.bool false) rfl (by simp) ?_
    repeat (first | (refine st ?_) | (refine stx ?_) | (refine sb ?_) | (intro _))
    refine z_loop (fun k : Nat => k ≤ es.length) (fun k => [(0, .slice (some ⟨bs, off, none⟩) qs.length cap), (3, .bool true), (4, ptr x'.p), (5, ptr py), (6, .int .i64 (i : Int)), (8, .slice (oA o) es.length (oC o es.length)), (9, .int .i64 (k : Int))]) (fun k => hdF py oy es.length :: (rowL 121 oy (entC es) ++ (rowL 3 o (vals k es) ++ (rowsE es ++ mQ x')))) (fun k => es.length - k) 0 (Nat.zero_le _) ⟨rfl, rfl, rfl, rfl, rfl, rfl, rfl, trivial⟩ (List.Sublist.refl _) ?_
    intro k hk0 ihk
    refine z_weaken [(0, .slice (some ⟨bs, off, none⟩) qs.length cap), (3, .bool true), (4, ptr x'.p), (5, ptr py), (6, .int .i64 (i : Int)), (8, .slice (oA o) es.length (oC o es.length)), (9, .int .i64 (k : Int))] (hdF py oy es.length :: (rowL 121 oy (entC es) ++ (rowL 3 o (vals k es) ++ (rowsE es ++ mQ x')))) ⟨rfl, rfl, rfl, rfl, rfl, rfl, rfl, trivial⟩ (List.Sublist.refl _) (fun _ h => h) ?_
    by_cases hklt : k < es.length
    · obtain ⟨e, he⟩ : ∃ e, es[k]? = some e := ⟨_, List.getElem?_eq_getElem hklt⟩
      have hvw : rWait (vw x'.cs e.n) = (e.ws.length : Int) := by
        obtain ⟨hlt, hee⟩ := List.getElem?_eq_some_iff.1 he
        have hsp : es = es.take k ++ e :: es.drop (k + 1) := by rw [← hee, ← List.drop_eq_getElem_cons hlt, List.take_append_drop]
        have h2 := hsort
        rw [hsp] at h2
        have h3 := look_at (post := es.drop (k + 1)) (fun x hx => Int.ne_of_lt ((sorted_at h2).1 x hx))
        rw [← hsp] at h3
        rw [hr'.all e.n]
        show rWait (look es e.n) = _
        rw [h3]
        rfl
      have her : RowOk 1 e.o e.ws.length (strC e.ws) := hr'.wy.rows e (List.mem_of_getElem? he)
      have hc0 : e.cells[2]? = some (.slice (oA e.o) e.ws.length (oC e.o e.ws.length)) := congrArg some (sV_of her)
      cases oy with
      | none => have := hrowY.nil rfl; omega
      | some qy =>
        obtain ⟨b1, p0, r, rest⟩ := qy
        cases o with
        | none => have := horow.nil rfl; omega
        | some q3 =>
          obtain ⟨b3, q0, r3, rest3⟩ := q3
          refine z_mem ((py, .c [.slice (some ⟨b1, p0.length, none⟩) es.length (es.length + r)] 115 0 0) :: (b1, .c (p0 ++ entC es ++ rest) 121 0 0) :: (b3, .c (q0 ++ vals k es ++ rest3) 3 0 0) :: (rowsE es ++ mQ x')) rfl ?_
          refine z_re 8 (.slice (some ⟨b3, q0.length, none⟩) es.length (es.length + r3)) rfl rfl ?_
          repeat (first | (refine st ?_) | (refine stx ?_) | (refine sb ?_) | (intro _))
          refine zx_idxA (sz := k * 1) tab_ok rfl rfl rfl rfl rfl rfl (by omega) (by omega) (by simp) ?_
          refine zx_load tab_ok 2 rfl rfl rfl rfl rfl (vals_at he) rfl ?_
          repeat (first | (refine st ?_) | (refine stx ?_) | (intro _))
          refine zx_idxA (sz := k * 3) tab_ok rfl rfl rfl rfl rfl rfl (by omega) (by omega) (by simp) ?_
          repeat (first | (refine st ?_) | (refine stx ?_) | (intro _))
          refine zx_load tab_ok 1 rfl rfl rfl rfl rfl (ent_at (j := 0) he rfl) rfl ?_
          repeat (first | (refine st ?_) | (refine stx ?_) | (intro _))
          refine zx_re 63 (.bool false) rfl (by simp) ?_
          repeat (first | (refine st ?_) | (refine stx ?_) | (intro _))
          refine zx_idxA (sz := k * 1) tab_ok rfl rfl rfl rfl rfl rfl (by omega) (by omega) (by simp) ?_
          refine zx_load tab_ok 2 rfl rfl rfl rfl rfl (vals_at he) rfl ?_
          ((try (refine sg ?_)); (refine zx_call0 rfl fnc64 rfl rfl (fun w hm => at3q hm (List.perm_append_comm (l₁ := mQ x') (l₂ := _ :: _ :: _ :: rowsE es)) (WaitV x' e.n)) ?_))
          repeat (first | (refine st ?_) | (refine stx ?_) | (intro _))
          refine zx_idxA (sz := k * 3) tab_ok rfl rfl rfl rfl rfl rfl (by omega) (by omega) (by simp) ?_
          repeat (first | (refine st ?_) | (refine stx ?_) | (intro _))
          refine zx_load tab_ok 1 rfl rfl rfl rfl rfl (ent_at (j := 2) he hc0) rfl ?_
          repeat (first | (refine st ?_) | (refine stx ?_) | (intro _))
          refine z_re 80 (.bool false) rfl (by rw [hvw]; simp) ?_
          repeat (first | (refine st ?_) | (refine stx ?_) | (refine sb ?_) | (intro _))
          refine zx_idxA (sz := k * 1) tab_ok rfl rfl rfl rfl rfl rfl (by omega) (by omega) (by simp) ?_
          refine zx_storeG tab_ok 2 rfl rfl rfl rfl rfl rfl rfl rfl (by simp only [List.length_append, vals_len hk0, List.length_cons, List.length_nil]; omega) ?_
          refine zx_mm ((py, .c [.slice (some ⟨b1, p0.length, none⟩) es.length (es.length + r)] 115 0 0) :: (b1, .c (p0 ++ entC es ++ rest) 121 0 0) :: (b3, .c (q0 ++ vals (k + 1) es ++ rest3) 3 0 0) :: (rowsE es ++ mQ x')) (by rw [← vals_set he]; rfl) ?_
          repeat (first | (refine st ?_) | (refine stx ?_) | (intro _))
          refine z_re 9 (.int .i64 ((k + 1 : Nat) : Int)) rfl (congrArg _ (wrW (by omega) (by omega))) ?_
          refine z_weaken _ _ ?_ (List.Sublist.refl _) (fun _ h => h) (ihk (k + 1) hklt (by omega))
          exact ⟨rfl, rfl, rfl, rfl, rfl, rfl, rfl, trivial⟩
    · have hsubL : (hdF py oy es.length :: (rowL 121 oy (entC es) ++ (rowsE es ++ mQ x'))).Sublist (hdF py oy es.length :: (rowL 121 oy (entC es) ++ (rowL 3 o (vals k es) ++ (rowsE es ++ mQ x')))) := List.Sublist.cons_cons _ (List.Sublist.append (List.Sublist.refl _) (List.sublist_append_right _ _))
      have hpermL : (M2 x' ⟨py, oy, es⟩).Perm (hdF py oy es.length :: (rowL 121 oy (entC es) ++ (rowsE es ++ mQ x'))) := by
        unfold M2
        rw [mR_A hrowY]
        exact (permP _ [] _ _ _).symm
      have hpermW : (mQ x' ++ (hdF py oy es.length :: (rowL 121 oy (entC es) ++ (rowL 3 o (vals k es) ++ rowsE es)))).Perm (hdF py oy es.length :: (rowL 121 oy (entC es) ++ (rowL 3 o (vals k es) ++ (rowsE es ++ mQ x')))) := List.perm_append_comm.trans (List.Perm.of_eq (by simp only [List.cons_append, List.append_assoc]))
      cases hv : look es port with
      | none =>
        have hv2 : rWait (vw x'.cs port) = 0 := by rw [hr'.all port]; show rWait (look es port) = 0; rw [hv]; rfl
        repeat (first | (refine st ?_) | (refine stx ?_) | (refine sb ?_) | (intro _))
        refine zx_idxA (sz := i * 4) tab_ok rfl rfl rfl rfl rfl rfl (by omega) (by omega) (by simp) ?_
        repeat (first | (refine st ?_) | (refine stx ?_) | (intro _))
        refine zx_loadB tab_ok rfl rfl rfl rfl (hqc 1 _ rfl) (by simp) rfl ?_
        ((try (refine sg ?_)); (refine zx_call0 rfl fnc65 rfl rfl (fun w hm => at3q hm (List.Perm.refl _) (FindMiss hr'.wy hv)) ?_))
        repeat (first | (refine st ?_) | (refine stx ?_) | (refine sb ?_) | (intro _))
        refine zx_idxA (sz := i * 4) tab_ok rfl rfl rfl rfl rfl rfl (by omega) (by omega) (by simp) ?_
        repeat (first | (refine st ?_) | (refine stx ?_) | (intro _))
        refine zx_loadB tab_ok rfl rfl rfl rfl (hqc 1 _ rfl) (by simp) rfl ?_
        ((try (refine sg ?_)); (refine zx_call0 rfl fnc64 rfl rfl (fun w hm => at3q hm hpermW (WaitV x' port)) ?_))
        repeat (first | (refine st ?_) | (refine stx ?_) | (intro _))
        refine z_re 102 (.bool false) rfl (by rw [hv2]; simp) ?_
        repeat (first | (refine st ?_) | (refine stx ?_) | (refine sb ?_) | (intro _))
        refine z_re 6 (.int .i64 ((i + 1 : Nat) : Int)) rfl (congrArg _ (wrW (by omega) (by omega))) ?_
        refine z_weaken [(0, .slice (some ⟨bs, off, none⟩) qs.length cap), (3, .bool true), (4, ptr x'.p), (5, ptr py), (6, .int .i64 ((i + 1 : Nat) : Int))] (hdF py oy es.length :: (rowL 121 oy (entC es) ++ (rowsE es ++ mQ x'))) ⟨rfl, rfl, rfl, rfl, rfl, trivial⟩ hsubL (fun _ h => h) ?_
        refine z_perm (M2 x' ⟨py, oy, es⟩) hpermL ?_
        exact ih (i + 1, x', ⟨py, oy, es⟩) ⟨hi, hr'⟩ (by show qs.length - (i + 1) < qs.length - i; omega)
      | some v =>
        obtain ⟨pre, e, post, hes, hen, hne, _⟩ := look_some hv
        subst hes
        repeat (first | (refine st ?_) | (refine stx ?_) | (refine sb ?_) | (intro _))
        refine zx_idxA (sz := i * 4) tab_ok rfl rfl rfl rfl rfl rfl (by omega) (by omega) (by simp) ?_
        repeat (first | (refine st ?_) | (refine stx ?_) | (intro _))
        refine zx_loadB tab_ok rfl rfl rfl rfl (hqc 1 _ rfl) (by simp) rfl ?_
        subst hen
        ((try (refine sg ?_)); (refine zx_call0 rfl fnc65 rfl rfl (fun w hm => at3q hm (List.Perm.refl _) (FindHit hr'.wy)) ?_))
        repeat (first | (refine st ?_) | (refine stx ?_) | (refine sb ?_) | (intro _))
        refine z_re 6 (.int .i64 ((i + 1 : Nat) : Int)) rfl (congrArg _ (wrW (by omega) (by omega))) ?_
        refine z_weaken [(0, .slice (some ⟨bs, off, none⟩) qs.length cap), (3, .bool true), (4, ptr x'.p), (5, ptr py), (6, .int .i64 ((i + 1 : Nat) : Int))] (hdF py oy (pre ++ e :: post).length :: (rowL 121 oy (entC (pre ++ e :: post)) ++ (rowsE (pre ++ e :: post) ++ mQ x'))) ⟨rfl, rfl, rfl, rfl, rfl, trivial⟩ hsubL (fun _ h => h) ?_
        refine z_perm (M2 x' ⟨py, oy, (pre ++ e :: post)⟩) hpermL ?_
        exact ih (i + 1, x', ⟨py, oy, (pre ++ e :: post)⟩) ⟨hi, hr'⟩ (by show qs.length - (i + 1) < qs.length - i; omega)
  · repeat (first | (refine st ?_) | (refine stx ?_) | (refine sb ?_) | (intro _))
    refine z_ret1 tab_ok Try.func15 hb hk Try.results15 (.tmp rfl) (fun w hm => ?_)
    exact ⟨rfl, hm.bare⟩
end Go.Proofs.Ytabcaiecoiejkaa
