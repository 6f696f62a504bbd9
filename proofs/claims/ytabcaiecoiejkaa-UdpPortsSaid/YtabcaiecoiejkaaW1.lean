/- Walks of the ports of strings, whatever is open: queue, Waiting, Take, Offer, Shut, Open. Walks of Open of the ports of strings; what each call does, told by what is open. What each call of the ports of strings does, told by what stands at its port alone. -/
import Derived.Test.YtabcaiecoiejkaaU1
set_option maxRecDepth 100000
set_option linter.unusedSimpArgs false
set_option linter.unusedVariables false
set_option maxHeartbeats 4000000
namespace Go.Proofs.Ytabcaiecoiejkaa
open Go K

/-- an open port: its number, its channel's block, its stamp in the map, its room, what waits there -/
structure Chn where
  n : Int
  cb : Nat
  ck : Nat
  cap : Nat
  buf : List ByteArray
  s : Nat
  r : Nat
def Chn.en (c : Chn) : Int × Value × Nat := (c.n, .chan (some c.cb), c.ck)
def Chn.blk (c : Chn) : Nat × Blk := (c.cb, cB c.cap (c.buf.map Value.string) c.s c.r)
def mP (p mb ck : Nat) (cs : List Chn) : Mm := pP p (some mb) :: (mb, mB (cs.map Chn.en) ck) :: cs.map Chn.blk
def mT (p mb ck : Nat) (es : List (Int × Value × Nat)) (cs : List Chn) : Mm := pP p (some mb) :: (mb, mB es ck) :: cs.map Chn.blk
theorem mT_turn (p mb ck : Nat) (pre : List Chn) (c c' : Chn) (post : List Chn) (h : c'.en = c.en) : mT p mb ck ((pre ++ c :: post).map Chn.en) (pre ++ c' :: post) = mP p mb ck (pre ++ c' :: post) := by
  unfold mT mP
  rw [List.map_append (f := Chn.en), List.map_append (f := Chn.en), List.map_cons (f := Chn.en), List.map_cons (f := Chn.en), h]
theorem fnd_hit : ∀ (pre : List Chn) (c : Chn) (post : List Chn) (i : Nat), (∀ x ∈ pre, x.n ≠ c.n) → fnd c.n ((pre ++ c :: post).map Chn.en) i = some (i + pre.length, .chan (some c.cb))
  | [], c, post, i, _ => by
    show (bif c.n == c.n then some (i, Value.chan (some c.cb)) else _) = _
    rw [beq_self_eq_true]; rfl
  | x :: pre, c, post, i, h => by
    have h1 : (c.n == x.n) = false := beq_eq_false_iff_ne.2 (fun hh => h x (List.mem_cons_self ..) hh.symm)
    show (bif c.n == x.n then some (i, Value.chan (some x.cb)) else fnd c.n ((pre ++ c :: post).map Chn.en) (i + 1)) = _
    rw [h1, cond_false, fnd_hit pre c post (i + 1) (fun y hy => h y (List.mem_cons_of_mem _ hy)), List.length_cons]
    congr 2
    omega
theorem fnd_miss : ∀ (cs : List Chn) (n : Int) (i : Nat), (∀ x ∈ cs, x.n ≠ n) → fnd n (cs.map Chn.en) i = none
  | [], _, _, _ => rfl
  | x :: cs, n, i, h => by
    have h1 : (n == x.n) = false := beq_eq_false_iff_ne.2 (fun hh => h x (List.mem_cons_self ..) hh.symm)
    show (bif n == x.n then some (i, Value.chan (some x.cb)) else fnd n (cs.map Chn.en) (i + 1)) = _
    rw [h1, cond_false, fnd_miss cs n (i + 1) (fun y hy => h y (List.mem_cons_of_mem _ hy))]
theorem lkp_hit {pre : List Chn} {c : Chn} {post : List Chn} (h : ∀ x ∈ pre, x.n ≠ c.n) (z : Value) : lkp c.n ((pre ++ c :: post).map Chn.en) z = .chan (some c.cb) := by unfold lkp; rw [fnd_hit pre c post 0 h]; rfl
theorem lkp_miss {cs : List Chn} {n : Int} (h : ∀ x ∈ cs, x.n ≠ n) (z : Value) : lkp n (cs.map Chn.en) z = z := by unfold lkp; rw [fnd_miss cs n 0 h]; rfl
theorem ch_get (X : Mm) (pre : List Chn) (c : Chn) (post : List Chn) : (X ++ (pre ++ c :: post).map Chn.blk)[X.length + pre.length]? = some c.blk := by
  rw [List.getElem?_append_right (by omega), List.map_append, List.getElem?_append_right (by rw [List.length_map]; omega), List.length_map]
  rw [show X.length + pre.length - X.length - pre.length = 0 by omega]
  rfl
theorem ch_set (X : Mm) (pre : List Chn) (c c' : Chn) (post : List Chn) : (X ++ (pre ++ c :: post).map Chn.blk).set (X.length + pre.length) c'.blk = X ++ (pre ++ c' :: post).map Chn.blk := by
  rw [List.set_append_right _ _ (by omega), List.map_append, List.map_append, List.set_append_right _ _ (by rw [List.length_map]; omega), List.length_map]
  rw [show X.length + pre.length - X.length - pre.length = 0 by omega]
  rfl
section
variable (p mb ck : Nat) (pre : List Chn) (c : Chn) (post : List Chn) (hne : ∀ x ∈ pre, x.n ≠ c.n)
include hne
theorem queueS_hit : MQ 117 [ptr p, .int .i64 c.n] (mP p mb ck (pre ++ c :: post)) (.chan (some c.cb)) := by
  intro w h
  refine calls_of_z Try.func117 rfl Try.ntmps117 rfl h ?_; intro cs b hb hk
  repeat (first | (refine st ?_) | (refine stx ?_) | (intro _))
  refine zx_lookup tab_ok 1 rfl rfl rfl zero163 rfl rfl rfl rfl ?_
  refine zx_re 12 (.chan (some c.cb)) rfl (lkp_hit hne _) ?_
  repeat (first | (refine st ?_) | (refine stx ?_) | (intro _))
  refine z_ret1 tab_ok Try.func117 hb hk Try.results117 (.tmp rfl) (fun w hm => ?_)
  exact ⟨rfl, MQ.back h hm (List.Sublist.refl _)⟩
theorem WaitS_hit : MQ 64 [ptr p, .int .i64 c.n] (mP p mb ck (pre ++ c :: post)) (.int .i64 (c.buf.length : Int)) := by
  intro w h
  refine calls_of_z Try.func64 rfl Try.ntmps64 rfl h ?_; intro cs b hb hk
  repeat (first | (refine st ?_) | (refine stx ?_) | (intro _))
  ((try (refine sg ?_)); (refine zx_call0 rfl fnc117 rfl rfl (fun w hm => MQ.use (R := []) (queueS_hit p mb ck pre c post hne) hm) ?_))
  refine zx_lenChan tab_ok (2 + pre.length) rfl rfl rfl (ch_get [_, _] pre c post) rfl ?_
  refine zx_re 8 (.int .i64 (c.buf.length : Int)) rfl (by rw [List.length_map]) ?_
  repeat (first | (refine st ?_) | (refine stx ?_) | (intro _))
  refine z_ret1 tab_ok Try.func64 hb hk Try.results64 (.tmp rfl) (fun w hm => ?_)
  exact ⟨rfl, MQ.back h hm (List.Sublist.refl _)⟩
theorem TakeS_one (x : ByteArray) (rest : List ByteArray) (hbuf : c.buf = x :: rest) : MC 69 [ptr p, .int .i64 c.n] (mP p mb ck (pre ++ c :: post)) (mP p mb ck (pre ++ { c with buf := rest, r := c.r + 1 } :: post)) (.tuple #[.string x, .int .i64 0]) := by
  intro w h
  refine calls_of_z Try.func69 rfl Try.ntmps69 rfl h ?_; intro cs b hb hk
  have hblk : c.blk = (c.cb, cB c.cap (.string x :: rest.map Value.string) c.s c.r) := by unfold Chn.blk; rw [hbuf]; rfl
  repeat (first | (refine st ?_) | (refine stx ?_) | (intro _))
  ((try (refine sg ?_)); (refine zx_call0 rfl fnc117 rfl rfl (fun w hm => MQ.use (R := []) (queueS_hit p mb ck pre c post hne) hm) ?_))
  repeat (first | (refine sn ?_) | (refine stx ?_) | (intro _))
  refine z_selTake tab_ok (2 + pre.length) rfl hk rfl rfl rfl rfl ((ch_get [_, _] pre c post).trans (congrArg some hblk)) (ch_set [_, _] pre c { c with buf := rest, r := c.r + 1 } post) ?_
  repeat (first | (refine sn ?_) | (refine stx ?_) | (intro _))
  refine z_ret2 tab_ok Try.func69 hb hk Try.results69 (.tmp rfl) (.tmp rfl) (fun w hm => ?_)
  exact ⟨rfl, mT_turn p mb ck pre c { c with buf := rest, r := c.r + 1 } post rfl ▸ hm⟩
theorem TakeS_none (hbuf : c.buf = []) : MC 69 [ptr p, .int .i64 c.n] (mP p mb ck (pre ++ c :: post)) (mP p mb ck (pre ++ c :: post)) (.tuple #[.string ⟨#[]⟩, .int .i64 82]) := by
  intro w h
  refine calls_of_z Try.func69 rfl Try.ntmps69 rfl h ?_; intro cs b hb hk
  have hblk : c.blk = (c.cb, cB c.cap [] c.s c.r) := by unfold Chn.blk; rw [hbuf]; rfl
  repeat (first | (refine st ?_) | (refine stx ?_) | (intro _))
  ((try (refine sg ?_)); (refine zx_call0 rfl fnc117 rfl rfl (fun w hm => MQ.use (R := []) (queueS_hit p mb ck pre c post hne) hm) ?_))
  repeat (first | (refine sn ?_) | (refine stx ?_) | (intro _))
  refine z_selNone (z := .string ⟨#[]⟩) tab_ok (2 + pre.length) rfl hk rfl rfl rfl rfl ((ch_get [_, _] pre c post).trans (congrArg some hblk)) (zero_of (by kernel_rfl)) ?_
  repeat (first | (refine sn ?_) | (refine stx ?_) | (intro _))
  refine z_ret2 tab_ok Try.func69 hb hk Try.results69 (.tmp rfl) (.tmp rfl) (fun w hm => ?_)
  exact ⟨rfl, hm⟩
theorem ShutS_hit : MC 67 [ptr p, .int .i64 c.n] (mP p mb ck (pre ++ c :: post)) (mP p mb ck (pre ++ post)) (.int .i64 0) := by
  intro w h
  refine calls_of_z Try.func67 rfl Try.ntmps67 rfl h ?_; intro cs b hb hk
  repeat (first | (refine st ?_) | (refine stx ?_) | (intro _))
  refine zx_lookup tab_ok 1 rfl rfl rfl zero163 rfl rfl rfl rfl ?_
  refine zx_re 14 (.chan (some c.cb)) rfl (lkp_hit hne _) ?_
  repeat (first | (refine st ?_) | (refine stx ?_) | (intro _))
  refine zx_mapDel tab_ok 1 rfl rfl rfl rfl rfl rfl (fnd_hit pre c post 0 hne) rfl ?_
  repeat (first | (refine st ?_) | (refine stx ?_) | (intro _))
  refine z_ret1 tab_ok Try.func67 hb hk Try.results67 (.tmp rfl) (fun w hm => ?_)
  refine ⟨rfl, ?_⟩
  have he : ((pre ++ c :: post).map Chn.en).eraseIdx (0 + pre.length) = (pre ++ post).map Chn.en := by
    rw [Nat.zero_add, List.map_append, List.eraseIdx_append_of_length_le (by rw [List.length_map]; exact Nat.le_refl _), List.length_map, Nat.sub_self, List.map_append]
    rfl
  have hm2 : Mem _ _ (pP p (some mb) :: (mb, mB (((pre ++ c :: post).map Chn.en).eraseIdx (0 + pre.length)) ck) :: (pre ++ c :: post).map Chn.blk) w := hm
  rw [he] at hm2
  refine hm2.weaken (fun _ h => h) (List.Sublist.cons_cons _ (List.Sublist.cons_cons _ ?_))
  rw [List.map_append, List.map_append]
  exact (List.Sublist.refl _).append (List.Sublist.cons _ (List.Sublist.refl _))
/-- what is offered at an open port -/
theorem OfferS_hit (ia : Option Addr) (items : List ByteArray) (icap bi ioff : Nat) (hia : items = [] ∨ (ia = some ⟨bi, ioff, none⟩ ∧ bi ∉ (mP p mb ck (pre ++ c :: post)).map (·.1))) (hil : items.length ≤ 1000000000000000) (hcap : c.buf.length ≤ c.cap) (w : World)
    (h : Mem w ((mP p mb ck (pre ++ c :: post)).map (·.1)) (mP p mb ck (pre ++ c :: post)) w) (hic : ∀ (j : Nat) x, items[j]? = some x → w.cell? ⟨bi, ioff + j, none⟩ = some (.string x)) :
    Calls Try.prog 68 [ptr p, .int .i64 c.n, .slice ia items.length icap].toArray w fun e w' => ∃ s' : Nat, e = .returned (.tuple #[.int .i64 ((min (c.cap - c.buf.length) items.length : Nat) : Int), .int .i64 0]) ∧
      Mem w ((mP p mb ck (pre ++ c :: post)).map (·.1)) (mP p mb ck (pre ++ { c with buf := c.buf ++ items.take (min (c.cap - c.buf.length) items.length), s := s' } :: post)) w' := by
  refine calls_of_z Try.func68 rfl Try.ntmps68 rfl h ?_; intro cs b hb hk
  repeat (first | (refine st ?_) | (refine stx ?_) | (intro _))
  ((try (refine sg ?_)); (refine zx_call0 rfl fnc117 rfl rfl (fun w hm => MQ.use (R := []) (queueS_hit p mb ck pre c post hne) hm) ?_))
  repeat (first | (refine st ?_) | (refine stx ?_) | (intro _))
  generalize hroom : c.cap - c.buf.length = room
  refine z_loop (fun g : Nat × Nat => g.1 ≤ items.length) (fun g => [(0, ptr p), (8, .chan (some c.cb)), (9, .int .i64 ((min room g.1 : Nat) : Int)), (19, .slice ia items.length icap), (20, .int .i64 (items.length : Int)), (21, .int .i64 (g.1 : Int))]) (fun g => mT p mb ck ((pre ++ c :: post).map Chn.en) (pre ++ { c with buf := c.buf ++ items.take (min room g.1), s := g.2 } :: post)) (fun g => items.length - g.1) (0, c.s) (Nat.zero_le _) ⟨rfl, rfl, by rw [Nat.min_zero]; rfl, rfl, rfl, rfl, trivial⟩ (by simp only [Nat.min_zero, List.take_zero, List.append_nil]; exact List.Sublist.refl _) ?_
  intro g hg ih
  obtain ⟨j, s1⟩ := g
  simp only at hg
  refine z_weaken [(0, ptr p), (8, .chan (some c.cb)), (9, .int .i64 ((min room j : Nat) : Int)), (19, .slice ia items.length icap), (20, .int .i64 (items.length : Int)), (21, .int .i64 (j : Int))] (mT p mb ck ((pre ++ c :: post).map Chn.en) (pre ++ { c with buf := c.buf ++ items.take (min room j), s := s1 } :: post)) ⟨rfl, rfl, rfl, rfl, rfl, rfl, trivial⟩ (List.Sublist.refl _) (fun _ h => h) ?_
  by_cases hlt : j < items.length
  · obtain ⟨x, hx⟩ : ∃ x, items[j]? = some x := ⟨_, List.getElem?_eq_getElem hlt⟩
    have hxc := hic j x hx
    have hae : ia = some ⟨bi, ioff, none⟩ ∧ bi ∉ (mP p mb ck (pre ++ c :: post)).map (·.1) := by
      rcases hia with hh | hh
      · subst hh; exact absurd hlt (Nat.not_lt_zero _)
      · exact hh
    obtain ⟨rfl, hbi⟩ := hae
    repeat (first | (refine st ?_) | (refine stx ?_) | (refine sb ?_) | (intro _))
    refine zx_idxA (sz := j * 1) tab_ok rfl rfl rfl rfl rfl rfl (by omega) (by omega) (by simp) ?_
    refine zx_loadB (v := .string x) tab_ok rfl rfl rfl rfl (by rw [Nat.mul_one]; exact hxc) hbi rfl ?_
    repeat (first | (refine sn ?_) | (refine stx ?_) | (intro _))
    by_cases hr : j < room
    · have hlen : ((c.buf ++ items.take (min room j)).map Value.string).length < c.cap := by rw [List.length_map, List.length_append, List.length_take]; omega
      have hnx : (c.buf ++ items.take (min room j)).map Value.string ++ [.string x] = (c.buf ++ items.take (min room (j + 1))).map Value.string := by
        rw [show min room (j + 1) = j + 1 by omega, show min room j = j by omega, List.take_add_one, hx]
        simp
      refine z_selRoom (L' := mT p mb ck ((pre ++ c :: post).map Chn.en) (pre ++ { c with buf := c.buf ++ items.take (min room (j + 1)), s := s1 + 1 } :: post)) tab_ok (2 + pre.length) rfl hk rfl rfl rfl rfl rfl (ch_get [_, _] pre { c with buf := c.buf ++ items.take (min room j), s := s1 } post) hlen (by
        rw [hnx]
        exact ch_set [_, _] pre { c with buf := c.buf ++ items.take (min room j), s := s1 } { c with buf := c.buf ++ items.take (min room (j + 1)), s := s1 + 1 } post) ?_
      repeat (first | (refine sn ?_) | (refine stx ?_) | (intro _))
      refine z_re 9 (.int .i64 ((min room (j + 1) : Nat) : Int)) rfl (congrArg _ (by rw [wr64 (by omega) (by omega)]; omega)) ?_
      refine z_re 21 (.int .i64 ((j + 1 : Nat) : Int)) rfl (congrArg _ (by rw [wr64 (by omega) (by omega)]; omega)) ?_
      refine z_weaken _ _ ?_ (List.Sublist.refl _) (fun _ h => h) (ih (j + 1, s1 + 1) hlt (by show items.length - (j + 1) < items.length - j; omega))
      exact ⟨rfl, rfl, rfl, rfl, rfl, rfl, trivial⟩
    · have hlen : c.cap ≤ ((c.buf ++ items.take (min room j)).map Value.string).length := by rw [List.length_map, List.length_append, List.length_take]; omega
      have hsame : min room (j + 1) = min room j := by omega
      refine z_selFull tab_ok (2 + pre.length) rfl hk rfl rfl rfl rfl rfl (ch_get [_, _] pre { c with buf := c.buf ++ items.take (min room j), s := s1 } post) hlen ?_
      repeat (first | (refine st ?_) | (refine stx ?_) | (refine sb ?_) | (intro _))
      refine z_re 21 (.int .i64 ((j + 1 : Nat) : Int)) rfl (congrArg _ (by rw [wr64 (by omega) (by omega)]; omega)) ?_
      refine z_weaken _ _ ?_ ?_ (fun _ h => h) (ih (j + 1, s1) hlt (by show items.length - (j + 1) < items.length - j; omega))
      · exact ⟨rfl, rfl, by rw [hsame]; rfl, rfl, rfl, rfl, trivial⟩
      · rw [hsame]; exact List.Sublist.refl _
  · have he : j = items.length := by omega
    subst he
    repeat (first | (refine st ?_) | (refine stx ?_) | (refine sb ?_) | (intro _))
    refine z_ret2 tab_ok Try.func68 hb hk Try.results68 (.tmp rfl) (.tmp rfl) (fun w hm => ?_)
    exact ⟨s1, rfl, mT_turn p mb ck pre c { c with buf := c.buf ++ items.take (min room items.length), s := s1 } post rfl ▸ hm⟩
end
section
variable (p mb ck : Nat) (cs : List Chn) (n : Int) (hne : ∀ x ∈ cs, x.n ≠ n)
include hne
theorem queueS_miss : MQ 117 [ptr p, .int .i64 n] (mP p mb ck cs) (.chan none) := by
  intro w h
  refine calls_of_z Try.func117 rfl Try.ntmps117 rfl h ?_; intro _ b hb hk
  repeat (first | (refine st ?_) | (refine stx ?_) | (intro _))
  refine zx_lookup tab_ok 1 rfl rfl rfl zero163 rfl rfl rfl rfl ?_
  refine zx_re 12 (.chan none) rfl (lkp_miss hne _) ?_
  repeat (first | (refine st ?_) | (refine stx ?_) | (intro _))
  refine z_ret1 tab_ok Try.func117 hb hk Try.results117 (.tmp rfl) (fun w hm => ?_)
  exact ⟨rfl, MQ.back h hm (List.Sublist.refl _)⟩
theorem WaitS_miss : MQ 64 [ptr p, .int .i64 n] (mP p mb ck cs) (.int .i64 0) := by
  intro w h
  refine calls_of_z Try.func64 rfl Try.ntmps64 rfl h ?_; intro _ b hb hk
  repeat (first | (refine st ?_) | (refine stx ?_) | (intro _))
  ((try (refine sg ?_)); (refine zx_call0 rfl fnc117 rfl rfl (fun w hm => MQ.use (R := []) (queueS_miss p mb ck cs n hne) hm) ?_))
  refine zx_lenChan0 tab_ok rfl rfl rfl rfl ?_
  repeat (first | (refine st ?_) | (refine stx ?_) | (intro _))
  refine z_ret1 tab_ok Try.func64 hb hk Try.results64 (.tmp rfl) (fun w hm => ?_)
  exact ⟨rfl, MQ.back h hm (List.Sublist.refl _)⟩
theorem TakeS_miss : MC 69 [ptr p, .int .i64 n] (mP p mb ck cs) (mP p mb ck cs) (.tuple #[.string ⟨#[]⟩, .int .i64 80]) := by
  intro w h
  refine calls_of_z Try.func69 rfl Try.ntmps69 rfl h ?_; intro _ b hb hk
  repeat (first | (refine st ?_) | (refine stx ?_) | (intro _))
  ((try (refine sg ?_)); (refine zx_call0 rfl fnc117 rfl rfl (fun w hm => MQ.use (R := []) (queueS_miss p mb ck cs n hne) hm) ?_))
  repeat (first | (refine st ?_) | (refine stx ?_) | (intro _))
  refine z_ret2 tab_ok Try.func69 hb hk Try.results69 (.tmp rfl) (.tmp rfl) (fun w hm => ?_)
  exact ⟨rfl, hm⟩
theorem OfferS_miss (v : Value) : MC 68 [ptr p, .int .i64 n, v] (mP p mb ck cs) (mP p mb ck cs) (.tuple #[.int .i64 0, .int .i64 80]) := by
  intro w h
  refine calls_of_z Try.func68 rfl Try.ntmps68 rfl h ?_; intro _ b hb hk
  repeat (first | (refine st ?_) | (refine stx ?_) | (intro _))
  ((try (refine sg ?_)); (refine zx_call0 rfl fnc117 rfl rfl (fun w hm => MQ.use (R := []) (queueS_miss p mb ck cs n hne) hm) ?_))
  repeat (first | (refine st ?_) | (refine stx ?_) | (intro _))
  refine z_ret2 tab_ok Try.func68 hb hk Try.results68 (.tmp rfl) (.tmp rfl) (fun w hm => ?_)
  exact ⟨rfl, hm⟩
theorem ShutS_miss : MC 67 [ptr p, .int .i64 n] (mP p mb ck cs) (mP p mb ck cs) (.int .i64 80) := by
  intro w h
  refine calls_of_z Try.func67 rfl Try.ntmps67 rfl h ?_; intro _ b hb hk
  repeat (first | (refine st ?_) | (refine stx ?_) | (intro _))
  refine zx_lookup tab_ok 1 rfl rfl rfl zero163 rfl rfl rfl rfl ?_
  refine zx_re 14 (.chan none) rfl (lkp_miss hne _) ?_
  repeat (first | (refine st ?_) | (refine stx ?_) | (intro _))
  refine z_ret1 tab_ok Try.func67 hb hk Try.results67 (.tmp rfl) (fun w hm => ?_)
  exact ⟨rfl, hm⟩
end
section
variable (p : Nat) (n : Int)
theorem queueS_nil : MQ 117 [ptr p, .int .i64 n] [pP p none] (.chan none) := by
  intro w h
  refine calls_of_z Try.func117 rfl Try.ntmps117 rfl h ?_; intro _ b hb hk
  repeat (first | (refine st ?_) | (refine stx ?_) | (intro _))
  refine zx_lookup0 tab_ok rfl rfl rfl zero163 rfl rfl rfl ?_
  repeat (first | (refine st ?_) | (refine stx ?_) | (intro _))
  refine z_ret1 tab_ok Try.func117 hb hk Try.results117 (.tmp rfl) (fun w hm => ?_)
  exact ⟨rfl, MQ.back h hm (List.Sublist.refl _)⟩
theorem WaitS_nil : MQ 64 [ptr p, .int .i64 n] [pP p none] (.int .i64 0) := by
  intro w h
  refine calls_of_z Try.func64 rfl Try.ntmps64 rfl h ?_; intro _ b hb hk
  repeat (first | (refine st ?_) | (refine stx ?_) | (intro _))
  ((try (refine sg ?_)); (refine zx_call0 rfl fnc117 rfl rfl (fun w hm => MQ.use (R := []) (queueS_nil p n) hm) ?_))
  refine zx_lenChan0 tab_ok rfl rfl rfl rfl ?_
  repeat (first | (refine st ?_) | (refine stx ?_) | (intro _))
  refine z_ret1 tab_ok Try.func64 hb hk Try.results64 (.tmp rfl) (fun w hm => ?_)
  exact ⟨rfl, MQ.back h hm (List.Sublist.refl _)⟩
theorem TakeS_nil : MC 69 [ptr p, .int .i64 n] [pP p none] [pP p none] (.tuple #[.string ⟨#[]⟩, .int .i64 80]) := by
  intro w h
  refine calls_of_z Try.func69 rfl Try.ntmps69 rfl h ?_; intro _ b hb hk
  repeat (first | (refine st ?_) | (refine stx ?_) | (intro _))
  ((try (refine sg ?_)); (refine zx_call0 rfl fnc117 rfl rfl (fun w hm => MQ.use (R := []) (queueS_nil p n) hm) ?_))
  repeat (first | (refine st ?_) | (refine stx ?_) | (intro _))
  refine z_ret2 tab_ok Try.func69 hb hk Try.results69 (.tmp rfl) (.tmp rfl) (fun w hm => ?_)
  exact ⟨rfl, hm⟩
theorem OfferS_nil (v : Value) : MC 68 [ptr p, .int .i64 n, v] [pP p none] [pP p none] (.tuple #[.int .i64 0, .int .i64 80]) := by
  intro w h
  refine calls_of_z Try.func68 rfl Try.ntmps68 rfl h ?_; intro _ b hb hk
  repeat (first | (refine st ?_) | (refine stx ?_) | (intro _))
  ((try (refine sg ?_)); (refine zx_call0 rfl fnc117 rfl rfl (fun w hm => MQ.use (R := []) (queueS_nil p n) hm) ?_))
  repeat (first | (refine st ?_) | (refine stx ?_) | (intro _))
  refine z_ret2 tab_ok Try.func68 hb hk Try.results68 (.tmp rfl) (.tmp rfl) (fun w hm => ?_)
  exact ⟨rfl, hm⟩
theorem ShutS_nil : MC 67 [ptr p, .int .i64 n] [pP p none] [pP p none] (.int .i64 80) := by
  intro w h
  refine calls_of_z Try.func67 rfl Try.ntmps67 rfl h ?_; intro _ b hb hk
  repeat (first | (refine st ?_) | (refine stx ?_) | (intro _))
  refine zx_lookup0 tab_ok rfl rfl rfl zero163 rfl rfl rfl ?_
  repeat (first | (refine st ?_) | (refine stx ?_) | (intro _))
  refine z_ret1 tab_ok Try.func67 hb hk Try.results67 (.tmp rfl) (fun w hm => ?_)
  exact ⟨rfl, hm⟩
end
end Go.Proofs.Ytabcaiecoiejkaa
namespace Go.Proofs.Ytabcaiecoiejkaa
open Go K

theorem OpenS_bad (p : Nat) (S : Mm) (n d : Int) (hn : 1 ≤ n ∧ n ≤ 65535) (hd : d < 1 ∨ 16 < d) : MC 66 [ptr p, .int .i64 n, .int .i64 d] S S (.tuple #[.int .i64 0, .int .i64 1]) := by
  intro w h
  refine calls_of_z Try.func66 rfl Try.ntmps66 rfl h ?_; intro cs b hb hk
  by_cases h1 : d < 1
  · repeat (first | (refine st ?_) | (refine stx ?_) | (refine sb ?_) | (intro _))
    refine z_ret2 tab_ok Try.func66 hb hk Try.results66 (.tmp rfl) (.tmp rfl) (fun w hm => ?_)
    exact ⟨rfl, hm⟩
  · have h16 : 16 < d := by omega
    repeat (first | (refine st ?_) | (refine stx ?_) | (refine sb ?_) | (intro _))
    refine z_ret2 tab_ok Try.func66 hb hk Try.results66 (.tmp rfl) (.tmp rfl) (fun w hm => ?_)
    exact ⟨rfl, hm⟩
theorem OpenS_dup (p mb ck : Nat) (pre : List Chn) (c : Chn) (post : List Chn) (hne : ∀ x ∈ pre, x.n ≠ c.n) (d : Nat) (hn : 1 ≤ c.n ∧ c.n ≤ 65535) (hd : 1 ≤ d ∧ d ≤ 16) (hl : (pre ++ c :: post).length < 16) : MC 66 [ptr p, .int .i64 c.n, .int .i64 (d : Int)] (mP p mb ck (pre ++ c :: post)) (mP p mb ck (pre ++ c :: post)) (.tuple #[.int .i64 0, .int .i64 80]) := by
  intro w h
  refine calls_of_z Try.func66 rfl Try.ntmps66 rfl h ?_; intro cs b hb hk
  repeat (first | (refine st ?_) | (refine stx ?_) | (refine sb ?_) | (intro _))
  refine zx_lenMap tab_ok 1 rfl rfl rfl rfl rfl ?_
  refine zx_re 32 (.int .i64 (((pre ++ c :: post).length : Nat) : Int)) rfl (by rw [List.length_map]) ?_
  generalize (pre ++ c :: post).length = len at hl
  repeat (first | (refine st ?_) | (refine stx ?_) | (refine sb ?_) | (intro _))
  refine zx_lookup tab_ok 1 rfl rfl rfl zero163 rfl rfl rfl rfl ?_
  refine zx_re 50 (.chan (some c.cb)) rfl (lkp_hit hne _) ?_
  repeat (first | (refine st ?_) | (refine stx ?_) | (refine sb ?_) | (intro _))
  refine z_ret2 tab_ok Try.func66 hb hk Try.results66 (.tmp rfl) (.tmp rfl) (fun w hm => ?_)
  exact ⟨rfl, hm⟩
theorem OpenS_new (p mb ck : Nat) (cs : List Chn) (n : Int) (hne : ∀ x ∈ cs, x.n ≠ n) (d : Nat) (hn : 1 ≤ n ∧ n ≤ 65535) (hd : 1 ≤ d ∧ d ≤ 16) (hl : cs.length < 16) (w : World) (h : Mem w ((mP p mb ck cs).map (·.1)) (mP p mb ck cs) w) :
    Calls Try.prog 66 [ptr p, .int .i64 n, .int .i64 (d : Int)].toArray w fun e w' => ∃ cb : Nat, e = .returned (.tuple #[.int .i64 n, .int .i64 0]) ∧ Mem w ((mP p mb ck cs).map (·.1)) (mP p mb (ck + 1) (cs ++ [⟨n, cb, ck, d, [], 0, 0⟩])) w' := by
  refine calls_of_z Try.func66 rfl Try.ntmps66 rfl h ?_; intro cs' b hb hk
  repeat (first | (refine st ?_) | (refine stx ?_) | (refine sb ?_) | (intro _))
  refine zx_lenMap tab_ok 1 rfl rfl rfl rfl rfl ?_
  refine zx_re 32 (.int .i64 ((cs.length : Nat) : Int)) rfl (by rw [List.length_map]) ?_
  repeat (first | (refine st ?_) | (refine stx ?_) | (refine sb ?_) | (intro _))
  refine zx_lookup tab_ok 1 rfl rfl rfl zero163 rfl rfl rfl rfl ?_
  refine zx_re 50 (.chan none) rfl (lkp_miss hne _) ?_
  repeat (first | (refine sn ?_) | (refine stx ?_) | (intro _))
  refine z_mem (pP p (some mb) :: (mb, mB (cs.map Chn.en) ck) :: cs.map Chn.blk) rfl ?_
  refine z_regionH [pP p (some mb)] (by rfl) follows_mixed (List.sublist_append_left [_] _) (m := 8) rfl ?_
  refine zh_take 0 (by kernel_rfl) rfl (by kernel_rfl) (by kernel_rfl) ?_ (by simp); (repeat (first | (refine sn ?_) | (refine stx ?_) | (refine sb ?_))); refine zh_took (by rfl) ?_
  refine zh_take 1 (by kernel_rfl) rfl (by kernel_rfl) (by kernel_rfl) ?_ (by simp); (repeat (first | (refine sn ?_) | (refine stx ?_) | (refine sb ?_))); refine zh_took (by rfl) ?_
  refine zh_take 2 (by kernel_rfl) rfl (by kernel_rfl) (by kernel_rfl) ?_ (by simp); (repeat (first | (refine sn ?_) | (refine stx ?_) | (refine sb ?_))); refine zh_took (by rfl) ?_
  refine zh_take 3 (by kernel_rfl) rfl (by kernel_rfl) (by kernel_rfl) ?_ (by simp); (repeat (first | (refine sn ?_) | (refine stx ?_) | (refine sb ?_))); refine zh_took (by rfl) ?_
  refine zh_take 4 (by kernel_rfl) rfl (by kernel_rfl) (by kernel_rfl) ?_ (by simp); (repeat (first | (refine sn ?_) | (refine stx ?_) | (refine sb ?_))); refine zh_took (by rfl) ?_
  refine zh_take 5 (by kernel_rfl) rfl (by kernel_rfl) (by kernel_rfl) ?_ (by simp); (repeat (first | (refine sn ?_) | (refine stx ?_) | (refine sb ?_))); refine zh_took (by rfl) ?_
  refine zh_one 6 rfl (by kernel_rfl) ?_
  refine zx_makeChan (m := d) (nb := 16) tab_ok rfl rfl (by kernel_rfl) rfl (by omega) (by omega) rfl (fun cb => ?_)
  refine zh_oned (by rfl) (by simp) ?_
  refine zh_one 7 rfl (by kernel_rfl) ?_
  refine zx_mapNew tab_ok 2 rfl rfl rfl rfl rfl rfl rfl rfl (fnd_miss cs n 0 hne) ?_
  refine zh_oned (by rfl) (by simp) ?_
  refine zh_end (by rfl) (by kernel_rfl) ?_
  repeat (first | (refine st ?_) | (refine stx ?_) | (intro _))
  refine z_ret2 tab_ok Try.func66 hb hk Try.results66 (.tmp rfl) (.tmp rfl) (fun w hm => ?_)
  refine ⟨cb, rfl, ?_⟩
  have hm2 : Mem _ _ ((cb, cB d [] 0 0) :: pP p (some mb) :: (mb, mB (cs.map Chn.en ++ [(n, .chan (some cb), ck)]) (ck + 1)) :: cs.map Chn.blk) w := hm
  refine hm2.perm ?_
  unfold mP
  rw [List.map_append, List.map_append]
  have := (List.perm_append_singleton (cb, cB d [] 0 0) (pP p (some mb) :: (mb, mB (cs.map Chn.en ++ [(n, .chan (some cb), ck)]) (ck + 1)) :: cs.map Chn.blk))
  exact this
theorem OpenS_first (p : Nat) (n : Int) (d : Nat) (hn : 1 ≤ n ∧ n ≤ 65535) (hd : 1 ≤ d ∧ d ≤ 16) (w : World) (h : Mem w [p] [pP p none] w) :
    Calls Try.prog 66 [ptr p, .int .i64 n, .int .i64 (d : Int)].toArray w fun e w' => ∃ y : Nat × Nat, e = .returned (.tuple #[.int .i64 n, .int .i64 0]) ∧ Mem w [p] (mP p y.1 1 [⟨n, y.2, 0, d, [], 0, 0⟩]) w' := by
  refine calls_of_z Try.func66 rfl Try.ntmps66 rfl h ?_; intro cs' b hb hk
  repeat (first | (refine st ?_) | (refine stx ?_) | (refine sb ?_) | (intro _))
  refine zx_lenMap0 tab_ok rfl rfl rfl rfl ?_
  repeat (first | (refine st ?_) | (refine stx ?_) | (refine sb ?_) | (intro _))
  refine zx_lookup0 tab_ok rfl rfl rfl zero163 rfl rfl rfl ?_
  repeat (first | (refine st ?_) | (refine stx ?_) | (refine sb ?_) | (intro _))
  refine zx_makeMap rfl rfl (fun mb => ?_)
  repeat (first | (refine sn ?_) | (refine stx ?_) | (intro _))
  refine z_regionH [(p, .c [.map (some mb)] 160 0 0)] (by rfl) follows_mixed (by simp) (m := 8) rfl ?_
  refine zh_take 0 (by kernel_rfl) rfl (by kernel_rfl) (by kernel_rfl) ?_ (by simp); (repeat (first | (refine sn ?_) | (refine stx ?_) | (refine sb ?_))); refine zh_took (by rfl) ?_
  refine zh_take 1 (by kernel_rfl) rfl (by kernel_rfl) (by kernel_rfl) ?_ (by simp); (repeat (first | (refine sn ?_) | (refine stx ?_) | (refine sb ?_))); refine zh_took (by rfl) ?_
  refine zh_take 2 (by kernel_rfl) rfl (by kernel_rfl) (by kernel_rfl) ?_ (by simp); (repeat (first | (refine sn ?_) | (refine stx ?_) | (refine sb ?_))); refine zh_took (by rfl) ?_
  refine zh_take 3 (by kernel_rfl) rfl (by kernel_rfl) (by kernel_rfl) ?_ (by simp); (repeat (first | (refine sn ?_) | (refine stx ?_) | (refine sb ?_))); refine zh_took (by rfl) ?_
  refine zh_take 4 (by kernel_rfl) rfl (by kernel_rfl) (by kernel_rfl) ?_ (by simp); (repeat (first | (refine sn ?_) | (refine stx ?_) | (refine sb ?_))); refine zh_took (by rfl) ?_
  refine zh_take 5 (by kernel_rfl) rfl (by kernel_rfl) (by kernel_rfl) ?_ (by simp); (repeat (first | (refine sn ?_) | (refine stx ?_) | (refine sb ?_))); refine zh_took (by rfl) ?_
  refine zh_one 6 rfl (by kernel_rfl) ?_
  refine zx_makeChan (m := d) (nb := 16) tab_ok rfl rfl (by kernel_rfl) rfl (by omega) (by omega) rfl (fun cb => ?_)
  refine zh_oned (by rfl) (by simp) ?_
  refine zh_one 7 rfl (by kernel_rfl) ?_
  refine zx_mapNew tab_ok 1 rfl rfl rfl rfl rfl rfl rfl rfl rfl ?_
  refine zh_oned (by rfl) (by simp) ?_
  refine zh_end (by rfl) (by kernel_rfl) ?_
  repeat (first | (refine st ?_) | (refine stx ?_) | (intro _))
  refine z_ret2 tab_ok Try.func66 hb hk Try.results66 (.tmp rfl) (.tmp rfl) (fun w hm => ?_)
  refine ⟨(mb, cb), rfl, ?_⟩
  have hm2 : Mem _ _ ([(cb, cB d [] 0 0), (mb, mB [(n, .chan (some cb), 0)] 1), pP p (some mb)]) w := hm
  refine hm2.perm ?_
  show [pP p (some mb), (mb, mB [(n, .chan (some cb), 0)] 1), (cb, cB d [] 0 0)].Perm _
  exact (List.reverse_perm [(cb, cB d [] 0 0), (mb, mB [(n, .chan (some cb), 0)] 1), pP p (some mb)])
end Go.Proofs.Ytabcaiecoiejkaa
namespace Go.Proofs.Ytabcaiecoiejkaa
open Go K

/-- ports: their block; the map's block, its clock, what is open, if the map has been made -/
structure Pq where
  p : Nat
  st : Option (Nat × Nat × List Chn)
def Pq.cs (x : Pq) : List Chn := match x.st with
  | none => []
  | some y => y.2.2
def mQ (x : Pq) : Mm := match x.st with
  | none => [pP x.p none]
  | some y => mP x.p y.1 y.2.1 y.2.2
abbrev Vw := Option (Nat × List ByteArray)
/-- what stands at a port -/
def vw (cs : List Chn) (n : Int) : Vw := (cs.find? (fun c => c.n == n)).map fun c => (c.cap, c.buf)
def stampOk (x : Pq) : Prop := match x.st with
  | none => True
  | some y => (∀ c ∈ y.2.2, c.ck < y.2.1) ∧ (y.2.2.map Chn.ck).Nodup
structure WQ (x : Pq) : Prop where
  dist : (x.cs.map Chn.n).Nodup
  caps : ∀ c ∈ x.cs, c.buf.length ≤ c.cap
  stamp : stampOk x
theorem nodup1 {α : Type} (a : α) : [a].Nodup := by simp
theorem vw_none {cs : List Chn} {n : Int} (h : vw cs n = none) : ∀ x ∈ cs, x.n ≠ n := by
  unfold vw at h
  rw [Option.map_eq_none_iff, List.find?_eq_none] at h
  intro x hx hn
  exact h x hx (beq_iff_eq.2 hn)
theorem vw_none_of {cs : List Chn} {n : Int} (h : ∀ x ∈ cs, x.n ≠ n) : vw cs n = none := by
  unfold vw
  rw [Option.map_eq_none_iff, List.find?_eq_none]
  intro x hx hb
  exact h x hx (beq_iff_eq.1 hb)
theorem vw_some {cs : List Chn} {n : Int} {v : Nat × List ByteArray} (h : vw cs n = some v) : ∃ pre c post, cs = pre ++ c :: post ∧ c.n = n ∧ (∀ x ∈ pre, x.n ≠ c.n) ∧ v = (c.cap, c.buf) := by
  unfold vw at h
  obtain ⟨c, hc, hv⟩ := Option.map_eq_some_iff.1 h
  obtain ⟨hn, pre, post, hcs, hp⟩ := List.find?_eq_some_iff_append.1 hc
  refine ⟨pre, c, post, hcs, beq_iff_eq.1 hn, fun x hx hh => ?_, hv.symm⟩
  have := hp x hx
  rw [Bool.not_eq_true', beq_eq_false_iff_ne] at this
  exact this (hh.trans (beq_iff_eq.1 hn))
theorem vw_at {pre : List Chn} {c : Chn} {post : List Chn} (h : ∀ x ∈ pre, x.n ≠ c.n) : vw (pre ++ c :: post) c.n = some (c.cap, c.buf) := by
  unfold vw
  have : (pre ++ c :: post).find? (fun x => x.n == c.n) = some c := List.find?_eq_some_iff_append.2 ⟨beq_self_eq_true _, pre, post, rfl, fun x hx => by rw [Bool.not_eq_true', beq_eq_false_iff_ne]; exact h x hx⟩
  rw [this]; rfl
theorem vw_other {pre : List Chn} {c c' : Chn} {post : List Chn} (hn : c'.n = c.n) (m : Int) (hm : m ≠ c.n) : vw (pre ++ c' :: post) m = vw (pre ++ c :: post) m := by
  unfold vw
  rw [List.find?_append, List.find?_append, List.find?_cons_of_neg, List.find?_cons_of_neg]
  · rw [beq_iff_eq]; exact fun hh => hm hh.symm
  · rw [beq_iff_eq, hn]; exact fun hh => hm hh.symm
theorem vw_struck {pre : List Chn} {c : Chn} {post : List Chn} (m : Int) (hm : m ≠ c.n) : vw (pre ++ post) m = vw (pre ++ c :: post) m := by
  unfold vw
  rw [List.find?_append, List.find?_append, List.find?_cons_of_neg]
  rw [beq_iff_eq]; exact fun hh => hm hh.symm
theorem vw_new {cs : List Chn} {c : Chn} (h : ∀ x ∈ cs, x.n ≠ c.n) : vw (cs ++ [c]) c.n = some (c.cap, c.buf) := vw_at (post := []) h
theorem vw_new_other {cs : List Chn} {c : Chn} (m : Int) (hm : m ≠ c.n) : vw (cs ++ [c]) m = vw cs m := by
  unfold vw
  rw [List.find?_append, List.find?_cons_of_neg (by rw [beq_iff_eq]; exact fun hh => hm hh.symm), List.find?_nil, Option.or_none]
/-- x has become x' by a call of port n, where r stands now -/
structure Stp (x x' : Pq) (n : Int) (r : Vw) : Prop where
  p : x'.p = x.p
  wq : WQ x'
  here : vw x'.cs n = r
  others : ∀ m, m ≠ n → vw x'.cs m = vw x.cs m
theorem Stp.same {x : Pq} {n : Int} (h : WQ x) : Stp x x n (vw x.cs n) := ⟨rfl, h, rfl, fun _ _ => rfl⟩
def VC (f : Nat) (args : List Value) (x : Pq) (v : Value) (n : Int) (r : Vw) : Prop := ∀ w, Mem w ((mQ x).map (·.1)) (mQ x) w → Calls Try.prog f args.toArray w fun e w' => ∃ x' : Pq, Stp x x' n r ∧ e = .returned v ∧ Mem w ((mQ x).map (·.1)) (mQ x') w'
theorem VC.use {f : Nat} {args : List Value} {x : Pq} {v : Value} {n : Int} {r : Vw} (h : VC f args x v n r) {w0 w : World} {ks : List Nat} {R : Mm} (hm : Mem w0 ks (R ++ mQ x) w) :
    Calls Try.prog f args.toArray w fun e w' => ∃ x' : Pq, Stp x x' n r ∧ e = .returned v ∧ Mem w0 ks (R ++ mQ x') w' := by
  have hm2 := hm.perm (L' := mQ x ++ R) List.perm_append_comm
  refine (h w (Mem.now (S := mQ x) (R := R) hm2)).mono fun e w' ⟨x', hs, he, hm'⟩ => ⟨x', hs, he, ?_⟩
  exact (Mem.call (S := mQ x) (S' := mQ x') (R := R) hm2 hm').perm List.perm_append_comm
theorem VC.ofMC {f : Nat} {args : List Value} {x x' : Pq} {v : Value} {n : Int} {r : Vw} (h : MC f args (mQ x) (mQ x') v) (hs : Stp x x' n r) : VC f args x v n r := fun w hw => (h w hw).mono fun e w' ⟨he, hm⟩ => ⟨x', hs, he, hm⟩
/-- one port's channel turned -/
theorem Stp.turn {p mb ck : Nat} {pre : List Chn} {c c' : Chn} {post : List Chn} (h : WQ ⟨p, some (mb, ck, pre ++ c :: post)⟩) (hne : ∀ x ∈ pre, x.n ≠ c.n) (hn : c'.n = c.n) (hk : c'.ck = c.ck) (hb : c'.buf.length ≤ c'.cap) : Stp ⟨p, some (mb, ck, pre ++ c :: post)⟩ ⟨p, some (mb, ck, pre ++ c' :: post)⟩ c.n (some (c'.cap, c'.buf)) := by
  have hd : ((pre ++ c :: post).map Chn.n).Nodup := h.dist
  have hc : ∀ x ∈ pre ++ c :: post, x.buf.length ≤ x.cap := h.caps
  obtain ⟨hs1, hs2⟩ : (∀ x ∈ pre ++ c :: post, x.ck < ck) ∧ ((pre ++ c :: post).map Chn.ck).Nodup := h.stamp
  have e1 : (pre ++ c' :: post).map Chn.n = (pre ++ c :: post).map Chn.n := by rw [List.map_append, List.map_append, List.map_cons, List.map_cons, hn]
  have e2 : (pre ++ c' :: post).map Chn.ck = (pre ++ c :: post).map Chn.ck := by rw [List.map_append, List.map_append, List.map_cons, List.map_cons, hk]
  refine ⟨rfl, ⟨?_, ?_, ?_, ?_⟩, ?_, fun m hm => vw_other hn m hm⟩
  · show ((pre ++ c' :: post).map Chn.n).Nodup
    rw [e1]; exact hd
  · intro x hx
    rcases List.mem_append.1 hx with hx | hx
    · exact hc x (List.mem_append_left _ hx)
    · rcases List.mem_cons.1 hx with rfl | hx
      · exact hb
      · exact hc x (List.mem_append_right _ (List.mem_cons_of_mem _ hx))
  · intro x hx
    rcases List.mem_append.1 hx with hx | hx
    · exact hs1 x (List.mem_append_left _ hx)
    · rcases List.mem_cons.1 hx with rfl | hx
      · show x.ck < ck
        rw [hk]; exact hs1 c (List.mem_append_right _ (List.mem_cons_self ..))
      · exact hs1 x (List.mem_append_right _ (List.mem_cons_of_mem _ hx))
  · show ((pre ++ c' :: post).map Chn.ck).Nodup
    rw [e2]; exact hs2
  · have := vw_at (c := c') (post := post) (pre := pre) (fun x hx => by rw [hn]; exact hne x hx)
    rw [hn] at this
    exact this
def rTake : Vw → ByteArray × Int
  | none => (⟨#[]⟩, 80)
  | some (_, []) => (⟨#[]⟩, 82)
  | some (_, x :: _) => (x, 0)
def nTake : Vw → Vw
  | none => none
  | some (c, []) => some (c, [])
  | some (c, _ :: l) => some (c, l)
theorem TakeV (x : Pq) (n : Int) (hx : WQ x) : VC 69 [ptr x.p, .int .i64 n] x (.tuple #[.string (rTake (vw x.cs n)).1, .int .i64 (rTake (vw x.cs n)).2]) n (nTake (vw x.cs n)) := by
  obtain ⟨p, st⟩ := x
  cases st with
  | none => exact VC.ofMC (x' := ⟨p, none⟩) (TakeS_nil p n) (Stp.same hx)
  | some y =>
    obtain ⟨mb, ck, cs⟩ := y
    cases hv : vw cs n with
    | none =>
      have h1 := TakeS_miss p mb ck cs n (vw_none hv)
      have h2 : Stp ⟨p, some (mb, ck, cs)⟩ ⟨p, some (mb, ck, cs)⟩ n (vw cs n) := Stp.same hx
      show VC 69 _ _ (.tuple #[.string (rTake (vw cs n)).1, .int .i64 (rTake (vw cs n)).2]) n (nTake (vw cs n))
      rw [hv] at h2 ⊢
      exact VC.ofMC (x' := ⟨p, some (mb, ck, cs)⟩) h1 h2
    | some v =>
      obtain ⟨pre, c, post, rfl, rfl, hne, rfl⟩ := vw_some hv
      show VC 69 _ _ (.tuple #[.string (rTake (vw (pre ++ c :: post) c.n)).1, .int .i64 (rTake (vw (pre ++ c :: post) c.n)).2]) c.n (nTake (vw (pre ++ c :: post) c.n))
      have h2 : Stp ⟨p, some (mb, ck, pre ++ c :: post)⟩ ⟨p, some (mb, ck, pre ++ c :: post)⟩ c.n (vw (pre ++ c :: post) c.n) := Stp.same hx
      rw [hv] at h2 ⊢
      cases hb : c.buf with
      | nil =>
        rw [hb] at h2
        exact VC.ofMC (x' := ⟨p, some (mb, ck, pre ++ c :: post)⟩) (TakeS_none p mb ck pre c post hne hb) h2
      | cons z rest =>
        have hcap := hx.caps c (List.mem_append_right _ (List.mem_cons_self ..))
        rw [hb] at hcap
        exact VC.ofMC (x' := ⟨p, some (mb, ck, pre ++ { c with buf := rest, r := c.r + 1 } :: post)⟩) (TakeS_one p mb ck pre c post hne z rest hb) (Stp.turn (c' := { c with buf := rest, r := c.r + 1 }) hx hne rfl rfl (by show rest.length ≤ c.cap; simp only [List.length_cons] at hcap; omega))
def rShut : Vw → Int
  | none => 80
  | some _ => 0
theorem ShutV (x : Pq) (n : Int) (hx : WQ x) : VC 67 [ptr x.p, .int .i64 n] x (.int .i64 (rShut (vw x.cs n))) n none := by
  obtain ⟨p, st⟩ := x
  cases st with
  | none => exact VC.ofMC (x' := ⟨p, none⟩) (ShutS_nil p n) (Stp.same hx)
  | some y =>
    obtain ⟨mb, ck, cs⟩ := y
    cases hv : vw cs n with
    | none =>
      have h1 := ShutS_miss p mb ck cs n (vw_none hv)
      have h2 : Stp ⟨p, some (mb, ck, cs)⟩ ⟨p, some (mb, ck, cs)⟩ n (vw cs n) := Stp.same hx
      show VC 67 _ _ (.int .i64 (rShut (vw cs n))) n none
      rw [hv] at h2 ⊢
      exact VC.ofMC (x' := ⟨p, some (mb, ck, cs)⟩) h1 h2
    | some v =>
      obtain ⟨pre, c, post, rfl, rfl, hne, rfl⟩ := vw_some hv
      show VC 67 _ _ (.int .i64 (rShut (vw (pre ++ c :: post) c.n))) c.n none
      rw [hv]
      have hd : ((pre ++ c :: post).map Chn.n).Nodup := hx.dist
      have hc : ∀ x ∈ pre ++ c :: post, x.buf.length ≤ x.cap := hx.caps
      obtain ⟨hs1, hs2⟩ : (∀ x ∈ pre ++ c :: post, x.ck < ck) ∧ ((pre ++ c :: post).map Chn.ck).Nodup := hx.stamp
      have hsub : (pre ++ post).Sublist (pre ++ c :: post) := (List.Sublist.refl _).append (List.Sublist.cons _ (List.Sublist.refl _))
      refine VC.ofMC (x' := ⟨p, some (mb, ck, pre ++ post)⟩) (ShutS_hit p mb ck pre c post hne) ⟨rfl, ⟨hd.sublist (hsub.map _), fun x hx => hc x (hsub.subset hx), fun x hx => hs1 x (hsub.subset hx), hs2.sublist (hsub.map _)⟩, ?_, fun m hm => vw_struck m hm⟩
      refine vw_none_of fun x hxm hxn => ?_
      rw [List.map_append, List.map_cons, List.nodup_append, List.nodup_cons] at hd
      rcases List.mem_append.1 hxm with h | h
      · exact hne x h hxn
      · exact hd.2.1.1 (List.mem_map.2 ⟨x, h, hxn⟩)
def rOpen (v : Vw) (n : Int) (d : Nat) : Int × Int := if 16 < d then (0, 1) else if v.isSome then (0, 80) else (n, 0)
def nOpen (v : Vw) (d : Nat) : Vw := if 16 < d then v else if v.isSome then v else some (d, [])
theorem OpenV (x : Pq) (n : Int) (d : Nat) (hx : WQ x) (hn : 1 ≤ n ∧ n ≤ 65535) (hd : 1 ≤ d) (hl : x.cs.length < 16) : VC 66 [ptr x.p, .int .i64 n, .int .i64 (d : Int)] x (.tuple #[.int .i64 (rOpen (vw x.cs n) n d).1, .int .i64 (rOpen (vw x.cs n) n d).2]) n (nOpen (vw x.cs n) d) := by
  unfold rOpen nOpen
  by_cases h16 : 16 < d
  · rw [if_pos h16, if_pos h16]
    exact VC.ofMC (OpenS_bad x.p (mQ x) n d hn (.inr (by omega))) (Stp.same hx)
  · rw [if_neg h16, if_neg h16]
    obtain ⟨p, st⟩ := x
    cases st with
    | none =>
      intro w hw
      refine (OpenS_first p n d hn ⟨hd, by omega⟩ w hw).mono fun e w' ⟨y, he, hm⟩ => ⟨⟨p, some (y.1, 1, [Chn.mk n y.2 0 d [] 0 0])⟩, ⟨rfl, ⟨nodup1 _, fun c hc => ?_, fun c hc => ?_, nodup1 _⟩, ?_, fun m hm => ?_⟩, he, hm⟩
      · rw [List.mem_singleton.1 hc]; exact Nat.zero_le _
      · rw [List.mem_singleton.1 hc]; exact Nat.one_pos
      · exact vw_new (cs := []) (c := ⟨n, y.2, 0, d, [], 0, 0⟩) (fun x hx => by cases hx)
      · exact vw_new_other (cs := []) (c := ⟨n, y.2, 0, d, [], 0, 0⟩) m hm
    | some y =>
      obtain ⟨mb, ck, cs⟩ := y
      have hl : cs.length < 16 := hl
      show VC 66 _ _ (.tuple #[.int .i64 (if (vw cs n).isSome then ((0, 80) : Int × Int) else (n, 0)).1, .int .i64 (if (vw cs n).isSome then ((0, 80) : Int × Int) else (n, 0)).2]) n (if (vw cs n).isSome then vw cs n else some (d, []))
      cases hv : vw cs n with
      | none =>
        have hne := vw_none hv
        have hd0 : (cs.map Chn.n).Nodup := hx.dist
        have hc0 : ∀ x ∈ cs, x.buf.length ≤ x.cap := hx.caps
        obtain ⟨hs1, hs2⟩ : (∀ x ∈ cs, x.ck < ck) ∧ (cs.map Chn.ck).Nodup := hx.stamp
        intro w hw
        refine (OpenS_new p mb ck cs n hne d hn ⟨hd, by omega⟩ hl w hw).mono fun e w' ⟨cb, he, hm⟩ => ⟨⟨p, some (mb, ck + 1, cs ++ [Chn.mk n cb ck d [] 0 0])⟩, ⟨rfl, ⟨?_, fun c hc => ?_, fun c hc => ?_, ?_⟩, ?_, fun m hm => ?_⟩, he, hm⟩
        · show ((cs ++ [Chn.mk n cb ck d [] 0 0]).map Chn.n).Nodup
          rw [List.map_append, List.nodup_append]
          refine ⟨hd0, (by simp), fun a ha b hb => ?_⟩
          rw [List.map_singleton, List.mem_singleton] at hb
          obtain ⟨x, hx1, rfl⟩ := List.mem_map.1 ha
          rw [hb]; exact hne x hx1
        · rcases List.mem_append.1 hc with h | h
          · exact hc0 c h
          · rw [List.mem_singleton.1 h]; exact Nat.zero_le _
        · rcases List.mem_append.1 hc with h | h
          · exact Nat.lt_succ_of_lt (hs1 c h)
          · rw [List.mem_singleton.1 h]; exact Nat.lt_succ_self _
        · show ((cs ++ [Chn.mk n cb ck d [] 0 0]).map Chn.ck).Nodup
          rw [List.map_append, List.nodup_append]
          refine ⟨hs2, (by simp), fun a ha b hb => ?_⟩
          rw [List.map_singleton, List.mem_singleton] at hb
          obtain ⟨x, hx1, rfl⟩ := List.mem_map.1 ha
          rw [hb]
          exact Nat.ne_of_lt (hs1 x hx1)
        · exact vw_new (c := ⟨n, cb, ck, d, [], 0, 0⟩) hne
        · exact vw_new_other (c := ⟨n, cb, ck, d, [], 0, 0⟩) m hm
      | some v =>
        obtain ⟨pre, c, post, rfl, rfl, hne, rfl⟩ := vw_some hv
        have h2 : Stp ⟨p, some (mb, ck, pre ++ c :: post)⟩ ⟨p, some (mb, ck, pre ++ c :: post)⟩ c.n (vw (pre ++ c :: post) c.n) := Stp.same hx
        rw [hv] at h2
        exact VC.ofMC (x' := ⟨p, some (mb, ck, pre ++ c :: post)⟩) (OpenS_dup p mb ck pre c post hne d hn ⟨hd, by omega⟩ hl) h2
def rWait : Vw → Int
  | none => 0
  | some v => (v.2.length : Int)
theorem WaitV (x : Pq) (n : Int) : MQ 64 [ptr x.p, .int .i64 n] (mQ x) (.int .i64 (rWait (vw x.cs n))) := by
  obtain ⟨p, st⟩ := x
  cases st with
  | none => exact WaitS_nil p n
  | some y =>
    obtain ⟨mb, ck, cs⟩ := y
    show MQ 64 _ _ (.int .i64 (rWait (vw cs n)))
    cases hv : vw cs n with
    | none => exact WaitS_miss p mb ck cs n (vw_none hv)
    | some v =>
      obtain ⟨pre, c, post, rfl, rfl, hne, rfl⟩ := vw_some hv
      exact WaitS_hit p mb ck pre c post hne
def rOffer (v : Vw) (l : List ByteArray) : Int × Int := match v with
  | none => (0, 80)
  | some v => (((min (v.1 - v.2.length) l.length : Nat) : Int), 0)
def nOffer (v : Vw) (l : List ByteArray) : Vw := v.map fun v => (v.1, v.2 ++ l.take (min (v.1 - v.2.length) l.length))
/-- some strings lie in w, in no block of ks -/
def StrsAt (w : World) (ks : List Nat) (ia : Option Addr) (l : List ByteArray) : Prop := ∃ bi ioff : Nat, (l = [] ∨ (ia = some ⟨bi, ioff, none⟩ ∧ bi ∉ ks)) ∧ l.length ≤ 1000000000000000 ∧ ∀ (j : Nat) x, l[j]? = some x → w.cell? ⟨bi, ioff + j, none⟩ = some (.string x)
theorem OfferV (x : Pq) (n : Int) (ia : Option Addr) (l : List ByteArray) (icap : Nat) (hx : WQ x) (w : World) (hw : Mem w ((mQ x).map (·.1)) (mQ x) w) (hl : StrsAt w ((mQ x).map (·.1)) ia l) :
    Calls Try.prog 68 [ptr x.p, .int .i64 n, .slice ia l.length icap].toArray w fun e w' => ∃ x' : Pq, Stp x x' n (nOffer (vw x.cs n) l) ∧ e = .returned (.tuple #[.int .i64 (rOffer (vw x.cs n) l).1, .int .i64 (rOffer (vw x.cs n) l).2]) ∧ Mem w ((mQ x).map (·.1)) (mQ x') w' := by
  obtain ⟨p, st⟩ := x
  cases st with
  | none => exact (OfferS_nil p n _ w hw).mono fun e w' ⟨he, hm⟩ => ⟨⟨p, none⟩, Stp.same hx, he, hm⟩
  | some y =>
    obtain ⟨mb, ck, cs⟩ := y
    show Calls _ _ _ _ fun e w' => ∃ x' : Pq, Stp _ x' n (nOffer (vw cs n) l) ∧ e = .returned (.tuple #[.int .i64 (rOffer (vw cs n) l).1, .int .i64 (rOffer (vw cs n) l).2]) ∧ Mem w _ (mQ x') w'
    cases hv : vw cs n with
    | none =>
      have h2 : Stp ⟨p, some (mb, ck, cs)⟩ ⟨p, some (mb, ck, cs)⟩ n (vw cs n) := Stp.same hx
      rw [hv] at h2
      exact (OfferS_miss p mb ck cs n (vw_none hv) _ w hw).mono fun e w' ⟨he, hm⟩ => ⟨⟨p, some (mb, ck, cs)⟩, h2, he, hm⟩
    | some v =>
      obtain ⟨pre, c, post, rfl, rfl, hne, rfl⟩ := vw_some hv
      obtain ⟨bi, ioff, h1, h2, h3⟩ := hl
      have hcap := hx.caps c (List.mem_append_right _ (List.mem_cons_self ..))
      refine (OfferS_hit p mb ck pre c post hne ia l icap bi ioff h1 h2 hcap w hw h3).mono fun e w' ⟨s', he, hm⟩ => ⟨⟨p, some (mb, ck, pre ++ { c with buf := c.buf ++ l.take (min (c.cap - c.buf.length) l.length), s := s' } :: post)⟩, ?_, he, hm⟩
      exact Stp.turn (c' := { c with buf := c.buf ++ l.take (min (c.cap - c.buf.length) l.length), s := s' }) hx hne rfl rfl (by
        show (c.buf ++ l.take _).length ≤ c.cap
        rw [List.length_append, List.length_take]
        omega)
end Go.Proofs.Ytabcaiecoiejkaa
