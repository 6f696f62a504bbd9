/- Walks of the ports of strings, whatever is open: queue, Waiting, Take, Offer, Shut, Open. -/
import Derived.Test.YtabcaiecoiejkaaU1
set_option maxRecDepth 100000
set_option linter.unusedSimpArgs false
set_option linter.unusedVariables false
set_option maxHeartbeats 4000000
namespace Go.Proofs.Ytabcaiecoiejkaa
open Go K

/-- an open port: its number, its channel's block, its stamp in the map, its room, what waits there -/
structure Chn where
  n : Int
  cb : Nat
  ck : Nat
  cap : Nat
  buf : List ByteArray
  s : Nat
  r : Nat
def Chn.en (c : Chn) : Int × Value × Nat := (c.n, .chan (some c.cb), c.ck)
def Chn.blk (c : Chn) : Nat × Blk := (c.cb, cB c.cap (c.buf.map Value.string) c.s c.r)
def mP (p mb ck : Nat) (cs : List Chn) : Mm := pP p (some mb) :: (mb, mB (cs.map Chn.en) ck) :: cs.map Chn.blk
def mT (p mb ck : Nat) (es : List (Int × Value × Nat)) (cs : List Chn) : Mm := pP p (some mb) :: (mb, mB es ck) :: cs.map Chn.blk
theorem mT_turn (p mb ck : Nat) (pre : List Chn) (c c' : Chn) (post : List Chn) (h : c'.en = c.en) : mT p mb ck ((pre ++ c :: post).map Chn.en) (pre ++ c' :: post) = mP p mb ck (pre ++ c' :: post) := by
  unfold mT mP
  rw [List.map_append (f := Chn.en), List.map_append (f := Chn.en), List.map_cons (f := Chn.en), List.map_cons (f := Chn.en), h]
theorem fnd_hit : ∀ (pre : List Chn) (c : Chn) (post : List Chn) (i : Nat), (∀ x ∈ pre, x.n ≠ c.n) → fnd c.n ((pre ++ c :: post).map Chn.en) i = some (i + pre.length, .chan (some c.cb))
  | [], c, post, i, _ => by
    show (bif c.n == c.n then some (i, Value.chan (some c.cb)) else _) = _
    rw [beq_self_eq_true]; rfl
  | x :: pre, c, post, i, h => by
    have h1 : (c.n == x.n) = false := beq_eq_false_iff_ne.2 (fun hh => h x (List.mem_cons_self ..) hh.symm)
    show (bif c.n == x.n then some (i, Value.chan (some x.cb)) else fnd c.n ((pre ++ c :: post).map Chn.en) (i + 1)) = _
    rw [h1, cond_false, fnd_hit pre c post (i + 1) (fun y hy => h y (List.mem_cons_of_mem _ hy)), List.length_cons]
    congr 2
    omega
theorem fnd_miss : ∀ (cs : List Chn) (n : Int) (i : Nat), (∀ x ∈ cs, x.n ≠ n) → fnd n (cs.map Chn.en) i = none
  | [], _, _, _ => rfl
  | x :: cs, n, i, h => by
    have h1 : (n == x.n) = false := beq_eq_false_iff_ne.2 (fun hh => h x (List.mem_cons_self ..) hh.symm)
    show (bif n == x.n then some (i, Value.chan (some x.cb)) else fnd n (cs.map Chn.en) (i + 1)) = _
    rw [h1, cond_false, fnd_miss cs n (i + 1) (fun y hy => h y (List.mem_cons_of_mem _ hy))]
theorem lkp_hit {pre : List Chn} {c : Chn} {post : List Chn} (h : ∀ x ∈ pre, x.n ≠ c.n) (z : Value) : lkp c.n ((pre ++ c :: post).map Chn.en) z = .chan (some c.cb) := by unfold lkp; rw [fnd_hit pre c post 0 h]; rfl
theorem lkp_miss {cs : List Chn} {n : Int} (h : ∀ x ∈ cs, x.n ≠ n) (z : Value) : lkp n (cs.map Chn.en) z = z := by unfold lkp; rw [fnd_miss cs n 0 h]; rfl
theorem ch_get (X : Mm) (pre : List Chn) (c : Chn) (post : List Chn) : (X ++ (pre ++ c :: post).map Chn.blk)[X.length + pre.length]? = some c.blk := by
  rw [List.getElem?_append_right (by omega), List.map_append, List.getElem?_append_right (by rw [List.length_map]; omega), List.length_map]
  rw [show X.length + pre.length - X.length - pre.length = 0 by omega]
  rfl
theorem ch_set (X : Mm) (pre : List Chn) (c c' : Chn) (post : List Chn) : (X ++ (pre ++ c :: post).map Chn.blk).set (X.length + pre.length) c'.blk = X ++ (pre ++ c' :: post).map Chn.blk := by
  rw [List.set_append_right _ _ (by omega), List.map_append, List.map_append, List.set_append_right _ _ (by rw [List.length_map]; omega), List.length_map]
  rw [show X.length + pre.length - X.length - pre.length = 0 by omega]
  rfl
section
variable (p mb ck : Nat) (pre : List Chn) (c : Chn) (post : List Chn) (hne : ∀ x ∈ pre, x.n ≠ c.n)
include hne
theorem queueS_hit : MQ 117 [ptr p, .int .i64 c.n] (mP p mb ck (pre ++ c :: post)) (.chan (some c.cb)) := by
  intro w h
  refine calls_of_z Try.func117 rfl Try.ntmps117 rfl h ?_; intro cs b hb hk
  repeat (first | (refine st ?_) | (refine stx ?_) | (intro _))
  refine zx_lookup tab_ok 1 rfl rfl rfl zero163 rfl rfl rfl rfl ?_
  refine zx_re 12 (.chan (some c.cb)) rfl (lkp_hit hne _) ?_
  repeat (first | (refine st ?_) | (refine stx ?_) | (intro _))
  refine z_ret1 tab_ok Try.func117 hb hk Try.results117 (.tmp rfl) (fun w hm => ?_)
  exact ⟨rfl, MQ.back h hm (List.Sublist.refl _)⟩
theorem WaitS_hit : MQ 64 [ptr p, .int .i64 c.n] (mP p mb ck (pre ++ c :: post)) (.int .i64 (c.buf.length : Int)) := by
  intro w h
  refine calls_of_z Try.func64 rfl Try.ntmps64 rfl h ?_; intro cs b hb hk
  repeat (first | (refine st ?_) | (refine stx ?_) | (intro _))
  ((try (refine sg ?_)); (refine zx_call0 rfl fnc117 rfl rfl (fun w hm => MQ.use (R := []) (queueS_hit p mb ck pre c post hne) hm) ?_))
  refine zx_lenChan tab_ok (2 + pre.length) rfl rfl rfl (ch_get [_, _] pre c post) rfl ?_
  refine zx_re 8 (.int .i64 (c.buf.length : Int)) rfl (by rw [List.length_map]) ?_
  repeat (first | (refine st ?_) | (refine stx ?_) | (intro _))
  refine z_ret1 tab_ok Try.func64 hb hk Try.results64 (.tmp rfl) (fun w hm => ?_)
  exact ⟨rfl, MQ.back h hm (List.Sublist.refl _)⟩
theorem TakeS_one (x : ByteArray) (rest : List ByteArray) (hbuf : c.buf = x :: rest) : MC 69 [ptr p, .int .i64 c.n] (mP p mb ck (pre ++ c :: post)) (mP p mb ck (pre ++ { c with buf := rest, r := c.r + 1 } :: post)) (.tuple #[.string x, .int .i64 0]) := by
  intro w h
  refine calls_of_z Try.func69 rfl Try.ntmps69 rfl h ?_; intro cs b hb hk
  have hblk : c.blk = (c.cb, cB c.cap (.string x :: rest.map Value.string) c.s c.r) := by unfold Chn.blk; rw [hbuf]; rfl
  repeat (first | (refine st ?_) | (refine stx ?_) | (intro _))
  ((try (refine sg ?_)); (refine zx_call0 rfl fnc117 rfl rfl (fun w hm => MQ.use (R := []) (queueS_hit p mb ck pre c post hne) hm) ?_))
  repeat (first | (refine sn ?_) | (refine stx ?_) | (intro _))
  refine z_selTake tab_ok (2 + pre.length) rfl hk rfl rfl rfl rfl ((ch_get [_, _] pre c post).trans (congrArg some hblk)) (ch_set [_, _] pre c { c with buf := rest, r := c.r + 1 } post) ?_
  repeat (first | (refine sn ?_) | (refine stx ?_) | (intro _))
  refine z_ret2 tab_ok Try.func69 hb hk Try.results69 (.tmp rfl) (.tmp rfl) (fun w hm => ?_)
  exact ⟨rfl, mT_turn p mb ck pre c { c with buf := rest, r := c.r + 1 } post rfl ▸ hm⟩
theorem TakeS_none (hbuf : c.buf = []) : MC 69 [ptr p, .int .i64 c.n] (mP p mb ck (pre ++ c :: post)) (mP p mb ck (pre ++ c :: post)) (.tuple #[.string ⟨#[]⟩, .int .i64 82]) := by
  intro w h
  refine calls_of_z Try.func69 rfl Try.ntmps69 rfl h ?_; intro cs b hb hk
  have hblk : c.blk = (c.cb, cB c.cap [] c.s c.r) := by unfold Chn.blk; rw [hbuf]; rfl
  repeat (first | (refine st ?_) | (refine stx ?_) | (intro _))
  ((try (refine sg ?_)); (refine zx_call0 rfl fnc117 rfl rfl (fun w hm => MQ.use (R := []) (queueS_hit p mb ck pre c post hne) hm) ?_))
  repeat (first | (refine sn ?_) | (refine stx ?_) | (intro _))
  refine z_selNone (z := .string ⟨#[]⟩) tab_ok (2 + pre.length) rfl hk rfl rfl rfl rfl ((ch_get [_, _] pre c post).trans (congrArg some hblk)) (zero_of (by kernel_rfl)) ?_
  repeat (first | (refine sn ?_) | (refine stx ?_) | (intro _))
  refine z_ret2 tab_ok Try.func69 hb hk Try.results69 (.tmp rfl) (.tmp rfl) (fun w hm => ?_)
  exact ⟨rfl, hm⟩
theorem ShutS_hit : MC 67 [ptr p, .int .i64 c.n] (mP p mb ck (pre ++ c :: post)) (mP p mb ck (pre ++ post)) (.int .i64 0) := by
  intro w h
  refine calls_of_z Try.func67 rfl Try.ntmps67 rfl h ?_; intro cs b hb hk
  repeat (first | (refine st ?_) | (refine stx ?_) | (intro _))
  refine zx_lookup tab_ok 1 rfl rfl rfl zero163 rfl rfl rfl rfl ?_
  refine zx_re 14 (.chan (some c.cb)) rfl (lkp_hit hne _) ?_
  repeat (first | (refine st ?_) | (refine stx ?_) | (intro _))
  refine zx_mapDel tab_ok 1 rfl rfl rfl rfl rfl rfl (fnd_hit pre c post 0 hne) rfl ?_
  repeat (first | (refine st ?_) | (refine stx ?_) | (intro _))
  refine z_ret1 tab_ok Try.func67 hb hk Try.results67 (.tmp rfl) (fun w hm => ?_)
  refine ⟨rfl, ?_⟩
  have he : ((pre ++ c :: post).map Chn.en).eraseIdx (0 + pre.length) = (pre ++ post).map Chn.en := by
    rw [Nat.zero_add, List.map_append, List.eraseIdx_append_of_length_le (by rw [List.length_map]; exact Nat.le_refl _), List.length_map, Nat.sub_self, List.map_append]
    rfl
  have hm2 : Mem _ _ (pP p (some mb) :: (mb, mB (((pre ++ c :: post).map Chn.en).eraseIdx (0 + pre.length)) ck) :: (pre ++ c :: post).map Chn.blk) w := hm
  rw [he] at hm2
  refine hm2.weaken (fun _ h => h) (List.Sublist.cons_cons _ (List.Sublist.cons_cons _ ?_))
  rw [List.map_append, List.map_append]
  exact (List.Sublist.refl _).append (List.Sublist.cons _ (List.Sublist.refl _))
/-- what is offered at an open port -/
theorem OfferS_hit (ia : Option Addr) (items : List ByteArray) (icap bi ioff : Nat) (hia : items = [] ∨ (ia = some ⟨bi, ioff, none⟩ ∧ bi ∉ (mP p mb ck (pre ++ c :: post)).map (·.1))) (hil : items.length ≤ 1000000000000000) (hcap : c.buf.length ≤ c.cap) (w : World)
    (h : Mem w ((mP p mb ck (pre ++ c :: post)).map (·.1)) (mP p mb ck (pre ++ c :: post)) w) (hic : ∀ (j : Nat) x, items[j]? = some x → w.cell? ⟨bi, ioff + j, none⟩ = some (.string x)) :
    Calls Try.prog 68 [ptr p, .int .i64 c.n, .slice ia items.length icap].toArray w fun e w' => ∃ s' : Nat, e = .returned (.tuple #[.int .i64 ((min (c.cap - c.buf.length) items.length : Nat) : Int), .int .i64 0]) ∧
      Mem w ((mP p mb ck (pre ++ c :: post)).map (·.1)) (mP p mb ck (pre ++ { c with buf := c.buf ++ items.take (min (c.cap - c.buf.length) items.length), s := s' } :: post)) w' := by
  refine calls_of_z Try.func68 rfl Try.ntmps68 rfl h ?_; intro cs b hb hk
  repeat (first | (refine st ?_) | (refine stx ?_) | (intro _))
  ((try (refine sg ?_)); (refine zx_call0 rfl fnc117 rfl rfl (fun w hm => MQ.use (R := []) (queueS_hit p mb ck pre c post hne) hm) ?_))
  repeat (first | (refine st ?_) | (refine stx ?_) | (intro _))
  generalize hroom : c.cap - c.buf.length = room
  refine z_loop (fun g : Nat × Nat => g.1 ≤ items.length) (fun g => [(0, ptr p), (8, .chan (some c.cb)), (9, .int .i64 ((min room g.1 : Nat) : Int)), (19, .slice ia items.length icap), (20, .int .i64 (items.length : Int)), (21, .int .i64 (g.1 : Int))]) (fun g => mT p mb ck ((pre ++ c :: post).map Chn.en) (pre ++ { c with buf := c.buf ++ items.take (min room g.1), s := g.2 } :: post)) (fun g => items.length - g.1) (0, c.s) (Nat.zero_le _) ⟨rfl, rfl, by rw [Nat.min_zero]; rfl, rfl, rfl, rfl, trivial⟩ (by simp only [Nat.min_zero, List.take_zero, List.append_nil]; exact List.Sublist.refl _) ?_
  intro g hg ih
  obtain ⟨j, s1⟩ := g
  simp only at hg
  refine z_weaken [(0, ptr p), (8, .chan (some c.cb)), (9, .int .i64 ((min room j : Nat) : Int)), (19, .slice ia items.length icap), (20, .int .i64 (items.length : Int)), (21, .int .i64 (j : Int))] (mT p mb ck ((pre ++ c :: post).map Chn.en) (pre ++ { c with buf := c.buf ++ items.take (min room j), s := s1 } :: post)) ⟨rfl, rfl, rfl, rfl, rfl, rfl, trivial⟩ (List.Sublist.refl _) (fun _ h => h) ?_
  by_cases hlt : j < items.length
  · obtain ⟨x, hx⟩ : ∃ x, items[j]? = some x := ⟨_, List.getElem?_eq_getElem hlt⟩
    have hxc := hic j x hx
    have hae : ia = some ⟨bi, ioff, none⟩ ∧ bi ∉ (mP p mb ck (pre ++ c :: post)).map (·.1) := by
      rcases hia with hh | hh
      · subst hh; exact absurd hlt (Nat.not_lt_zero _)
      · exact hh
    obtain ⟨rfl, hbi⟩ := hae
    repeat (first | (refine st ?_) | (refine stx ?_) | (refine sb ?_) | (intro _))
    refine zx_idxA (sz := j * 1) tab_ok rfl rfl rfl rfl rfl rfl (by omega) (by omega) (by simp) ?_
    refine zx_loadB (v := .string x) tab_ok rfl rfl rfl rfl (by rw [Nat.mul_one]; exact hxc) hbi rfl ?_
    repeat (first | (refine sn ?_) | (refine stx ?_) | (intro _))
    by_cases hr : j < room
    · have hlen : ((c.buf ++ items.take (min room j)).map Value.string).length < c.cap := by rw [List.length_map, List.length_append, List.length_take]; omega
      have hnx : (c.buf ++ items.take (min room j)).map Value.string ++ [.string x] = (c.buf ++ items.take (min room (j + 1))).map Value.string := by
        rw [show min room (j + 1) = j + 1 by omega, show min room j = j by omega, List.take_add_one, hx]
        simp
      refine z_selRoom (L' := mT p mb ck ((pre ++ c :: post).map Chn.en) (pre ++ { c with buf := c.buf ++ items.take (min room (j + 1)), s := s1 + 1 } :: post)) tab_ok (2 + pre.length) rfl hk rfl rfl rfl rfl rfl (ch_get [_, _] pre { c with buf := c.buf ++ items.take (min room j), s := s1 } post) hlen (by
        rw [hnx]
        exact ch_set [_, _] pre { c with buf := c.buf ++ items.take (min room j), s := s1 } { c with buf := c.buf ++ items.take (min room (j + 1)), s := s1 + 1 } post) ?_
      repeat (first | (refine sn ?_) | (refine stx ?_) | (intro _))
      refine z_re 9 (.int .i64 ((min room (j + 1) : Nat) : Int)) rfl (congrArg _ (by rw [wr64 (by omega) (by omega)]; omega)) ?_
      refine z_re 21 (.int .i64 ((j + 1 : Nat) : Int)) rfl (congrArg _ (by rw [wr64 (by omega) (by omega)]; omega)) ?_
      refine z_weaken _ _ ?_ (List.Sublist.refl _) (fun _ h => h) (ih (j + 1, s1 + 1) hlt (by show items.length - (j + 1) < items.length - j; omega))
      exact ⟨rfl, rfl, rfl, rfl, rfl, rfl, trivial⟩
    · have hlen : c.cap ≤ ((c.buf ++ items.take (min room j)).map Value.string).length := by rw [List.length_map, List.length_append, List.length_take]; omega
      have hsame : min room (j + 1) = min room j := by omega
      refine z_selFull tab_ok (2 + pre.length) rfl hk rfl rfl rfl rfl rfl (ch_get [_, _] pre { c with buf := c.buf ++ items.take (min room j), s := s1 } post) hlen ?_
      repeat (first | (refine st ?_) | (refine stx ?_) | (refine sb ?_) | (intro _))
      refine z_re 21 (.int .i64 ((j + 1 : Nat) : Int)) rfl (congrArg _ (by rw [wr64 (by omega) (by omega)]; omega)) ?_
      refine z_weaken _ _ ?_ ?_ (fun _ h => h) (ih (j + 1, s1) hlt (by show items.length - (j + 1) < items.length - j; omega))
      · exact ⟨rfl, rfl, by rw [hsame]; rfl, rfl, rfl, rfl, trivial⟩
      · rw [hsame]; exact List.Sublist.refl _
  · have he : j = items.length := by omega
    subst he
    repeat (first | (refine st ?_) | (refine stx ?_) | (refine sb ?_) | (intro _))
    refine z_ret2 tab_ok Try.func68 hb hk Try.results68 (.tmp rfl) (.tmp rfl) (fun w hm => ?_)
    exact ⟨s1, rfl, mT_turn p mb ck pre c { c with buf := c.buf ++ items.take (min room items.length), s := s1 } post rfl ▸ hm⟩
end
section
variable (p mb ck : Nat) (cs : List Chn) (n : Int) (hne : ∀ x ∈ cs, x.n ≠ n)
include hne
theorem queueS_miss : MQ 117 [ptr p, .int .i64 n] (mP p mb ck cs) (.chan none) := by
  intro w h
  refine calls_of_z Try.func117 rfl Try.ntmps117 rfl h ?_; intro _ b hb hk
  repeat (first | (refine st ?_) | (refine stx ?_) | (intro _))
  refine zx_lookup tab_ok 1 rfl rfl rfl zero163 rfl rfl rfl rfl ?_
  refine zx_re 12 (.chan none) rfl (lkp_miss hne _) ?_
  repeat (first | (refine st ?_) | (refine stx ?_) | (intro _))
  refine z_ret1 tab_ok Try.func117 hb hk Try.results117 (.tmp rfl) (fun w hm => ?_)
  exact ⟨rfl, MQ.back h hm (List.Sublist.refl _)⟩
theorem WaitS_miss : MQ 64 [ptr p, .int .i64 n] (mP p mb ck cs) (.int .i64 0) := by
  intro w h
  refine calls_of_z Try.func64 rfl Try.ntmps64 rfl h ?_; intro _ b hb hk
  repeat (first | (refine st ?_) | (refine stx ?_) | (intro _))
  ((try (refine sg ?_)); (refine zx_call0 rfl fnc117 rfl rfl (fun w hm => MQ.use (R := []) (queueS_miss p mb ck cs n hne) hm) ?_))
  refine zx_lenChan0 tab_ok rfl rfl rfl rfl ?_
  repeat (first | (refine st ?_) | (refine stx ?_) | (intro _))
  refine z_ret1 tab_ok Try.func64 hb hk Try.results64 (.tmp rfl) (fun w hm => ?_)
  exact ⟨rfl, MQ.back h hm (List.Sublist.refl _)⟩
theorem TakeS_miss : MC 69 [ptr p, .int .i64 n] (mP p mb ck cs) (mP p mb ck cs) (.tuple #[.string ⟨#[]⟩, .int .i64 80]) := by
  intro w h
  refine calls_of_z Try.func69 rfl Try.ntmps69 rfl h ?_; intro _ b hb hk
  repeat (first | (refine st ?_) | (refine stx ?_) | (intro _))
  ((try (refine sg ?_)); (refine zx_call0 rfl fnc117 rfl rfl (fun w hm => MQ.use (R := []) (queueS_miss p mb ck cs n hne) hm) ?_))
  repeat (first | (refine st ?_) | (refine stx ?_) | (intro _))
  refine z_ret2 tab_ok Try.func69 hb hk Try.results69 (.tmp rfl) (.tmp rfl) (fun w hm => ?_)
  exact ⟨rfl, hm⟩
theorem OfferS_miss (v : Value) : MC 68 [ptr p, .int .i64 n, v] (mP p mb ck cs) (mP p mb ck cs) (.tuple #[.int .i64 0, .int .i64 80]) := by
  intro w h
  refine calls_of_z Try.func68 rfl Try.ntmps68 rfl h ?_; intro _ b hb hk
  repeat (first | (refine st ?_) | (refine stx ?_) | (intro _))
  ((try (refine sg ?_)); (refine zx_call0 rfl fnc117 rfl rfl (fun w hm => MQ.use (R := []) (queueS_miss p mb ck cs n hne) hm) ?_))
  repeat (first | (refine st ?_) | (refine stx ?_) | (intro _))
  refine z_ret2 tab_ok Try.func68 hb hk Try.results68 (.tmp rfl) (.tmp rfl) (fun w hm => ?_)
  exact ⟨rfl, hm⟩
theorem ShutS_miss : MC 67 [ptr p, .int .i64 n] (mP p mb ck cs) (mP p mb ck cs) (.int .i64 80) := by
  intro w h
  refine calls_of_z Try.func67 rfl Try.ntmps67 rfl h ?_; intro _ b hb hk
  repeat (first | (refine st ?_) | (refine stx ?_) | (intro _))
  refine zx_lookup tab_ok 1 rfl rfl rfl zero163 rfl rfl rfl rfl ?_
  refine zx_re 14 (.chan none) rfl (lkp_miss hne _) ?_
  repeat (first | (refine st ?_) | (refine stx ?_) | (intro _))
  refine z_ret1 tab_ok Try.func67 hb hk Try.results67 (.tmp rfl) (fun w hm => ?_)
  exact ⟨rfl, hm⟩
end
section
variable (p : Nat) (n : Int)
theorem queueS_nil : MQ 117 [ptr p, .int .i64 n] [pP p none] (.chan none) := by
  intro w h
  refine calls_of_z Try.func117 rfl Try.ntmps117 rfl h ?_; intro _ b hb hk
  repeat (first | (refine st ?_) | (refine stx ?_) | (intro _))
  refine zx_lookup0 tab_ok rfl rfl rfl zero163 rfl rfl rfl ?_
  repeat (first | (refine st ?_) | (refine stx ?_) | (intro _))
  refine z_ret1 tab_ok Try.func117 hb hk Try.results117 (.tmp rfl) (fun w hm => ?_)
  exact ⟨rfl, MQ.back h hm (List.Sublist.refl _)⟩
theorem WaitS_nil : MQ 64 [ptr p, .int .i64 n] [pP p none] (.int .i64 0) := by
  intro w h
  refine calls_of_z Try.func64 rfl Try.ntmps64 rfl h ?_; intro _ b hb hk
  repeat (first | (refine st ?_) | (refine stx ?_) | (intro _))
  ((try (refine sg ?_)); (refine zx_call0 rfl fnc117 rfl rfl (fun w hm => MQ.use (R := []) (queueS_nil p n) hm) ?_))
  refine zx_lenChan0 tab_ok rfl rfl rfl rfl ?_
  repeat (first | (refine st ?_) | (refine stx ?_) | (intro _))
  refine z_ret1 tab_ok Try.func64 hb hk Try.results64 (.tmp rfl) (fun w hm => ?_)
  exact ⟨rfl, MQ.back h hm (List.Sublist.refl _)⟩
theorem TakeS_nil : MC 69 [ptr p, .int .i64 n] [pP p none] [pP p none] (.tuple #[.string ⟨#[]⟩, .int .i64 80]) := by
  intro w h
  refine calls_of_z Try.func69 rfl Try.ntmps69 rfl h ?_; intro _ b hb hk
  repeat (first | (refine st ?_) | (refine stx ?_) | (intro _))
  ((try (refine sg ?_)); (refine zx_call0 rfl fnc117 rfl rfl (fun w hm => MQ.use (R := []) (queueS_nil p n) hm) ?_))
  repeat (first | (refine st ?_) | (refine stx ?_) | (intro _))
  refine z_ret2 tab_ok Try.func69 hb hk Try.results69 (.tmp rfl) (.tmp rfl) (fun w hm => ?_)
  exact ⟨rfl, hm⟩
theorem OfferS_nil (v : Value) : MC 68 [ptr p, .int .i64 n, v] [pP p none] [pP p none] (.tuple #[.int .i64 0, .int .i64 80]) := by
  intro w h
  refine calls_of_z Try.func68 rfl Try.ntmps68 rfl h ?_; intro _ b hb hk
  repeat (first | (refine st ?_) | (refine stx ?_) | (intro _))
  ((try (refine sg ?_)); (refine zx_call0 rfl fnc117 rfl rfl (fun w hm => MQ.use (R := []) (queueS_nil p n) hm) ?_))
  repeat (first | (refine st ?_) | (refine stx ?_) | (intro _))
  refine z_ret2 tab_ok Try.func68 hb hk Try.results68 (.tmp rfl) (.tmp rfl) (fun w hm => ?_)
  exact ⟨rfl, hm⟩
theorem ShutS_nil : MC 67 [ptr p, .int .i64 n] [pP p none] [pP p none] (.int .i64 80) := by
  intro w h
  refine calls_of_z Try.func67 rfl Try.ntmps67 rfl h ?_; intro _ b hb hk
  repeat (first | (refine st ?_) | (refine stx ?_) | (intro _))
  refine zx_lookup0 tab_ok rfl rfl rfl zero163 rfl rfl rfl ?_
  repeat (first | (refine st ?_) | (refine stx ?_) | (intro _))
  refine z_ret1 tab_ok Try.func67 hb hk Try.results67 (.tmp rfl) (fun w hm => ?_)
  exact ⟨rfl, hm⟩
end
end Go.Proofs.Ytabcaiecoiejkaa
