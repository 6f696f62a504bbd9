/- Walks of the reference of layer 18: Right, put, get, check; and of seg.Parse's closure. -/
import Derived.Test.YtabcaiecoiejkaaF2
set_option maxRecDepth 100000
set_option linter.unusedSimpArgs false
set_option linter.unusedVariables false
set_option maxHeartbeats 800000
namespace Go.Proofs.Ytabcaiecoiejkaa
open Go K

theorem RightR_any (s : Sg) (w : World) : Calls Try.prog 84 [s.val].toArray w fun e w' => e = .returned (.bool (decide (SRight s))) ∧ Mem w [] [] w' := by
  refine calls_of_z Try.func84 rfl Try.ntmps84 rfl (Mem.refl w) ?_; intro cs b hb hk
  repeat (first | (refine st ?_) | (refine sb ?_) | (intro _))
  ((try (refine sg ?_)); (refine zx_call0 rfl fnc121 rfl rfl (fun w hm => within_any s.src 0 65535 w) ?_))
  by_cases h0 : 0 ≤ s.src ∧ s.src ≤ 65535
  · skip
    repeat (first | (refine st ?_) | (refine sb ?_) | (intro _))
    ((try (refine sg ?_)); (refine zx_call0 rfl fnc121 rfl rfl (fun w hm => within_any s.dst 0 65535 w) ?_))
    by_cases h1 : 0 ≤ s.dst ∧ s.dst ≤ 65535
    · skip
      repeat (first | (refine st ?_) | (refine sb ?_) | (intro _))
      ((try (refine sg ?_)); (refine zx_call0 rfl fnc121 rfl rfl (fun w hm => within_any s.win 0 65535 w) ?_))
      by_cases h2 : 0 ≤ s.win ∧ s.win ≤ 65535
      · skip
        repeat (first | (refine st ?_) | (refine sb ?_) | (intro _))
        ((try (refine sg ?_)); (refine zx_call0 rfl fnc121 rfl rfl (fun w hm => within_any s.flags 0 255 w) ?_))
        by_cases h3 : 0 ≤ s.flags ∧ s.flags ≤ 255
        · skip
          repeat (first | (refine st ?_) | (refine sb ?_) | (intro _))
          ((try (refine sg ?_)); (refine zx_call0 rfl fnc121 rfl rfl (fun w hm => within_any s.mss 0 65535 w) ?_))
          by_cases h4 : 0 ≤ s.mss ∧ s.mss ≤ 65535
          · skip
            repeat (first | (refine st ?_) | (refine sb ?_) | (intro _))
            ((try (refine sg ?_)); (refine zx_call0 rfl fnc121 rfl rfl (fun w hm => within_any s.scale (-1) 14 w) ?_))
            by_cases h5 : -1 ≤ s.scale ∧ s.scale ≤ 14
            · skip
              repeat (first | (refine st ?_) | (refine sb ?_) | (intro _))
              refine z_ret1 tab_ok Try.func84 hb hk Try.results84 (.tmp rfl) (fun w hm => ?_)
              exact ⟨by rw [decide_eq_true (show SRight s by unfold SRight; omega)]; try exact congrArg (fun b => Ending.returned (Value.bool b)) (decide_eq_true h5), hm.bare⟩
            · repeat (first | (refine st ?_) | (refine sb ?_) | (intro _))
              refine z_ret1 tab_ok Try.func84 hb hk Try.results84 (.tmp rfl) (fun w hm => ?_)
              exact ⟨by rw [decide_eq_false (show ¬ SRight s by unfold SRight; omega)]; try exact congrArg (fun b => Ending.returned (Value.bool b)) (decide_eq_false h5), hm.bare⟩
          · repeat (first | (refine st ?_) | (refine sb ?_) | (intro _))
            refine z_ret1 tab_ok Try.func84 hb hk Try.results84 (.tmp rfl) (fun w hm => ?_)
            exact ⟨by rw [decide_eq_false (show ¬ SRight s by unfold SRight; omega)]; try exact congrArg (fun b => Ending.returned (Value.bool b)) (decide_eq_false h4), hm.bare⟩
        · repeat (first | (refine st ?_) | (refine sb ?_) | (intro _))
          refine z_ret1 tab_ok Try.func84 hb hk Try.results84 (.tmp rfl) (fun w hm => ?_)
          exact ⟨by rw [decide_eq_false (show ¬ SRight s by unfold SRight; omega)]; try exact congrArg (fun b => Ending.returned (Value.bool b)) (decide_eq_false h3), hm.bare⟩
      · repeat (first | (refine st ?_) | (refine sb ?_) | (intro _))
        refine z_ret1 tab_ok Try.func84 hb hk Try.results84 (.tmp rfl) (fun w hm => ?_)
        exact ⟨by rw [decide_eq_false (show ¬ SRight s by unfold SRight; omega)]; try exact congrArg (fun b => Ending.returned (Value.bool b)) (decide_eq_false h2), hm.bare⟩
    · repeat (first | (refine st ?_) | (refine sb ?_) | (intro _))
      refine z_ret1 tab_ok Try.func84 hb hk Try.results84 (.tmp rfl) (fun w hm => ?_)
      exact ⟨by rw [decide_eq_false (show ¬ SRight s by unfold SRight; omega)]; try exact congrArg (fun b => Ending.returned (Value.bool b)) (decide_eq_false h1), hm.bare⟩
  · repeat (first | (refine st ?_) | (refine sb ?_) | (intro _))
    refine z_ret1 tab_ok Try.func84 hb hk Try.results84 (.tmp rfl) (fun w hm => ?_)
    exact ⟨by rw [decide_eq_false (show ¬ SRight s by unfold SRight; omega)]; try exact congrArg (fun b => Ending.returned (Value.bool b)) (decide_eq_false h0), hm.bare⟩

theorem putSR1_any (x : Int) (w : World) (h0 : 0 ≤ x) (h1 : x ≤ 9223372036854775807) : Calls Try.prog 85 [.int .i64 x, .int .i64 1].toArray w fun e w' => e = .returned (.string (putB x 1)) ∧ Mem w [] [] w' := by
  have hw : IntKind.u64.wrap x = x := wru64 h0 (by omega)
  refine calls_of_z Try.func85 rfl Try.ntmps85 rfl (Mem.refl w) ?_; intro cs b hb hk
  repeat (first | (refine st ?_) | (refine sb ?_) | (intro _))
  ((try (refine sg ?_)); (refine zx_call0 rfl fnc74 rfl rfl (fun w hm => PutR1_any _ w (by rw [hw]; omega) (by rw [hw]; omega)) ?_))
  repeat (first | (refine st ?_) | (refine sb ?_) | (intro _))
  refine z_ret1 tab_ok Try.func85 hb hk Try.results85 (.tmp rfl) (fun w hm => ?_)
  exact ⟨by rw [hw], hm.bare⟩
theorem putSR2_any (x : Int) (w : World) (h0 : 0 ≤ x) (h1 : x ≤ 9223372036854775807) : Calls Try.prog 85 [.int .i64 x, .int .i64 2].toArray w fun e w' => e = .returned (.string (putB x 2)) ∧ Mem w [] [] w' := by
  have hw : IntKind.u64.wrap x = x := wru64 h0 (by omega)
  refine calls_of_z Try.func85 rfl Try.ntmps85 rfl (Mem.refl w) ?_; intro cs b hb hk
  repeat (first | (refine st ?_) | (refine sb ?_) | (intro _))
  ((try (refine sg ?_)); (refine zx_call0 rfl fnc74 rfl rfl (fun w hm => PutR2_any _ w (by rw [hw]; omega) (by rw [hw]; omega)) ?_))
  repeat (first | (refine st ?_) | (refine sb ?_) | (intro _))
  refine z_ret1 tab_ok Try.func85 hb hk Try.results85 (.tmp rfl) (fun w hm => ?_)
  exact ⟨by rw [hw], hm.bare⟩
theorem getSR2_any (y : ByteArray) (a : Nat) (w : World) (h : a + 2 ≤ y.size) (hs : y.size ≤ 1000000000000000000) :
    Calls Try.prog 89 [.string y, .int .i64 (a : Int), .int .i64 2].toArray w fun e w' => e = .returned (.int .i64 (getN y a 2)) ∧ Mem w [] [] w' := by
  have hr := getN_range y a 2
  refine calls_of_z Try.func89 rfl Try.ntmps89 rfl (Mem.refl w) ?_; intro cs b hb hk
  repeat (first | (refine st ?_) | (refine sb ?_) | (intro _))
  ((try (refine sg ?_)); (refine zx_call0 rfl fnc78 rfl rfl (fun w hm => GetR2_any y a w h hs) ?_))
  repeat (first | (refine st ?_) | (refine sb ?_) | (intro _))
  refine z_ret1 tab_ok Try.func89 hb hk Try.results89 (.tmp rfl) (fun w hm => ?_)
  exact ⟨by rw [wr64 (by omega) (by omega)], hm.bare⟩
theorem getSR4_any (y : ByteArray) (a : Nat) (w : World) (h : a + 4 ≤ y.size) (hs : y.size ≤ 1000000000000000000) :
    Calls Try.prog 89 [.string y, .int .i64 (a : Int), .int .i64 4].toArray w fun e w' => e = .returned (.int .i64 (getN y a 4)) ∧ Mem w [] [] w' := by
  have hr := getN_range y a 4
  refine calls_of_z Try.func89 rfl Try.ntmps89 rfl (Mem.refl w) ?_; intro cs b hb hk
  repeat (first | (refine st ?_) | (refine sb ?_) | (intro _))
  ((try (refine sg ?_)); (refine zx_call0 rfl fnc78 rfl rfl (fun w hm => GetR4_any y a w h hs) ?_))
  repeat (first | (refine st ?_) | (refine sb ?_) | (intro _))
  refine z_ret1 tab_ok Try.func89 hb hk Try.results89 (.tmp rfl) (fun w hm => ?_)
  exact ⟨by rw [wr64 (by omega) (by omega)], hm.bare⟩
theorem flatz2 (x y : ByteArray) : (flat [x, y]).length = x.size + y.size := flat2 x y
/-- the reference's checksum -/
def scheck (a a' : Adr) (x : ByteArray) : Int := 65535 - csum (acc false (flat [pseudo a a' 6 x.size, x]))
theorem checkR18_any (a a' : Adr) (x : ByteArray) (w : World) (he : ends a a' = true) (hx : x.size ≤ 65535) :
    Calls Try.prog 86 [a.val, a'.val, .string x].toArray w fun e w' => e = .returned (.int .i64 (scheck a a' x)) ∧ Mem w [] [] w' := by
  obtain ⟨h1, h2, h3⟩ := ends_iff.1 he
  have hps := pseudo_size a a' 6 x.size
  refine calls_of_z Try.func86 rfl Try.ntmps86 rfl (Mem.refl w) ?_; intro cs b hb hk
  repeat (first | (refine st ?_) | (intro _))
  ((try (refine sg ?_)); (refine zx_call0 rfl fnc120 rfl rfl (fun w hm => PseudoR_any a a' 6 x.size w h1 h2 h3 (by omega) (by omega) (by omega) (by omega)) ?_))
  repeat (first | (refine st ?_) | (intro _))
  ((try (refine sg ?_)); (refine zx_call0 rfl fnc119 rfl rfl (fun w hm => sumR_any [pseudo a a' 6 x.size, x] _ 0 2 w (strs_cell hm 0 rfl) (by rw [flat2]; omega) (by simp)) ?_))
  repeat (first | (refine st ?_) | (intro _))
  refine z_ret1 tab_ok Try.func86 hb hk Try.results86 (.tmp rfl) (fun w hm => ?_)
  exact ⟨rfl, hm.bare⟩
end Go.Proofs.Ytabcaiecoiejkaa
