/- Walks of package seg: put, sum; and the reference's within, Right, put, get, check. -/
import Derived.Test.YtabcaiecoiejkaaF1
set_option maxRecDepth 100000
set_option linter.unusedSimpArgs false
set_option linter.unusedVariables false
set_option maxHeartbeats 800000
namespace Go.Proofs.Ytabcaiecoiejkaa
open Go K

theorem putS1_any (x : Int) (w : World) (h0 : 0 ≤ x) (h1 : x ≤ 9223372036854775807) : Calls Try.prog 81 [.int .i64 x, .int .i64 1].toArray w fun e w' => e = .returned (.string (putB x 1)) ∧ Mem w [] [] w' := by
  refine calls_of_z Try.func81 rfl Try.ntmps81 rfl (Mem.refl w) ?_; intro cs b hb hk
  repeat (first | (refine st ?_) | (refine sb ?_) | (intro _))
  ((try (refine sg ?_)); (refine zx_call0 rfl fnc32 rfl rfl (fun w hm => Put1_any _ w) ?_))
  repeat (first | (refine st ?_) | (refine sb ?_) | (intro _))
  refine z_ret1 tab_ok Try.func81 hb hk Try.results81 (.tmp rfl) (fun w hm => ?_)
  exact ⟨by rw [wru64 h0 (by omega)], hm.bare⟩
theorem putS2_any (x : Int) (w : World) (h0 : 0 ≤ x) (h1 : x ≤ 9223372036854775807) : Calls Try.prog 81 [.int .i64 x, .int .i64 2].toArray w fun e w' => e = .returned (.string (putB x 2)) ∧ Mem w [] [] w' := by
  refine calls_of_z Try.func81 rfl Try.ntmps81 rfl (Mem.refl w) ?_; intro cs b hb hk
  repeat (first | (refine st ?_) | (refine sb ?_) | (intro _))
  ((try (refine sg ?_)); (refine zx_call0 rfl fnc32 rfl rfl (fun w hm => Put2_any _ w) ?_))
  repeat (first | (refine st ?_) | (refine sb ?_) | (intro _))
  refine z_ret1 tab_ok Try.func81 hb hk Try.results81 (.tmp rfl) (fun w hm => ?_)
  exact ⟨by rw [wru64 h0 (by omega)], hm.bare⟩
theorem putS4_any (x : Int) (w : World) (h0 : 0 ≤ x) (h1 : x ≤ 9223372036854775807) : Calls Try.prog 81 [.int .i64 x, .int .i64 4].toArray w fun e w' => e = .returned (.string (putB x 4)) ∧ Mem w [] [] w' := by
  refine calls_of_z Try.func81 rfl Try.ntmps81 rfl (Mem.refl w) ?_; intro cs b hb hk
  repeat (first | (refine st ?_) | (refine sb ?_) | (intro _))
  ((try (refine sg ?_)); (refine zx_call0 rfl fnc32 rfl rfl (fun w hm => Put4_any _ w) ?_))
  repeat (first | (refine st ?_) | (refine sb ?_) | (intro _))
  refine z_ret1 tab_ok Try.func81 hb hk Try.results81 (.tmp rfl) (fun w hm => ?_)
  exact ⟨by rw [wru64 h0 (by omega)], hm.bare⟩
/-- the checksum of a segment in two pieces -/
def ssum (a a' : Adr) (first rest : ByteArray) : Int := 65535 - csum (acc false (flat [pseudo a a' 6 (first.size + 2 + rest.size), first, rest]))
theorem ssum_range (a a' : Adr) (first rest : ByteArray) : 0 ≤ ssum a a' first rest ∧ ssum a a' first rest ≤ 65535 := by
  have := @csum_range (acc false (flat [pseudo a a' 6 (first.size + 2 + rest.size), first, rest]))
  unfold ssum
  omega
theorem sumS_any (a a' : Adr) (first rest : ByteArray) (w : World) (he : ends a a' = true) (hf : first.size ≤ 100) (hd : first.size + 2 + rest.size ≤ 65535) :
    Calls Try.prog 82 [a.val, a'.val, .string first, .string rest].toArray w fun e w' => e = .returned (.string (putB (ssum a a' first rest) 2)) ∧ Mem w [] [] w' := by
  obtain ⟨h1, h2, h3⟩ := ends_iff.1 he
  have hps := pseudo_size a a' 6 (first.size + 2 + rest.size)
  have hr := ssum_range a a' first rest
  have e8 : IntKind.i64.wrap (IntKind.i64.wrap ((first.size : Int) + 2) + rest.size) = first.size + 2 + rest.size := by
    rw [wr64 (x := (first.size : Int) + 2) (by omega) (by omega), wr64 (by omega) (by omega)]
  refine calls_of_z Try.func82 rfl Try.ntmps82 rfl (Mem.refl w) ?_; intro cs b hb hk
  repeat (first | (refine st ?_) | (intro _))
  refine zx_re 16 (.int .i64 (first.size + 2 + rest.size)) rfl (congrArg _ e8) ?_
  ((try (refine sg ?_)); (refine zx_call0 rfl fnc31 rfl rfl (fun w hm => Pseudo_any a a' 6 (first.size + 2 + rest.size) w h1 h2 h3 (by omega) (by omega) (by omega) (by omega)) ?_))
  repeat (first | (refine st ?_) | (intro _))
  ((try (refine sg ?_)); (refine zx_call0 rfl fnc30 rfl rfl (fun w hm => Sum_any [pseudo a a' 6 (first.size + 2 + rest.size), first, rest] _ 0 3 w (strs_cell hm 0 rfl) (by rw [flat3]; omega) (by simp)) ?_))
  repeat (first | (refine st ?_) | (intro _))
  ((try (refine sg ?_)); (refine zx_call0 rfl fnc81 rfl rfl (fun w hm => putS2_any (ssum a a' first rest) w hr.1 (by omega)) ?_))
  repeat (first | (refine st ?_) | (intro _))
  refine z_ret1 tab_ok Try.func82 hb hk Try.results82 (.tmp rfl) (fun w hm => ?_)
  exact ⟨rfl, hm.bare⟩

theorem within_any (n a b : Int) (w : World) : Calls Try.prog 121 [.int .i64 n, .int .i64 a, .int .i64 b].toArray w fun e w' => e = .returned (.bool (decide (a ≤ n ∧ n ≤ b))) ∧ Mem w [] [] w' := by
  by_cases h : a ≤ n
  · by_cases h1 : n ≤ b
    · refine calls_of_z Try.func121 rfl Try.ntmps121 rfl (Mem.refl w) ?_; intro cs b hb hk
      repeat (first | (refine st ?_) | (refine sb ?_) | (intro _))
      refine z_ret1 tab_ok Try.func121 hb hk Try.results121 (.tmp rfl) (fun w hm => ?_)
      exact ⟨by simp [h, h1], hm.bare⟩
    · refine calls_of_z Try.func121 rfl Try.ntmps121 rfl (Mem.refl w) ?_; intro cs b hb hk
      repeat (first | (refine st ?_) | (refine sb ?_) | (intro _))
      refine z_ret1 tab_ok Try.func121 hb hk Try.results121 (.tmp rfl) (fun w hm => ?_)
      exact ⟨by simp [h, h1], hm.bare⟩
  · refine calls_of_z Try.func121 rfl Try.ntmps121 rfl (Mem.refl w) ?_; intro cs b hb hk
    repeat (first | (refine st ?_) | (refine sb ?_) | (intro _))
    refine z_ret1 tab_ok Try.func121 hb hk Try.results121 (.tmp rfl) (fun w hm => ?_)
    exact ⟨by simp [h], hm.bare⟩
end Go.Proofs.Ytabcaiecoiejkaa
