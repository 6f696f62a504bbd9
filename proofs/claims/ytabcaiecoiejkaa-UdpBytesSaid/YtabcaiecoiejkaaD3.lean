/- Walk of the law UdpBytes: it answers true. -/
import Derived.Test.YtabcaiecoiejkaaD2
set_option maxRecDepth 100000
set_option linter.unusedSimpArgs false
set_option linter.unusedVariables false
set_option maxHeartbeats 800000
namespace Go.Proofs.Ytabcaiecoiejkaa
open Go K

theorem UdpBytes_any (a a' : Adr) (s d : Int) (x y : ByteArray) (w : World) (hx : x.size ≤ 1000000000000000) (hy : y.size ≤ 900000000000000) :
    Calls Try.prog 3 [.agg (a.cells ++ a'.cells).toArray, udpV s d x, .string y].toArray w fun e w' => e = .returned (.bool true) ∧ Mem w [] [] w' := by
  have hr : ∃ r, ubuild a a' s d x = r := ⟨_, rfl⟩
  obtain ⟨r, hr⟩ := hr
  have hq : ∃ q, uparse a a' y = q := ⟨_, rfl⟩
  obtain ⟨q, hq⟩ := hq
  have hB : ∀ w, Calls Try.prog 18 [a.val, a'.val, udpV s d x].toArray w fun e w' => e = .returned (.tuple #[.string r.1, .int .i64 r.2]) ∧ Mem w [] [] w' := fun w => hr ▸ Build16_any a a' s d x w hx
  have hBR : ∀ w, Calls Try.prog 19 [a.val, a'.val, udpV s d x].toArray w fun e w' => e = .returned (.tuple #[.string r.1, .int .i64 r.2]) ∧ Mem w [] [] w' := fun w => hr ▸ BuildR16_any a a' s d x w hx
  have hP : ∀ w, Calls Try.prog 20 [a.val, a'.val, .string y].toArray w fun e w' => e = .returned (uparseV q) ∧ Mem w [] [] w' := fun w => hq ▸ Parse16_any a a' y w (by omega)
  have hPR : ∀ w, Calls Try.prog 21 [a.val, a'.val, .string y].toArray w fun e w' => e = .returned (uparseV q) ∧ Mem w [] [] w' := fun w => hq ▸ ParseR16_any a a' y w (by omega)
  refine calls_of_z Try.func3 rfl Try.ntmps3 rfl (Mem.refl w) ?_; intro cs b hb hk
  repeat (first | (refine st ?_) | (intro _))
  ((try (refine sg ?_)); (refine zx_call0 rfl fnc17 rfl rfl (fun w hm => awake16_any w) ?_))
  repeat (first | (refine st ?_) | (intro _))
  ((try (refine sg ?_)); (refine zx_call0 rfl fnc18 rfl rfl (fun w hm => hB w) ?_))
  repeat (first | (refine st ?_) | (intro _))
  ((try (refine sg ?_)); (refine zx_call0 rfl fnc19 rfl rfl (fun w hm => hBR w) ?_))
  repeat (first | (refine st ?_) | (intro _))
  ((try (refine sg ?_)); (refine zx_call0 rfl fnc20 rfl rfl (fun w hm => hP w) ?_))
  repeat (first | (refine st ?_) | (intro _))
  ((try (refine sg ?_)); (refine zx_call0 rfl fnc21 rfl rfl (fun w hm => hPR w) ?_))
  have e1 : ∀ z : ByteArray, (!decide (z = z)) = false := fun z => by simp
  have e1' := e1 r.1
  have e2 : (!(q.1.1 == q.1.1 && (q.1.2.1 == q.1.2.1 && (decide (q.1.2.2 = q.1.2.2) && true)))) = false := by simp
  by_cases hz : r.2 = 0
  · repeat (first | (refine st ?_) | (refine sb ?_) | (intro _))
    have hgl : UGood a a' s d ∧ x.size ≤ 65507 := by
      rw [← hr] at hz
      unfold ubuild at hz
      split at hz
      · rename_i hg
        split at hz
        · rename_i hl; exact ⟨hg, hl⟩
        · exact absurd hz (by simp)
      · exact absurd hz (by simp)
    have hr1 : r.1 = ubytes a a' s d x := by rw [← hr, ubuild, if_pos hgl.1, if_pos hgl.2]
    have hsz : r.1.size = 8 + x.size := by rw [hr1, ubytes_size]
    have hrd : uparse a a' (r.1 ++ y) = ((s, d, x), 0) := by rw [hr1]; exact round a a' s d x y hgl.1 hgl.2
    have hP2 : ∀ w, Calls Try.prog 20 [a.val, a'.val, .string (r.1 ++ y)].toArray w fun e w' => e = .returned (uparseV ((s, d, x), 0)) ∧ Mem w [] [] w' := fun w => hrd ▸ Parse16_any a a' (r.1 ++ y) w (by rw [ByteArray.size_append]; omega)
    repeat (first | (refine st ?_) | (refine sb ?_) | (intro _))
    ((try (refine sg ?_)); (refine zx_call0 rfl fnc20 rfl rfl (fun w hm => hP2 w) ?_))
    repeat (first | (refine st ?_) | (refine sb ?_) | (intro _))
    refine z_ret1 tab_ok Try.func3 hb hk Try.results3 (.tmp rfl) (fun w hm => ?_)
    exact ⟨by simp, hm.bare⟩
  · repeat (first | (refine st ?_) | (refine sb ?_) | (intro _))
    refine z_ret1 tab_ok Try.func3 hb hk Try.results3 (.tmp rfl) (fun w hm => ?_)
    exact ⟨rfl, hm.bare⟩
end Go.Proofs.Ytabcaiecoiejkaa
