/- Walks of wire.Put and wire.Get, at the sizes that are met. -/
import Derived.Test.YtabcaiecoiejkaaKS
import Derived.Test.YtabcaiecoiejkaaN1
set_option maxRecDepth 100000
namespace Go.Proofs.Ytabcaiecoiejkaa
open Go K

theorem ofInts_congr {l l' : List Int} (h : l = l') : Ending.returned (.string (ofInts l)) = .returned (.string (ofInts l')) := by rw [h]
theorem Put1_any (x : Int) (w : World) :
    Calls Try.prog 32 [.int .u64 x, .int .i64 1].toArray w fun e w' => e = .returned (.string (putB x 1)) ∧ Mem w [] [] w' := by
  refine calls_of_z Try.func32 rfl Try.ntmps32 rfl (Mem.refl w) ?_; intro cs b hb hk
  repeat (first | (refine st ?_) | (intro _) | (refine z_once ?_) | (refine z_again ?_))
  refine z_ret1 tab_ok Try.func32 hb hk Try.results32 (.tmp rfl) (fun w hm => ?_)
  refine ⟨ofInts_congr ?_, hm.bare⟩
  show [IntKind.u8.wrap (x.fdiv 1)] = [byt x 0]
  rw [byt0]
theorem Put2_any (x : Int) (w : World) :
    Calls Try.prog 32 [.int .u64 x, .int .i64 2].toArray w fun e w' => e = .returned (.string (putB x 2)) ∧ Mem w [] [] w' := by
  refine calls_of_z Try.func32 rfl Try.ntmps32 rfl (Mem.refl w) ?_; intro cs b hb hk
  repeat (first | (refine st ?_) | (intro _) | (refine z_once ?_) | (refine z_again ?_))
  refine z_ret1 tab_ok Try.func32 hb hk Try.results32 (.tmp rfl) (fun w hm => ?_)
  refine ⟨ofInts_congr ?_, hm.bare⟩
  show [IntKind.u8.wrap (x.fdiv 256), IntKind.u8.wrap (x.fdiv 1)] = [byt x 1, byt x 0]
  rw [byt0, byt1]
theorem Put4_any (x : Int) (w : World) :
    Calls Try.prog 32 [.int .u64 x, .int .i64 4].toArray w fun e w' => e = .returned (.string (putB x 4)) ∧ Mem w [] [] w' := by
  refine calls_of_z Try.func32 rfl Try.ntmps32 rfl (Mem.refl w) ?_; intro cs b hb hk
  repeat (first | (refine st ?_) | (intro _) | (refine z_once ?_) | (refine z_again ?_))
  refine z_ret1 tab_ok Try.func32 hb hk Try.results32 (.tmp rfl) (fun w hm => ?_)
  refine ⟨ofInts_congr ?_, hm.bare⟩
  show [IntKind.u8.wrap (x.fdiv 16777216), IntKind.u8.wrap (x.fdiv 65536), IntKind.u8.wrap (x.fdiv 256), IntKind.u8.wrap (x.fdiv 1)] = [byt x 3, byt x 2, byt x 1, byt x 0]
  rw [byt0, byt1, byt2, byt3]

theorem Get2_any (s : ByteArray) (a : Nat) (w : World) (h : a + 2 ≤ s.size) (hs : s.size ≤ 1000000000000000000) :
    Calls Try.prog 77 [.string s, .int .i64 (a : Int), .int .i64 2].toArray w fun e w' => e = .returned (.tuple #[.int .u64 (getN s a 2), .bool true]) ∧ Mem w [] [] w' := by
  refine calls_of_z Try.func77 rfl Try.ntmps77 rfl (Mem.refl w) ?_; intro cs b hb hk
  repeat (first | (refine st ?_) | (refine sb ?_) | (intro _))
  refine z_once ?_
  repeat (first | (refine st ?_) | (refine sb ?_) | (intro _))
  ((try (refine sg ?_)); refine zx_idxN (a + 0) tab_ok rfl rfl rfl rfl rfl rfl (by first | omega | (simp only [IntKind.wrap_i64]; omega)) (by omega) ?_)
  repeat (first | (refine st ?_) | (refine sb ?_) | (intro _))
  refine z_re 8 (.int .u64 (getN s a 1)) rfl (congrArg (Value.int .u64) (get_step s a 0 (by omega))) ?_
  refine z_again ?_
  repeat (first | (refine st ?_) | (refine sb ?_) | (intro _))
  ((try (refine sg ?_)); refine zx_idxN (a + 1) tab_ok rfl rfl rfl rfl rfl rfl (by first | omega | (simp only [IntKind.wrap_i64]; omega)) (by omega) ?_)
  repeat (first | (refine st ?_) | (refine sb ?_) | (intro _))
  refine z_re 8 (.int .u64 (getN s a 2)) rfl (congrArg (Value.int .u64) (get_step s a 1 (by omega))) ?_
  refine z_again ?_
  repeat (first | (refine st ?_) | (refine sb ?_) | (intro _))
  refine z_ret2 tab_ok Try.func77 hb hk Try.results77 (.tmp rfl) (.tmp rfl) (fun w hm => ?_)
  exact ⟨rfl, hm.bare⟩
theorem Get4_any (s : ByteArray) (a : Nat) (w : World) (h : a + 4 ≤ s.size) (hs : s.size ≤ 1000000000000000000) :
    Calls Try.prog 77 [.string s, .int .i64 (a : Int), .int .i64 4].toArray w fun e w' => e = .returned (.tuple #[.int .u64 (getN s a 4), .bool true]) ∧ Mem w [] [] w' := by
  refine calls_of_z Try.func77 rfl Try.ntmps77 rfl (Mem.refl w) ?_; intro cs b hb hk
  repeat (first | (refine st ?_) | (refine sb ?_) | (intro _))
  refine z_once ?_
  repeat (first | (refine st ?_) | (refine sb ?_) | (intro _))
  ((try (refine sg ?_)); refine zx_idxN (a + 0) tab_ok rfl rfl rfl rfl rfl rfl (by first | omega | (simp only [IntKind.wrap_i64]; omega)) (by omega) ?_)
  repeat (first | (refine st ?_) | (refine sb ?_) | (intro _))
  refine z_re 8 (.int .u64 (getN s a 1)) rfl (congrArg (Value.int .u64) (get_step s a 0 (by omega))) ?_
  refine z_again ?_
  repeat (first | (refine st ?_) | (refine sb ?_) | (intro _))
  ((try (refine sg ?_)); refine zx_idxN (a + 1) tab_ok rfl rfl rfl rfl rfl rfl (by first | omega | (simp only [IntKind.wrap_i64]; omega)) (by omega) ?_)
  repeat (first | (refine st ?_) | (refine sb ?_) | (intro _))
  refine z_re 8 (.int .u64 (getN s a 2)) rfl (congrArg (Value.int .u64) (get_step s a 1 (by omega))) ?_
  refine z_again ?_
  repeat (first | (refine st ?_) | (refine sb ?_) | (intro _))
  ((try (refine sg ?_)); refine zx_idxN (a + 2) tab_ok rfl rfl rfl rfl rfl rfl (by first | omega | (simp only [IntKind.wrap_i64]; omega)) (by omega) ?_)
  repeat (first | (refine st ?_) | (refine sb ?_) | (intro _))
  refine z_re 8 (.int .u64 (getN s a 3)) rfl (congrArg (Value.int .u64) (get_step s a 2 (by omega))) ?_
  refine z_again ?_
  repeat (first | (refine st ?_) | (refine sb ?_) | (intro _))
  ((try (refine sg ?_)); refine zx_idxN (a + 3) tab_ok rfl rfl rfl rfl rfl rfl (by first | omega | (simp only [IntKind.wrap_i64]; omega)) (by omega) ?_)
  repeat (first | (refine st ?_) | (refine sb ?_) | (intro _))
  refine z_re 8 (.int .u64 (getN s a 4)) rfl (congrArg (Value.int .u64) (get_step s a 3 (by omega))) ?_
  refine z_again ?_
  repeat (first | (refine st ?_) | (refine sb ?_) | (intro _))
  refine z_ret2 tab_ok Try.func77 hb hk Try.results77 (.tmp rfl) (.tmp rfl) (fun w hm => ?_)
  exact ⟨rfl, hm.bare⟩
theorem GetR2_any (s : ByteArray) (a : Nat) (w : World) (h : a + 2 ≤ s.size) (hs : s.size ≤ 1000000000000000000) :
    Calls Try.prog 78 [.string s, .int .i64 (a : Int), .int .i64 2].toArray w fun e w' => e = .returned (.tuple #[.int .u64 (getN s a 2), .bool true]) ∧ Mem w [] [] w' := by
  refine calls_of_z Try.func78 rfl Try.ntmps78 rfl (Mem.refl w) ?_; intro cs b hb hk
  repeat (first | (refine st ?_) | (refine sb ?_) | (intro _))
  refine z_once ?_
  repeat (first | (refine st ?_) | (refine sb ?_) | (intro _))
  ((try (refine sg ?_)); refine zx_idxN (a + 0) tab_ok rfl rfl rfl rfl rfl rfl (by first | omega | (simp only [IntKind.wrap_i64]; omega)) (by omega) ?_)
  repeat (first | (refine st ?_) | (refine sb ?_) | (intro _))
  refine z_re 8 (.int .u64 (getN s a 1)) rfl (congrArg (Value.int .u64) (getR_step s a 0 (by omega))) ?_
  refine z_again ?_
  repeat (first | (refine st ?_) | (refine sb ?_) | (intro _))
  ((try (refine sg ?_)); refine zx_idxN (a + 1) tab_ok rfl rfl rfl rfl rfl rfl (by first | omega | (simp only [IntKind.wrap_i64]; omega)) (by omega) ?_)
  repeat (first | (refine st ?_) | (refine sb ?_) | (intro _))
  refine z_re 8 (.int .u64 (getN s a 2)) rfl (congrArg (Value.int .u64) (getR_step s a 1 (by omega))) ?_
  refine z_again ?_
  repeat (first | (refine st ?_) | (refine sb ?_) | (intro _))
  refine z_ret2 tab_ok Try.func78 hb hk Try.results78 (.tmp rfl) (.tmp rfl) (fun w hm => ?_)
  exact ⟨rfl, hm.bare⟩
theorem GetR4_any (s : ByteArray) (a : Nat) (w : World) (h : a + 4 ≤ s.size) (hs : s.size ≤ 1000000000000000000) :
    Calls Try.prog 78 [.string s, .int .i64 (a : Int), .int .i64 4].toArray w fun e w' => e = .returned (.tuple #[.int .u64 (getN s a 4), .bool true]) ∧ Mem w [] [] w' := by
  refine calls_of_z Try.func78 rfl Try.ntmps78 rfl (Mem.refl w) ?_; intro cs b hb hk
  repeat (first | (refine st ?_) | (refine sb ?_) | (intro _))
  refine z_once ?_
  repeat (first | (refine st ?_) | (refine sb ?_) | (intro _))
  ((try (refine sg ?_)); refine zx_idxN (a + 0) tab_ok rfl rfl rfl rfl rfl rfl (by first | omega | (simp only [IntKind.wrap_i64]; omega)) (by omega) ?_)
  repeat (first | (refine st ?_) | (refine sb ?_) | (intro _))
  refine z_re 8 (.int .u64 (getN s a 1)) rfl (congrArg (Value.int .u64) (getR_step s a 0 (by omega))) ?_
  refine z_again ?_
  repeat (first | (refine st ?_) | (refine sb ?_) | (intro _))
  ((try (refine sg ?_)); refine zx_idxN (a + 1) tab_ok rfl rfl rfl rfl rfl rfl (by first | omega | (simp only [IntKind.wrap_i64]; omega)) (by omega) ?_)
  repeat (first | (refine st ?_) | (refine sb ?_) | (intro _))
  refine z_re 8 (.int .u64 (getN s a 2)) rfl (congrArg (Value.int .u64) (getR_step s a 1 (by omega))) ?_
  refine z_again ?_
  repeat (first | (refine st ?_) | (refine sb ?_) | (intro _))
  ((try (refine sg ?_)); refine zx_idxN (a + 2) tab_ok rfl rfl rfl rfl rfl rfl (by first | omega | (simp only [IntKind.wrap_i64]; omega)) (by omega) ?_)
  repeat (first | (refine st ?_) | (refine sb ?_) | (intro _))
  refine z_re 8 (.int .u64 (getN s a 3)) rfl (congrArg (Value.int .u64) (getR_step s a 2 (by omega))) ?_
  refine z_again ?_
  repeat (first | (refine st ?_) | (refine sb ?_) | (intro _))
  ((try (refine sg ?_)); refine zx_idxN (a + 3) tab_ok rfl rfl rfl rfl rfl rfl (by first | omega | (simp only [IntKind.wrap_i64]; omega)) (by omega) ?_)
  repeat (first | (refine st ?_) | (refine sb ?_) | (intro _))
  refine z_re 8 (.int .u64 (getN s a 4)) rfl (congrArg (Value.int .u64) (getR_step s a 3 (by omega))) ?_
  refine z_again ?_
  repeat (first | (refine st ?_) | (refine sb ?_) | (intro _))
  refine z_ret2 tab_ok Try.func78 hb hk Try.results78 (.tmp rfl) (.tmp rfl) (fun w hm => ?_)
  exact ⟨rfl, hm.bare⟩
end Go.Proofs.Ytabcaiecoiejkaa
