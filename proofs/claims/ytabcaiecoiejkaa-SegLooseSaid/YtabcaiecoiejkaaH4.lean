/- Layer 18's first look (awake): it answers true. -/
import Derived.Test.YtabcaiecoiejkaaH3
import Derived.Test.YtabcaiecoiejkaaF5
import Derived.Test.YtabcaiecoiejkaaD2
set_option maxRecDepth 100000
set_option linter.unusedSimpArgs false
set_option linter.unusedVariables false
set_option maxHeartbeats 1600000
namespace Go.Proofs.Ytabcaiecoiejkaa
open Go K

def segHi : Sg := ⟨1, 2, 3, 4, 16, 5, 0, -1, sHi⟩
theorem endsHi : ends adA adB = true := by decide
theorem rightHi : SRight segHi := by decide
theorem soptHi : sopt segHi = noB := by
  unfold sopt sopt1
  rw [if_neg (by decide), if_neg (by decide)]
theorem longHi : slong segHi = 20 := by unfold slong; rw [soptHi]; rfl
theorem buildSHi : sbuild adA adB segHi = (sbytes adA adB segHi, 0) := by
  rw [sbuild, if_pos ⟨endsHi, rightHi⟩, if_pos (by rw [longHi]; decide)]
theorem parseSHi : sparse adA adB (sbytes adA adB segHi) = (segHi, 0) :=
  roundS adA adB segHi endsHi rightHi (by decide) (by decide) (by decide) (by decide) (by rw [longHi]; decide)
theorem sizeSHi : (sbytes adA adB segHi).size = 22 := by rw [sbytes_size, soptHi]; rfl
theorem ints_cell {w0 w : World} {ks : List Nat} {L : Mm} (hm : Mem w0 ks L w) (j : Nat) {b : Nat} {t : TypeId} {lo hi : Nat} {fs : List Int} (hL : L[j]? = some (b, .c (fs.map (Value.int .i64)) t lo hi)) : ∀ (i : Nat) f, fs[i]? = some f → w.cell? ⟨b, 0 + i, none⟩ = some (.int .i64 f) := by
  intro i f hf
  rw [Nat.zero_add, hm.cell hL, List.getElem?_map, hf]
  rfl
theorem awake18_any (w : World) : Calls Try.prog 22 [].toArray w fun e w' => e = .returned (.bool true) ∧ Mem w [] [] w' := by
  refine calls_of_z Try.func22 rfl Try.ntmps22 rfl (Mem.refl w) ?_; intro cs b hb hk
  repeat (first | (refine st ?_) | (intro _))
  ((try (refine sg ?_)); (refine zx_call0 rfl fnc40 rfl rfl (fun w hm => V4_any 10 0 0 1 w) ?_))
  repeat (first | (refine st ?_) | (intro _))
  ((try (refine sg ?_)); (refine zx_call0 rfl fnc40 rfl rfl (fun w hm => V4_any 10 0 0 2 w) ?_))
  repeat (first | (refine st ?_) | (intro _))
  refine zx_re 12 adA.val rfl rfl ?_
  refine zx_re 13 adB.val rfl rfl ?_
  refine zx_re 14 segHi.val rfl rfl ?_
  ((try (refine sg ?_)); (refine zx_call0 rfl fnc23 rfl rfl (fun w hm => BuildS_any adA adB segHi w (by decide) (by decide) (by decide) (by decide) (by decide)) ?_))
  refine zx_re 15 (.tuple #[.string (sbytes adA adB segHi), .int .i64 0]) rfl (by rw [buildSHi]) ?_
  repeat (first | (refine st ?_) | (intro _))
  refine zx_re 19 adA.val rfl rfl ?_
  refine zx_re 20 adB.val rfl rfl ?_
  ((try (refine sg ?_)); (refine zx_call0 rfl fnc25 rfl rfl (fun w hm => ParseS_any adA adB _ w (by rw [sizeSHi]; decide)) ?_))
  refine zx_re 22 (.tuple #[segHi.val, .int .i64 0]) rfl (by rw [parseSHi]; rfl) ?_
  have hz : (((sbytes adA adB segHi).size : Int) == 22) = true := by rw [sizeSHi]; rfl
  repeat (first | (refine st ?_) | (refine sb ?_) | (intro _))
  refine zx_re 41 (.bool true) rfl rfl ?_
  repeat (first | (refine st ?_) | (refine sb ?_) | (intro _))
  ((try (refine sg ?_)); (refine zx_call0 rfl fnc27 rfl rfl (fun w hm => SizeS_any segHi w (by decide)) ?_))
  refine zx_re 43 (.int .i64 2) rfl (congrArg _ (show splaces segHi = 2 by decide)) ?_
  repeat (first | (refine st ?_) | (refine sb ?_) | (intro _))
  rename_i sb
  ((try (refine sg ?_)); (refine zx_call0 rfl fnc29 rfl rfl (fun w hm => Flags_any segHi [16] sb 0 1 w (ints_cell hm 0 rfl) (by decide)) ?_))
  refine zx_re 49 (.bool true) rfl (congrArg _ (show sflags segHi [16] = true by decide)) ?_
  repeat (first | (refine st ?_) | (refine sb ?_) | (intro _))
  rename_i sb2
  ((try (refine sg ?_)); (refine zx_call0 rfl fnc29 rfl rfl (fun w hm => Flags_any segHi [16, 2] sb2 0 2 w (ints_cell hm 0 rfl) (by decide)) ?_))
  refine zx_re 54 (.bool false) rfl (congrArg _ (show sflags segHi [16, 2] = false by decide)) ?_
  repeat (first | (refine st ?_) | (refine sb ?_) | (intro _))
  refine z_ret1 tab_ok Try.func22 hb hk Try.results22 (.tmp rfl) (fun w hm => ?_)
  exact ⟨rfl, hm.bare⟩
end Go.Proofs.Ytabcaiecoiejkaa
