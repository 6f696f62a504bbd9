/- Walks of package udp: Build, Parse. -/
import Derived.Test.YtabcaiecoiejkaaA5
set_option maxRecDepth 100000
set_option linter.unusedSimpArgs false
set_option linter.unusedVariables false
set_option maxHeartbeats 800000
namespace Go.Proofs.Ytabcaiecoiejkaa
open Go K

def udpV (s d : Int) (x : ByteArray) : Value := .agg #[.int .i64 s, .int .i64 d, .string x]
def UGood (a a' : Adr) (s d : Int) : Prop := ends a a' = true ∧ 0 ≤ s ∧ s ≤ 65535 ∧ 0 ≤ d ∧ d ≤ 65535
def ufirst (s d : Int) (x : ByteArray) : ByteArray := putB s 2 ++ putB d 2 ++ putB (8 + x.size) 2
def ubytes (a a' : Adr) (s d : Int) (x : ByteArray) : ByteArray := ufirst s d x ++ putB (usum a a' (ufirst s d x) x) 2 ++ x
def noB : ByteArray := ⟨#[]⟩
open Classical in
/-- what Build tells -/
noncomputable def ubuild (a a' : Adr) (s d : Int) (x : ByteArray) : ByteArray × Int :=
  if UGood a a' s d then (if x.size ≤ 65507 then (ubytes a a' s d x, 0) else (noB, 75)) else (noB, 1)
theorem ufirst_size (s d : Int) (x : ByteArray) : (ufirst s d x).size = 6 := by simp [ufirst, ByteArray.size_append, putB_size]
theorem ubad {a a' : Adr} {s d : Int} (h : ¬ UGood a a' s d) : ends a a' = false ∨ (ends a a' = true ∧ s < 0) ∨ (ends a a' = true ∧ 0 ≤ s ∧ 65535 < s) ∨ (ends a a' = true ∧ 0 ≤ s ∧ s ≤ 65535 ∧ d < 0) ∨ (ends a a' = true ∧ 0 ≤ s ∧ s ≤ 65535 ∧ 0 ≤ d ∧ 65535 < d) := by
  unfold UGood at h
  cases he : ends a a'
  · exact .inl rfl
  · rw [he] at h
    simp only [true_and] at h
    right
    by_cases h1 : s < 0
    · exact .inl ⟨rfl, h1⟩
    right
    by_cases h2 : 65535 < s
    · exact .inl ⟨rfl, by omega, h2⟩
    right
    by_cases h3 : d < 0
    · exact .inl ⟨rfl, by omega, by omega, h3⟩
    right
    exact ⟨rfl, by omega, by omega, by omega, by omega⟩

theorem Build16_any (a a' : Adr) (s d : Int) (x : ByteArray) (w : World) (hx : x.size ≤ 1000000000000000) :
    Calls Try.prog 18 [a.val, a'.val, udpV s d x].toArray w fun e w' => e = .returned (.tuple #[.string (ubuild a a' s d x).1, .int .i64 (ubuild a a' s d x).2]) ∧ Mem w [] [] w' := by
  by_cases hg : UGood a a' s d
  · obtain ⟨he, hs0, hs1, hd0, hd1⟩ := hg
    have hg : UGood a a' s d := ⟨he, hs0, hs1, hd0, hd1⟩
    refine calls_of_z Try.func18 rfl Try.ntmps18 rfl (Mem.refl w) ?_; intro cs b hb hk
    repeat (first | (refine st ?_) | (refine sb ?_) | (intro _))
    ((try (refine sg ?_)); (refine zx_call0 rfl fnc70 rfl rfl (fun w hm => ends16_any a a' w) ?_))
    repeat (first | (refine st ?_) | (refine sb ?_) | (intro _))
    by_cases hl : x.size ≤ 65507
    · have e8 : IntKind.i64.wrap (8 + (x.size : Int)) = 8 + x.size := wr64 (by omega) (by omega)
      repeat (first | (refine st ?_) | (refine sb ?_) | (intro _))
      ((try (refine sg ?_)); (refine zx_call0 rfl fnc71 rfl rfl (fun w hm => two_any s w hs0 (by omega)) ?_))
      repeat (first | (refine st ?_) | (refine sb ?_) | (intro _))
      ((try (refine sg ?_)); (refine zx_call0 rfl fnc71 rfl rfl (fun w hm => two_any d w hd0 (by omega)) ?_))
      repeat (first | (refine st ?_) | (refine sb ?_) | (intro _))
      refine zx_re 49 (.int .i64 (8 + x.size)) rfl (congrArg _ e8) ?_
      ((try (refine sg ?_)); (refine zx_call0 rfl fnc71 rfl rfl (fun w hm => two_any (8 + x.size) w (by omega) (by omega)) ?_))
      repeat (first | (refine st ?_) | (refine sb ?_) | (intro _))
      ((try (refine sg ?_)); (refine zx_call0 rfl fnc72 rfl rfl (fun w hm => sum16_any a a' (ufirst s d x) x w he (by rw [ufirst_size]; omega) (by omega)) ?_))
      repeat (first | (refine st ?_) | (refine sb ?_) | (intro _))
      have hu := usum_range a a' (ufirst s d x) x
      ((try (refine sg ?_)); (refine zx_call0 rfl fnc71 rfl rfl (fun w hm => two_any (usum a a' (ufirst s d x) x) w (by omega) (by omega)) ?_))
      repeat (first | (refine st ?_) | (refine sb ?_) | (intro _))
      refine z_ret2 tab_ok Try.func18 hb hk Try.results18 (.tmp rfl) (.tmp rfl) (fun w hm => ?_)
      refine ⟨?_, hm.bare⟩
      rw [ubuild, if_pos hg, if_pos hl]
      rfl
    · repeat (first | (refine st ?_) | (refine sb ?_) | (intro _))
      refine z_ret2 tab_ok Try.func18 hb hk Try.results18 (.tmp rfl) (.tmp rfl) (fun w hm => ?_)
      refine ⟨?_, hm.bare⟩
      rw [ubuild, if_pos hg, if_neg hl]
      rfl
  · rw [ubuild, if_neg hg]
    rcases ubad hg with he | ⟨he, h1⟩ | ⟨he, h1, h2⟩ | ⟨he, h1, h2, h3⟩ | ⟨he, h1, h2, h3, h4⟩
    all_goals
      refine calls_of_z Try.func18 rfl Try.ntmps18 rfl (Mem.refl w) ?_; intro cs b hb hk
      repeat (first | (refine st ?_) | (refine sb ?_) | (intro _))
      ((try (refine sg ?_)); (refine zx_call0 rfl fnc70 rfl rfl (fun w hm => ends16_any a a' w) ?_))
      repeat (first | (refine st ?_) | (refine sb ?_) | (intro _))
      refine z_ret2 tab_ok Try.func18 hb hk Try.results18 (.tmp rfl) (.tmp rfl) (fun w hm => ?_)
      exact ⟨rfl, hm.bare⟩
end Go.Proofs.Ytabcaiecoiejkaa
