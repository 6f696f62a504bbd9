/- Walks of package seg: ends, right, put, sum; and the reference's ends, within, Right, put, get, check. -/
import Derived.Test.YtabcaiecoiejkaaB5
set_option maxRecDepth 100000
set_option linter.unusedSimpArgs false
set_option linter.unusedVariables false
set_option maxHeartbeats 800000
namespace Go.Proofs.Ytabcaiecoiejkaa
open Go K

/-- a segment -/
structure Sg where
  src : Int
  dst : Int
  seq : Int
  ack : Int
  flags : Int
  win : Int
  mss : Int
  scale : Int
  data : ByteArray
def Sg.val (s : Sg) : Value := .agg #[.int .i64 s.src, .int .i64 s.dst, .int .u32 s.seq, .int .u32 s.ack, .int .i64 s.flags, .int .i64 s.win, .int .i64 s.mss, .int .i64 s.scale, .string s.data]
def SRight (s : Sg) : Prop := 0 ≤ s.src ∧ s.src ≤ 65535 ∧ 0 ≤ s.dst ∧ s.dst ≤ 65535 ∧ 0 ≤ s.win ∧ s.win ≤ 65535 ∧ 0 ≤ s.mss ∧ s.mss ≤ 65535 ∧ 0 ≤ s.flags ∧ s.flags ≤ 255 ∧ -1 ≤ s.scale ∧ s.scale ≤ 14
instance (s : Sg) : Decidable (SRight s) := by unfold SRight; infer_instance

theorem endsS_any (a a' : Adr) (w : World) :
    Calls Try.prog 79 [a.val, a'.val].toArray w fun e w' => e = .returned (.bool (ends a a')) ∧ Mem w [] [] w' := by
  refine calls_of_z Try.func79 rfl Try.ntmps79 rfl (Mem.refl w) ?_; intro cs b hb hk
  repeat (first | (refine st ?_) | (refine sb ?_) | (intro _))
  ((try (refine sg ?_)); (refine zx_call0 rfl fnc48 rfl rfl (fun w hm => Valid_any a w) ?_))
  repeat (first | (refine st ?_) | (refine sb ?_) | (intro _))
  refine zx_split (t := 7) rfl (fun h => ?_) (fun h => ?_)
  · repeat (first | (refine st ?_) | (refine sb ?_) | (intro _))
    ((try (refine sg ?_)); (refine zx_call0 rfl fnc48 rfl rfl (fun w hm => Valid_any a' w) ?_))
    repeat (first | (refine st ?_) | (refine sb ?_) | (intro _))
    refine zx_split (t := 11) rfl (fun h1 => ?_) (fun h1 => ?_)
    · repeat (first | (refine st ?_) | (refine sb ?_) | (intro _))
      refine z_ret1 tab_ok Try.func79 hb hk Try.results79 (.tmp rfl) (fun w hm => ?_)
      exact ⟨by simp [ends, h, h1], hm.bare⟩
    · repeat (first | (refine st ?_) | (refine sb ?_) | (intro _))
      refine z_ret1 tab_ok Try.func79 hb hk Try.results79 (.tmp rfl) (fun w hm => ?_)
      exact ⟨by simp [ends, h, h1], hm.bare⟩
  · repeat (first | (refine st ?_) | (refine sb ?_) | (intro _))
    refine z_ret1 tab_ok Try.func79 hb hk Try.results79 (.tmp rfl) (fun w hm => ?_)
    exact ⟨by simp [ends, h], hm.bare⟩
theorem endsR18_any (a a' : Adr) (w : World) :
    Calls Try.prog 83 [a.val, a'.val].toArray w fun e w' => e = .returned (.bool (ends a a')) ∧ Mem w [] [] w' := by
  cases h : a.valid <;> cases h1 : a'.valid
  all_goals
    refine calls_of_z Try.func83 rfl Try.ntmps83 rfl (Mem.refl w) ?_; intro cs b hb hk
    repeat (first | (refine st ?_) | (refine sb ?_) | (intro _))
    ((try (refine sg ?_)); (refine zx_call0 rfl fnc118 rfl rfl (fun w hm => ValidR_any a w) ?_))
    repeat (first | (refine st ?_) | (refine sb ?_) | (intro _))
    ((try (refine sg ?_)); (refine zx_call0 rfl fnc118 rfl rfl (fun w hm => ValidR_any a' w) ?_))
    repeat (first | (refine st ?_) | (refine sb ?_) | (intro _))
    refine z_ret1 tab_ok Try.func83 hb hk Try.results83 (.tmp rfl) (fun w hm => ?_)
    exact ⟨by simp [ends, h, h1], hm.bare⟩
theorem sbad {s : Sg} (h : ¬ SRight s) : s.src < 0 ∨ (0 ≤ s.src ∧ 65535 < s.src) ∨ (0 ≤ s.src ∧ s.src ≤ 65535 ∧ s.dst < 0) ∨ (0 ≤ s.src ∧ s.src ≤ 65535 ∧ 0 ≤ s.dst ∧ 65535 < s.dst) ∨
    (0 ≤ s.src ∧ s.src ≤ 65535 ∧ 0 ≤ s.dst ∧ s.dst ≤ 65535 ∧ s.win < 0) ∨ (0 ≤ s.src ∧ s.src ≤ 65535 ∧ 0 ≤ s.dst ∧ s.dst ≤ 65535 ∧ 0 ≤ s.win ∧ 65535 < s.win) ∨
    ((0 ≤ s.src ∧ s.src ≤ 65535 ∧ 0 ≤ s.dst ∧ s.dst ≤ 65535 ∧ 0 ≤ s.win ∧ s.win ≤ 65535) ∧
      (s.mss < 0 ∨ (0 ≤ s.mss ∧ 65535 < s.mss) ∨ ((0 ≤ s.mss ∧ s.mss ≤ 65535) ∧
        (s.flags < 0 ∨ (0 ≤ s.flags ∧ 255 < s.flags) ∨ (0 ≤ s.flags ∧ s.flags ≤ 255 ∧ s.scale < -1) ∨ (0 ≤ s.flags ∧ s.flags ≤ 255 ∧ -1 ≤ s.scale ∧ 14 < s.scale))))) := by
  unfold SRight at h
  omega
theorem right_any (s : Sg) (w : World) : Calls Try.prog 80 [s.val].toArray w fun e w' => e = .returned (.bool (decide (SRight s))) ∧ Mem w [] [] w' := by
  by_cases hg : SRight s
  · have hg' := hg
    obtain ⟨h1, h2, h3, h4, h5, h6, h7, h8, h9, h10, h11, h12⟩ := hg'
    refine calls_of_z Try.func80 rfl Try.ntmps80 rfl (Mem.refl w) ?_; intro cs b hb hk
    repeat (first | (refine st ?_) | (refine sb ?_) | (intro _) | (refine z_once ?_) | (refine z_again ?_))
    refine z_ret1 tab_ok Try.func80 hb hk Try.results80 (.tmp rfl) (fun w hm => ?_)
    exact ⟨by simp [hg, h11, h12], hm.bare⟩
  · rcases sbad hg with h | ⟨h1, h⟩ | ⟨h1, h2, h⟩ | ⟨h1, h2, h3, h⟩ | ⟨h1, h2, h3, h4, h⟩ | ⟨h1, h2, h3, h4, h5, h⟩ | ⟨⟨h1, h2, h3, h4, h5, h6⟩, h | ⟨h7, h⟩ | ⟨⟨h7, h8⟩, h | ⟨h9, h⟩ | ⟨h9, h10, h⟩ | ⟨h9, h10, h11, h⟩⟩⟩
    all_goals
      rw [decide_eq_false hg]
      refine calls_of_z Try.func80 rfl Try.ntmps80 rfl (Mem.refl w) ?_; intro cs b hb hk
      repeat (first | (refine st ?_) | (refine sb ?_) | (intro _) | (refine z_once ?_) | (refine z_again ?_))
      refine z_ret1 tab_ok Try.func80 hb hk Try.results80 (.tmp rfl) (fun w hm => ?_)
      refine ⟨?_, hm.bare⟩
      first | rfl | (simp; omega)
end Go.Proofs.Ytabcaiecoiejkaa
