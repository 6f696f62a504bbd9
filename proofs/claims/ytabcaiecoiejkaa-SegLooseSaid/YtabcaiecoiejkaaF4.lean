/- Walk of seg.Build. -/
import Derived.Test.YtabcaiecoiejkaaF3
set_option maxRecDepth 100000
set_option linter.unusedSimpArgs false
set_option linter.unusedVariables false
set_option maxHeartbeats 1600000
namespace Go.Proofs.Ytabcaiecoiejkaa
open Go K

def sopt1 (s : Sg) : ByteArray := if 0 < s.mss then ⟨#[2, 4]⟩ ++ putB s.mss 2 else noB
def sopt (s : Sg) : ByteArray := if 0 ≤ s.scale then sopt1 s ++ (⟨#[1, 3, 3]⟩ ++ putB s.scale 1) else sopt1 s
def slong (s : Sg) : Int := 20 + (sopt s).size
def sfirst (s : Sg) : ByteArray := putB s.src 2 ++ putB s.dst 2 ++ putB s.seq 4 ++ putB s.ack 4 ++ putB (slong s * 4) 1 ++ putB s.flags 1 ++ putB s.win 2
def srest (s : Sg) : ByteArray := ⟨#[0, 0]⟩ ++ sopt s ++ s.data
def sbytes (a a' : Adr) (s : Sg) : ByteArray := sfirst s ++ putB (ssum a a' (sfirst s) (srest s)) 2 ++ srest s
open Classical in
noncomputable def sbuild (a a' : Adr) (s : Sg) : ByteArray × Int :=
  if ends a a' = true ∧ SRight s then (if slong s + s.data.size ≤ 65515 then (sbytes a a' s, 0) else (noB, 75)) else (noB, 1)
theorem sopt1_size (s : Sg) : (sopt1 s).size = 0 ∨ (sopt1 s).size = 4 := by
  unfold sopt1
  split
  · right; rw [ByteArray.size_append, putB_size]; rfl
  · left; rfl
theorem sopt_size (s : Sg) : (sopt s).size = 0 ∨ (sopt s).size = 4 ∨ (sopt s).size = 8 := by
  have := sopt1_size s
  unfold sopt
  split
  · rw [ByteArray.size_append, ByteArray.size_append, putB_size, show (ByteArray.mk #[1, 3, 3]).size = 3 from rfl]; omega
  · omega
theorem sfirst_size (s : Sg) : (sfirst s).size = 16 := by simp [sfirst, ByteArray.size_append, putB_size]
theorem srest_size (s : Sg) : (srest s).size = 2 + (sopt s).size + s.data.size := by simp [srest, ByteArray.size_append]; rfl

theorem BuildS_bad (a a' : Adr) (s : Sg) (w : World) (h : ¬ (ends a a' = true ∧ SRight s)) :
    Calls Try.prog 23 [a.val, a'.val, s.val].toArray w fun e w' => e = .returned (.tuple #[.string noB, .int .i64 1]) ∧ Mem w [] [] w' := by
  by_cases he : ends a a' = true
  · have hr : decide (SRight s) = false := decide_eq_false (fun hr => h ⟨he, hr⟩)
    refine calls_of_z Try.func23 rfl Try.ntmps23 rfl (Mem.refl w) ?_; intro cs b hb hk
    repeat (first | (refine st ?_) | (refine sb ?_) | (intro _))
    ((try (refine sg ?_)); (refine zx_call0 rfl fnc79 rfl rfl (fun w hm => endsS_any a a' w) ?_))
    repeat (first | (refine st ?_) | (refine sb ?_) | (intro _))
    ((try (refine sg ?_)); (refine zx_call0 rfl fnc80 rfl rfl (fun w hm => right_any s w) ?_))
    repeat (first | (refine st ?_) | (refine sb ?_) | (intro _))
    refine z_ret2 tab_ok Try.func23 hb hk Try.results23 (.tmp rfl) (.tmp rfl) (fun w hm => ?_)
    exact ⟨rfl, hm.bare⟩
  · have he' : ends a a' = false := by simpa using he
    refine calls_of_z Try.func23 rfl Try.ntmps23 rfl (Mem.refl w) ?_; intro cs b hb hk
    repeat (first | (refine st ?_) | (refine sb ?_) | (intro _))
    ((try (refine sg ?_)); (refine zx_call0 rfl fnc79 rfl rfl (fun w hm => endsS_any a a' w) ?_))
    repeat (first | (refine st ?_) | (refine sb ?_) | (intro _))
    refine z_ret2 tab_ok Try.func23 hb hk Try.results23 (.tmp rfl) (.tmp rfl) (fun w hm => ?_)
    exact ⟨rfl, hm.bare⟩
end Go.Proofs.Ytabcaiecoiejkaa
