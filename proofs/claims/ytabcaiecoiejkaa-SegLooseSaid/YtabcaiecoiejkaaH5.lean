/- Walk of the law SegBytes: it answers true. -/
import Derived.Test.YtabcaiecoiejkaaH4
set_option maxRecDepth 100000
set_option linter.unusedSimpArgs false
set_option linter.unusedVariables false
set_option maxHeartbeats 1600000
namespace Go.Proofs.Ytabcaiecoiejkaa
open Go K

def SRange (s : Sg) : Prop := 0 ≤ s.seq ∧ s.seq ≤ 4294967295 ∧ 0 ≤ s.ack ∧ s.ack ≤ 4294967295
theorem sbuild_ok {a a' : Adr} {s : Sg} (h : (sbuild a a' s).2 = 0) : ends a a' = true ∧ SRight s ∧ slong s + s.data.size ≤ 65515 ∧ (sbuild a a' s).1 = sbytes a a' s := by
  unfold sbuild at h ⊢
  split at h
  · rename_i hg
    rw [if_pos hg]
    split at h
    · rename_i hl
      rw [if_pos hl]
      exact ⟨hg.1, hg.2, hl, rfl⟩
    · exact absurd h (by simp)
  · exact absurd h (by simp)
theorem sbytes_le (a a' : Adr) (s : Sg) (h : slong s + s.data.size ≤ 65515) : (sbytes a a' s).size ≤ 65515 := by
  rw [sbytes_size]
  unfold slong at h
  omega
theorem SegBytes_any (a a' : Adr) (s : Sg) (y : ByteArray) (w : World) (hx : s.data.size ≤ 1000000000000000) (hs : SRange s) (hy : y.size ≤ 900000000000000) :
    Calls Try.prog 4 [.agg (a.cells ++ a'.cells).toArray, s.val, .string y].toArray w fun e w' => e = .returned (.bool true) ∧ Mem w [] [] w' := by
  have hr : ∃ r, sbuild a a' s = r := ⟨_, rfl⟩
  obtain ⟨r, hr⟩ := hr
  have hq : ∃ q, sparse a a' y = q := ⟨_, rfl⟩
  obtain ⟨q, hq⟩ := hq
  have hB : ∀ w, Calls Try.prog 23 [a.val, a'.val, s.val].toArray w fun e w' => e = .returned (.tuple #[.string r.1, .int .i64 r.2]) ∧ Mem w [] [] w' := fun w => hr ▸ BuildS_any a a' s w hx hs.1 hs.2.1 hs.2.2.1 hs.2.2.2
  have hBR : ∀ w, Calls Try.prog 24 [a.val, a'.val, s.val].toArray w fun e w' => e = .returned (.tuple #[.string r.1, .int .i64 r.2]) ∧ Mem w [] [] w' := fun w => hr ▸ BuildR18_any a a' s w hx hs.1 hs.2.1 hs.2.2.1 hs.2.2.2
  have hP : ∀ w, Calls Try.prog 25 [a.val, a'.val, .string y].toArray w fun e w' => e = .returned (sparseV q) ∧ Mem w [] [] w' := fun w => hq ▸ ParseS_any a a' y w (by omega)
  have hPR : ∀ w, Calls Try.prog 26 [a.val, a'.val, .string y].toArray w fun e w' => e = .returned (sparseV q) ∧ Mem w [] [] w' := fun w => hq ▸ ParseR18_any a a' y w (by omega)
  refine calls_of_z Try.func4 rfl Try.ntmps4 rfl (Mem.refl w) ?_; intro cs b hb hk
  repeat (first | (refine st ?_) | (intro _))
  ((try (refine sg ?_)); (refine zx_call0 rfl fnc22 rfl rfl (fun w hm => awake18_any w) ?_))
  repeat (first | (refine st ?_) | (intro _))
  ((try (refine sg ?_)); (refine zx_call0 rfl fnc23 rfl rfl (fun w hm => hB w) ?_))
  repeat (first | (refine st ?_) | (intro _))
  ((try (refine sg ?_)); (refine zx_call0 rfl fnc24 rfl rfl (fun w hm => hBR w) ?_))
  repeat (first | (refine st ?_) | (intro _))
  ((try (refine sg ?_)); (refine zx_call0 rfl fnc25 rfl rfl (fun w hm => hP w) ?_))
  repeat (first | (refine st ?_) | (intro _))
  ((try (refine sg ?_)); (refine zx_call0 rfl fnc26 rfl rfl (fun w hm => hPR w) ?_))
  have e1 : ∀ z : ByteArray, (!decide (z = z)) = false := fun z => by simp
  have e1' := e1 r.1
  have e2 : (!(q.1.src == q.1.src && (q.1.dst == q.1.dst && (q.1.seq == q.1.seq && (q.1.ack == q.1.ack && (q.1.flags == q.1.flags && (q.1.win == q.1.win && (q.1.mss == q.1.mss && (q.1.scale == q.1.scale && (decide (q.1.data = q.1.data) && true)))))))))) = false := by simp
  by_cases hz : r.2 = 0
  · repeat (first | (refine st ?_) | (refine sb ?_) | (intro _))
    have hgl := sbuild_ok (a := a) (a' := a') (s := s) (by rw [hr]; exact hz)
    rw [hr] at hgl
    obtain ⟨g1, g2, g3, g4⟩ := hgl
    have hsz : r.1.size ≤ 65515 := by rw [g4]; exact sbytes_le a a' s g3
    have hrd : sparse a a' r.1 = (s, 0) := by rw [g4]; exact roundS a a' s g1 g2 hs.1 hs.2.1 hs.2.2.1 hs.2.2.2 g3
    have hP2 : ∀ w, Calls Try.prog 25 [a.val, a'.val, .string r.1].toArray w fun e w' => e = .returned (sparseV (s, 0)) ∧ Mem w [] [] w' := fun w => hrd ▸ ParseS_any a a' r.1 w (by omega)
    repeat (first | (refine st ?_) | (refine sb ?_) | (intro _))
    ((try (refine sg ?_)); (refine zx_call0 rfl fnc25 rfl rfl (fun w hm => hP2 w) ?_))
    repeat (first | (refine st ?_) | (refine sb ?_) | (intro _))
    refine z_ret1 tab_ok Try.func4 hb hk Try.results4 (.tmp rfl) (fun w hm => ?_)
    exact ⟨by simp, hm.bare⟩
  · repeat (first | (refine st ?_) | (refine sb ?_) | (intro _))
    refine z_ret1 tab_ok Try.func4 hb hk Try.results4 (.tmp rfl) (fun w hm => ?_)
    exact ⟨rfl, hm.bare⟩
end Go.Proofs.Ytabcaiecoiejkaa
