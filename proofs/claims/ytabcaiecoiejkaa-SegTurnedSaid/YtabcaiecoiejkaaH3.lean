/- Walks of seg.Size, its reference, and seg.Flags. -/
import Derived.Test.YtabcaiecoiejkaaH2
set_option maxRecDepth 100000
set_option linter.unusedSimpArgs false
set_option linter.unusedVariables false
set_option maxHeartbeats 800000
namespace Go.Proofs.Ytabcaiecoiejkaa
open Go K

/-- how many places a segment takes -/
def splaces (s : Sg) : Int := s.data.size + (if bits .and .i64 s.flags 2 = 0 then 0 else 1) + (if bits .and .i64 s.flags 1 = 0 then 0 else 1)
theorem SizeS_any (s : Sg) (w : World) (hx : s.data.size ≤ 1000000000000000) : Calls Try.prog 27 [s.val].toArray w fun e w' => e = .returned (.int .i64 (splaces s)) ∧ Mem w [] [] w' := by
  have w1 : IntKind.i64.wrap ((s.data.size : Int) + 1) = s.data.size + 1 := wr64 (by omega) (by omega)
  have w2 : IntKind.i64.wrap ((s.data.size : Int) + 1 + 1) = s.data.size + 1 + 1 := wr64 (by omega) (by omega)
  unfold splaces
  by_cases e2 : bits .and .i64 s.flags 2 = 0 <;> by_cases e1 : bits .and .i64 s.flags 1 = 0
  · rw [if_pos e2, if_pos e1]
    refine calls_of_z Try.func27 rfl Try.ntmps27 rfl (Mem.refl w) ?_; intro cs b hb hk
    repeat (first | (refine st ?_) | (refine sb ?_) | (intro _) | (refine z_once ?_) | (refine z_again ?_))
    refine z_ret1 tab_ok Try.func27 hb hk Try.results27 (.tmp rfl) (fun w hm => ?_)
    exact ⟨by rw [Int.add_zero, Int.add_zero], hm.bare⟩
  · rw [if_pos e2, if_neg e1]
    refine calls_of_z Try.func27 rfl Try.ntmps27 rfl (Mem.refl w) ?_; intro cs b hb hk
    repeat (first | (refine st ?_) | (refine sb ?_) | (intro _) | (refine z_once ?_) | (refine z_again ?_))
    refine z_ret1 tab_ok Try.func27 hb hk Try.results27 (.tmp rfl) (fun w hm => ?_)
    exact ⟨by rw [Int.add_zero, w1], hm.bare⟩
  · rw [if_neg e2, if_pos e1]
    refine calls_of_z Try.func27 rfl Try.ntmps27 rfl (Mem.refl w) ?_; intro cs b hb hk
    repeat (first | (refine st ?_) | (refine sb ?_) | (intro _) | (refine z_once ?_) | (refine z_again ?_))
    refine z_ret1 tab_ok Try.func27 hb hk Try.results27 (.tmp rfl) (fun w hm => ?_)
    exact ⟨by rw [Int.add_zero, w1], hm.bare⟩
  · rw [if_neg e2, if_neg e1]
    refine calls_of_z Try.func27 rfl Try.ntmps27 rfl (Mem.refl w) ?_; intro cs b hb hk
    repeat (first | (refine st ?_) | (refine sb ?_) | (intro _) | (refine z_once ?_) | (refine z_again ?_))
    refine z_ret1 tab_ok Try.func27 hb hk Try.results27 (.tmp rfl) (fun w hm => ?_)
    exact ⟨by rw [w1, w2], hm.bare⟩
theorem SizeR18_any (s : Sg) (w : World) (hx : s.data.size ≤ 1000000000000000) : Calls Try.prog 28 [s.val].toArray w fun e w' => e = .returned (.int .i64 (splaces s)) ∧ Mem w [] [] w' := by
  have w1 : IntKind.i64.wrap ((s.data.size : Int) + 1) = s.data.size + 1 := wr64 (by omega) (by omega)
  have w2 : IntKind.i64.wrap ((s.data.size : Int) + 1 + 1) = s.data.size + 1 + 1 := wr64 (by omega) (by omega)
  unfold splaces
  by_cases e2 : bits .and .i64 s.flags 2 = 0 <;> by_cases e1 : bits .and .i64 s.flags 1 = 0
  · rw [if_pos e2, if_pos e1]
    refine calls_of_z Try.func28 rfl Try.ntmps28 rfl (Mem.refl w) ?_; intro cs b hb hk
    repeat (first | (refine st ?_) | (refine sb ?_) | (intro _) | (refine z_once ?_) | (refine z_again ?_))
    refine z_ret1 tab_ok Try.func28 hb hk Try.results28 (.tmp rfl) (fun w hm => ?_)
    exact ⟨by rw [Int.add_zero, Int.add_zero], hm.bare⟩
  · rw [if_pos e2, if_neg e1]
    refine calls_of_z Try.func28 rfl Try.ntmps28 rfl (Mem.refl w) ?_; intro cs b hb hk
    repeat (first | (refine st ?_) | (refine sb ?_) | (intro _) | (refine z_once ?_) | (refine z_again ?_))
    refine z_ret1 tab_ok Try.func28 hb hk Try.results28 (.tmp rfl) (fun w hm => ?_)
    exact ⟨by rw [Int.add_zero, w1], hm.bare⟩
  · rw [if_neg e2, if_pos e1]
    refine calls_of_z Try.func28 rfl Try.ntmps28 rfl (Mem.refl w) ?_; intro cs b hb hk
    repeat (first | (refine st ?_) | (refine sb ?_) | (intro _) | (refine z_once ?_) | (refine z_again ?_))
    refine z_ret1 tab_ok Try.func28 hb hk Try.results28 (.tmp rfl) (fun w hm => ?_)
    exact ⟨by rw [Int.add_zero, w1], hm.bare⟩
  · rw [if_neg e2, if_neg e1]
    refine calls_of_z Try.func28 rfl Try.ntmps28 rfl (Mem.refl w) ?_; intro cs b hb hk
    repeat (first | (refine st ?_) | (refine sb ?_) | (intro _) | (refine z_once ?_) | (refine z_again ?_))
    refine z_ret1 tab_ok Try.func28 hb hk Try.results28 (.tmp rfl) (fun w hm => ?_)
    exact ⟨by rw [w1, w2], hm.bare⟩
def sflags (s : Sg) (fs : List Int) : Bool := fs.all fun f => bits .and .i64 s.flags f == f
theorem Flags_any (s : Sg) (fs : List Int) (bs off cap : Nat) (w : World) (hc : ∀ (i : Nat) f, fs[i]? = some f → w.cell? ⟨bs, off + i, none⟩ = some (.int .i64 f)) (hn : fs.length ≤ 1000000000000000) :
    Calls Try.prog 29 [s.val, .slice (some ⟨bs, off, none⟩) fs.length cap].toArray w fun e w' => e = .returned (.bool (sflags s fs)) ∧ Mem w [] [] w' := by
  refine calls_of_z Try.func29 rfl Try.ntmps29 rfl (Mem.refl w) ?_; intro cs b hb hk
  repeat (first | (refine st ?_) | (intro _))
  rename_i p
  refine z_loop (fun i : Nat => i ≤ fs.length ∧ ∀ j f, j < i → fs[j]? = some f → bits .and .i64 s.flags f = f) (fun i => [(2, ptr p), (7, .slice (some ⟨bs, off, none⟩) fs.length cap), (8, .int .i64 (fs.length : Int)), (9, .int .i64 (i : Int))]) (fun _ => [pG p s]) (fun i => fs.length - i) 0 ⟨Nat.zero_le _, fun j f h => absurd h (Nat.not_lt_zero _)⟩ (by refine ⟨rfl, rfl, rfl, rfl, trivial⟩) (List.Sublist.refl _) ?_
  intro i hi ih
  obtain ⟨hi, ha⟩ := hi
  by_cases hlt : i < fs.length
  · obtain ⟨f, hf⟩ : ∃ f, fs[i]? = some f := ⟨fs[i], by simp [hlt]⟩
    repeat (first | (refine st ?_) | (refine sb ?_) | (intro _))
    refine zx_idxA (sz := i) tab_ok rfl rfl rfl rfl rfl rfl (by omega) (by omega) (by simp) ?_
    refine zx_loadB (v := .int .i64 f) tab_ok rfl rfl rfl rfl (hc i f hf) (by simp) rfl ?_
    repeat (first | (refine st ?_) | (refine sb ?_) | (intro _))
    by_cases hq : bits .and .i64 s.flags f = f
    · repeat (first | (refine st ?_) | (refine sb ?_) | (intro _))
      refine z_weaken _ _ ?_ (List.Sublist.refl _) (fun _ h => h) (ih (i + 1) ⟨hlt, fun j g hj hg => by
        by_cases e : j = i
        · subst e; rw [hf] at hg; cases hg; exact hq
        · exact ha j g (by omega) hg⟩ (by omega))
      exact ⟨rfl, rfl, rfl, congrArg (fun x => some (Value.int .i64 x)) (wr64 (by omega) (by omega)), trivial⟩
    · have hall : sflags s fs = false := by
        unfold sflags
        rw [List.all_eq_false]
        exact ⟨f, List.mem_of_getElem? hf, by simpa using hq⟩
      repeat (first | (refine st ?_) | (refine sb ?_) | (intro _))
      refine z_ret1 tab_ok Try.func29 hb hk Try.results29 (.tmp rfl) (fun w hm => ?_)
      exact ⟨by rw [hall], hm.bare⟩
  · have hall : sflags s fs = true := by
      unfold sflags
      rw [List.all_eq_true]
      intro f hf
      obtain ⟨j, hj⟩ := List.getElem?_of_mem hf
      have hjl : j < fs.length := (List.getElem?_eq_some_iff.1 hj).1
      simpa using ha j f (by omega) hj
    repeat (first | (refine st ?_) | (refine sb ?_) | (intro _))
    refine z_ret1 tab_ok Try.func29 hb hk Try.results29 (.tmp rfl) (fun w hm => ?_)
    exact ⟨by rw [hall], hm.bare⟩
theorem Flags_none (s : Sg) (w : World) : Calls Try.prog 29 [s.val, .slice none 0 0].toArray w fun e w' => e = .returned (.bool true) ∧ Mem w [] [] w' := by
  refine calls_of_z Try.func29 rfl Try.ntmps29 rfl (Mem.refl w) ?_; intro cs b hb hk
  repeat (first | (refine st ?_) | (refine sb ?_) | (intro _) | (refine z_once ?_) | (refine z_again ?_))
  refine z_ret1 tab_ok Try.func29 hb hk Try.results29 (.tmp rfl) (fun w hm => ?_)
  exact ⟨rfl, hm.bare⟩
end Go.Proofs.Ytabcaiecoiejkaa
