/- Walks of List: slices.Sorted over maps.Keys, at a map that is nil. -/
import Derived.Test.YtabcaiecoiejkaaU0
import Derived.Test.YtabcaiecoiejkaaU1
import Derived.Shelf.SlIterI.Nil
import Derived.Shelf.SortM.Plain
import Derived.Shelf.SortM.SortNone
set_option maxRecDepth 100000
set_option linter.unusedSimpArgs false
set_option linter.unusedVariables false
set_option maxHeartbeats 2000000
namespace Go.Proofs.Ytabcaiecoiejkaa
open Go K Go.RowKit Go.Maps Go.Sort Go.Shelf

theorem below_mem {w w' : World} (h : Below w.heap.size w w') : Mem w [] [] w' := by
  obtain ⟨b1, b2, b3, b4, b5⟩ := h
  exact ⟨b4, b2, b1, b3, fun k hk _ => b5 k hk, by simp, by simp, by simp⟩
/-- slices.Sort's two contracts, at the fence that asks nothing -/
theorem sortsA (m : Nat) : AnyZI.SortsIn Try.prog Try.sortedA_ren Fence.wide m :=
  ⟨fun blk off cap ss W hH hblk hsz => callsIn_wide.2 (AnyM.slices_Sort_int Try.sortA blk off cap ss W hH hblk hsz),
   fun p cap W => callsIn_wide.2 (AnyM.slices_Sort_int_none Try.sortA p cap W)⟩
theorem Keys2_any (mb : Option Nat) (w : World) : Calls Try.prog 110 [.map mb].toArray w fun e w' => ∃ k : Nat, True ∧ e = .returned (.func (.func 134) #[] #[ptr k]) ∧ Mem w [] [(k, .c [.map mb] 148 0 0)] w' := by
  refine calls_of_z Try.func110 rfl Try.ntmps110 rfl (Mem.refl w) ?_; intro cs b hb hk
  repeat (first | (refine st ?_) | (refine stx ?_) | (intro _))
  rename_i k
  refine z_ret1 tab_ok Try.func110 hb hk Try.results110 (.tmp rfl) (fun w hm => ?_)
  exact ⟨k, trivial, rfl, hm⟩
theorem Sorted2_nil (k : Nat) (w : World) (hc : w.cell? ⟨k, 0, none⟩ = some (.map none)) : Calls Try.prog 109 [.func (.func 134) #[] #[ptr k]].toArray w fun e w' => e = .returned (.slice none 0 0) ∧ Mem w [] [] w' := by
  have hlt := World.block_lt_of_cell? w _ hc
  have hseq : SeqGives Fence.wide 2 Try.prog 134 #[.pointer (some ⟨k, 0, none⟩)] encZ (fun ss : List Int => ss = []) 0 w :=
    AnyZI.keys_gives_nil (ρ := Try.keysB_ren) { Try.keysB with } Fence.wide _ trivial rfl k w hlt hc
  have cS := AnyZI.sorted_in Try.sortedA Fence.wide 5 trivial trivial trivial trivial rfl (by omega) (sortsA _) (enters_of Try.func133 (by kernel_rfl) rfl) 134 #[.pointer (some ⟨k, 0, none⟩)] trivial (enters_of Try.func134 (by kernel_rfl) rfl) _ 0 (Nat.zero_le _) (by omega) _ hseq
  refine ((callsIn_wide (n := 5)).1 cS).mono fun e w' ⟨v, ss, he, hS, hrow, hnil, hb⟩ => ?_
  subst he
  exact ⟨congrArg _ (hnil.2 hS), below_mem hb⟩
theorem List2_nil (p : Nat) : MQ 57 [ptr p] [pP2 p none] (.slice none 0 0) := by
  intro w h
  refine calls_of_z Try.func57 rfl Try.ntmps57 rfl h ?_; intro cs b hb hk
  repeat (first | (refine st ?_) | (refine stx ?_) | (intro _))
  refine zx_call (Y := Nat) (v := fun k => .func (.func 134) #[] #[ptr k]) (Φ := fun _ => True) (L' := fun k => [(k, .c [.map none] 148 0 0), pP2 p none]) rfl fnc110 rfl rfl (fun w1 hm1 => (Keys2_any none w1).mono fun e w' ⟨k, _, he, hm'⟩ => ⟨k, trivial, he, hm1.trans0 hm'⟩) (fun k _ => ?_)
  ((try (refine sg ?_)); (refine zx_call0 rfl fnc109 rfl rfl (fun w hm => Sorted2_nil k w (hm.cell (i := 0) rfl)) ?_))
  repeat (first | (refine st ?_) | (refine stx ?_) | (intro _))
  refine z_ret1 tab_ok Try.func57 hb hk Try.results57 (.tmp rfl) (fun w hm => ?_)
  exact ⟨rfl, MQ.back h hm (List.Sublist.cons _ (List.Sublist.refl _))⟩
end Go.Proofs.Ytabcaiecoiejkaa
