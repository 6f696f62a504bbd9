/- From a row's hypothesis to the shapes of the arguments: a slice of numbers (as in R7, with nothing of the sessions). -/
import Derived.Test.YtabcaiecoiejkaaR1
import Derived.ChangeSlices
set_option maxRecDepth 100000
set_option linter.unusedSimpArgs false
set_option linter.unusedVariables false
namespace Go.Proofs.Ytabcaiecoiejkaa
open Go K Go.ChangeShapes Go.WideShapes Go.ChangeAt Go.RowKit

theorem wf_i64j {n : Int} (h : (Lit.int .i64 n).wf = true) : -9223372036854775808 ≤ n ∧ n ≤ 9223372036854775807 := by
  simp only [Lit.wf, Bool.and_eq_true, decide_eq_true_eq] at h
  simpa [IntKind.min, IntKind.max, IntKind.bits, IntKind.signed] using h
section
variable {H : Type} {enc : TypeId × Value → H} {w : World} {base b0 : Nat} {sp : Nat → Bool} {held : Bool}
/-- a slice of numbers -/
theorem ints_paramJ {t : TypeId} (ht : Try.prog.underlying t = some (.slice 3)) {v : Value} {d : DataW H} {ps : List MemPlace} (hval : Value.okWide Try.prog w .any b0 t v) (h : DataW.Trod enc Try.prog w base sp held t v d ps)
    {ts : List TypeId} {ds : List (DataW H)} (hsz : (DataW.weightsEach Try.prog ts ds).all (· ≤ reachBytes) = true) {j : Nat} (htj : ts[j]? = some t) (hdj : ds[j]? = some d) :
    (∃ o cap, v = .slice o 0 cap) ∨ ∃ (b off cap : Nat) (fs : List Int), v = .slice (some ⟨b, off, none⟩) fs.length cap ∧ (∀ (i : Nat) f, fs[i]? = some f → w.cell? ⟨b, off + i, none⟩ = some (.int .i64 f)) ∧ (∀ f ∈ fs, -9223372036854775808 ≤ f ∧ f ≤ 9223372036854775807) ∧ fs.length ≤ reachBytes := by
  obtain ⟨o, len, cap, rfl⟩ := okWide_slice ht hval
  obtain ⟨fuel, hf⟩ := h
  rcases open_ints ht Try.underlying3 (by kernel_rfl) hf with ⟨hcs, hx⟩ | ⟨a, l', c', zs, hcs, _, hl, hm, hz, hx, hcell, hwf⟩
  · simp [Value.cells] at hcs
    obtain ⟨rfl, rfl, rfl⟩ := hcs
    exact .inl ⟨_, _, rfl⟩
  · simp [Value.cells] at hcs
    obtain ⟨rfl, rfl, rfl⟩ := hcs
    have hle : len ≤ zs.length := by rw [hz]; split <;> omega
    simp only [Prod.mk.injEq] at hx
    obtain ⟨rfl, _⟩ := hx
    have hs := sized_slice hsz htj hdj ht
    have hb : Try.prog.bytesOf 3 = 8 := by kernel_rfl
    rw [hb] at hs
    have hlits : (lits .i64 (zs.take len) : List (DataW H)).length = len := by simp [lits]; omega
    rw [hlits] at hs
    by_cases h0 : len = 0
    · subst h0; exact .inl ⟨_, _, rfl⟩
    · obtain ⟨b, off, rfl, hc⟩ := ints_at hcell (by omega)
      refine .inr ⟨b, off, cap, zs.take len, ?_, ?_, fun f hf => wf_i64j (hwf f (List.mem_of_mem_take hf)), ?_⟩
      · rw [List.length_take, Nat.min_eq_left hle]
      · intro i f hf
        have hi : i < len := by
          have := (List.getElem?_eq_some_iff.1 hf).1
          rw [List.length_take] at this
          omega
        rw [List.getElem?_take_of_lt hi] at hf
        rw [hc i (by omega), List.getD_eq_getElem?_getD, hf]
        rfl
      · rw [List.length_take, Nat.min_eq_left hle]
        omega
end
end Go.Proofs.Ytabcaiecoiejkaa
