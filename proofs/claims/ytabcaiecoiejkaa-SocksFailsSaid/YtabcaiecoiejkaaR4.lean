/- From a row's hypothesis to the shapes of the arguments: arrays of bytes. -/
import Derived.Test.YtabcaiecoiejkaaR1
set_option maxRecDepth 100000
set_option linter.unusedSimpArgs false
set_option linter.unusedVariables false
namespace Go.Proofs.Ytabcaiecoiejkaa
open Go K Go.ChangeShapes Go.WideShapes Go.ChangeAt Go.RowKit

theorem cells_of_okWideA {w : World} {base : Nat} {t : TypeId} {v : Value} {n : Nat} {e : TypeId} {ts : List TypeId} (ht : Try.prog.underlying t = some (.array n e)) (hts : Try.prog.cellTypes Try.prog.depth t = some ts) (hn : Try.prog.cellsOf t = ts.length) (h : Value.okWide Try.prog w .any base t v) :
    ∃ vs : List Value, v = .agg vs.toArray ∧ CellsOk w base ts vs := by
  unfold Value.okWide at h
  rw [ht] at h
  obtain ⟨cs, rfl, hsz, ts', hts', _, hc⟩ := h
  rw [hts] at hts'
  simp only [Option.some.injEq] at hts'
  subst hts'
  refine ⟨cs.toList, by simp, cellsOk_of ts cs.toList (by rw [Array.length_toList, hsz, hn]) fun i v hv => ?_⟩
  rw [Array.getElem?_toList] at hv
  obtain ⟨u, hu, hk⟩ := hc i v hv
  have hlt : i < ts.length := by
    rw [← hn, ← hsz]
    exact (Array.getElem?_eq_some_iff.1 hv).1
  rw [Nat.mod_eq_of_lt hlt] at hu
  exact ⟨u, hu, hk⟩
theorem has_u8 {n : Int} (h : IntKind.u8.has n) : 0 ≤ n ∧ n ≤ 255 := by
  simpa [IntKind.has, IntKind.min, IntKind.max, IntKind.bits, IntKind.signed] using h
/-- an array of bytes -/
theorem bytes_of {w : World} {base : Nat} {t : TypeId} {v : Value} {n : Nat} (ht : Try.prog.underlying t = some (.array n 5)) (hts : Try.prog.cellTypes Try.prog.depth t = some (List.replicate n 5)) (hn : Try.prog.cellsOf t = n) (h : Value.okWide Try.prog w .any base t v) :
    ∃ l : List Int, v = .agg (l.map (Value.int .u8)).toArray ∧ l.length = n ∧ Small l := by
  obtain ⟨vs, rfl, ho⟩ := cells_of_okWideA ht (ts := List.replicate n 5) hts (by rw [hn, List.length_replicate]) h
  obtain ⟨l, rfl, hl, hh⟩ := ints_of Try.underlying5 n vs ho
  exact ⟨l, rfl, hl, fun x hx => has_u8 (hh x hx)⟩
end Go.Proofs.Ytabcaiecoiejkaa
