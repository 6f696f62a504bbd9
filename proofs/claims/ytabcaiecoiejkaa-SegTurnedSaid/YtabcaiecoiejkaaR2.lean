/- From a row's hypothesis to the shapes of the arguments: a segment. -/
import Derived.Test.YtabcaiecoiejkaaR1
import Derived.Test.YtabcaiecoiejkaaH5
set_option maxRecDepth 100000
set_option linter.unusedSimpArgs false
set_option linter.unusedVariables false
namespace Go.Proofs.Ytabcaiecoiejkaa
open Go K Go.ChangeShapes Go.WideShapes Go.ChangeAt Go.RowKit

theorem has_i64 {n : Int} (h : IntKind.i64.has n) : -9223372036854775808 ≤ n ∧ n ≤ 9223372036854775807 := by
  simpa [IntKind.has, IntKind.min, IntKind.max, IntKind.bits, IntKind.signed] using h
theorem has_u32 {n : Int} (h : IntKind.u32.has n) : 0 ≤ n ∧ n ≤ 4294967295 := by
  simpa [IntKind.has, IntKind.min, IntKind.max, IntKind.bits, IntKind.signed] using h
theorem cells9 {w : World} {base : Nat} {t1 t2 t3 t4 t5 t6 t7 t8 t9 : TypeId} {vs : List Value} (h : CellsOk w base [t1, t2, t3, t4, t5, t6, t7, t8, t9] vs) : ∃ a b c d e f g h i, vs = [a, b, c, d, e, f, g, h, i] ∧ Cell.okWide Try.prog w .any base t1 a ∧ Cell.okWide Try.prog w .any base t2 b ∧ Cell.okWide Try.prog w .any base t3 c ∧
    Cell.okWide Try.prog w .any base t4 d ∧ Cell.okWide Try.prog w .any base t5 e ∧ Cell.okWide Try.prog w .any base t6 f ∧ Cell.okWide Try.prog w .any base t7 g ∧ Cell.okWide Try.prog w .any base t8 h ∧ Cell.okWide Try.prog w .any base t9 i := by
  match vs, h with
  | [a, b, c, d, e, f, g, h', i], h => exact ⟨a, b, c, d, e, f, g, h', i, rfl, h.1, h.2.1, h.2.2.1, h.2.2.2.1, h.2.2.2.2.1, h.2.2.2.2.2.1, h.2.2.2.2.2.2.1, h.2.2.2.2.2.2.2.1, h.2.2.2.2.2.2.2.2.1⟩
/-- a segment -/
theorem seg_of {w : World} {base : Nat} {v : Value} (h : Value.okWide Try.prog w .any base 39 v) : ∃ s : Sg, v = s.val ∧ SRange s ∧ (-9223372036854775808 ≤ s.flags ∧ s.flags ≤ 9223372036854775807) := by
  obtain ⟨c1, rfl, oo⟩ := cells_of_okWide Try.underlying39 (ts := [3, 3, 37, 37, 3, 3, 3, 3, 9]) (by kernel_rfl) (by kernel_rfl) h
  obtain ⟨s0, s1, s2, s3, s4, s5, s6, s7, s8, rfl, o0, o1, o2, o3, o4, o5, o6, o7, o8⟩ := cells9 oo
  obtain ⟨x0, rfl, hx0⟩ := cell_int Try.underlying3 o0
  obtain ⟨x1, rfl, hx1⟩ := cell_int Try.underlying3 o1
  obtain ⟨x2, rfl, hx2⟩ := cell_int Try.underlying37 o2
  obtain ⟨x3, rfl, hx3⟩ := cell_int Try.underlying37 o3
  obtain ⟨x4, rfl, hx4⟩ := cell_int Try.underlying3 o4
  obtain ⟨x5, rfl, hx5⟩ := cell_int Try.underlying3 o5
  obtain ⟨x6, rfl, hx6⟩ := cell_int Try.underlying3 o6
  obtain ⟨x7, rfl, hx7⟩ := cell_int Try.underlying3 o7
  obtain ⟨x8, rfl, hx8⟩ := cell_string Try.underlying9 o8
  have r2 := has_u32 hx2
  have r3 := has_u32 hx3
  exact ⟨⟨x0, x1, x2, x3, x4, x5, x6, x7, x8⟩, rfl, ⟨r2.1, r2.2, r3.1, r3.2⟩, has_i64 hx4⟩
/-- two addresses in one struct -/
theorem two_of {w : World} {base : Nat} {t : TypeId} {v : Value} {fs : Array Field} (ht : Try.prog.underlying t = some (.struct fs)) (hts : Try.prog.cellTypes Try.prog.depth t = some ((4 :: List.replicate 16 5) ++ (4 :: List.replicate 16 5))) (hn : Try.prog.cellsOf t = 34) (h : Value.okWide Try.prog w .any base t v) :
    ∃ a a' : Adr, v = .agg (a.cells ++ a'.cells).toArray := by
  obtain ⟨c0, rfl, o0⟩ := cells_of_okWide ht (ts := (4 :: List.replicate 16 5) ++ (4 :: List.replicate 16 5)) hts hn h
  obtain ⟨e1, e2, rfl, g1, g2⟩ := cellsOk_app _ _ _ o0
  obtain ⟨a, rfl, ha⟩ := adr_of g1
  obtain ⟨a', rfl, ha'⟩ := adr_of g2
  exact ⟨a, a', rfl⟩
end Go.Proofs.Ytabcaiecoiejkaa
