/- From a row's hypothesis to the shapes of the arguments: cells of structs, addresses, sizes of strings. -/
import Derived.Test.YtabcaiecoiejkaaA1
import Derived.WalkKit
import Derived.ProofKit
import Derived.OpenShut
import Derived.ShutString
import Derived.ChangeOld
import Derived.Below
import Derived.SizedLaws
import Derived.Test.YtabcaiecoiejkaaRows
set_option maxRecDepth 100000
set_option linter.unusedSimpArgs false
set_option linter.unusedVariables false
namespace Go.Proofs.Ytabcaiecoiejkaa
open Go K Go.ChangeShapes Go.WideShapes Go.ChangeAt Go.RowKit

theorem Mem.below {w w' : World} (h : Mem w [] [] w') : Below w.heap.size w w' := ⟨h.os, h.tape, h.out, h.size, fun k hk => h.base k hk (by simp)⟩
theorem laidOut : laidOutB Try.prog = true := by kernel_rfl
theorem own : ownKnob Try.prog.godebug = none := by kernel_rfl

def CellsOk (w : World) (base : Nat) : List TypeId → List Value → Prop
  | [], [] => True
  | t :: ts, v :: vs => Cell.okWide Try.prog w .any base t v ∧ CellsOk w base ts vs
  | _, _ => False
theorem cellsOk_of {w : World} {base : Nat} : ∀ (ts : List TypeId) (vs : List Value), vs.length = ts.length → (∀ (i : Nat) (v : Value), vs[i]? = some v → ∃ u : TypeId, ts[i]? = some u ∧ Cell.okWide Try.prog w .any base u v) → CellsOk w base ts vs
  | [], [], _, _ => trivial
  | [], _ :: _, h, _ => by simp at h
  | _ :: _, [], h, _ => by simp at h
  | t :: ts, v :: vs, h, hc => by
    refine ⟨?_, cellsOk_of ts vs (by simpa using h) fun i u hu => hc (i + 1) u (by simpa using hu)⟩
    obtain ⟨u, hu, hk⟩ := hc 0 v rfl
    simp only [List.getElem?_cons_zero, Option.some.injEq] at hu
    exact hu ▸ hk
theorem cells_of_okWide {w : World} {base : Nat} {t : TypeId} {v : Value} {fs : Array Field} {ts : List TypeId} (ht : Try.prog.underlying t = some (.struct fs)) (hts : Try.prog.cellTypes Try.prog.depth t = some ts) (hn : Try.prog.cellsOf t = ts.length) (h : Value.okWide Try.prog w .any base t v) :
    ∃ vs : List Value, v = .agg vs.toArray ∧ CellsOk w base ts vs := by
  unfold Value.okWide at h
  rw [ht] at h
  obtain ⟨cs, rfl, hsz, ts', hts', _, hc⟩ := h
  rw [hts] at hts'
  simp only [Option.some.injEq] at hts'
  subst hts'
  refine ⟨cs.toList, by simp, cellsOk_of ts cs.toList (by rw [Array.length_toList, hsz, hn]) fun i v hv => ?_⟩
  rw [Array.getElem?_toList] at hv
  obtain ⟨u, hu, hk⟩ := hc i v hv
  have hlt : i < ts.length := by
    rw [← hn, ← hsz]
    exact (Array.getElem?_eq_some_iff.1 hv).1
  rw [Nat.mod_eq_of_lt hlt] at hu
  exact ⟨u, hu, hk⟩
theorem cellsOk_app {w : World} {base : Nat} : ∀ (ts us : List TypeId) (vs : List Value), CellsOk w base (ts ++ us) vs → ∃ p q, vs = p ++ q ∧ CellsOk w base ts p ∧ CellsOk w base us q
  | [], us, vs, h => ⟨[], vs, rfl, trivial, h⟩
  | t :: ts, us, [], h => h.elim
  | t :: ts, us, v :: vs, h => by
    obtain ⟨p, q, rfl, hp, hq⟩ := cellsOk_app ts us vs h.2
    exact ⟨v :: p, q, rfl, ⟨h.1, hp⟩, hq⟩
theorem cell_bool {w : World} {base : Nat} {t : TypeId} {v : Value} (ht : Try.prog.underlying t = some .bool) (h : Cell.okWide Try.prog w .any base t v) : ∃ b, v = .bool b := by
  unfold Cell.okWide Cell.ok at h
  rw [ht] at h
  cases v <;> simp at h ⊢
theorem cell_int {w : World} {base : Nat} {t : TypeId} {k : IntKind} {v : Value} (ht : Try.prog.underlying t = some (.int k)) (h : Cell.okWide Try.prog w .any base t v) : ∃ n, v = .int k n ∧ k.has n := by
  unfold Cell.okWide Cell.ok at h
  rw [ht] at h
  cases v <;> simp at h ⊢
  obtain ⟨rfl, h2⟩ := h
  exact ⟨_, ⟨rfl, rfl⟩, h2⟩
theorem cell_string {w : World} {base : Nat} {t : TypeId} {v : Value} (ht : Try.prog.underlying t = some .string) (h : Cell.okWide Try.prog w .any base t v) : ∃ s, v = .string s ∧ (s.size : Int) ≤ IntKind.i64.max := by
  unfold Cell.okWide Cell.ok at h
  rw [ht] at h
  cases v <;> simp at h ⊢
  exact h
theorem ints_of {w : World} {base : Nat} {t : TypeId} {k : IntKind} (ht : Try.prog.underlying t = some (.int k)) : ∀ (n : Nat) (vs : List Value), CellsOk w base (List.replicate n t) vs → ∃ l : List Int, vs = l.map (Value.int k) ∧ l.length = n ∧ ∀ x ∈ l, k.has x
  | 0, [], _ => ⟨[], rfl, rfl, by simp⟩
  | 0, _ :: _, h => h.elim
  | n + 1, [], h => h.elim
  | n + 1, v :: vs, h => by
    obtain ⟨x, rfl, hx⟩ := cell_int ht h.1
    obtain ⟨l, rfl, hl, hh⟩ := ints_of ht n vs h.2
    exact ⟨x :: l, rfl, by simp [hl], by simpa using ⟨hx, hh⟩⟩
theorem cells3 {w : World} {base : Nat} {t1 t2 t3 : TypeId} {vs : List Value} (h : CellsOk w base [t1, t2, t3] vs) : ∃ a b c, vs = [a, b, c] ∧ Cell.okWide Try.prog w .any base t1 a ∧ Cell.okWide Try.prog w .any base t2 b ∧ Cell.okWide Try.prog w .any base t3 c := by
  match vs, h with
  | [a, b, c], h => exact ⟨a, b, c, rfl, h.1, h.2.1, h.2.2.1⟩
/-- an address -/
theorem adr_of {w : World} {base : Nat} {vs : List Value} (h : CellsOk w base (4 :: List.replicate 16 5) vs) : ∃ a : Adr, vs = a.cells ∧ ∀ i, 0 ≤ a.b i ∧ a.b i ≤ 255 := by
  match vs, h with
  | v :: vs, h =>
    obtain ⟨b, rfl⟩ := cell_bool Try.underlying4 h.1
    obtain ⟨l, rfl, hl, hh⟩ := ints_of Try.underlying5 16 vs h.2
    match l, hl with
    | [x0, x1, x2, x3, x4, x5, x6, x7, x8, x9, x10, x11, x12, x13, x14, x15], _ =>
      refine ⟨⟨b, fun i => [x0, x1, x2, x3, x4, x5, x6, x7, x8, x9, x10, x11, x12, x13, x14, x15].getD i 0⟩, rfl, fun i => ?_⟩
      have key : ∀ (l : List Int), (∀ x ∈ l, IntKind.u8.has x) → ∀ i, 0 ≤ l.getD i 0 ∧ l.getD i 0 ≤ 255 := by
        intro l hl i
        rw [List.getD_eq_getElem?_getD]
        cases hg : l[i]? with
        | none => exact ⟨by simp, by simp⟩
        | some x =>
          have := hl x (List.mem_of_getElem? hg)
          simp [IntKind.has, IntKind.min, IntKind.max, IntKind.bits, IntKind.signed] at this
          rw [Option.getD_some]
          omega
      exact key _ hh i

section
variable {H : Type} {enc : TypeId × Value → H} {w : World} {base : Nat} {sp : Nat → Bool} {held : Bool}
/-- a string field of a struct among the arguments is weighed -/
theorem struct_string {ts : List TypeId} {ds : List (DataW H)} (hsz : (DataW.weightsEach Try.prog ts ds).all (· ≤ reachBytes) = true) {j : Nat} {t : TypeId} (htj : ts[j]? = some t) {d : DataW H} (hdj : ds[j]? = some d) {fs : Array Field} (ht : Try.prog.underlying t = some (.struct fs))
    {v : Value} {ps : List MemPlace} (h : DataW.Trod enc Try.prog w base sp held t v d ps) (i : Nat) {f : Field} (hf : fs[i]? = some f) (hs : Try.prog.underlying f.type = some .string) {s : ByteArray}
    (hc : (v.cells.toList.drop f.offset).take (Try.prog.cellsOf f.type) = [.string s]) : s.size ≤ reachBytes := by
  obtain ⟨fuel, h⟩ := h
  obtain ⟨xs, n, _, hx, _, hlen, hall⟩ := DataW.trod_struct ht h
  have h1 := hall i f hf
  rw [hc] at h1
  have h2 : xs[i]? = some (.lit (.string s.data.toList), []) := by
    rw [← h1]
    have hi : i < xs.length := by rw [hlen]; exact (Array.getElem?_eq_some_iff.1 hf).1
    cases n with
    | zero => rw [List.getElem?_eq_getElem hi] at h1; simp [DataW.trod] at h1
    | succ m =>
      rw [List.getElem?_eq_getElem hi] at h1
      unfold DataW.trod at h1 ⊢
      rw [hs] at h1 ⊢
      simp only at h1 ⊢
      split at h1
      · rename_i hle; rw [if_pos hle]
      · cases h1
  simp only [Prod.mk.injEq] at hx
  obtain ⟨rfl, _⟩ := hx
  have h3 : (fs.toList.map (·.type))[i]? = some f.type := by simp [hf]
  have h4 : (xs.map (·.1))[i]? = some (.lit (.string s.data.toList)) := by simp [h2]
  have h5 := DataW.weights_mem_each (P := Try.prog) h3 h4 s.data.toList.length (by simp [DataW.weights])
  have h6 : s.data.toList.length ∈ DataW.weights Try.prog t (.agg (xs.map (·.1)) : DataW H) := by
    unfold DataW.weights
    rw [ht]
    exact h5
  have h7 := List.all_eq_true.1 hsz _ (DataW.weights_mem_each htj hdj _ h6)
  have h8 : s.data.toList.length ≤ reachBytes := by simpa using h7
  rw [Array.length_toList] at h8
  exact h8
end
end Go.Proofs.Ytabcaiecoiejkaa
