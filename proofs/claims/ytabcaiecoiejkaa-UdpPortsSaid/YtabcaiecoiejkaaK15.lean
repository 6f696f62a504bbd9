/- The engine's fifteenth part: a slice of no elements; cells of elements of several cells. Nothing here speaks of the program of this seat. -/
import Derived.Test.YtabcaiecoiejkaaK14
set_option linter.unusedVariables false
namespace Go.Proofs.Ytabcaiecoiejkaa.K
open Go

section
variable {c : Cx} {n : Nat} {F : Fr} {w0 : World} {ks : List Nat} {L : Mm} {D : List Deferred} {k : List Item} {ops : Array Oper} {i : Nat} {rest : List Oper}
  {ty : TypeId} {pos : String} {af : Array Edge} {g : Option (Nat × Bool)} {tb : Tab} {d : Nat} {q : Bool}
theorem zx_bslice0 (ht : TabOk c.P tb) {t e : TypeId} {tz sz nb : Nat} {tzs zs : List Value} (hw : wn ops F g = some true)
    (htt : lookT tb t = some ⟨.slice e, tz, tzs⟩) (he : Elt c.P e sz nb zs) (hd : Nat.blt d n = true)
    (h : ∀ b, ZX c false n ((d, .slice (some ⟨b, 0, none⟩) 0 0) :: F) w0 ks ((b, .c [] e 0 0) :: L) D ops (i + 1) rest k) : ZX c false n F w0 ks L D ops i (⟨some d, .buildSlice t 0 #[], ty, pos, af, g⟩ :: rest) k :=
  zx_new (x := .c [] e 0 0) (v := fun b => .slice (some ⟨b, 0, none⟩) 0 0) hw hd (fun a w h2 _ => by
    have hu := (ht _ _ htt).und
    have hi := he.info
    cases hq : c.P.info? e with
    | none => rw [hq] at hi; simp at hi
    | some ie =>
      have h0 : Array.map (fun _ => (default : Value)) (Array.range 0) = #[] := by apply Array.ext'; simp
      simp [execOp, Instr.buildSlice, run_underlying hu, sizeOf, typeInfo, hq, Instr.fill, newRow, Blk.obj, h0]) h
end
/-- the cells of elements, one behind the other -/
def flatC {α : Type} (f : α → List Value) (l : List α) : List Value := l.flatMap f
theorem flatC_len {α : Type} {f : α → List Value} {sz : Nat} (h : ∀ a, (f a).length = sz) : ∀ l : List α, (flatC f l).length = l.length * sz
  | [] => by simp [flatC]
  | a :: l => by
    have := flatC_len h l
    unfold flatC at this ⊢
    rw [List.flatMap_cons, List.length_append, this, h, List.length_cons, Nat.succ_mul, Nat.add_comm]
theorem flatC_app {α : Type} {f : α → List Value} (l m : List α) : flatC f (l ++ m) = flatC f l ++ flatC f m := List.flatMap_append
theorem flatC_at {α : Type} {f : α → List Value} {sz : Nat} (h : ∀ a, (f a).length = sz) : ∀ (l : List α) (i j : Nat) (a : α) (u : Value), l[i]? = some a → (f a)[j]? = some u → (flatC f l)[i * sz + j]? = some u
  | [], i, j, a, u, hi, _ => by simp at hi
  | b :: l, 0, j, a, u, hi, hj => by
    simp only [List.getElem?_cons_zero, Option.some.injEq] at hi
    subst hi
    have hlt : j < (f b).length := (List.getElem?_eq_some_iff.1 hj).1
    unfold flatC
    rw [List.flatMap_cons, Nat.zero_mul, Nat.zero_add, List.getElem?_append_left hlt]
    exact hj
  | b :: l, i + 1, j, a, u, hi, hj => by
    simp only [List.getElem?_cons_succ] at hi
    have := flatC_at h l i j a u hi hj
    unfold flatC at this ⊢
    rw [List.flatMap_cons, List.getElem?_append_right (by rw [h]; simp only [Nat.succ_mul]; omega), h]
    rw [show (i + 1) * sz + j - sz = i * sz + j by simp only [Nat.succ_mul]; omega]
    exact this
theorem flatC_back {α : Type} {f : α → List Value} {sz : Nat} (h : ∀ a, (f a).length = sz) : ∀ (l : List α) (m : Nat) (u : Value), (flatC f l)[m]? = some u → ∃ (i j : Nat) (a : α), l[i]? = some a ∧ (f a)[j]? = some u ∧ m = i * sz + j
  | [], m, u, hm => by simp [flatC] at hm
  | b :: l, m, u, hm => by
    unfold flatC at hm
    rw [List.flatMap_cons] at hm
    by_cases hlt : m < sz
    · rw [List.getElem?_append_left (by rw [h]; exact hlt)] at hm
      exact ⟨0, m, b, rfl, hm, by omega⟩
    · rw [List.getElem?_append_right (by rw [h]; omega), h] at hm
      obtain ⟨i, j, a, h1, h2, h3⟩ := flatC_back h l (m - sz) u hm
      exact ⟨i + 1, j, a, h1, h2, by rw [Nat.succ_mul]; omega⟩
end Go.Proofs.Ytabcaiecoiejkaa.K
