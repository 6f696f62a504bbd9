/- One more rule of the engine: a region that draws its order, where three operations are ready. -/
import Derived.Test.YtabcaiecoiejkaaK15
set_option maxRecDepth 100000
set_option linter.unusedVariables false
set_option linter.unusedSimpArgs false
namespace Go.Proofs.Ytabcaiecoiejkaa.K
open Go Go.Conc
section
variable {c : Cx} {q : Bool} {n d : Nat} {F : Fr} {w0 : World} {ks : List Nat} {L0 L : Mm} {D : List Deferred} {k : List Item} {ops : Array Oper} {i : Nat} {rest : List Oper}
theorem zh_step (m : Nat) {o : Oper} {fuel : Nat} {l : List Bool} (hi' : nth ops.toList m = some o)
    (h : ZX ⟨c.P, c.f, c.R, c.cs, c.b, some (XL c w0 ks L0 ops fuel (l.set m true) k)⟩ false n F w0 ks L D ops m [o] k) :
    ∀ a w, a.tmps.size = n → a.defers = D → Has F a → Mem w0 ks L w → wpOp c.P ops (Qn c k) m (fun a' w'' => Mem w0 ks L0 w'' ∧ wpAnyR c.P ops (Qn c k) (Mem w0 ks L0) fuel (l.toArray.setIfInBounds m true) a' w'') a w := by
  have hi : ops[m]? = some o := by rw [← Array.getElem?_toList, ← nth_eq]; exact hi'
  intro a w a1 a2 a3 a4
  have hw := h.go [m] (by simp [hi]) a w a1 a2 a3 a4
  rw [wpOps_cons] at hw
  unfold wpOp at hw ⊢
  simp only [hi] at hw ⊢
  have key : ∀ a' w'', wpOps c.P ops (Qn ⟨c.P, c.f, c.R, c.cs, c.b, some (XL c w0 ks L0 ops fuel (l.set m true) k)⟩ k) [] a' w'' → Mem w0 ks L0 w'' ∧ wpAnyR c.P ops (Qn c k) (Mem w0 ks L0) fuel (l.toArray.setIfInBounds m true) a' w'' := by
    intro a' w'' hx
    rw [List.setIfInBounds_toArray]
    exact hx
  have hQ : ∀ e a w, e ≠ .normal → Qn ⟨c.P, c.f, c.R, c.cs, c.b, some (XL c w0 ks L0 ops fuel (l.set m true) k)⟩ k e a w → Qn c k e a w := by
    intro e a w he hq
    cases e <;> first | exact hq | exact absurd rfl he
  split
  · rename_i hwant
    simp only [hwant, if_true] at hw
    rcases hw with hw | ⟨_, hlets⟩
    · exact .inl (oper_wp_Q hQ (Oper.wp_mono key hw))
    · obtain ⟨a₀, w₀, h0⟩ := hlets
      exact h0.elim
  · rename_i hwant
    simp only [hwant, Bool.false_eq_true, if_false] at hw
    exact key _ _ hw
/-- three operations of which any may come first -/
theorem zh_three (m m' m'' : Nat) {o o' o'' : Oper} {fuel : Nat} {l : List Bool} (hi1 : nth ops.toList m = some o) (hi2 : nth ops.toList m' = some o') (hi3 : nth ops.toList m'' = some o'') (hr : Region.ready .any ops l.toArray = [m, m', m''])
    (h : ZX ⟨c.P, c.f, c.R, c.cs, c.b, some (XL c w0 ks L0 ops fuel (l.set m true) k)⟩ false n F w0 ks L D ops m [o] k)
    (h' : ZX ⟨c.P, c.f, c.R, c.cs, c.b, some (XL c w0 ks L0 ops fuel (l.set m' true) k)⟩ false n F w0 ks L D ops m' [o'] k)
    (h'' : ZX ⟨c.P, c.f, c.R, c.cs, c.b, some (XL c w0 ks L0 ops fuel (l.set m'' true) k)⟩ false n F w0 ks L D ops m'' [o''] k) : ZH c n F w0 ks L0 L D ops (fuel + 1) l k := by
  refine ⟨fun a w a1 a2 a3 a4 w' h1 h2 => ⟨by simp [hr], fun j hj => ?_⟩⟩
  rw [hr, List.mem_cons, List.mem_cons, List.mem_singleton] at hj
  rcases hj with rfl | rfl | rfl
  · exact zh_step j hi1 h a w' a1 a2 a3 (mem_stab a4 h1)
  · exact zh_step j hi2 h' a w' a1 a2 a3 (mem_stab a4 h1)
  · exact zh_step j hi3 h'' a w' a1 a2 a3 (mem_stab a4 h1)
end
end Go.Proofs.Ytabcaiecoiejkaa.K
