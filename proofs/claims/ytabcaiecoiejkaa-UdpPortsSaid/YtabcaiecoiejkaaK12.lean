/- One more rule of the engine: a region that draws its order, where two operations are ready. -/
import Derived.Test.YtabcaiecoiejkaaK11
set_option maxRecDepth 100000
set_option linter.unusedVariables false
set_option linter.unusedSimpArgs false
namespace Go.Proofs.Ytabcaiecoiejkaa.K
open Go Go.Conc
section
variable {c : Cx} {q : Bool} {n d : Nat} {F : Fr} {w0 : World} {ks : List Nat} {L0 L : Mm} {D : List Deferred} {k : List Item} {ops : Array Oper} {i : Nat} {rest : List Oper}
/-- two operations of which either may come first -/
theorem zh_two (m m' : Nat) {o o' : Oper} {fuel : Nat} {l : List Bool} (hi1 : nth ops.toList m = some o) (hi2 : nth ops.toList m' = some o') (hr : Region.ready .any ops l.toArray = [m, m'])
    (h : ZX ⟨c.P, c.f, c.R, c.cs, c.b, some (XL c w0 ks L0 ops fuel (l.set m true) k)⟩ false n F w0 ks L D ops m [o] k)
    (h' : ZX ⟨c.P, c.f, c.R, c.cs, c.b, some (XL c w0 ks L0 ops fuel (l.set m' true) k)⟩ false n F w0 ks L D ops m' [o'] k) : ZH c n F w0 ks L0 L D ops (fuel + 1) l k := by
  have hi : ops[m]? = some o := by rw [← Array.getElem?_toList, ← nth_eq]; exact hi1
  have hi' : ops[m']? = some o' := by rw [← Array.getElem?_toList, ← nth_eq]; exact hi2
  refine ⟨fun a w a1 a2 a3 a4 w' h1 h2 => ⟨by simp [hr], fun j hj => ?_⟩⟩
  rw [hr, List.mem_cons, List.mem_singleton] at hj
  rcases hj with rfl | rfl
  · skip
    have hw := h.go [j] (by simp [hi]) a w' a1 a2 a3 (mem_stab a4 h1)
    rw [wpOps_cons] at hw
    unfold wpOp at hw ⊢
    simp only [hi] at hw ⊢
    have key : ∀ a' w'', wpOps c.P ops (Qn ⟨c.P, c.f, c.R, c.cs, c.b, some (XL c w0 ks L0 ops fuel (l.set j true) k)⟩ k) [] a' w'' → Mem w0 ks L0 w'' ∧ wpAnyR c.P ops (Qn c k) (Mem w0 ks L0) fuel (l.toArray.setIfInBounds j true) a' w'' := by
      intro a' w'' hx
      rw [List.setIfInBounds_toArray]
      exact hx
    have hQ : ∀ e a w, e ≠ .normal → Qn ⟨c.P, c.f, c.R, c.cs, c.b, some (XL c w0 ks L0 ops fuel (l.set j true) k)⟩ k e a w → Qn c k e a w := by
      intro e a w he hq
      cases e <;> first | exact hq | exact absurd rfl he
    split
    · rename_i hwant
      simp only [hwant, if_true] at hw
      rcases hw with hw | ⟨_, hlets⟩
      · exact .inl (oper_wp_Q hQ (Oper.wp_mono key hw))
      · obtain ⟨a₀, w₀, h0⟩ := hlets
        exact h0.elim
    · rename_i hwant
      simp only [hwant, Bool.false_eq_true, if_false] at hw
      exact key _ _ hw
  · skip
    have hw := h'.go [j] (by simp [hi']) a w' a1 a2 a3 (mem_stab a4 h1)
    rw [wpOps_cons] at hw
    unfold wpOp at hw ⊢
    simp only [hi'] at hw ⊢
    have key : ∀ a' w'', wpOps c.P ops (Qn ⟨c.P, c.f, c.R, c.cs, c.b, some (XL c w0 ks L0 ops fuel (l.set j true) k)⟩ k) [] a' w'' → Mem w0 ks L0 w'' ∧ wpAnyR c.P ops (Qn c k) (Mem w0 ks L0) fuel (l.toArray.setIfInBounds j true) a' w'' := by
      intro a' w'' hx
      rw [List.setIfInBounds_toArray]
      exact hx
    have hQ : ∀ e a w, e ≠ .normal → Qn ⟨c.P, c.f, c.R, c.cs, c.b, some (XL c w0 ks L0 ops fuel (l.set j true) k)⟩ k e a w → Qn c k e a w := by
      intro e a w he hq
      cases e <;> first | exact hq | exact absurd rfl he
    split
    · rename_i hwant
      simp only [hwant, if_true] at hw
      rcases hw with hw | ⟨_, hlets⟩
      · exact .inl (oper_wp_Q hQ (Oper.wp_mono key hw))
      · obtain ⟨a₀, w₀, h0⟩ := hlets
        exact h0.elim
    · rename_i hwant
      simp only [hwant, Bool.false_eq_true, if_false] at hw
      exact key _ _ hw
theorem wpAnyR_grow {P : Program} {Q : Exit → Act → World → Prop} {S S' : World → Prop} (hSS : ∀ w, S' w → S w) (hst : ∀ w w', S' w → Mem w [] [] w' → S' w') : ∀ (fuel : Nat) (listed : Array Bool) (a : Act) (w : World), S' w → wpAnyR P ops Q S' fuel listed a w → wpAnyR P ops Q S fuel listed a w
  | 0, _, _, w, hw, h => fun w' h1 _ => h w' h1 (hst w w' hw h1)
  | _ + 1, _, _, w, hw, h => fun w' h1 _ =>
    have h3 := h w' h1 (hst w w' hw h1)
    ⟨h3.1, fun i hi => wpOp_mono (fun a' w'' h' => ⟨hSS _ h'.1, wpAnyR_grow hSS hst _ _ a' w'' h'.1 h'.2⟩) (h3.2 i hi)⟩
/-- more is known by now, whatever comes first -/
theorem zh_grow (L0' : Mm) {fuel : Nat} {l : List Bool} (hL0 : L0.Sublist L0') (hL : L0'.Sublist L) (h : ZH c n F w0 ks L0' L D ops fuel l k) : ZH c n F w0 ks L0 L D ops fuel l k :=
  ⟨fun a w a1 a2 a3 a4 => wpAnyR_grow (fun _ hw => hw.weaken (fun _ h => h) hL0) (fun _ _ => mem_stab) _ _ a w (a4.weaken (fun _ h => h) hL) (h.go a w a1 a2 a3 a4)⟩
end
end Go.Proofs.Ytabcaiecoiejkaa.K
