/- One more rule of the engine: a region that draws its order, where three operations are ready. One more rule of the engine: a store of some cells at a place that is not reckoned. -/
import Derived.Test.YtabcaiecoiejkaaK15
set_option maxRecDepth 100000
set_option linter.unusedVariables false
set_option linter.unusedSimpArgs false
namespace Go.Proofs.Ytabcaiecoiejkaa.K
open Go Go.Conc
section
variable {c : Cx} {q : Bool} {n d : Nat} {F : Fr} {w0 : World} {ks : List Nat} {L0 L : Mm} {D : List Deferred} {k : List Item} {ops : Array Oper} {i : Nat} {rest : List Oper}
theorem zh_step (m : Nat) {o : Oper} {fuel : Nat} {l : List Bool} (hi' : nth ops.toList m = some o)
    (h : ZX ⟨c.P, c.f, c.R, c.cs, c.b, some (XL c w0 ks L0 ops fuel (l.set m true) k)⟩ false n F w0 ks L D ops m [o] k) :
    ∀ a w, a.tmps.size = n → a.defers = D → Has F a → Mem w0 ks L w → wpOp c.P ops (Qn c k) m (fun a' w'' => Mem w0 ks L0 w'' ∧ wpAnyR c.P ops (Qn c k) (Mem w0 ks L0) fuel (l.toArray.setIfInBounds m true) a' w'') a w := by
  have hi : ops[m]? = some o := by rw [← Array.getElem?_toList, ← nth_eq]; exact hi'
  intro a w a1 a2 a3 a4
  have hw := h.go [m] (by simp [hi]) a w a1 a2 a3 a4
  rw [wpOps_cons] at hw
  unfold wpOp at hw ⊢
  simp only [hi] at hw ⊢
  have key : ∀ a' w'', wpOps c.P ops (Qn ⟨c.P, c.f, c.R, c.cs, c.b, some (XL c w0 ks L0 ops fuel (l.set m true) k)⟩ k) [] a' w'' → Mem w0 ks L0 w'' ∧ wpAnyR c.P ops (Qn c k) (Mem w0 ks L0) fuel (l.toArray.setIfInBounds m true) a' w'' := by
    intro a' w'' hx
    rw [List.setIfInBounds_toArray]
    exact hx
  have hQ : ∀ e a w, e ≠ .normal → Qn ⟨c.P, c.f, c.R, c.cs, c.b, some (XL c w0 ks L0 ops fuel (l.set m true) k)⟩ k e a w → Qn c k e a w := by
    intro e a w he hq
    cases e <;> first | exact hq | exact absurd rfl he
  split
  · rename_i hwant
    simp only [hwant, if_true] at hw
    rcases hw with hw | ⟨_, hlets⟩
    · exact .inl (oper_wp_Q hQ (Oper.wp_mono key hw))
    · obtain ⟨a₀, w₀, h0⟩ := hlets
      exact h0.elim
  · rename_i hwant
    simp only [hwant, Bool.false_eq_true, if_false] at hw
    exact key _ _ hw
/-- three operations of which any may come first -/
theorem zh_three (m m' m'' : Nat) {o o' o'' : Oper} {fuel : Nat} {l : List Bool} (hi1 : nth ops.toList m = some o) (hi2 : nth ops.toList m' = some o') (hi3 : nth ops.toList m'' = some o'') (hr : Region.ready .any ops l.toArray = [m, m', m''])
    (h : ZX ⟨c.P, c.f, c.R, c.cs, c.b, some (XL c w0 ks L0 ops fuel (l.set m true) k)⟩ false n F w0 ks L D ops m [o] k)
    (h' : ZX ⟨c.P, c.f, c.R, c.cs, c.b, some (XL c w0 ks L0 ops fuel (l.set m' true) k)⟩ false n F w0 ks L D ops m' [o'] k)
    (h'' : ZX ⟨c.P, c.f, c.R, c.cs, c.b, some (XL c w0 ks L0 ops fuel (l.set m'' true) k)⟩ false n F w0 ks L D ops m'' [o''] k) : ZH c n F w0 ks L0 L D ops (fuel + 1) l k := by
  refine ⟨fun a w a1 a2 a3 a4 w' h1 h2 => ⟨by simp [hr], fun j hj => ?_⟩⟩
  rw [hr, List.mem_cons, List.mem_cons, List.mem_singleton] at hj
  rcases hj with rfl | rfl | rfl
  · exact zh_step j hi1 h a w' a1 a2 a3 (mem_stab a4 h1)
  · exact zh_step j hi2 h' a w' a1 a2 a3 (mem_stab a4 h1)
  · exact zh_step j hi3 h'' a w' a1 a2 a3 (mem_stab a4 h1)
end
end Go.Proofs.Ytabcaiecoiejkaa.K
namespace Go.Proofs.Ytabcaiecoiejkaa.K
open Go Go.Conc
section
variable {c : Cx} {q : Bool} {n d : Nat} {F : Fr} {w0 : World} {ks : List Nat} {L0 L : Mm} {D : List Deferred} {k : List Item} {ops : Array Oper} {i : Nat} {rest : List Oper} {ty : TypeId} {pos : String} {af : Array Edge} {g : Option (Nat × Bool)} {tb : Tab}
theorem zx_storeG (ht : TabOk c.P tb) {t : TypeId} {x y : Operand} {ti : TI} {b off : Nat} (j : Nat) {cs : List Value} {et : TypeId} {v : Value} {vs : List Value} (hw : wn ops F g = some true)
    (htt : lookT tb t = some ti) (hx : ev F x = some (.pointer (some ⟨b, off, none⟩))) (hy : ev F y = some v) (hvs : forceL (cellsL v) some = some vs) (hone : vs.all Value.oneCell' = true) (hsz : Nat.beq vs.length ti.size = true)
    (hL : L[j]? = some (b, .c cs et 0 0)) (hlen : off + vs.length ≤ cs.length)
    (h : ZX c false n F w0 ks (L.set j (b, .c (over cs off vs) et 0 0)) D ops (i + 1) rest k) : ZX c false n F w0 ks L D ops i (⟨none, .store t x y, ty, pos, af, g⟩ :: rest) k :=
  zx_mem (o := ⟨none, .store t x y, ty, pos, af, g⟩) (Y := Unit) (v := fun _ => undef) (L' := fun _ => L.set j (b, .c (over cs off vs) et 0 0)) (Φ := fun _ => True) hw
    (fun a w _ h2 h3 K hK => by
      obtain ⟨w', hr, hm⟩ := storeCells_mem (P := c.P) (j := j) vs 0 off L cs w h3 hL (fun u hu => (List.all_eq_true.1 hone) u hu) (by simpa using hlen) (fun m _ _ => by simp)
      have hs := (ht _ _ htt).run_size w
      have hl : vs.length = ti.size := Nat.eq_of_beq_eq_true hsz
      have hcl : v.cells = vs.toArray := by rw [cellsL_eq, forceL_some hvs]
      rw [Nat.add_zero] at hm
      refine upon_skp (w' := w') ?_ (hK () w' trivial hm)
      simp [execOp, ev_eval h2 hx, ev_eval h2 hy, Instr.storeAt, Instr.sureAddr, storeVar, hs, hcl, hl, hr])
    (fun _ _ _ h2 => h2.none _) (fun _ _ => h)
end
end Go.Proofs.Ytabcaiecoiejkaa.K
