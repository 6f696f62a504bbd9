/- One more rule of the engine: a store of some cells at a place that is not reckoned. -/
import Derived.Test.YtabcaiecoiejkaaK16
set_option maxRecDepth 100000
set_option linter.unusedVariables false
set_option linter.unusedSimpArgs false
namespace Go.Proofs.Ytabcaiecoiejkaa.K
open Go Go.Conc
section
variable {c : Cx} {q : Bool} {n d : Nat} {F : Fr} {w0 : World} {ks : List Nat} {L0 L : Mm} {D : List Deferred} {k : List Item} {ops : Array Oper} {i : Nat} {rest : List Oper} {ty : TypeId} {pos : String} {af : Array Edge} {g : Option (Nat × Bool)} {tb : Tab}
theorem zx_storeG (ht : TabOk c.P tb) {t : TypeId} {x y : Operand} {ti : TI} {b off : Nat} (j : Nat) {cs : List Value} {et : TypeId} {v : Value} {vs : List Value} (hw : wn ops F g = some true)
    (htt : lookT tb t = some ti) (hx : ev F x = some (.pointer (some ⟨b, off, none⟩))) (hy : ev F y = some v) (hvs : forceL (cellsL v) some = some vs) (hone : vs.all Value.oneCell' = true) (hsz : Nat.beq vs.length ti.size = true)
    (hL : L[j]? = some (b, .c cs et 0 0)) (hlen : off + vs.length ≤ cs.length)
    (h : ZX c false n F w0 ks (L.set j (b, .c (over cs off vs) et 0 0)) D ops (i + 1) rest k) : ZX c false n F w0 ks L D ops i (⟨none, .store t x y, ty, pos, af, g⟩ :: rest) k :=
  zx_mem (o := ⟨none, .store t x y, ty, pos, af, g⟩) (Y := Unit) (v := fun _ => undef) (L' := fun _ => L.set j (b, .c (over cs off vs) et 0 0)) (Φ := fun _ => True) hw
    (fun a w _ h2 h3 K hK => by
      obtain ⟨w', hr, hm⟩ := storeCells_mem (P := c.P) (j := j) vs 0 off L cs w h3 hL (fun u hu => (List.all_eq_true.1 hone) u hu) (by simpa using hlen) (fun m _ _ => by simp)
      have hs := (ht _ _ htt).run_size w
      have hl : vs.length = ti.size := Nat.eq_of_beq_eq_true hsz
      have hcl : v.cells = vs.toArray := by rw [cellsL_eq, forceL_some hvs]
      rw [Nat.add_zero] at hm
      refine upon_skp (w' := w') ?_ (hK () w' trivial hm)
      simp [execOp, ev_eval h2 hx, ev_eval h2 hy, Instr.storeAt, Instr.sureAddr, storeVar, hs, hcl, hl, hr])
    (fun _ _ _ h2 => h2.none _) (fun _ _ => h)
end
end Go.Proofs.Ytabcaiecoiejkaa.K
