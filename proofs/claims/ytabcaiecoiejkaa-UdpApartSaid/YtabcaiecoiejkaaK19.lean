/- A rule of the engine: a load of some cells that came in (as in S13, with nothing of the sessions). -/
import Derived.Test.YtabcaiecoiejkaaK18
set_option maxRecDepth 100000
set_option linter.unusedVariables false
set_option linter.unusedSimpArgs false
namespace Go.Proofs.Ytabcaiecoiejkaa
open Go K
section
variable {c : Cx} {q : Bool} {n : Nat} {F : Fr} {w0 : World} {ks : List Nat} {L : Mm} {D : List Deferred} {ops : Array Oper} {i : Nat} {rest : List Oper} {k : List Item}
/-- a load of some cells that came in -/
theorem zx_loadBB {tb : Tab} (ht : TabOk c.P tb) {d : Nat} {t : TypeId} {x : Operand} {ty : TypeId} {pos : String} {af : Array Edge} {g : Option (Nat × Bool)} {ti : TI} {b off : Nat} (vs : List Value) (hw : wn ops F g = some true)
    (htt : lookT tb t = some ti) (hag : isAggD ti.desc = true) (hx : ev F x = some (.pointer (some ⟨b, off, none⟩))) (hc : ∀ m u, vs[m]? = some u → w0.cell? ⟨b, off + m, none⟩ = some u) (hk : b ∉ ks) (hlen : Nat.beq vs.length ti.size = true) (hd : Nat.blt d n = true)
    (h : ZX c q n ((d, .agg vs.toArray) :: F) w0 ks L D ops (i + 1) rest k) : ZX c q n F w0 ks L D ops i (⟨some d, .load t x, ty, pos, af, g⟩ :: rest) k :=
  zx_val hw hd (fun a w h2 h3 => by
    have h1 := (ht _ _ htt).run_agg w
    rw [hag] at h1
    have hs := (ht _ _ htt).run_size w
    have hl : vs.length = ti.size := Nat.eq_of_beq_eq_true hlen
    have h4 := run_loadCells_list (P := c.P) w ⟨b, off, none⟩ vs (fun m u hu => by
      rw [addr_add]
      exact h3.cellB (hc m u hu) hk)
    rw [hl] at h4
    simp [execOp, ev_eval h2 hx, Instr.loadAt, Instr.sureAddr, loadVar, h1, hs, h4]) h
end
end Go.Proofs.Ytabcaiecoiejkaa
