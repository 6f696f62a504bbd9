/- Two more rules of the engine: the built-ins max and min at two numbers. -/
import Derived.Test.YtabcaiecoiejkaaK10
import Derived.Laws.Small
set_option maxRecDepth 100000
set_option linter.unusedVariables false
namespace Go.Proofs.Ytabcaiecoiejkaa.K
open Go
section
variable {c : Cx} {q : Bool} {n : Nat} {F : Fr} {w0 : World} {ks : List Nat} {L : Mm} {D : List Deferred} {k : List Item} {ops : Array Oper} {i : Nat} {rest : List Oper} {d : Nat} {ty : TypeId} {pos : String} {af : Array Edge} {g : Option (Nat × Bool)}
theorem zx_max {x y : Operand} {ts : Array TypeId} {m1 m2 : Int} (r : Int) (hw : wn ops F g = some true)
    (hx : ev F x = some (.int .i64 m1)) (hy : ev F y = some (.int .i64 m2)) (hr : (if m2 > m1 then m2 else m1) = r) (hd : Nat.blt d n = true) (h : ZX c q n ((d, .int .i64 r) :: F) w0 ks L D ops (i + 1) rest k) : ZX c q n F w0 ks L D ops i (⟨some d, .call ⟨.builtin .max, #[x, y], ts⟩, ty, pos, af, g⟩ :: rest) k :=
  zx_val hw hd (fun a w h2 hm => by
    subst hr
    simp [execOp, resolve, invoke, builtin, ev_eval h2 hx, ev_eval h2 hy, run_max_int2]) h
theorem zx_min {x y : Operand} {ts : Array TypeId} {m1 m2 : Int} (r : Int) (hw : wn ops F g = some true)
    (hx : ev F x = some (.int .i64 m1)) (hy : ev F y = some (.int .i64 m2)) (hr : (if m2 < m1 then m2 else m1) = r) (hd : Nat.blt d n = true) (h : ZX c q n ((d, .int .i64 r) :: F) w0 ks L D ops (i + 1) rest k) : ZX c q n F w0 ks L D ops i (⟨some d, .call ⟨.builtin .min, #[x, y], ts⟩, ty, pos, af, g⟩ :: rest) k :=
  zx_val hw hd (fun a w h2 hm => by
    subst hr
    simp [execOp, resolve, invoke, builtin, ev_eval h2 hx, ev_eval h2 hy, run_min_int2]) h
end
end Go.Proofs.Ytabcaiecoiejkaa.K
