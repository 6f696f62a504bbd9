/- The engine's seventh part: values put into another form; tests whose outcome is known. Nothing here speaks of the program of this seat. -/
import Derived.Test.YtabcaiecoiejkaaK6
import Derived.IntWalk
namespace Go.Proofs.Ytabcaiecoiejkaa.K
open Go

section
variable {c : Cx} {q : Bool} {n : Nat} {F : Fr} {w0 : World} {ks : List Nat} {L : Mm} {D : List Deferred} {k : List Item} {ops : Array Oper} {i : Nat} {rest : List Oper}
  {ty : TypeId} {pos : String} {af : Array Edge} {g : Option (Nat × Bool)} {tb : Tab} {d : Nat}

theorem has_re {a : Act} {t : Nat} {v : Value} (ht : look F t = some v) (h : Has F a) : Has ((t, v) :: F) a := by
  intro d u hu
  unfold look at hu
  cases hb : Nat.beq t d with
  | true =>
    have := Nat.eq_of_beq_eq_true hb
    subst this
    simp only [hb, cond_true, Option.some.injEq] at hu
    subst hu
    exact h t _ ht
  | false => simp only [hb, cond_false] at hu; exact h d u hu
/-- a slot's value in another form -/
theorem zx_re (t : Nat) (v' : Value) {v : Value} {l : List Oper} (ht : look F t = some v) (hv : v = v') (h : ZX c q n ((t, v') :: F) w0 ks L D ops i l k) : ZX c q n F w0 ks L D ops i l k := by
  subst hv
  refine ⟨?_⟩
  replace h := h.go
  cases q with
  | true => exact fun a a1 a2 a3 => h a a1 a2 (has_re ht a3)
  | false => exact fun js hd a w a1 a2 a3 a4 => h js hd a w a1 a2 (has_re ht a3) a4
theorem z_re (t : Nat) (v' : Value) {v : Value} (ht : look F t = some v) (hv : v = v') (h : Z c n ((t, v') :: F) w0 ks L D k) : Z c n F w0 ks L D k := by
  subst hv
  exact ⟨fun a w a1 a2 a3 a4 => h.go a w a1 a2 (has_re ht a3) a4⟩
/-- what is known of memory in another form -/
theorem z_mem (L' : Mm) (hL : L = L') (h : Z c n F w0 ks L' D k) : Z c n F w0 ks L D k := hL ▸ h
theorem zx_mm (L' : Mm) {l : List Oper} (hL : L = L') (h : ZX c q n F w0 ks L' D ops i l k) : ZX c q n F w0 ks L D ops i l k := hL ▸ h
/-- the guard of the operation that stands next -/
theorem zx_kg (b : Bool) {o : Option Nat} {op : Op} {j t : Nat} {want x : Bool} (_hd : dstOf ops j = some t) (ht : look F t = some (.bool x)) (hx : x = b) (h : ZX c q n ((t, .bool b) :: F) w0 ks L D ops i (⟨o, op, ty, pos, af, some (j, want)⟩ :: rest) k) :
    ZX c q n F w0 ks L D ops i (⟨o, op, ty, pos, af, some (j, want)⟩ :: rest) k := zx_re t (.bool b) ht (by rw [hx]) h
theorem g_guard {o : Option Nat} {op : Op} {p : Nat × Bool} (h : ZX c q n F w0 ks L D ops i (⟨o, op, ty, pos, af, some p⟩ :: rest) k) : ZX c q n F w0 ks L D ops i (⟨o, op, ty, pos, af, some p⟩ :: rest) k := h
theorem z_condKT {x : Operand} {p r : Code} {t : Bool} (hv : ev F x = some (.bool t)) (ht : t = true) (h : Z c n F w0 ks L D (.code p :: k)) : Z c n F w0 ks L D (.code (.cond x p r) :: k) := z_cond hv (fun _ => h) (fun e => by rw [ht] at e; cases e)
theorem z_condKF {x : Operand} {p r : Code} {t : Bool} (hv : ev F x = some (.bool t)) (ht : t = false) (h : Z c n F w0 ks L D (.code r :: k)) : Z c n F w0 ks L D (.code (.cond x p r) :: k) := z_cond hv (fun e => by rw [ht] at e; cases e) (fun _ => h)

theorem zx_idxN (j : Nat) (ht : TabOk c.P tb) {x y : Operand} {t : TypeId} {td : TypeDesc} {tz : Nat} {tzs : List Value} {s : ByteArray} {kk : IntKind} {m : Int} (hw : wn ops F g = some true) (htt : lookT tb t = some ⟨td, tz, tzs⟩) (hds : td = .string) (hx : ev F x = some (.string s)) (hy : ev F y = some (.int kk m)) (hd : Nat.blt d n = true) (hj : m = (j : Int)) (h1 : j < s.size)
    (h : ZX c q n ((d, .int .u8 (bt s j)) :: F) w0 ks L D ops (i + 1) rest k) : ZX c q n F w0 ks L D ops i (⟨some d, .index t x y, ty, pos, af, g⟩ :: rest) k := by
  refine zx_idxS ht hw htt hds hx hy (by omega) (by omega) hd ?_
  rw [show m.toNat = j by omega]
  exact h
/-- a piece of a string, its ends told as natural numbers -/
theorem zx_sliceN (lo' hi' : Nat) (ht : TabOk c.P tb) {x : Operand} {lo hi : Option Operand} {t : TypeId} {td : TypeDesc} {tz : Nat} {tzs : List Value} {s : ByteArray} {l m : Int} (hw : wn ops F g = some true) (htt : lookT tb t = some ⟨td, tz, tzs⟩) (hds : td = .string) (hx : ev F x = some (.string s))
    (hl : (match lo with | none => some 0 | some z => match ev F z with | some (.int _ v) => some v | _ => none) = some l) (hm : (match hi with | none => some (s.size : Int) | some z => match ev F z with | some (.int _ v) => some v | _ => none) = some m)
    (hd : Nat.blt d n = true) (hl' : l = (lo' : Int)) (hm' : m = (hi' : Int)) (h1 : lo' ≤ hi') (h2' : hi' ≤ s.size)
    (h : ZX c q n ((d, .string (s.extract lo' hi')) :: F) w0 ks L D ops (i + 1) rest k) : ZX c q n F w0 ks L D ops i (⟨some d, .slice t x lo hi none, ty, pos, af, g⟩ :: rest) k := by
  refine zx_sliceS ht hw htt hds hx hl hm (by omega) (by omega) (by omega) hd ?_
  rw [show l.toNat = lo' by omega, show m.toNat = hi' by omega]
  exact h
end

theorem bne_ff {a b : Int} (h : a = b) : (a != b) = false := by simp [h]
theorem bne_tt {a b : Int} (h : a ≠ b) : (a != b) = true := by simp [h]
theorem wr64 {x : Int} (h0 : -9223372036854775808 ≤ x) (h1 : x ≤ 9223372036854775807) : IntKind.i64.wrap x = x := IntWalk.i64_in x ⟨h0, h1⟩
theorem wru64 {x : Int} (h0 : 0 ≤ x) (h1 : x ≤ 18446744073709551615) : IntKind.u64.wrap x = x := by rw [IntKind.wrap_u64]; omega
theorem fnc_of {P : Program} {f : FuncId} {fn : Func} (h : P.funcs[f]? = some fn) (hb : fn.body.isNone = false) (hn : (fn.name == "runtime.NumGoroutine") = false) : Fnc P f := ⟨fn, h, hb, hn⟩
end Go.Proofs.Ytabcaiecoiejkaa.K
