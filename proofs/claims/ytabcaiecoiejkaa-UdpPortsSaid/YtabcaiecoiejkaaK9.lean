/- The engine's ninth part: slice literals; made slices of known length; stores at a place that is told; closures. Nothing here speaks of the program of this seat. -/
import Derived.Test.YtabcaiecoiejkaaK8
import Derived.Great.BuildSlice
import Derived.Laws.MakeOwn
namespace Go.Proofs.Ytabcaiecoiejkaa.K
open Go

def zerosL (n : Nat) (zs : List Value) : List Value := (List.range n).map fun i => zs[i % zs.length]!
theorem zerosL_eq (n : Nat) (zs : List Value) : (Array.range n).map (zs.toArray[· % zs.toArray.size]!) = (zerosL n zs).toArray := by
  apply Array.ext'
  simp [zerosL]

section
variable {c : Cx} {n : Nat} {F : Fr} {w0 : World} {ks : List Nat} {L : Mm} {D : List Deferred} {k : List Item} {ops : Array Oper} {i : Nat} {rest : List Oper}
  {ty : TypeId} {pos : String} {af : Array Edge} {g : Option (Nat × Bool)} {tb : Tab} {d : Nat} {q : Bool}

theorem g_bslice {a1 : TypeId} {a2 : Nat} {a3 : Array (Nat × Operand)} (h : ZX c q n F w0 ks L D ops i (⟨some d, .buildSlice a1 a2 a3, ty, pos, af, g⟩ :: rest) k) : ZX c q n F w0 ks L D ops i (⟨some d, .buildSlice a1 a2 a3, ty, pos, af, g⟩ :: rest) k := h
theorem zx_bslice (ht : TabOk c.P tb) {t e : TypeId} {len tz sz : Nat} {tzs zs : List Value} {ed : TypeDesc} {parts : Array (Nat × Operand)} {l : List (Nat × Value)} {r vs : List Value} (hw : wn ops F g = some true)
    (htt : lookT tb t = some ⟨.slice e, tz, tzs⟩) (hte : lookT tb e = some ⟨ed, sz, zs⟩) (hl : evP F parts.toList = some l) (hf : fillL (fun i => some (i * sz, sz)) (zerosL (len * sz) zs) l = some r) (hr : forceL r some = some vs)
    (hs1 : Nat.ble (len * sz) 16777216 = true) (hs2 : Nat.beq (len * sz) 0 = false) (hd : Nat.blt d n = true)
    (h : ∀ b, ZX c false n ((d, .slice (some ⟨b, 0, none⟩) len len) :: F) w0 ks ((b, .c vs e 0 0) :: L) D ops (i + 1) rest k) : ZX c false n F w0 ks L D ops i (⟨some d, .buildSlice t len parts, ty, pos, af, g⟩ :: rest) k :=
  zx_new (x := .c vs e 0 0) (v := fun b => .slice (some ⟨b, 0, none⟩) len len) hw hd (fun a w h2 _ => by
    have hu := (ht _ _ htt).und
    have hi := (ht _ _ hte).info
    cases hq : c.P.info? e with
    | none => rw [hq] at hi; simp at hi
    | some ie =>
      rw [hq] at hi
      simp only [Option.map_some, Option.some.injEq, Prod.mk.injEq] at hi
      cases hz : ie.zero with
      | none => rw [hz] at hi; simp at hi
      | some z =>
        rw [hz] at hi
        simp only [Option.map_some, Option.some.injEq] at hi
        have hp : parts.map (fun x => (x.1, a.eval x.2)) = l.toArray := by apply Array.ext'; simpa using evP_eval h2 hl
        have h3 := fill_L _ _ _ _ hf
        rw [← zerosL_eq, forceL_some hr] at h3
        have h4 := run_buildSlice (P := c.P) w t e len l.toArray vs.toArray ie z hu hq hz (by rw [hi.1]; have := Nat.le_of_ble_eq_true hs1; omega) (by rw [hi.1]; exact Nat.ne_of_beq_eq_false hs2) (by rw [hi.1, hi.2]; exact h3)
        simp only [execOp, hp, Sem.run_bind, h4, Result.andThen_ok, Sem.run_pure]
        rfl) h

/-- a call of a closure that turns nothing -/
theorem run_callC {a : Act} {w : World} {P : Program} {f : FuncId} {x : Operand} {as : Array Operand} {ats : Array TypeId} {dd : Option Nat} {vs cap : List Value} (h2 : Has F a) (hf : Fnc P f) (hx : ev F x = some (.func (.func f) #[] cap.toArray)) (ha : evs F as.toList = some vs) :
    (execOp a.eval ⟨dd, .call ⟨.value x, as, ats⟩, ty, pos, af, g⟩).run P w = .ok (.enter f (vs ++ cap).toArray) w := by
  have : as.map a.eval = vs.toArray := by apply Array.ext'; simpa using evs_eval h2 ha
  simp [execOp, resolve, ev_eval h2 hx, Deferred.ofValue, invoke, this, hf.run]
theorem zx_callC {f : FuncId} {x : Operand} {as : Array Operand} {ats : Array TypeId} {vs cap : List Value} {v : Value} (hw : wn ops F g = some true) (hx : ev F x = some (.func (.func f) #[] cap.toArray)) (hf : Fnc c.P f) (ha : evs F as.toList = some vs) (hd : Nat.blt d n = true)
    (hc : ∀ w, Mem w0 ks L w → Calls c.P f (vs ++ cap).toArray w fun e w' => e = .returned v ∧ Mem w [] [] w')
    (h : ZX c q n ((d, v) :: F) w0 ks L D ops (i + 1) rest k) : ZX c q n F w0 ks L D ops i (⟨some d, .call ⟨.value x, as, ats⟩, ty, pos, af, g⟩ :: rest) k :=
  zx_op (o := ⟨some d, .call ⟨.value x, as, ats⟩, ty, pos, af, g⟩) (v := v) hw (fun a w _ h2 h3 => by
    unfold Oper.quietAt
    rw [run_callC h2 hf hx ha]
    exact ⟨rfl, (hc w h3).mono fun e w' ⟨he, hm⟩ => ⟨he, hm⟩⟩) (has_put_d hd v) h

/-- make([]T, n), n known to the reckoning -/
theorem zx_make (ht : TabOk c.P tb) {t e : TypeId} {tz sz nb len : Nat} {tzs zs vs : List Value} {x y : Operand} {kk kk' : IntKind} {m : Int} (hw : wn ops F g = some true) (htt : lookT tb t = some ⟨.slice e, tz, tzs⟩) (he : Elt c.P e sz nb zs) (hx : ev F x = some (.int kk m)) (hy : ev F y = some (.int kk' m))
    (hm : m = (len : Int)) (hv : forceL (zerosL (len * sz) zs) some = some vs) (hs1 : Nat.ble (len * nb) 16777216 = true) (hs3 : Nat.ble len 16777216 = true) (hd : Nat.blt d n = true)
    (h : ∀ b, ZX c false n ((d, .slice (some ⟨b, 0, none⟩) len len) :: F) w0 ks ((b, .c vs e 0 0) :: L) D ops (i + 1) rest k) : ZX c false n F w0 ks L D ops i (⟨some d, .makeSlice t x y, ty, pos, af, g⟩ :: rest) k :=
  zx_new (x := .c vs e 0 0) (v := fun b => .slice (some ⟨b, 0, none⟩) len len) hw hd (fun a w h2 _ => by
    have hi := he.info
    cases hq : c.P.info? e with
    | none => rw [hq] at hi; simp at hi
    | some ie =>
      rw [hq] at hi
      simp only [Option.map_some, Option.some.injEq, Prod.mk.injEq] at hi
      cases hz : ie.zero with
      | none => rw [hz] at hi; simp at hi
      | some z =>
        rw [hz] at hi
        simp only [Option.map_some, Option.some.injEq] at hi
        subst hm
        have b1 := Nat.le_of_ble_eq_true hs1
        have b3 := Nat.le_of_ble_eq_true hs3
        have hby : ((ie.bytes : Nat) : Int) * (len : Int) ≤ 281474976710656 := by
          have e1 : ((nb : Int) * (len : Int)) = ((len * nb : Nat) : Int) := by rw [Int.mul_comm]; rfl
          rw [hi.2.1, e1]; omega
        have hr := run_make (P := c.P) w t e ie z (ht _ _ htt).und hq hz kk kk' len len (by omega) (Int.le_refl _) hby (by omega)
        have hc : madeCells z.cells ((len : Int).toNat * ie.size) = vs.toArray := by
          rw [hi.1, hi.2.2, Int.toNat_natCast, madeCells, zerosL_eq, forceL_some hv]
        rw [hc] at hr
        simp only [execOp, ev_eval h2 hx, ev_eval h2 hy, Sem.run_bind, hr, Result.andThen_ok, Sem.run_pure, Int.toNat_natCast]
        rfl) h
end
end Go.Proofs.Ytabcaiecoiejkaa.K
