/- The engine's fourth part: operations that make or turn memory; calls; strings and indices, whose bounds are owed. Nothing here speaks of the program of this seat. -/
import Derived.Test.YtabcaiecoiejkaaK3
namespace Go.Proofs.Ytabcaiecoiejkaa.K
open Go

/-- a function that may be called -/
def Fnc (P : Program) (f : FuncId) : Prop := ∃ fn, P.funcs[f]? = some fn ∧ fn.body.isNone = false ∧ (fn.name == "runtime.NumGoroutine") = false
theorem Fnc.run {P : Program} {f : FuncId} (h : Fnc P f) (args : Array Value) (w : World) : (callFunc f args).run P w = .ok (.enter f args) w := by
  obtain ⟨fn, h1, h2, h3⟩ := h
  have h3' : (fn.name = "runtime.NumGoroutine") = False := by simpa using h3
  have h2' : fn.body ≠ none := by intro e; rw [e] at h2; simp at h2
  simp [callFunc, h1, h2', h3']

theorem storeCells_mem {P : Program} {w0 : World} {ks : List Nat} {j b : Nat} {t : TypeId} {lo hi : Nat} : ∀ (vs : List Value) (i off : Nat) (L : Mm) (cs : List Value) (w : World), Mem w0 ks L w → L[j]? = some (b, .c cs t lo hi) →
    (∀ v ∈ vs, v.oneCell' = true) → off + i + vs.length ≤ cs.length → (∀ m, off + i ≤ m → m < off + i + vs.length → (lo ≤ m && m < hi) = false) →
    ∃ w', (storeCells ⟨b, off, none⟩ vs i).run P w = .ok () w' ∧ Mem w0 ks (L.set j (b, .c (over cs (off + i) vs) t lo hi)) w'
  | [], i, off, L, cs, w, hm, hL, _, _, _ => by
    refine ⟨w, by simp [storeCells], ?_⟩
    have hj : j < L.length := (List.getElem?_eq_some_iff.1 hL).1
    have : L.set j (b, .c (over cs (off + i) []) t lo hi) = L := by
      have ho : over cs (off + i) [] = cs := by cases cs <;> rfl
      rw [ho]
      apply List.ext_getElem?
      intro m
      by_cases hjm : j = m
      · subst hjm; rw [List.getElem?_set_self hj, hL]
      · rw [List.getElem?_set_ne hjm]
    rw [this]; exact hm
  | v :: vs, i, off, L, cs, w, hm, hL, h1, hlen, hfz => by
    have hlt : off + i < cs.length := by simp only [List.length_cons] at hlen; omega
    have hcell : w.cell? ⟨b, off + i, none⟩ = some cs[off + i] := by rw [hm.cell hL, List.getElem?_eq_getElem hlt]
    have hfr : w.frozen? ⟨b, off + i, none⟩ = false := by
      have hb : w.heap[b]? = some (.cells cs.toArray t (lo, hi)) := hm.known _ (List.mem_of_getElem? hL)
      have := hfz (off + i) (Nat.le_refl _) (by simp only [List.length_cons]; omega)
      simp only [World.frozen?, hb]
      exact this
    have hm' := hm.setCell (j := off + i) hL v
    have hj : j < L.length := (List.getElem?_eq_some_iff.1 hL).1
    obtain ⟨w', hr, hm''⟩ := storeCells_mem (P := P) (w0 := w0) (ks := ks) (j := j) (b := b) (t := t) (lo := lo) (hi := hi) vs (i + 1) off (L.set j (b, .c (cs.set (off + i) v) t lo hi)) (cs.set (off + i) v) (w.setCell ⟨b, off + i, none⟩ v) hm'
      (by rw [List.getElem?_set_self hj]) (fun u hu => h1 u (List.mem_cons_of_mem _ hu)) (by simp only [List.length_cons] at hlen; rw [List.length_set]; omega)
      (fun m hm1 hm2 => hfz m (by omega) (by simp only [List.length_cons]; omega))
    refine ⟨w', ?_, ?_⟩
    · unfold storeCells
      rw [Sem.run_bind, addr_add, run_store P w _ v .plain (h1 v (List.mem_cons_self ..)), hcell]
      simp only [hfr]
      exact hr
    · rw [List.set_set] at hm''
      have : over (cs.set (off + i) v) (off + (i + 1)) vs = over cs (off + i) (v :: vs) := over_set cs (off + i) hlt
      rw [← this]
      exact hm''

section
variable {c : Cx} {q : Bool} {n : Nat} {F : Fr} {w0 : World} {ks : List Nat} {L : Mm} {D : List Deferred} {k : List Item} {ops : Array Oper} {i : Nat} {rest : List Oper}
  {ty : TypeId} {pos : String} {af : Array Edge} {g : Option (Nat × Bool)} {tb : Tab} {d : Nat}

theorem upon_val {o : Oper} {a : Act} {w w' : World} {v : Value} {K : Act → World → Prop} {Q : Exit → Act → World → Prop} {P : Program} (h : (execOp a.eval o).run P w = .ok (.value v) w') (hk : K (a.put o.dst v) w') : o.wp P a w K Q := by
  unfold Oper.wp; rw [h]; exact hk
theorem upon_skp {o : Oper} {a : Act} {w w' : World} {K : Act → World → Prop} {Q : Exit → Act → World → Prop} {P : Program} (h : (execOp a.eval o).run P w = .ok .skip w') (hk : K (a.put o.dst undef) w') : o.wp P a w K Q := by
  unfold Oper.wp; rw [h]; exact hk

theorem zx_new {op : Op} {x : Blk} {v : Nat → Value} (hw : wn ops F g = some true) (hd : Nat.blt d n = true)
    (hrun : ∀ a w, Has F a → Mem w0 ks L w → (execOp a.eval ⟨some d, op, ty, pos, af, g⟩).run c.P w = .ok (.value (v w.heap.size)) (w.alloc x.obj))
    (h : ∀ b, ZX c false n ((d, v b) :: F) w0 ks ((b, x) :: L) D ops (i + 1) rest k) : ZX c false n F w0 ks L D ops i (⟨some d, op, ty, pos, af, g⟩ :: rest) k :=
  zx_mem (o := ⟨some d, op, ty, pos, af, g⟩) (Y := Nat) (v := v) (L' := fun b => (b, x) :: L) (Φ := fun _ => True) hw
    (fun a w _ h2 h3 _ hK => upon_val (hrun a w h2 h3) (hK _ _ trivial (h3.alloc x)))
    (fun b => has_put_d hd (v b)) (fun b _ => h b)

theorem zx_alloc (ht : TabOk c.P tb) {t : TypeId} {td : TypeDesc} {tz : Nat} {zs : List Value} (hw : wn ops F g = some true) (htt : lookT tb t = some ⟨td, tz, zs⟩) (hd : Nat.blt d n = true)
    (h : ∀ b, ZX c false n ((d, .pointer (some ⟨b, 0, none⟩)) :: F) w0 ks ((b, .c zs t 0 0) :: L) D ops (i + 1) rest k) : ZX c false n F w0 ks L D ops i (⟨some d, .alloc t, ty, pos, af, g⟩ :: rest) k :=
  zx_new (v := fun b => .pointer (some ⟨b, 0, none⟩)) hw hd (fun a w h2 h3 => by
    obtain ⟨z, hz, hc⟩ := (ht _ _ htt).run_zero w
    simp [execOp, Instr.alloc, hz, newVar, newRow, hc, Blk.obj]) h
theorem zx_box {t : TypeId} {x : Operand} {v : Value} {vs : List Value} (hw : wn ops F g = some true) (hx : ev F x = some v) (hvs : forceL (cellsL v) some = some vs) (hd : Nat.blt d n = true)
    (h : ∀ b, ZX c false n ((d, .pointer (some ⟨b, 0, none⟩)) :: F) w0 ks ((b, .c vs t 0 0) :: L) D ops (i + 1) rest k) : ZX c false n F w0 ks L D ops i (⟨some d, .box t x, ty, pos, af, g⟩ :: rest) k :=
  zx_new (v := fun b => .pointer (some ⟨b, 0, none⟩)) hw hd (fun a w h2 h3 => by
    simp [execOp, Instr.box, newVar, newRow, ev_eval h2 hx, Blk.obj, cellsL_eq, forceL_some hvs]) h

/-- a store into a known block -/
theorem zx_store (ht : TabOk c.P tb) {t : TypeId} {x y : Operand} {ti : TI} {b off : Nat} (j : Nat) {cs cs' : List Value} {et : TypeId} {lo hi : Nat} {v : Value} {vs : List Value} {L' : Mm} (hw : wn ops F g = some true)
    (htt : lookT tb t = some ti) (hx : ev F x = some (.pointer (some ⟨b, off, none⟩))) (hy : ev F y = some v) (hvs : forceL (cellsL v) some = some vs) (hone : vs.all Value.oneCell' = true) (hsz : Nat.beq vs.length ti.size = true)
    (hL : L[j]? = some (b, .c cs et lo hi)) (hcs : forceL (over cs off vs) some = some cs') (hL' : forceL (L.set j (b, .c cs' et lo hi)) some = some L') (hlen : Nat.ble (off + vs.length) cs.length = true) (hfz : Nat.ble hi lo = true)
    (h : ZX c false n F w0 ks L' D ops (i + 1) rest k) : ZX c false n F w0 ks L D ops i (⟨none, .store t x y, ty, pos, af, g⟩ :: rest) k :=
  zx_mem (o := ⟨none, .store t x y, ty, pos, af, g⟩) (Y := Unit) (v := fun _ => undef) (L' := fun _ => L') (Φ := fun _ => True) hw
    (fun a w _ h2 h3 K hK => by
      obtain ⟨w', hr, hm⟩ := storeCells_mem (P := c.P) (j := j) vs 0 off L cs w h3 hL (fun u hu => (List.all_eq_true.1 hone) u hu) (by simpa using Nat.le_of_ble_eq_true hlen) (fun m _ _ => by have := Nat.le_of_ble_eq_true hfz; simp; omega)
      have hs := (ht _ _ htt).run_size w
      have hl : vs.length = ti.size := Nat.eq_of_beq_eq_true hsz
      have hcl : v.cells = vs.toArray := by rw [cellsL_eq, forceL_some hvs]
      rw [Nat.add_zero, forceL_some hcs, forceL_some hL'] at hm
      refine upon_skp (w' := w') ?_ (hK () w' trivial hm)
      simp [execOp, ev_eval h2 hx, ev_eval h2 hy, Instr.storeAt, Instr.sureAddr, storeVar, hs, hcl, hl, hr])
    (fun _ _ _ h2 => h2.none _) (fun _ _ => h)

/-! ### calls -/
theorem run_call {a : Act} {w : World} {P : Program} {f : FuncId} {as : Array Operand} {ats : Array TypeId} {dd : Option Nat} {vs : List Value} (h2 : Has F a) (hf : Fnc P f) (ha : evs F as.toList = some vs) :
    (execOp a.eval ⟨dd, .call ⟨.value (.func f), as, ats⟩, ty, pos, af, g⟩).run P w = .ok (.enter f vs.toArray) w := by
  have : as.map a.eval = vs.toArray := by apply Array.ext'; simpa using evs_eval h2 ha
  simp [execOp, resolve, Deferred.ofValue, invoke, Act.eval, this, hf.run]

/-- a call that turns nothing and yields v -/
theorem zx_call0 {f : FuncId} {as : Array Operand} {ats : Array TypeId} {vs : List Value} {v : Value} (hw : wn ops F g = some true) (hf : Fnc c.P f) (ha : evs F as.toList = some vs) (hd : Nat.blt d n = true)
    (hc : ∀ w, Mem w0 ks L w → Calls c.P f vs.toArray w fun e w' => e = .returned v ∧ Mem w [] [] w')
    (h : ZX c q n ((d, v) :: F) w0 ks L D ops (i + 1) rest k) : ZX c q n F w0 ks L D ops i (⟨some d, .call ⟨.value (.func f), as, ats⟩, ty, pos, af, g⟩ :: rest) k :=
  zx_op (o := ⟨some d, .call ⟨.value (.func f), as, ats⟩, ty, pos, af, g⟩) (v := v) hw (fun a w _ h2 h3 => by
    unfold Oper.quietAt
    rw [run_call h2 hf ha]
    exact ⟨rfl, (hc w h3).mono fun e w' ⟨he, hm⟩ => ⟨he, hm⟩⟩) (has_put_d hd v) h
/-- a call of any kind -/
theorem zx_call {f : FuncId} {as : Array Operand} {ats : Array TypeId} {vs : List Value} {Y : Type} {v : Y → Value} {L' : Y → Mm} {Φ : Y → Prop} (hw : wn ops F g = some true) (hf : Fnc c.P f) (ha : evs F as.toList = some vs) (hd : Nat.blt d n = true)
    (hc : ∀ w, Mem w0 ks L w → Calls c.P f vs.toArray w fun e w' => ∃ y, Φ y ∧ e = .returned (v y) ∧ Mem w0 ks (L' y) w')
    (h : ∀ y, Φ y → ZX c false n ((d, v y) :: F) w0 ks (L' y) D ops (i + 1) rest k) : ZX c false n F w0 ks L D ops i (⟨some d, .call ⟨.value (.func f), as, ats⟩, ty, pos, af, g⟩ :: rest) k :=
  zx_mem (o := ⟨some d, .call ⟨.value (.func f), as, ats⟩, ty, pos, af, g⟩) (Y := Y) (v := v) (L' := L') (Φ := Φ) hw
    (fun a w _ h2 h3 _ hK => by
      unfold Oper.wp
      rw [run_call h2 hf ha]
      exact (hc w h3).mono fun e w' ⟨y, hy, he, hm⟩ => by subst he; exact hK y w' hy hm)
    (fun y => has_put_d hd (v y)) h

/-! ### strings -/
theorem zx_cat {x y : Operand} {t u : TypeId} {p r : ByteArray} (hw : wn ops F g = some true) (hx : ev F x = some (.string p)) (hy : ev F y = some (.string r)) (hb : p.size + r.size ≤ 9223372036854775807) (hd : Nat.blt d n = true)
    (h : ZX c q n ((d, .string (p ++ r)) :: F) w0 ks L D ops (i + 1) rest k) : ZX c q n F w0 ks L D ops i (⟨some d, .binOp .add t x y u, ty, pos, af, g⟩ :: rest) k :=
  zx_val hw hd (fun a w h2 _ => by
    have hb2 : (p.size : Int) + (r.size : Int) ≤ 9223372036854775807 := by omega
    simp [execOp, ev_eval h2 hx, ev_eval h2 hy, eqGuard, binOp, Op.stringOp]
    exact hb2) h
theorem zx_idxS (ht : TabOk c.P tb) {x y : Operand} {t : TypeId} {ti : TI} {s : ByteArray} {kk : IntKind} {m : Int} (hw : wn ops F g = some true) (htt : lookT tb t = some ti) (hds : ti.desc = .string) (hx : ev F x = some (.string s)) (hy : ev F y = some (.int kk m)) (h0 : 0 ≤ m) (h1 : m < s.size) (hd : Nat.blt d n = true)
    (h : ZX c q n ((d, .int .u8 (bt s m.toNat)) :: F) w0 ks L D ops (i + 1) rest k) : ZX c q n F w0 ks L D ops i (⟨some d, .index t x y, ty, pos, af, g⟩ :: rest) k :=
  zx_val hw hd (fun a w h2 _ => by
    obtain ⟨u, hu, hb⟩ := bt_get (s := s) (i := m.toNat) (by omega)
    have h3 := (ht _ _ htt).run_und w
    rw [hds] at h3
    simp [execOp, ev_eval h2 hx, ev_eval h2 hy, Instr.index, asIntOf, h3, h0, hu, hb]) h
theorem zx_sliceS (ht : TabOk c.P tb) {x : Operand} {lo hi : Option Operand} {t : TypeId} {ti : TI} {s : ByteArray} {l m : Int} (hw : wn ops F g = some true) (htt : lookT tb t = some ti) (hds : ti.desc = .string) (hx : ev F x = some (.string s))
    (hl : (match lo with | none => some 0 | some z => match ev F z with | some (.int _ v) => some v | _ => none) = some l) (hm : (match hi with | none => some (s.size : Int) | some z => match ev F z with | some (.int _ v) => some v | _ => none) = some m)
    (h0 : 0 ≤ l) (h1 : l ≤ m) (h2' : m ≤ s.size) (hd : Nat.blt d n = true)
    (h : ZX c q n ((d, .string (s.extract l.toNat m.toNat)) :: F) w0 ks L D ops (i + 1) rest k) : ZX c q n F w0 ks L D ops i (⟨some d, .slice t x lo hi none, ty, pos, af, g⟩ :: rest) k :=
  zx_val hw hd (fun a w h2 _ => by
    have h3 := (ht _ _ htt).run_und w
    rw [hds] at h3
    have em : (m.toNat : Int) = m := Int.toNat_of_nonneg (by omega)
    have hm0 : 0 ≤ m := by omega
    have hls : l ≤ s.size := by omega
    cases lo with
    | none =>
      simp only [Option.some.injEq] at hl
      subst hl
      cases hi with
      | none =>
        simp only [Option.some.injEq] at hm
        subst hm
        simp [execOp, ev_eval h2 hx, Instr.sliceAt, Instr.slice, h3, Instr.sliceBounds]
      | some z =>
        simp only at hm
        split at hm
        · rename_i kk v hz
          simp only [Option.some.injEq] at hm
          subst hm
          simp [execOp, ev_eval h2 hx, ev_eval h2 hz, Instr.sliceAt, Instr.slice, h3, Instr.sliceBounds, Instr.sliceBound, asIntOf, hm0, h2']
        · simp at hm
    | some y =>
      simp only at hl
      split at hl
      · rename_i k1 v1 hy
        simp only [Option.some.injEq] at hl
        subst hl
        cases hi with
        | none =>
          simp only [Option.some.injEq] at hm
          subst hm
          simp [execOp, ev_eval h2 hx, ev_eval h2 hy, Instr.sliceAt, Instr.slice, h3, Instr.sliceBounds, Instr.sliceBound, asIntOf, h0, hls]
        | some z =>
          simp only at hm
          split at hm
          · rename_i kk v hz
            simp only [Option.some.injEq] at hm
            subst hm
            simp [execOp, ev_eval h2 hx, ev_eval h2 hy, ev_eval h2 hz, Instr.sliceAt, Instr.slice, h3, Instr.sliceBounds, Instr.sliceBound, asIntOf, h0, h1, hm0, h2', em]
          · simp at hm
      · simp at hl) h
end
end Go.Proofs.Ytabcaiecoiejkaa.K
