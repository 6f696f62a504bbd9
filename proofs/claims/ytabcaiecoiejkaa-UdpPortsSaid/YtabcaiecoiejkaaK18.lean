/- Rules of the engine: len of a channel; a map's entry struck. -/
import Derived.Test.YtabcaiecoiejkaaK17
set_option maxRecDepth 100000
set_option linter.unusedVariables false
set_option linter.unusedSimpArgs false
namespace Go.Proofs.Ytabcaiecoiejkaa.K
open Go Go.Conc
section
variable {c : Cx} {q : Bool} {n d : Nat} {F : Fr} {w0 : World} {ks : List Nat} {L0 L : Mm} {D : List Deferred} {k : List Item} {ops : Array Oper} {i : Nat} {rest : List Oper} {ty : TypeId} {pos : String} {af : Array Edge} {g : Option (Nat × Bool)} {tb : Tab}
theorem zx_lenChan (ht : TabOk c.P tb) {t e : TypeId} {dir : ChanDir} {tz : Nat} {tzs : List Value} {x : Operand} {b cap s r : Nat} {buf : List Value} (j : Nat) (hw : wn ops F g = some true) (htt : lookT tb t = some ⟨.chan dir e, tz, tzs⟩)
    (hx : ev F x = some (.chan (some b))) (hL : L[j]? = some (b, cB cap buf s r)) (hd : Nat.blt d n = true) (h : ZX c q n ((d, .int .i64 buf.length) :: F) w0 ks L D ops (i + 1) rest k) : ZX c q n F w0 ks L D ops i (⟨some d, .call ⟨.builtin .len, #[x], #[t]⟩, ty, pos, af, g⟩ :: rest) k :=
  zx_val hw hd (fun a w h2 hm => by
    have h1 := (ht _ _ htt).und
    have hb := hm.known _ (List.mem_of_getElem? hL)
    have hg : (getObj b).run c.P w = .ok (.chan cap buf.toArray false s r false) w := run_getObj_chan c.P w hb
    simp [execOp, resolve, invoke, builtin, Builtin.len_, run_underlying h1, ev_eval h2 hx, hg, goInt]) h
theorem zx_lenChan0 (ht : TabOk c.P tb) {t e : TypeId} {dir : ChanDir} {tz : Nat} {tzs : List Value} {x : Operand} (hw : wn ops F g = some true) (htt : lookT tb t = some ⟨.chan dir e, tz, tzs⟩)
    (hx : ev F x = some (.chan none)) (hd : Nat.blt d n = true) (h : ZX c q n ((d, .int .i64 0) :: F) w0 ks L D ops (i + 1) rest k) : ZX c q n F w0 ks L D ops i (⟨some d, .call ⟨.builtin .len, #[x], #[t]⟩, ty, pos, af, g⟩ :: rest) k :=
  zx_val hw hd (fun a w h2 hm => by
    have h1 := (ht _ _ htt).und
    simp [execOp, resolve, invoke, builtin, Builtin.len_, run_underlying h1, ev_eval h2 hx, goInt]) h
theorem erase_list {α β : Type} (f : α → β) : ∀ (l : List α) (i : Nat), (l.map f).eraseIdx i = (l.eraseIdx i).map f
  | [], _ => by simp
  | a :: l, 0 => by simp
  | a :: l, i + 1 => by simp [erase_list f l i]
theorem erase_mE (ms : List (Int × Value × Nat)) (i : Nat) : (ms.map mE).toArray.eraseIdxIfInBounds i = ((ms.eraseIdx i).map mE).toArray := by
  apply Array.ext'
  by_cases h : i < ms.length
  · simp [Array.eraseIdxIfInBounds, h, erase_list]
  · simp [Array.eraseIdxIfInBounds, h, List.eraseIdx_of_length_le (Nat.le_of_not_lt h)]
theorem zx_mapDel (ht : TabOk c.P tb) {t kt et t2 : TypeId} {tz kz : Nat} {tzs kzs : List Value} {x y : Operand} {m : Int} {b clock : Nat} {ms : List (Int × Value × Nat)} {iv : Nat × Value} {L' : Mm} (j : Nat) (hw : wn ops F g = some true) (htt : lookT tb t = some ⟨.map kt et, tz, tzs⟩) (hkt : lookT tb kt = some ⟨.int .i64, kz, kzs⟩)
    (hx : ev F x = some (.map (some b))) (hy : ev F y = some (.int .i64 m)) (hL : L[j]? = some (b, mB ms clock)) (hf : fnd m ms 0 = some iv) (hL' : L.set j (b, mB (ms.eraseIdx iv.1) clock) = L')
    (h : ZX c false n F w0 ks L' D ops (i + 1) rest k) : ZX c false n F w0 ks L D ops i (⟨none, .call ⟨.builtin .delete, #[x, y], #[t, t2]⟩, ty, pos, af, g⟩ :: rest) k :=
  zx_mem (o := ⟨none, .call ⟨.builtin .delete, #[x, y], #[t, t2]⟩, ty, pos, af, g⟩) (Y := Unit) (v := fun _ => .tuple #[]) (L' := fun _ => L') (Φ := fun _ => True) hw
    (fun a w _ h2 hm _ hK => by
      have h1 := (ht _ _ htt).und
      have h3 := (ht _ _ hkt).und
      have hb := hm.known _ (List.mem_of_getElem? hL)
      have hlt := hm.lt (List.mem_of_getElem? hL)
      have hc : ∀ e, (Instr.checkKey e 10000 kt (.int .i64 m)).run c.P w = .ok () w := fun e => MapKept.run_checkKey (k := .int .i64 m) h3 rfl e 9999
      have hf' : (Instr.findKey kt (.int .i64 m) (ms.map mE)).run c.P w = .ok (some iv) w := MapKept.run_findKey h3 (by rw [findNow_mE, hf])
      have hg := MapKept.run_getObj_map (P := c.P) hb
      have hs : (setObj b (.map ((ms.map mE).eraseIdx iv.1).toArray clock)).run c.P w = .ok () { w with heap := w.heap.setIfInBounds b (.map ((ms.map mE).eraseIdx iv.1).toArray clock) } := MapKept.run_setObj_map (P := c.P) _ hb
      refine upon_val (w' := { w with heap := w.heap.setIfInBounds b (.map ((ms.eraseIdx iv.1).map mE).toArray clock) }) ?_ (hK () _ trivial ?_)
      · simp [execOp, resolve, invoke, builtin, Builtin.delete_, ev_eval h2 hx, ev_eval h2 hy, run_underlying h1, hg, hc, hf', erase_mE, ← erase_list, hs, Result.andThen]
      · rw [← hL']
        refine hm.setBlk hL (by simp) rfl rfl rfl ?_ ?_
        · rw [Array.getElem?_setIfInBounds_self_of_lt hlt]
          rfl
        · intro k' hk'
          exact Array.getElem?_setIfInBounds_ne (Ne.symm hk'))
    (fun _ _ _ h2 => h2.none _) (fun _ _ => h)
end
end Go.Proofs.Ytabcaiecoiejkaa.K
