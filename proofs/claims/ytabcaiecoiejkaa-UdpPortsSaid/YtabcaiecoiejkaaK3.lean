/- The engine's third part: one rule for every operation that only reckons; loads. Nothing here speaks of the program of this seat. -/
import Derived.Test.YtabcaiecoiejkaaK2
namespace Go.Proofs.Ytabcaiecoiejkaa.K
open Go

/-- cells with some written over, from 'off' on -/
def over : List Value → Nat → List Value → List Value
  | cs, _, [] => cs
  | [], _, _ :: _ => []
  | _ :: cs, 0, v :: vs => v :: over cs 0 vs
  | c :: cs, off + 1, v :: vs => c :: over cs off (v :: vs)
def cellsL : Value → List Value
  | .agg cs => cs.toList
  | v => [v]
theorem cellsL_eq (v : Value) : v.cells = (cellsL v).toArray := by cases v <;> rfl

/-- a list, reckoned to its end -/
def forceL {α β : Type} : List α → (List α → β) → β
  | [], k => k []
  | x :: xs, k => forceL xs fun ys => k (x :: ys)
theorem forceL_eq {α β : Type} : ∀ (l : List α) (k : List α → β), forceL l k = k l
  | [], _ => rfl
  | x :: xs, k => by unfold forceL; rw [forceL_eq xs]
theorem forceL_some {α : Type} {l l' : List α} (h : forceL l some = some l') : l = l' := by rw [forceL_eq] at h; simpa using h
def evP (F : Fr) : List (Nat × Operand) → Option (List (Nat × Value))
  | [] => some []
  | (i, x) :: r => match ev F x, evP F r with
    | some v, some l => some ((i, v) :: l)
    | _, _ => none
theorem evP_eval {F : Fr} {a : Act} (h : Has F a) : ∀ {xs : List (Nat × Operand)} {l : List (Nat × Value)}, evP F xs = some l → xs.map (fun p => (p.1, a.eval p.2)) = l
  | [], l, hl => by simpa [evP] using hl
  | (i, x) :: r, l, hl => by
    unfold evP at hl
    split at hl
    · rename_i v l' hv hr
      simp only [Option.some.injEq] at hl
      subst hl
      simp [ev_eval h hv, evP_eval h hr]
    · simp at hl
def fillL (place : Nat → Option (Nat × Nat)) (cs : List Value) : List (Nat × Value) → Option (List Value)
  | [] => some cs
  | (i, v) :: r => match place i with
    | none => none
    | some (off, size) => cond (Nat.beq (cellsL v).length size && Nat.ble (off + (cellsL v).length) cs.length) (fillL place (over cs off (cellsL v)) r) none
theorem over_nil (cs : List Value) (o : Nat) : over cs o [] = cs := by cases cs <;> rfl
theorem over_set {vs : List Value} {v : Value} : ∀ (cs : List Value) (o : Nat), o < cs.length → over (cs.set o v) (o + 1) vs = over cs o (v :: vs)
  | [], o, ho => by simp at ho
  | x :: xs, 0, _ => by cases vs <;> simp [over, over_nil]
  | x :: xs, o + 1, ho => by
    have h2 := over_set (vs := vs) (v := v) xs o (by simpa using ho)
    simp only [List.set_cons_succ]
    cases vs with
    | nil =>
      rw [over_nil] at h2 ⊢
      simp only [over]
      rw [← h2]
    | cons y ys =>
      show x :: over (xs.set o v) (o + 1) (y :: ys) = x :: over xs o (v :: y :: ys)
      rw [h2]
theorem foldl_over : ∀ (vs : List Value) (i off : Nat) (cs : Array Value), off + i + vs.length ≤ cs.size → (vs.zipIdx i).foldl (fun cs (c, j) => cs.setIfInBounds (off + j) c) cs = (over cs.toList (off + i) vs).toArray
  | [], i, off, cs, _ => by simp [over_nil]
  | v :: vs, i, off, cs, h => by
    simp only [List.length_cons] at h
    rw [List.zipIdx_cons, List.foldl_cons, foldl_over vs (i + 1) off _ (by rw [Array.size_setIfInBounds]; omega)]
    rw [Array.toList_setIfInBounds, ← over_set cs.toList (off + i) (by rw [Array.length_toList]; omega)]
    rfl
theorem fill_L (place : Nat → Option (Nat × Nat)) : ∀ (l : List (Nat × Value)) (cs r : List Value), fillL place cs l = some r → Instr.fill place cs.toArray l = some r.toArray
  | [], cs, r, h => by simp only [fillL, Option.some.injEq] at h; subst h; simp [Instr.fill]
  | (i, v) :: l, cs, r, h => by
    unfold fillL at h
    unfold Instr.fill
    cases hp : place i with
    | none => rw [hp] at h; simp at h
    | some q =>
      obtain ⟨off, size⟩ := q
      rw [hp] at h
      simp only at h ⊢
      cases hc : (Nat.beq (cellsL v).length size && Nat.ble (off + (cellsL v).length) cs.length) with
      | false => rw [hc] at h; simp at h
      | true =>
        rw [hc] at h
        simp only [cond_true] at h
        simp only [Bool.and_eq_true] at hc
        have h1 : (cellsL v).length = size := Nat.eq_of_beq_eq_true hc.1
        have h2 := Nat.le_of_ble_eq_true hc.2
        have e1 : ¬ (v.cells.size ≠ size ∨ off + v.cells.size > cs.toArray.size) := by
          rw [cellsL_eq]; simp only [List.size_toArray]; omega
        have e2 : (decide (v.cells.size ≠ size) || decide (off + v.cells.size > cs.toArray.size)) = false := by
          rw [not_or] at e1; simp only [e1.1, e1.2, decide_false, Bool.or_false]
        have e3 : (v.cells.zipIdx.foldl (fun cs (c, j) => cs.setIfInBounds (off + j) c) cs.toArray) = (over cs off (cellsL v)).toArray := by
          have := foldl_over (cellsL v) 0 off cs.toArray (by simpa using h2)
          rw [cellsL_eq, ← Array.foldl_toList]
          simpa using this
        rw [e3]
        have := fill_L place l _ r h
        rw [← this]
        simp only [e2]
        simp

def placesL (tb : Tab) : List Field → Option (List (Nat × Nat))
  | [] => some []
  | ⟨_, fty, foff, _, _, _, _⟩ :: r => match lookT tb fty, placesL tb r with
    | some ⟨_, sz, _⟩, some l => some ((foff, sz) :: l)
    | _, _ => none
theorem placesL_run {P : Program} {tb : Tab} (ht : TabOk P tb) (w : World) : ∀ (fs : List Field) (l : List (Nat × Nat)), placesL tb fs = some l → (fs.mapM (m := Sem) (fun f => do pure (f.offset, ← sizeOf f.type))).run P w = .ok l w
  | [], l, h => by simp only [placesL, Option.some.injEq] at h; subst h; simp
  | f :: fs, l, h => by
    obtain ⟨n, fty, foff, e, tg, pk, bo⟩ := f
    unfold placesL at h
    split at h
    · rename_i d sz zs l' hty hr
      simp only [Option.some.injEq] at h
      subst h
      have h1 := (ht _ _ hty).run_size w
      have h2 := placesL_run ht w fs l' hr
      simp only at h1
      rw [List.mapM_cons]
      simp only [Sem.run_bind, h1, Result.andThen_ok, Sem.run_pure, h2]
    · simp at h

/-- what an operation that only reckons yields -/
def pev (tb : Tab) (F : Fr) : Op → Option Value
  | .move x => ev F x
  | .assign x => ev F x
  | .pick c a b => match ev F c with
    | some (.bool true) => ev F a
    | some (.bool false) => ev F b
    | _ => none
  | .nilCheck x => match ev F x with
    | some (.pointer (some a)) => some (.pointer (some a))
    | _ => none
  | .binOp op t x y _ => match ev F x, ev F y with
    | some u, some v => bev tb op t u v
    | _, _ => none
  | .unOp op _ x => match op, ev F x with
    | .not, some (.bool b) => some (.bool (!b))
    | .neg, some (.int k a) => some (.int k (k.wrap (0 - a)))
    | _, _ => none
  | .convert s d x => match lookT tb s, lookT tb d, ev F x with
    | some i, some j, some (.int _ a) => match i.desc, j.desc with
      | .int _, .int k => some (.int k (k.wrap a))
      | _, _ => none
    | some i, some j, some (.string a) => match i.desc, j.desc with
      | .string, .string => some (.string a)
      | _, _ => none
    | _, _, _ => none
  | .extract x i => match ev F x with
    | some (.tuple vs) => vs.toList[i]?
    | _ => none
  | .makeFunc fn fs cs => match evs F fs.toList, evs F cs.toList with
    | some a, some b => some (.func fn a.toArray b.toArray)
    | _, _ => none
  | .fieldAddr s x f => match lookT tb s, ev F x with
    | some i, some (.pointer (some ⟨b, o, none⟩)) => match i.desc with
      | .struct fs => match fs.toList[f]? with
        | some ⟨_, fty, foff, _, _, _, _⟩ => match lookT tb fty with
          | some j => cond (Nat.beq j.size 0) none (some (.pointer (some ⟨b, o + foff, none⟩)))
          | none => none
        | none => none
      | _ => none
    | _, _ => none
  | .field t x f => match lookT tb t, ev F x with
    | some i, some (.agg cs) => match i.desc with
      | .struct fs => match fs.toList[f]? with
        | some ⟨_, fty, foff, _, _, _, _⟩ => match lookT tb fty with
          | some j => cond (isAggD j.desc) (forceL ((cs.toList.drop foff).take j.size) fun l => some (.agg l.toArray)) (cs.toList[foff]?)
          | none => none
        | none => none
      | _ => none
    | _, _ => none
  | .build t parts => match lookT tb t, evP F parts.toList with
    | some ⟨d, _, zs⟩, some l => match d with
      | .struct fs => match placesL tb fs.toList with
        | some ps => match fillL (fun i => ps[i]?) zs l with
          | some r => forceL r fun r => some (.agg r.toArray)
          | none => none
        | none => none
      | .array _ e => match lookT tb e with
        | some ⟨_, sz, _⟩ => match fillL (fun i => some (i * sz, sz)) zs l with
          | some r => forceL r fun r => some (.agg r.toArray)
          | none => none
        | none => none
      | _ => none
    | _, _ => none
  | .call c => match c.callee, c.args.toList, c.argTypes.toList with
    | .builtin .len, [x], [t] => match lookT tb t, ev F x with
      | some i, some (.string s) => match i.desc with
        | .string => some (.int .i64 s.size)
        | _ => none
      | some i, some (.slice _ m _) => match i.desc with
        | .slice _ => some (.int .i64 m)
        | _ => none
      | _, _ => none
    | _, _, _ => none
  | _ => none

theorem addr_add (b o n : Nat) : (⟨b, o, none⟩ : Addr).add n = ⟨b, o + n, none⟩ := by
  unfold Addr.add
  split
  · rename_i h; subst h; rfl
  · rfl

theorem pev_run {P : Program} {tb : Tab} (ht : TabOk P tb) {F : Fr} {a : Act} (hF : Has F a) {o : Oper} {v : Value} (h : pev tb F o.op = some v) (w : World) : (execOp a.eval o).run P w = .ok (.value v) w := by
  have E := @ev_eval F a hF
  unfold execOp
  unfold pev at h
  split at h
  · rename_i x ho; simp [ho, E h]
  · rename_i x ho; simp [ho, E h]
  · rename_i p x y ho
    split at h
    · rename_i hp; simp [ho, E hp, E h, asBool]
    · rename_i hp; simp [ho, E hp, E h, asBool]
    · simp at h
  · rename_i x ho
    split at h
    · rename_i hx; simp only [Option.some.injEq] at h; subst h; simp [ho, E hx]
    · simp at h
  · rename_i op t x y u ho
    split at h
    · rename_i p r hp hr
      simp [ho, E hp, E hr, bev_guard h, bev_run ht h]
    · simp at h
  · rename_i op t x ho
    split at h
    · rename_i b hb; simp only [Option.some.injEq] at h; subst h; simp [ho, E hb, Op.unary]
    · rename_i k b hb; simp only [Option.some.injEq] at h; subst h; simp [ho, E hb, Op.unary, Op.intArith]
    · simp at h
  · rename_i s d x ho
    split at h
    · rename_i i j k b hi hj hb
      split at h
      · rename_i k1 k2 hd1 hd2
        simp only [Option.some.injEq] at h; subst h
        have h1 := (ht _ _ hi).run_und w
        have h2 := (ht _ _ hj).run_und w
        rw [hd1] at h1
        rw [hd2] at h2
        simp [ho, E hb, convert, h1, h2, Conv.intToInt]
      · simp at h
    · rename_i i j b hi hj hb
      split at h
      · rename_i hd1 hd2
        simp only [Option.some.injEq] at h; subst h
        have h1 := (ht _ _ hi).run_und w
        have h2 := (ht _ _ hj).run_und w
        rw [hd1] at h1
        rw [hd2] at h2
        simp [ho, E hb, convert, h1, h2]
      · simp at h
    · simp at h
  · rename_i x i ho
    split at h
    · rename_i vs hv
      rw [Array.getElem?_toList] at h
      simp [ho, E hv, Instr.extract, h]
    · simp at h
  · rename_i fn fs cs ho
    split at h
    · rename_i p r hp hr
      simp only [Option.some.injEq] at h; subst h
      have h1 := evs_eval hF hp
      have h2 := evs_eval hF hr
      have h1' : fs.map a.eval = p.toArray := by apply Array.ext'; simpa using h1
      have h2' : cs.map a.eval = r.toArray := by apply Array.ext'; simpa using h2
      simp [ho, Instr.makeFunc, h1', h2']
    · simp at h
  · rename_i s x f ho
    split at h
    · rename_i i b off hi hx
      split at h
      · rename_i fs hd
        split at h
        · rename_i fn fty foff fe ft fp fb hfd
          split at h
          · rename_i j hj
            cases hz : Nat.beq j.size 0 with
            | true => rw [hz] at h; simp at h
            | false =>
              rw [hz] at h
              simp only [cond_false, Option.some.injEq] at h
              subst h
              have h1 := (ht _ _ hi).run_und w
              rw [hd] at h1
              have h2 := (ht _ _ hj).run_size w
              have hne : ¬ j.size = 0 := Nat.ne_of_beq_eq_false hz
              rw [Array.getElem?_toList] at hfd
              simp [ho, E hx, Instr.fieldAt, h1, hfd, Instr.sureAddr, fieldPlace, h2, hne, addr_add]
          · simp at h
        · simp at h
      · simp at h
    · simp at h
  · rename_i t x f ho
    split at h
    · rename_i i cs hi hx
      split at h
      · rename_i fs hd
        split at h
        · rename_i fn fty foff fe ft fp fb hfd
          split at h
          · rename_i j hj
            have h1 := (ht _ _ hi).run_und w
            rw [hd] at h1
            have h2 := (ht _ _ hj).run_size w
            have h3 := (ht _ _ hj).run_agg w
            rw [Array.getElem?_toList] at hfd
            cases hz : isAggD j.desc with
            | true =>
              rw [hz] at h h3
              simp only [cond_true, forceL_eq, Option.some.injEq] at h
              subst h
              have hx' : cs.extract foff (foff + j.size) = (List.take j.size (List.drop foff cs.toList)).toArray := by
                apply Array.ext'
                simp [List.extract_eq_take_drop]
              simp [ho, E hx, Instr.field, h1, hfd, asAgg, part, h2, h3, hx']
            | false =>
              rw [hz] at h h3
              simp only [cond_false] at h
              rw [Array.getElem?_toList] at h
              simp [ho, E hx, Instr.field, h1, hfd, asAgg, part, h3, h]
          · simp at h
        · simp at h
      · simp at h
    · simp at h
  · rename_i t parts ho
    split at h
    · rename_i d sz zs l hi hl
      have h1 := (ht _ _ hi).run_und w
      obtain ⟨z, hz, hzc⟩ := (ht _ _ hi).run_zero w
      have hp : parts.map (fun x => (x.1, a.eval x.2)) = l.toArray := by apply Array.ext'; simpa using evP_eval hF hl
      simp only at h1 hzc
      split at h
      · rename_i fs
        split at h
        · rename_i ps hps
          split at h
          · rename_i r hr
            simp only [forceL_eq, Option.some.injEq] at h
            subst h
            have h2 := placesL_run ht w fs.toList ps hps
            have h3 := fill_L _ _ _ _ hr
            have h4 : (fs.mapM (m := Sem) (fun f => do pure (f.offset, ← sizeOf f.type))).run P w = .ok ps.toArray w := by
              rw [Array.mapM_eq_mapM_toList]
              simp only [Sem.run_map, h2, Result.andThen_ok]
            simp only [ho, Instr.build, Sem.run_bind, hz, Result.andThen_ok, h1, h4, hp]
            have h5 : (fun x : Nat => ps.toArray[x]?) = fun x : Nat => ps[x]? := by funext x; simp
            rw [h5, hzc]
            simp [h3]
          · simp at h
        · simp at h
      · rename_i m e
        split at h
        · rename_i d' sz' zs' he
          split at h
          · rename_i r hr
            simp only [forceL_eq, Option.some.injEq] at h
            subst h
            have h2 := (ht _ _ he).run_size w
            simp only at h2
            have h3 := fill_L _ _ _ _ hr
            simp only [ho, Instr.build, Sem.run_bind, hz, Result.andThen_ok, h1, h2, hp]
            rw [hzc]
            simp [h3]
          · simp at h
        · simp at h
      · simp at h
    · simp at h
  · rename_i c ho
    split at h
    · rename_i x t hc ha hat
      split at h
      · rename_i i s hi hx
        split at h
        · rename_i hd
          simp only [Option.some.injEq] at h; subst h
          have h1 := (ht _ _ hi).run_und w
          rw [hd] at h1
          have ha' : c.args = #[x] := by apply Array.ext'; simpa using ha
          have hat' : c.argTypes = #[t] := by apply Array.ext'; simpa using hat
          simp [ho, resolve, hc, ha', hat', invoke, builtin, Builtin.len_, h1, E hx, goInt]
        · simp at h
      · rename_i i ad m cp hi hx
        split at h
        · rename_i el hd
          simp only [Option.some.injEq] at h; subst h
          have h1 := (ht _ _ hi).run_und w
          rw [hd] at h1
          have ha' : c.args = #[x] := by apply Array.ext'; simpa using ha
          have hat' : c.argTypes = #[t] := by apply Array.ext'; simpa using hat
          simp [ho, resolve, hc, ha', hat', invoke, builtin, Builtin.len_, h1, E hx, goInt]
        · simp at h
      · simp at h
    · simp at h
  · simp at h

section
variable {c : Cx} {q : Bool} {n : Nat} {F : Fr} {w0 : World} {ks : List Nat} {L : Mm} {D : List Deferred} {k : List Item} {ops : Array Oper} {i : Nat} {rest : List Oper}

theorem has_put_d {d : Nat} (hd : Nat.blt d n = true) (v : Value) : ∀ a : Act, a.tmps.size = n → Has F a → Has ((d, v) :: F) (a.put (some d) v) := fun a h1 h2 =>
  h2.put (by rw [h1]; exact Nat.lt_of_succ_le (Nat.le_of_ble_eq_true hd)) v

theorem zx_pure {tb : Tab} (ht : TabOk c.P tb) {d : Nat} {op : Op} {ty : TypeId} {pos : String} {af : Array Edge} {g : Option (Nat × Bool)} {v : Value} (hw : wn ops F g = some true) (hv : pev tb F op = some v) (hd : Nat.blt d n = true)
    (h : ZX c q n ((d, v) :: F) w0 ks L D ops (i + 1) rest k) : ZX c q n F w0 ks L D ops i (⟨some d, op, ty, pos, af, g⟩ :: rest) k :=
  zx_op (o := ⟨some d, op, ty, pos, af, g⟩) (v := v) hw (fun a w _ h2 _ => by
    unfold Oper.quietAt
    rw [pev_run ht h2 hv w]
    exact ⟨rfl, rfl⟩) (has_put_d hd v) h
theorem zx_skip' {d : Nat} {op : Op} {ty : TypeId} {pos : String} {af : Array Edge} {g : Option (Nat × Bool)} (hw : wn ops F g = some false) (hd : Nat.blt d n = true)
    (h : ZX c q n ((d, undef) :: F) w0 ks L D ops (i + 1) rest k) : ZX c q n F w0 ks L D ops i (⟨some d, op, ty, pos, af, g⟩ :: rest) k :=
  zx_skip (o := ⟨some d, op, ty, pos, af, g⟩) hw (has_put_d hd undef) h

/-- An operation whose yield is told by a fact of one's own. -/
theorem zx_val {d : Nat} {op : Op} {ty : TypeId} {pos : String} {af : Array Edge} {g : Option (Nat × Bool)} {v : Value} (hw : wn ops F g = some true) (hd : Nat.blt d n = true)
    (hv : ∀ a w, Has F a → Mem w0 ks L w → (execOp a.eval ⟨some d, op, ty, pos, af, g⟩).run c.P w = .ok (.value v) w)
    (h : ZX c q n ((d, v) :: F) w0 ks L D ops (i + 1) rest k) : ZX c q n F w0 ks L D ops i (⟨some d, op, ty, pos, af, g⟩ :: rest) k :=
  zx_op (o := ⟨some d, op, ty, pos, af, g⟩) (v := v) hw (fun a w _ h2 h3 => by
    unfold Oper.quietAt
    rw [hv a w h2 h3]
    exact ⟨rfl, rfl⟩) (has_put_d hd v) h

/-- a load of one cell of a known block -/
theorem zx_load {tb : Tab} (ht : TabOk c.P tb) {d : Nat} {t : TypeId} {x : Operand} {ty : TypeId} {pos : String} {af : Array Edge} {g : Option (Nat × Bool)} {ti : TI} {b off : Nat} (j : Nat) {cs : List Value} {et : TypeId} {lo hi : Nat} {v : Value} (hw : wn ops F g = some true)
    (htt : lookT tb t = some ti) (hag : isAggD ti.desc = false) (hx : ev F x = some (.pointer (some ⟨b, off, none⟩))) (hL : L[j]? = some (b, .c cs et lo hi)) (hc : cs[off]? = some v) (hd : Nat.blt d n = true)
    (h : ZX c q n ((d, v) :: F) w0 ks L D ops (i + 1) rest k) : ZX c q n F w0 ks L D ops i (⟨some d, .load t x, ty, pos, af, g⟩ :: rest) k :=
  zx_val hw hd (fun a w h2 h3 => by
    have h1 := (ht _ _ htt).run_agg w
    rw [hag] at h1
    have h4 := h3.cell (j := off) hL
    rw [hc] at h4
    simp [execOp, ev_eval h2 hx, Instr.loadAt, Instr.sureAddr, loadVar, h1, h4]) h
/-- a load of one cell that came in -/
theorem zx_loadB {tb : Tab} (ht : TabOk c.P tb) {d : Nat} {t : TypeId} {x : Operand} {ty : TypeId} {pos : String} {af : Array Edge} {g : Option (Nat × Bool)} {ti : TI} {ad : Addr} {v : Value} (hw : wn ops F g = some true)
    (htt : lookT tb t = some ti) (hag : isAggD ti.desc = false) (hx : ev F x = some (.pointer (some ad))) (hc : w0.cell? ad = some v) (hk : ad.block ∉ ks) (hd : Nat.blt d n = true)
    (h : ZX c q n ((d, v) :: F) w0 ks L D ops (i + 1) rest k) : ZX c q n F w0 ks L D ops i (⟨some d, .load t x, ty, pos, af, g⟩ :: rest) k :=
  zx_val hw hd (fun a w h2 h3 => by
    have h1 := (ht _ _ htt).run_agg w
    rw [hag] at h1
    have h4 := h3.cellB hc hk
    simp [execOp, ev_eval h2 hx, Instr.loadAt, Instr.sureAddr, loadVar, h1, h4]) h
/-- a load of some cells of a known block -/
theorem zx_loadA {tb : Tab} (ht : TabOk c.P tb) {d : Nat} {t : TypeId} {x : Operand} {ty : TypeId} {pos : String} {af : Array Edge} {g : Option (Nat × Bool)} {ti : TI} {b off : Nat} (j : Nat) {cs : List Value} {et : TypeId} {lo hi : Nat} {vs : List Value} (hw : wn ops F g = some true)
    (htt : lookT tb t = some ti) (hag : isAggD ti.desc = true) (hx : ev F x = some (.pointer (some ⟨b, off, none⟩))) (hL : L[j]? = some (b, .c cs et lo hi)) (hc : forceL ((cs.drop off).take ti.size) some = some vs) (hlen : Nat.beq vs.length ti.size = true) (hd : Nat.blt d n = true)
    (h : ZX c q n ((d, .agg vs.toArray) :: F) w0 ks L D ops (i + 1) rest k) : ZX c q n F w0 ks L D ops i (⟨some d, .load t x, ty, pos, af, g⟩ :: rest) k :=
  zx_val hw hd (fun a w h2 h3 => by
    have h1 := (ht _ _ htt).run_agg w
    rw [hag] at h1
    have hs := (ht _ _ htt).run_size w
    have hl : vs.length = ti.size := Nat.eq_of_beq_eq_true hlen
    have h4 := run_loadCells_list (P := c.P) w ⟨b, off, none⟩ vs (fun m u hu => by
      rw [addr_add, h3.cell hL]
      rw [← forceL_some hc, List.getElem?_take] at hu
      split at hu
      · rw [List.getElem?_drop] at hu; exact hu
      · simp at hu)
    rw [hl] at h4
    simp [execOp, ev_eval h2 hx, Instr.loadAt, Instr.sureAddr, loadVar, h1, hs, h4]) h
end
end Go.Proofs.Ytabcaiecoiejkaa.K
