/- The engine's sixth part: '==' on structs and arrays; addresses by an index; slices of arrays; closures. Nothing here speaks of the program of this seat. -/
import Derived.Test.YtabcaiecoiejkaaK5
import Derived.ChangeKeysEq
namespace Go.Proofs.Ytabcaiecoiejkaa.K
open Go

def memN : List Nat → Nat → Bool
  | [], _ => false
  | k :: r, d => cond (Nat.beq k d) true (memN r d)
/-- types of plain parts, as '==' asks -/
def PlainTs (P : Program) (ts : List Nat) : Prop := ∀ t, memN ts t = true → P.stoodInHeld t = false ∧ P.eqGuardType P.depth t = false
theorem PlainTs.nil (P : Program) : PlainTs P [] := fun _ h => by simp [memN] at h
theorem PlainTs.cons {P : Program} {ts : List Nat} {t : Nat} (h : PlainTs P ts) (h1 : P.stoodInHeld t = false) (h2 : P.eqGuardType P.depth t = false) : PlainTs P (t :: ts) := by
  intro u hu
  unfold memN at hu
  cases hb : Nat.beq t u with
  | true => have := Nat.eq_of_beq_eq_true hb; subst this; exact ⟨h1, h2⟩
  | false => simp only [hb, cond_false] at hu; exact h u hu

def partL (tb : Tab) (t : TypeId) (cs : List Value) (off : Nat) : Option Value :=
  match lookT tb t with
  | some ⟨d, sz, _⟩ => cond (isAggD d) (forceL ((cs.drop off).take sz) fun l => some (.agg l.toArray)) (cs[off]?)
  | none => none
theorem partL_run {P : Program} {tb : Tab} (ht : TabOk P tb) {t : TypeId} {cs : Array Value} {off : Nat} {v : Value} (h : partL tb t cs.toList off = some v) (w : World) : (part t cs off).run P w = .ok v w := by
  unfold partL at h
  split at h
  · rename_i d sz zs hi
    have h2 := (ht _ _ hi).run_size w
    have h3 := (ht _ _ hi).run_agg w
    simp only at h2 h3
    cases hz : isAggD d with
    | true =>
      rw [hz] at h h3
      simp only [cond_true, forceL_eq, Option.some.injEq] at h
      subst h
      have hx' : cs.extract off (off + sz) = (List.take sz (List.drop off cs.toList)).toArray := by
        apply Array.ext'
        simp [List.extract_eq_take_drop]
      simp [part, h2, h3, hx']
    | false =>
      rw [hz] at h h3
      simp only [cond_false] at h
      rw [Array.getElem?_toList] at h
      simp [part, h3, h]
  · simp at h

def eqFsW (tb : Tab) (E : TypeId → Value → Value → Option Bool) (xs ys : List Value) : List Field → Option Bool
  | [] => some true
  | ⟨nm, fty, foff, _, _, _, _⟩ :: fs => match nm == "_", partL tb fty xs foff, partL tb fty ys foff with
    | false, some a, some b => match E fty a b, eqFsW tb E xs ys fs with
      | some p, some r => some (p && r)
      | _, _ => none
    | _, _, _ => none
def eqEsW (tb : Tab) (E : TypeId → Value → Value → Option Bool) (e : TypeId) (sz : Nat) (xs ys : List Value) : List Nat → Option Bool
  | [] => some true
  | i :: is => match partL tb e xs (i * sz), partL tb e ys (i * sz) with
    | some a, some b => match E e a b, eqEsW tb E e sz xs ys is with
      | some p, some r => some (p && r)
      | _, _ => none
    | _, _ => none
def eqV (tb : Tab) (ts : List Nat) : Nat → TypeId → Value → Value → Option Bool
  | 0, _, _, _ => none
  | n + 1, t, x, y => match lookT tb t with
    | some ⟨d, _, _⟩ => match d, x, y with
      | .bool, .bool a, .bool b => some (a == b)
      | .int _, .int k a, .int k' b => cond (Nat.beq (ik k) (ik k')) (some (a == b)) none
      | .string, .string a, .string b => some (decide (a = b))
      | .struct fs, .agg xs, .agg ys => cond (memN ts t) (eqFsW tb (eqV tb ts n) xs.toList ys.toList fs.toList) none
      | .array m e, .agg xs, .agg ys => match lookT tb e with
        | some ⟨_, sz, _⟩ => eqEsW tb (eqV tb ts n) e sz xs.toList ys.toList (List.range m)
        | none => none
      | _, _, _ => none
    | none => none

section
variable {P : Program} {tb : Tab} {ts : List Nat}
theorem eqV_run (ht : TabOk P tb) (hs : PlainTs P ts) (w : World) : ∀ (n : Nat) (t : TypeId) (x y : Value) (b : Bool), eqV tb ts n t x y = some b → ∀ d, (Op.equalIn (d + n) t x y).run P w = .ok b w
  | 0, t, x, y, b, h, d => by simp [eqV] at h
  | n + 1, t, x, y, b, h, d => by
    have ih := eqV_run ht hs w n
    rw [show d + (n + 1) = (d + n) + 1 from rfl]
    unfold eqV at h
    split at h
    · rename_i dd sz0 zs0 hi
      have hu := (ht t _ hi).und
      simp only at hu
      split at h
      · simp only [Option.some.injEq] at h; subst h; exact run_equalIn_bool' w _ t _ _ hu
      · rename_i k0 k a k' b'
        cases hb : Nat.beq (ik k) (ik k') with
        | true =>
          rw [hb] at h
          simp only [cond_true, Option.some.injEq] at h
          subst h
          have := ik_eq hb
          subst this
          exact run_equalIn_int w _ t k _ _ _ hu
        | false => rw [hb] at h; simp at h
      · simp only [Option.some.injEq] at h; subst h; rw [← toList_beq]; exact run_equalIn_string w _ t _ _ hu
      · rename_i fs xs ys
        cases hm : memN ts t with
        | false => rw [hm] at h; simp at h
        | true =>
          rw [hm] at h
          simp only [cond_true] at h
          have hf : P.fieldsOf t = fs := by unfold Program.fieldsOf; rw [hu]
          rw [run_equalIn_struct w (d + n) t xs ys (by rw [hf]; exact hu) (hs t hm).1, hf]
          clear hu hf hi
          generalize fs.toList = l at h
          induction l generalizing b with
          | nil => simp only [eqFsW, Option.some.injEq] at h; subst h; simp [Op.eqFields]
          | cons f fs ihf =>
            obtain ⟨nm, fty, foff, e1, e2, e3, e4⟩ := f
            unfold eqFsW at h
            split at h
            · rename_i p q hnm hp hq
              split at h
              · rename_i u r hu hr
                simp only [Option.some.injEq] at h
                subst h
                have g1 := partL_run ht hp w
                have g2 := partL_run ht hq w
                have g3 := ih fty p q u hu d
                have g4 := ihf r hr
                have hne : nm ≠ "_" := by simpa using hnm
                simp only [Op.eqFields, hne, ne_eq, not_false_eq_true, if_true, Sem.run_bind, g1, g2, g3, Result.andThen_ok]
                cases u
                · simp
                · simpa using g4
              · simp at h
            · simp at h
      · rename_i m e xs ys
        split at h
        · rename_i d2 sz zs he
          have hie := (ht e _ he).info
          cases hq : P.info? e with
          | none => rw [hq] at hie; simp at hie
          | some inf =>
            rw [hq] at hie
            simp only [Option.map_some, Option.some.injEq, Prod.mk.injEq] at hie
            have hce : P.cellsOf e = sz := by simp [Program.cellsOf, hq, hie.1]
            rw [run_equalIn_array w (d + n) xs ys hu hq, hce]
            clear hu
            generalize List.range m = l at h
            induction l generalizing b with
            | nil => simp only [eqEsW, Option.some.injEq] at h; subst h; simp [Op.eqItems]
            | cons j js ihf =>
              unfold eqEsW at h
              split at h
              · rename_i p q hp hq
                split at h
                · rename_i u r hu hr
                  simp only [Option.some.injEq] at h
                  subst h
                  have g1 := partL_run ht hp w
                  have g2 := partL_run ht hq w
                  have g3 := ih e p q u hu d
                  have g4 := ihf r hr
                  simp only [Op.eqItems, Sem.run_bind, g1, g2, g3, Result.andThen_ok]
                  cases u
                  · simp
                  · simpa using g4
                · simp at h
              · simp at h
        · simp at h
      · simp at h
    · simp at h
end

section
variable {c : Cx} {q : Bool} {n : Nat} {F : Fr} {w0 : World} {ks : List Nat} {L : Mm} {D : List Deferred} {k : List Item} {ops : Array Oper} {i : Nat} {rest : List Oper}
  {ty : TypeId} {pos : String} {af : Array Edge} {g : Option (Nat × Bool)} {tb : Tab} {ts : List Nat} {d : Nat}

theorem zx_eqA (ht : TabOk c.P tb) (hs : PlainTs c.P ts) {t u : TypeId} {x y : Operand} {xs ys : Array Value} {b : Bool} (hw : wn ops F g = some true) (hx : ev F x = some (.agg xs)) (hy : ev F y = some (.agg ys)) (hm : memN ts t = true) (he : eqV tb ts 5 t (.agg xs) (.agg ys) = some b) (hd : Nat.blt d n = true)
    (h : ZX c q n ((d, .bool b) :: F) w0 ks L D ops (i + 1) rest k) : ZX c q n F w0 ks L D ops i (⟨some d, .binOp .eql t x y u, ty, pos, af, g⟩ :: rest) k :=
  zx_val hw hd (fun a w h2 _ => by
    have h3 := eqV_run ht hs w 5 t _ _ b he 9995
    have h4 := run_eqGuard_agg w .eql t x y xs ys (hs t hm).2
    have h5 := run_eql_struct (P := c.P) w t xs ys
    simp only [execOp, ev_eval h2 hx, ev_eval h2 hy, Sem.run_bind, h4, h5, h3, Result.andThen_ok, Sem.run_pure]) h
theorem zx_neA (ht : TabOk c.P tb) (hs : PlainTs c.P ts) {t u : TypeId} {x y : Operand} {xs ys : Array Value} {b : Bool} (hw : wn ops F g = some true) (hx : ev F x = some (.agg xs)) (hy : ev F y = some (.agg ys)) (hm : memN ts t = true) (he : eqV tb ts 5 t (.agg xs) (.agg ys) = some b) (hd : Nat.blt d n = true)
    (h : ZX c q n ((d, .bool (!b)) :: F) w0 ks L D ops (i + 1) rest k) : ZX c q n F w0 ks L D ops i (⟨some d, .binOp .neq t x y u, ty, pos, af, g⟩ :: rest) k :=
  zx_val hw hd (fun a w h2 _ => by
    have h3 := eqV_run ht hs w 5 t _ _ b he 9995
    have h4 := run_eqGuard_agg w .neq t x y xs ys (hs t hm).2
    have h5 := run_neq_struct (P := c.P) w t xs ys
    simp only [execOp, ev_eval h2 hx, ev_eval h2 hy, Sem.run_bind, h4, h5, h3, Result.andThen_ok, Sem.run_pure]) h

/-- the address of an array's element -/
theorem zx_idxP (ht : TabOk c.P tb) {t e : TypeId} {x y : Operand} {len sz tz esz : Nat} {zs ez : List Value} {ed : TypeDesc} {b off : Nat} {kk : IntKind} {m : Int} (hw : wn ops F g = some true) (htt : lookT tb t = some ⟨.array len e, tz, zs⟩) (hte : lookT tb e = some ⟨ed, esz, ez⟩)
    (hx : ev F x = some (.pointer (some ⟨b, off, none⟩))) (hy : ev F y = some (.int kk m)) (hd : Nat.blt d n = true) (h0 : 0 ≤ m) (h1 : m < len) (hsz : m.toNat * esz = sz)
    (h : ZX c q n ((d, .pointer (some ⟨b, off + sz, none⟩)) :: F) w0 ks L D ops (i + 1) rest k) : ZX c q n F w0 ks L D ops i (⟨some d, .indexAddr t x y, ty, pos, af, g⟩ :: rest) k :=
  zx_val hw hd (fun a w h2 _ => by
    have h3 := (ht _ _ htt).run_und w
    have h4 := (ht _ _ hte).run_size w
    simp only at h3 h4
    simp [execOp, ev_eval h2 hx, ev_eval h2 hy, Instr.indexAt, asIntOf, h3, h4, Instr.sureAddr, h0, h1, addr_add, hsz]) h
/-- the address of a slice's element -/
theorem zx_idxA (ht : TabOk c.P tb) {t e : TypeId} {x y : Operand} {len cap sz tz esz : Nat} {zs ez : List Value} {ed : TypeDesc} {b off : Nat} {kk : IntKind} {m : Int} (hw : wn ops F g = some true) (htt : lookT tb t = some ⟨.slice e, tz, zs⟩) (hte : lookT tb e = some ⟨ed, esz, ez⟩)
    (hx : ev F x = some (.slice (some ⟨b, off, none⟩) len cap)) (hy : ev F y = some (.int kk m)) (hd : Nat.blt d n = true) (h0 : 0 ≤ m) (h1 : m < len) (hsz : m.toNat * esz = sz)
    (h : ZX c q n ((d, .pointer (some ⟨b, off + sz, none⟩)) :: F) w0 ks L D ops (i + 1) rest k) : ZX c q n F w0 ks L D ops i (⟨some d, .indexAddr t x y, ty, pos, af, g⟩ :: rest) k :=
  zx_val hw hd (fun a w h2 _ => by
    have h3 := (ht _ _ htt).run_und w
    have h4 := (ht _ _ hte).run_size w
    simp only at h3 h4
    simp [execOp, ev_eval h2 hx, ev_eval h2 hy, Instr.indexAt, asIntOf, h3, h4, h0, h1, addr_add, hsz]) h
/-- an array's value, one element -/
theorem zx_idxV (ht : TabOk c.P tb) {t e : TypeId} {x y : Operand} {len tz esz : Nat} {zs ez : List Value} {ed : TypeDesc} {cs : Array Value} {kk : IntKind} {m : Int} {v : Value} (hw : wn ops F g = some true) (htt : lookT tb t = some ⟨.array len e, tz, zs⟩) (hte : lookT tb e = some ⟨ed, esz, ez⟩)
    (hx : ev F x = some (.agg cs)) (hy : ev F y = some (.int kk m)) (hd : Nat.blt d n = true) (h0 : 0 ≤ m) (h1 : m < len) (hv : partL tb e cs.toList (m.toNat * esz) = some v)
    (h : ZX c q n ((d, v) :: F) w0 ks L D ops (i + 1) rest k) : ZX c q n F w0 ks L D ops i (⟨some d, .index t x y, ty, pos, af, g⟩ :: rest) k :=
  zx_val hw hd (fun a w h2 _ => by
    have h3 := (ht _ _ htt).run_und w
    have h4 := (ht _ _ hte).run_size w
    have h5 := partL_run ht hv w
    simp only at h3 h4
    simp [execOp, ev_eval h2 hx, ev_eval h2 hy, Instr.index, asIntOf, h3, h4, h0, h1, h5]) h

def bnd (F : Fr) (dflt : Nat) : Option Operand → Option Int
  | none => some dflt
  | some z => match ev F z with
    | some (.int _ v) => some v
    | _ => none
/-- a slice of an array behind a pointer -/
theorem zx_sliceP (ht : TabOk c.P tb) {t e : TypeId} {x : Operand} {lo hi : Option Operand} {len tz esz : Nat} {zs ez : List Value} {ed : TypeDesc} {b off : Nat} {l m : Int} (hw : wn ops F g = some true) (htt : lookT tb t = some ⟨.array len e, tz, zs⟩) (hte : lookT tb e = some ⟨ed, esz, ez⟩)
    (hx : ev F x = some (.pointer (some ⟨b, off, none⟩))) (hl : bnd F 0 lo = some l) (hm : bnd F len hi = some m) (hd : Nat.blt d n = true) (h0 : 0 ≤ l) (h1 : l ≤ m) (h2' : m ≤ len) (h3' : l < len)
    (h : ZX c q n ((d, .slice (some ⟨b, off + l.toNat * esz, none⟩) (m.toNat - l.toNat) (len - l.toNat)) :: F) w0 ks L D ops (i + 1) rest k) : ZX c q n F w0 ks L D ops i (⟨some d, .slice t x lo hi none, ty, pos, af, g⟩ :: rest) k :=
  zx_val hw hd (fun a w h2 _ => by
    have h3 := (ht _ _ htt).run_und w
    have h4 := (ht _ _ hte).run_size w
    simp only at h3 h4
    have em : (m.toNat : Int) = m := Int.toNat_of_nonneg (by omega)
    have hm0 : 0 ≤ m := by omega
    have hls : l ≤ len := by omega
    have hne : ¬ len = l.toNat := by omega
    cases lo with
    | none =>
      simp only [bnd, Option.some.injEq] at hl
      subst hl
      cases hi with
      | none =>
        simp only [bnd, Option.some.injEq] at hm
        subst hm
        simp [execOp, ev_eval h2 hx, Instr.sliceAt, h3, h4, Instr.sliceBounds, Instr.sureAddr, addr_add]
      | some z =>
        simp only [bnd] at hm
        split at hm
        · rename_i kk v hz
          simp only [Option.some.injEq] at hm
          subst hm
          simp [execOp, ev_eval h2 hx, ev_eval h2 hz, Instr.sliceAt, h3, h4, Instr.sliceBounds, Instr.sliceBound, asIntOf, Instr.sureAddr, hm0, h2', addr_add]
        · simp at hm
    | some y =>
      simp only [bnd] at hl
      split at hl
      · rename_i k1 v1 hy
        simp only [Option.some.injEq] at hl
        subst hl
        cases hi with
        | none =>
          simp only [bnd, Option.some.injEq] at hm
          subst hm
          simp [execOp, ev_eval h2 hx, ev_eval h2 hy, Instr.sliceAt, h3, h4, Instr.sliceBounds, Instr.sliceBound, asIntOf, Instr.sureAddr, h0, hls, hne, addr_add]
        | some z =>
          simp only [bnd] at hm
          split at hm
          · rename_i kk v hz
            simp only [Option.some.injEq] at hm
            subst hm
            simp [execOp, ev_eval h2 hx, ev_eval h2 hy, ev_eval h2 hz, Instr.sliceAt, h3, h4, Instr.sliceBounds, Instr.sliceBound, asIntOf, Instr.sureAddr, h0, h1, hm0, h2', em, hne, addr_add]
          · simp at hm
      · simp at hl) h

/-! ### bytes as a string -/
/-- the numbers that cells hold -/
def numsL : List Value → Option (List Int)
  | [] => some []
  | .int .u8 m :: r => match numsL r with
    | some l => some (m :: l)
    | none => none
  | _ => none
theorem numsL_eq : ∀ (cs : List Value) (l : List Int), numsL cs = some l → cs = l.map (Value.int .u8)
  | [], l, h => by simp only [numsL, Option.some.injEq] at h; subst h; rfl
  | c :: cs, l, h => by
    unfold numsL at h
    split at h
    · rename_i e; cases e
    · rename_i m r e
      simp only [List.cons.injEq] at e
      obtain ⟨rfl, rfl⟩ := e
      split at h
      · rename_i l' hl
        simp only [Option.some.injEq] at h
        subst h
        rw [numsL_eq cs l' hl]
        rfl
      · simp at h
    · simp at h
/-- numbers as bytes -/
def ofInts (l : List Int) : ByteArray := ⟨(l.map fun n => UInt8.ofNat n.toNat).toArray⟩
theorem foldl_ofInts : ∀ (l : List Int) (s : ByteArray), l.foldl (fun r n => r.push (UInt8.ofNat n.toNat)) s = s ++ ofInts l
  | [], s => by apply ByteArray.ext; simp [ofInts]
  | x :: l, s => by rw [List.foldl_cons, foldl_ofInts l]; apply ByteArray.ext; simp [ofInts]
theorem run_b2s {P : Program} {w : World} {a : Addr} {len cap : Nat} {cs : List Value} {l : List Int} (hc : (loadCells a len).run P w = .ok cs.toArray w) (hl : numsL cs = some l) : (Conv.bytesToString (.slice (some a) len cap)).run P w = .ok (.string (ofInts l)) w := by
  rw [numsL_eq cs l hl] at hc
  rw [run_bytesToString w a len cap l hc, foldl_ofInts]
  have : ByteArray.empty ++ ofInts l = ofInts l := by apply ByteArray.ext; simp
  rw [this]
/-- bytes of a known block as a string -/
theorem zx_b2s (ht : TabOk c.P tb) {s t e : TypeId} {x : Operand} {tz sz esz : Nat} {tzs zs ez : List Value} {b off len cap : Nat} (j : Nat) {cs : List Value} {et : TypeId} {lo hi : Nat} {vs : List Value} {l : List Int} (hw : wn ops F g = some true)
    (hts : lookT tb s = some ⟨.slice e, sz, zs⟩) (htt : lookT tb t = some ⟨.string, tz, tzs⟩) (hte : lookT tb e = some ⟨.int .u8, esz, ez⟩) (hx : ev F x = some (.slice (some ⟨b, off, none⟩) len cap))
    (hL : L[j]? = some (b, .c cs et lo hi)) (hc : forceL ((cs.drop off).take len) some = some vs) (hlen : Nat.beq vs.length len = true) (hb : numsL vs = some l) (hd : Nat.blt d n = true)
    (h : ZX c q n ((d, .string (ofInts l)) :: F) w0 ks L D ops (i + 1) rest k) : ZX c q n F w0 ks L D ops i (⟨some d, .convert s t x, ty, pos, af, g⟩ :: rest) k :=
  zx_val hw hd (fun a w h2 h3 => by
    have h1 := (ht _ _ hts).run_und w
    have h4 := (ht _ _ htt).run_und w
    have h5 := (ht _ _ hte).run_und w
    simp only at h1 h4 h5
    have hl : vs.length = len := Nat.eq_of_beq_eq_true hlen
    have h6 := run_loadCells_list (P := c.P) w ⟨b, off, none⟩ vs (fun m u hu => by
      rw [addr_add, h3.cell hL]
      rw [← forceL_some hc, List.getElem?_take] at hu
      split at hu
      · rw [List.getElem?_drop] at hu; exact hu
      · simp at hu)
    rw [hl] at h6
    have h7 := run_b2s (cap := cap) h6 hb
    simp [execOp, ev_eval h2 hx, convert, h1, h4, h5, h7]) h
end

/-! ### what stands next -/
section
variable {c : Cx} {q : Bool} {n : Nat} {F : Fr} {w0 : World} {ks : List Nat} {L : Mm} {D : List Deferred} {k : List Item} {ops : Array Oper} {i : Nat} {rest : List Oper}
  {ty : TypeId} {pos : String} {af : Array Edge} {g : Option (Nat × Bool)} {d : Nat}
theorem g_load {a1 : TypeId} {a2 : Operand} (h : ZX c q n F w0 ks L D ops i (⟨some d, (.load a1 a2), ty, pos, af, g⟩ :: rest) k) : ZX c q n F w0 ks L D ops i (⟨some d, (.load a1 a2), ty, pos, af, g⟩ :: rest) k := h
theorem g_bin {a1 : BinOp} {a2 : TypeId} {a3 a4 : Operand} {a5 : TypeId} (h : ZX c q n F w0 ks L D ops i (⟨some d, (.binOp a1 a2 a3 a4 a5), ty, pos, af, g⟩ :: rest) k) : ZX c q n F w0 ks L D ops i (⟨some d, (.binOp a1 a2 a3 a4 a5), ty, pos, af, g⟩ :: rest) k := h
theorem g_idx {a1 : TypeId} {a2 a3 : Operand} (h : ZX c q n F w0 ks L D ops i (⟨some d, (.indexAddr a1 a2 a3), ty, pos, af, g⟩ :: rest) k) : ZX c q n F w0 ks L D ops i (⟨some d, (.indexAddr a1 a2 a3), ty, pos, af, g⟩ :: rest) k := h
theorem g_ix {a1 : TypeId} {a2 a3 : Operand} (h : ZX c q n F w0 ks L D ops i (⟨some d, (.index a1 a2 a3), ty, pos, af, g⟩ :: rest) k) : ZX c q n F w0 ks L D ops i (⟨some d, (.index a1 a2 a3), ty, pos, af, g⟩ :: rest) k := h
theorem g_slice {a1 : TypeId} {a2 : Operand} {a3 a4 a5 : Option Operand} (h : ZX c q n F w0 ks L D ops i (⟨some d, (.slice a1 a2 a3 a4 a5), ty, pos, af, g⟩ :: rest) k) : ZX c q n F w0 ks L D ops i (⟨some d, (.slice a1 a2 a3 a4 a5), ty, pos, af, g⟩ :: rest) k := h
theorem g_conv {a1 a2 : TypeId} {a3 : Operand} (h : ZX c q n F w0 ks L D ops i (⟨some d, (.convert a1 a2 a3), ty, pos, af, g⟩ :: rest) k) : ZX c q n F w0 ks L D ops i (⟨some d, (.convert a1 a2 a3), ty, pos, af, g⟩ :: rest) k := h
theorem g_call {a1 : Call} (h : ZX c q n F w0 ks L D ops i (⟨some d, (.call a1), ty, pos, af, g⟩ :: rest) k) : ZX c q n F w0 ks L D ops i (⟨some d, (.call a1), ty, pos, af, g⟩ :: rest) k := h
theorem g_alloc {a1 : TypeId} (h : ZX c q n F w0 ks L D ops i (⟨some d, (.alloc a1), ty, pos, af, g⟩ :: rest) k) : ZX c q n F w0 ks L D ops i (⟨some d, (.alloc a1), ty, pos, af, g⟩ :: rest) k := h
theorem g_box {a1 : TypeId} {a2 : Operand} (h : ZX c q n F w0 ks L D ops i (⟨some d, (.box a1 a2), ty, pos, af, g⟩ :: rest) k) : ZX c q n F w0 ks L D ops i (⟨some d, (.box a1 a2), ty, pos, af, g⟩ :: rest) k := h
theorem g_store {a1 : TypeId} {a2 a3 : Operand} (h : ZX c q n F w0 ks L D ops i (⟨none, .store a1 a2 a3, ty, pos, af, g⟩ :: rest) k) : ZX c q n F w0 ks L D ops i (⟨none, .store a1 a2 a3, ty, pos, af, g⟩ :: rest) k := h
theorem g_nil (h : ZX c q n F w0 ks L D ops i [] k) : ZX c q n F w0 ks L D ops i [] k := h
theorem g_region {a1 : Nat} {a2 : Array Oper} (h : Z c n F w0 ks L D (.code (.region a1 a2 false) :: k)) : Z c n F w0 ks L D (.code (.region a1 a2 false) :: k) := h
theorem g_regionQ {a1 : Nat} {a2 : Array Oper} (h : Z c n F w0 ks L D (.code (.region a1 a2 true) :: k)) : Z c n F w0 ks L D (.code (.region a1 a2 true) :: k) := h
theorem g_cond {a1 : Operand} {a2 a3 : Code} (h : Z c n F w0 ks L D (.code (.cond a1 a2 a3) :: k)) : Z c n F w0 ks L D (.code (.cond a1 a2 a3) :: k) := h
theorem g_exit {a1 : Nat} (h : Z c n F w0 ks L D (.code (.exit a1) :: k)) : Z c n F w0 ks L D (.code (.exit a1) :: k) := h
end
end Go.Proofs.Ytabcaiecoiejkaa.K
