/- Rules of the walk: a string as bytes in a block of its own; a slice that is owned, its front taken off. -/
import Derived.Test.YtabcaiecoiejkaaK13
set_option maxRecDepth 100000
set_option linter.unusedVariables false
set_option linter.unusedSimpArgs false
namespace Go.Proofs.Ytabcaiecoiejkaa.K
open Go Go.Conc
section
variable {c : Cx} {q : Bool} {n d : Nat} {F : Fr} {w0 : World} {ks : List Nat} {L0 L : Mm} {D : List Deferred} {k : List Item} {ops : Array Oper} {i : Nat} {rest : List Oper} {ty : TypeId} {pos : String} {af : Array Edge} {g : Option (Nat × Bool)} {tb : Tab}

theorem freeze_new (w : World) (cs : Array Value) (e : TypeId) : (w.alloc (.cells cs e)).freeze { block := w.heap.size, off := cs.size } 1 = w.alloc (.cells cs e (cs.size, cs.size + 1)) := by
  unfold World.freeze World.alloc
  rw [if_neg (by decide)]
  congr 1
  apply Array.ext
  · simp
  · intro j h1 h2
    rw [Array.getElem_modify]
    by_cases hj : j = w.heap.size
    · subst hj
      simp
    · have : j < w.heap.size := by simp at h2; omega
      rw [if_neg (fun h => hj h.symm)]
      simp [Array.getElem_push, this]
theorem run_s2b (P : Program) (w : World) (e : TypeId) (s : ByteArray) : ∃ (cap lo hi : Nat) (rst : List Value), (Conv.stringToBytes e s).run P w = .ok (.slice (some ⟨w.heap.size, 0, none⟩) s.size cap) (w.drew.alloc (Blk.c (byteCells s ++ rst) e lo hi).obj) ∧ cap = s.size + rst.length := by
  generalize hz : (w.tape w.drawn (.appendCap s.size 0 e)) % (2 ^ 63 - s.size) = z
  generalize hR : List.replicate z (Value.int .u8 0) = rst
  have hcs : (s.data.map (fun b => Value.int .u8 b.toNat) ++ Array.replicate z (Value.int .u8 0)) = (byteCells s ++ rst).toArray := by
    rw [← hR]
    apply Array.ext'
    simp [byteCells]
  have hf : (w.drew.alloc (.cells (byteCells s ++ rst).toArray e)).freeze { block := w.heap.size, off := (byteCells s ++ rst).length } 1 = w.drew.alloc (Blk.c (byteCells s ++ rst) e (byteCells s ++ rst).length ((byteCells s ++ rst).length + 1)).obj := freeze_new w.drew (byteCells s ++ rst).toArray e
  have hsh : (w.drew.alloc (.cells (byteCells s ++ rst).toArray e)).shape? w.heap.size = some (e, (byteCells s ++ rst).length) := by
    show (match (w.heap.push (.cells (byteCells s ++ rst).toArray e))[w.heap.size]? with | some (.cells c elem _) => some (elem, c.size) | _ => none) = _
    rw [Array.getElem?_push, if_pos rfl]
    simp
  have hh : w.drew.heap.size = w.heap.size := rfl
  have hadd : s.size + z - s.size = z := by omega
  refine ⟨s.size + z, (byteCells s ++ rst).length, (byteCells s ++ rst).length + 1, rst, ?_, by rw [← hR, List.length_replicate]⟩
  unfold Conv.stringToBytes
  simp only [Sem.run_bind, run_choose_drew, Question.forced, Question.cut, Bool.false_eq_true, if_false, Result.andThen_ok, newRow, run_newObj_alloc, Sem.run_pure, hz, hadd, hcs, hh, markStringish, run_shape, hsh, run_freeze]
  exact congrArg _ hf
theorem zx_s2b (ht : TabOk c.P tb) {s t e : TypeId} {x : Operand} {tz sz esz : Nat} {tzs zs ez : List Value} {y : ByteArray} (hw : wn ops F g = some true)
    (hts : lookT tb s = some ⟨.string, sz, zs⟩) (htt : lookT tb t = some ⟨.slice e, tz, tzs⟩) (hte : lookT tb e = some ⟨.int .u8, esz, ez⟩) (hx : ev F x = some (.string y)) (hd : Nat.blt d n = true)
    (h : ∀ (b cap lo hi : Nat) (rst : List Value), cap = y.size + rst.length → ZX c false n ((d, .slice (some ⟨b, 0, none⟩) y.size cap) :: F) w0 ks ((b, .c (byteCells y ++ rst) e lo hi) :: L) D ops (i + 1) rest k) : ZX c false n F w0 ks L D ops i (⟨some d, .convert s t x, ty, pos, af, g⟩ :: rest) k :=
  zx_mem (o := ⟨some d, .convert s t x, ty, pos, af, g⟩) (Y := Nat × Nat × Nat × Nat × List Value) (v := fun z => .slice (some ⟨z.1, 0, none⟩) y.size z.2.1) (L' := fun z => (z.1, .c (byteCells y ++ z.2.2.2.2) e z.2.2.1 z.2.2.2.1) :: L) (Φ := fun z => z.2.1 = y.size + z.2.2.2.2.length) hw
    (fun a w _ h2 hm _ hK => by
      have h1 := (ht _ _ hts).run_und w
      have h4 := (ht _ _ htt).run_und w
      have h5 := (ht _ _ hte).run_und w
      simp only at h1 h4 h5
      obtain ⟨cap, lo, hi, rst, hr, hc⟩ := run_s2b c.P w e y
      have hm2 := hm.drew.alloc (Blk.c (byteCells y ++ rst) e lo hi)
      refine upon_val (w' := _) ?_ (hK (w.heap.size, cap, lo, hi, rst) _ hc hm2)
      simp [execOp, ev_eval h2 hx, convert, h1, h4, h5, hr])
    (fun z => has_put_d hd _) (fun z hz => h z.1 z.2.1 z.2.2.1 z.2.2.2.1 z.2.2.2.2 hz)

/-! ### a row whose front is taken off -/
def oA : Own → Option Addr
  | none => none
  | some (b, pre, _, _) => some ⟨b, pre.length, none⟩
def oC : Own → Nat → Nat
  | none, _ => 0
  | some (_, _, r, _), n => n + r
/-- the slice of a row -/
def sV (o : Own) (n : Nat) : Value := .slice (oA o) n (oC o n)
theorem sV_row {o : Own} {n : Nat} {xs : List Value} (h : RowOk 1 o n xs) : rowV o n = sV o n := by
  cases o with
  | none => rw [h.nil rfl]; rfl
  | some p => rfl
def ownDrop (o : Own) (xs : List Value) (m : Nat) : Own := match o with
  | none => none
  | some (b, pre, r, rest) => if xs.length = m ∧ r = 0 then some (b, pre, 0, xs ++ rest) else some (b, pre ++ xs.take m, r, rest)
theorem rowL_drop (e : TypeId) (o : Own) (xs : List Value) (m : Nat) (h : m ≤ xs.length) : rowL e (ownDrop o xs m) (xs.drop m) = rowL e o xs := by
  cases o with
  | none => rfl
  | some p =>
    obtain ⟨b, pre, r, rest⟩ := p
    unfold ownDrop
    by_cases hc : xs.length = m ∧ r = 0
    · simp only [if_pos hc, rowL]
      rw [List.drop_of_length_le (by omega), List.append_nil, ← List.append_assoc]
    · simp only [if_neg hc, rowL]
      rw [List.append_assoc pre, List.take_append_drop]
theorem rowOk_drop {o : Own} {n : Nat} {xs : List Value} (h : RowOk 1 o n xs) (m : Nat) (hm : m ≤ n) : RowOk 1 (ownDrop o xs m) (n - m) (xs.drop m) := by
  have hl := h.len
  rw [Nat.mul_one] at hl
  refine ⟨by rw [List.length_drop, hl, Nat.mul_one], ?_, ?_⟩
  · cases o with
    | none => intro _; rw [h.nil rfl]; exact Nat.zero_sub _
    | some p =>
      obtain ⟨b, pre, r, rest⟩ := p
      intro hn
      unfold ownDrop at hn
      by_cases hc : xs.length = m ∧ r = 0
      · simp only [if_pos hc] at hn; cases hn
      · simp only [if_neg hc] at hn; cases hn
  · intro b pre r rest hn
    cases o with
    | none => cases hn
    | some p =>
      obtain ⟨b', pre', r', rest'⟩ := p
      have hr := h.rest _ _ _ _ rfl
      unfold ownDrop at hn
      by_cases hc : xs.length = m ∧ r' = 0
      · simp only [if_pos hc, Option.some.injEq, Prod.mk.injEq] at hn
        obtain ⟨rfl, rfl, rfl, rfl⟩ := hn
        omega
      · simp only [if_neg hc, Option.some.injEq, Prod.mk.injEq] at hn
        obtain ⟨rfl, rfl, rfl, rfl⟩ := hn
        exact hr
theorem sV_drop {o : Own} {n : Nat} {xs : List Value} (h : RowOk 1 o n xs) (m : Nat) (hm : m ≤ n) : Value.slice (if oC o n = m then oA o else (oA o).map (·.add (m * 1))) (n - m) (oC o n - m) = sV (ownDrop o xs m) (n - m) := by
  have hl := h.len
  rw [Nat.mul_one] at hl
  cases o with
  | none =>
    have := h.nil rfl
    subst this
    have : m = 0 := by omega
    subst this
    rfl
  | some p =>
    obtain ⟨b, pre, r, rest⟩ := p
    have e2 : n + r - m = n - m + r := by omega
    have e3 : (⟨b, pre.length, none⟩ : Addr).add (m * 1) = ⟨b, (pre ++ xs.take m).length, none⟩ := by
      rw [Nat.mul_one, addr_add, List.length_append, List.length_take]
      congr 1
      omega
    show Value.slice (if n + r = m then some ⟨b, pre.length, none⟩ else some ((⟨b, pre.length, none⟩ : Addr).add (m * 1))) (n - m) (n + r - m) = sV (if xs.length = m ∧ r = 0 then some (b, pre, 0, xs ++ rest) else some (b, pre ++ xs.take m, r, rest)) (n - m)
    by_cases hc : xs.length = m ∧ r = 0
    · have e : n + r = m := by omega
      have e4 : n + r - m = n - m + 0 := by omega
      rw [if_pos hc, if_pos e, e4]
      rfl
    · have e : ¬ n + r = m := by omega
      rw [if_neg hc, if_neg e, e2, e3]
      rfl
/-! ### an operation that hangs on one that was not done -/
theorem wanted_undef {a : Act} (h : Has F a) {o : Oper} {j t : Nat} {want : Bool} (hg : o.guard = some (j, want)) (hd : dstOf ops j = some t) (ht : look F t = some undef) : Region.wanted o (yielded ops a.tmps) = false := by
  unfold Region.wanted
  rw [hg]
  have h1 := h t _ ht
  have h2 : yielded ops a.tmps j = none := by
    unfold dstOf at hd
    unfold yielded
    rw [hd]
    simp [h1, undef]
  simp only [h2]
  cases want <;> rfl
theorem zx_skipU {d : Nat} {op : Op} {ty : TypeId} {pos : String} {af : Array Edge} {j t : Nat} {want : Bool} (hj : dstOf ops j = some t) (ht : look F t = some undef) (hd : Nat.blt d n = true)
    (h : ZX c q n ((d, undef) :: F) w0 ks L D ops (i + 1) rest k) : ZX c q n F w0 ks L D ops i (⟨some d, op, ty, pos, af, some (j, want)⟩ :: rest) k := by
  have hsz : ∀ a : Act, (a.put (some d) undef).tmps.size = a.tmps.size := by intro a; simp [Act.put]
  have hdf : ∀ a : Act, (a.put (some d) undef).defers = a.defers := by intro a; rfl
  replace h := h.go
  have hF := has_put_d (F := F) hd undef
  refine ⟨?_⟩
  cases q with
  | true =>
    intro a a1 a2 a3
    exact ⟨undef, .inr ⟨wanted_undef a3 rfl hj ht, rfl⟩, h _ (by rw [hsz]; exact a1) (by rw [hdf]; exact a2) (hF a a1 a3)⟩
  | false =>
    intro js hd' a w a1 a2 a3 a4
    obtain ⟨j', js', rfl, h0, h1⟩ := js_cons hd'
    unfold wpOps
    simp only [h0]
    rw [if_neg (by rw [wanted_undef a3 rfl hj ht]; simp)]
    exact h js' h1 _ w (by rw [hsz]; exact a1) (by rw [hdf]; exact a2) (hF a a1 a3) a4

/-! ### a store where not all of what is known is written out -/
def forceU {α β : Type} : Nat → α → List α → (List α → β) → Option β
  | _, _, [], _ => none
  | 0, y, _ :: r, k => some (k (y :: r))
  | j + 1, y, a :: r, k => forceU j y r fun r' => k (a :: r')
theorem forceU_eq {α β : Type} : ∀ (j : Nat) (y : α) (l : List α) (k : List α → β) (z : β), forceU j y l k = some z → k (l.set j y) = z
  | _, _, [], _, _, h => by cases ‹Nat› <;> simp [forceU] at h
  | 0, y, _ :: r, k, z, h => by simpa [forceU] using h
  | j + 1, y, a :: r, k, z, h => by
    have := forceU_eq j y r (fun r' => k (a :: r')) z (by simpa [forceU] using h)
    simpa using this
theorem zx_storeU (ht : TabOk c.P tb) {t : TypeId} {x y : Operand} {ti : TI} {b off : Nat} (j : Nat) {cs cs' : List Value} {et : TypeId} {lo hi : Nat} {v : Value} {vs : List Value} {L' : Mm} (hw : wn ops F g = some true)
    (htt : lookT tb t = some ti) (hx : ev F x = some (.pointer (some ⟨b, off, none⟩))) (hy : ev F y = some v) (hvs : forceL (cellsL v) some = some vs) (hone : vs.all Value.oneCell' = true) (hsz : Nat.beq vs.length ti.size = true)
    (hL : L[j]? = some (b, .c cs et lo hi)) (hcs : forceL (over cs off vs) some = some cs') (hL' : forceU j (b, .c cs' et lo hi) L id = some L') (hlen : Nat.ble (off + vs.length) cs.length = true) (hfz : Nat.ble hi lo = true)
    (h : ZX c false n F w0 ks L' D ops (i + 1) rest k) : ZX c false n F w0 ks L D ops i (⟨none, .store t x y, ty, pos, af, g⟩ :: rest) k :=
  zx_store ht j hw htt hx hy hvs hone hsz hL hcs (by rw [forceL_eq]; exact congrArg some (forceU_eq j _ L id L' hL')) hlen hfz h
end
end Go.Proofs.Ytabcaiecoiejkaa.K
