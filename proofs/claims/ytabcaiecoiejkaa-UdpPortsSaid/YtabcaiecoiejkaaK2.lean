/- The engine's second part: the operations that neither read nor turn memory, reckoned by one function on what the slots hold. Nothing here speaks of the program of this seat. -/
import Derived.Test.YtabcaiecoiejkaaK
import Derived.Lib.Strings
namespace Go.Proofs.Ytabcaiecoiejkaa.K
open Go

/-! ### the types' table -/
structure TI where
  desc : TypeDesc
  size : Nat
  zero : List Value
abbrev Tab := List (Nat × TI)
def lookT : Tab → Nat → Option TI
  | [], _ => none
  | (k, v) :: r, d => cond (Nat.beq k d) (some v) (lookT r d)
structure TOk (P : Program) (t : Nat) (i : TI) : Prop where
  und : P.underlying t = some i.desc
  info : (P.info? t).map (fun x => (x.size, x.zero.map (·.cells))) = some (i.size, some i.zero.toArray)
def TabOk (P : Program) (tb : Tab) : Prop := ∀ t i, lookT tb t = some i → TOk P t i
theorem TabOk.nil (P : Program) : TabOk P [] := fun _ _ h => by simp [lookT] at h
theorem TabOk.cons {P : Program} {tb : Tab} {t : Nat} {i : TI} (h : TabOk P tb) (hu : P.underlying t = some i.desc) (hi : (P.info? t).map (fun x => (x.size, x.zero.map (·.cells))) = some (i.size, some i.zero.toArray)) : TabOk P ((t, i) :: tb) := by
  intro u j hj
  unfold lookT at hj
  cases hb : Nat.beq t u with
  | true =>
    have := Nat.eq_of_beq_eq_true hb
    subst this
    simp only [hb, cond_true, Option.some.injEq] at hj
    subst hj
    exact ⟨hu, hi⟩
  | false => simp only [hb, cond_false] at hj; exact h u j hj
section
variable {P : Program} {t : Nat} {i : TI}
theorem TOk.run_und (h : TOk P t i) (w : World) : (underlying t).run P w = .ok i.desc w := run_underlying h.und w
theorem TOk.run_size (h : TOk P t i) (w : World) : (sizeOf t).run P w = .ok i.size w := by
  have := h.info
  cases hq : P.info? t with
  | none => rw [hq] at this; simp at this
  | some x => rw [hq] at this; simp only [Option.map_some, Option.some.injEq, Prod.mk.injEq] at this; simp [sizeOf, typeInfo, hq, this.1]
theorem TOk.run_zero (h : TOk P t i) (w : World) : ∃ z : Value, (zeroValue t).run P w = .ok z w ∧ z.cells = i.zero.toArray := by
  have := h.info
  cases hq : P.info? t with
  | none => rw [hq] at this; simp at this
  | some x =>
    rw [hq] at this
    simp only [Option.map_some, Option.some.injEq, Prod.mk.injEq] at this
    cases hz : x.zero with
    | none => rw [hz] at this; simp at this
    | some z => rw [hz] at this; exact ⟨z, by simp [zeroValue, typeInfo, hq, hz], by simpa using this.2⟩
def isAggD : TypeDesc → Bool
  | .struct _ | .array _ _ => true
  | _ => false
theorem TOk.run_agg (h : TOk P t i) (w : World) : (isAgg t).run P w = .ok (isAggD i.desc) w := by
  unfold isAgg
  rw [Sem.run_bind, h.run_und]
  cases i.desc <;> simp [isAggD]
end

/-! ### bytes -/
/-- the byte at i, as a number -/
def bt (s : ByteArray) (i : Nat) : Int := ((s.data.toList.getD i 0).toNat : Int)
theorem bt_range (s : ByteArray) (i : Nat) : 0 ≤ bt s i ∧ bt s i ≤ 255 := by
  unfold bt
  have := (s.data.toList.getD i 0).toNat_lt
  omega
theorem bt_get {s : ByteArray} {i : Nat} (h : i < s.size) : ∃ u : UInt8, s[i]? = some u ∧ bt s i = (u.toNat : Int) := by
  have h' : i < s.data.size := h
  refine ⟨s[i], by simp [h], ?_⟩
  unfold bt
  rw [List.getD_eq_getElem?_getD, Array.getElem?_toList, Array.getElem?_eq_getElem h']
  rfl

/-! ### numbers -/
def ik : IntKind → Nat
  | .i8 => 0 | .i16 => 1 | .i32 => 2 | .i64 => 3 | .u8 => 4 | .u16 => 5 | .u32 => 6 | .u64 => 7
theorem ik_eq {a b : IntKind} (h : Nat.beq (ik a) (ik b) = true) : a = b := by
  cases a <;> cases b <;> first | rfl | (simp [ik] at h)
def bevI (op : BinOp) (k : IntKind) (a b : Int) : Option Value :=
  match op with
  | .add => some (.int k (k.wrap (a + b)))
  | .sub => some (.int k (k.wrap (a - b)))
  | .mul => some (.int k (k.wrap (a * b)))
  | .and => some (.int k (bits .and k a b))
  | .or => some (.int k (bits .or k a b))
  | .xor => some (.int k (bits .xor k a b))
  | .eql => some (.bool (a == b))
  | .neq => some (.bool (a != b))
  | .lss => some (.bool (decide (a < b)))
  | .leq => some (.bool (decide (a ≤ b)))
  | .gtr => some (.bool (decide (a > b)))
  | .geq => some (.bool (decide (a ≥ b)))
  | .quo => match b with
    | .ofNat (m + 1) => some (.int k (k.wrap (a.tdiv (.ofNat (m + 1)))))
    | _ => none
  | .rem => match b with
    | .ofNat (m + 1) => some (.int k (a.tmod (.ofNat (m + 1))))
    | _ => none
  | _ => none
theorem bevI_run {op : BinOp} {k : IntKind} {a b : Int} {v : Value} (h : bevI op k a b = some v) (P : Program) (t : TypeId) (w : World) : (binOp op t (.int k a) (.int k b)).run P w = .ok v w := by
  unfold bevI at h
  cases op <;> simp only [Option.some.injEq, reduceCtorEq] at h <;> (try subst h)
  case quo =>
    split at h
    · rename_i m
      simp only [Option.some.injEq] at h
      subst h
      have hne : ¬ ((m : Int) + 1 = 0) := by omega
      simp [binOp, Op.intDiv, hne]
    · simp at h
  case rem =>
    split at h
    · rename_i m
      simp only [Option.some.injEq] at h
      subst h
      have hne : ¬ ((m : Int) + 1 = 0) := by omega
      simp [binOp, Op.intDiv, hne]
    · simp at h
  all_goals first | (simp [binOp, Op.intArith]; done) | (simp [binOp, Op.intCmp]; done) | (simp [binOp, Op.intBits, bits]; done)
def bevS (op : BinOp) (k : IntKind) (a b : Int) : Option Value :=
  match op, b with
  | .shl, .ofNat m => some (.int k (k.wrap (a * 2 ^ (min m k.bits))))
  | .shr, .ofNat m => some (.int k (a.fdiv (2 ^ (min m k.bits))))
  | _, _ => none
theorem bevS_run {op : BinOp} {k k' : IntKind} {a b : Int} {v : Value} (h : bevS op k a b = some v) (P : Program) (t : TypeId) (w : World) : (binOp op t (.int k a) (.int k' b)).run P w = .ok v w := by
  unfold bevS at h
  split at h
  · rename_i m
    simp only [Option.some.injEq] at h
    subst h
    have hne : ¬ ((m : Int) < 0) := by omega
    simp [binOp, Op.shift, hne]
  · rename_i m
    simp only [Option.some.injEq] at h
    subst h
    have hne : ¬ ((m : Int) < 0) := by omega
    simp [binOp, Op.shift, hne]
  · simp at h

def bev (tb : Tab) (op : BinOp) (t : TypeId) (x y : Value) : Option Value :=
  match x, y with
  | .int k a, .int k' b => match op with
    | .shl => bevS .shl k a b
    | .shr => bevS .shr k a b
    | _ => cond (Nat.beq (ik k) (ik k')) (bevI op k a b) none
  | .string a, .string b => match op with
    | .eql => some (.bool (decide (a = b)))
    | .neq => some (.bool (!decide (a = b)))
    | _ => none
  | .bool a, .bool b => match lookT tb t with
    | some i => match i.desc, op with
      | .bool, .eql => some (.bool (a == b))
      | .bool, .neq => some (.bool (!(a == b)))
      | _, _ => none
    | none => none
  | .pointer a, .pointer none => match lookT tb t with
    | some i => match i.desc, op with
      | .pointer _, .eql => some (.bool a.isNone)
      | .pointer _, .neq => some (.bool (!a.isNone))
      | _, _ => none
    | none => none
  | .chan a, .chan none => match lookT tb t with
    | some i => match i.desc, op with
      | .chan _ _, .eql => some (.bool a.isNone)
      | .chan _ _, .neq => some (.bool (!a.isNone))
      | _, _ => none
    | none => none
  | .map a, .map none => match lookT tb t with
    | some i => match i.desc, op with
      | .map _ _, .eql => some (.bool a.isNone)
      | .map _ _, .neq => some (.bool (!a.isNone))
      | _, _ => none
    | none => none
  | _, _ => none

theorem toList_beq (a b : ByteArray) : (a.toList == b.toList) = decide (a = b) := by
  rw [Lib.toList_data, Lib.toList_data]
  by_cases h : a = b
  · subst h; simp
  · have : ¬ a.data = b.data := fun e => h (by cases a; cases b; simp at e; simp [e])
    simp [h, this]

section
variable {P : Program} (w : World) (d : Nat) {t : TypeId}
theorem equalIn_bool (h : P.underlying t = some .bool) (a b : Bool) : (Op.equalIn (d + 1) t (.bool a) (.bool b)).run P w = .ok (a == b) w := by
  simp [Op.equalIn, run_underlying h]
theorem equalIn_chan {x : ChanDir} {y : TypeId} (h : P.underlying t = some (.chan x y)) (a b : Option Nat) : (Op.equalIn (d + 1) t (.chan a) (.chan b)).run P w = .ok (a == b) w := by
  simp [Op.equalIn, run_underlying h]
theorem equalIn_map {x y : TypeId} (h : P.underlying t = some (.map x y)) (a : Option Nat) : (Op.equalIn (d + 1) t (.map a) (.map none)).run P w = .ok a.isNone w := by
  cases a <;> simp [Op.equalIn, run_underlying h]
theorem equalIn_ptr {x : TypeId} (h : P.underlying t = some (.pointer x)) (a : Option Addr) : (Op.equalIn (d + 1) t (.pointer a) (.pointer none)).run P w = .ok a.isNone w := by
  cases a <;> simp [Op.equalIn, run_underlying h]
theorem beq_none {α : Type} [BEq α] (a : Option α) : (a == none) = a.isNone := by cases a <;> rfl
theorem run_eq_of {x y : Value} {b : Bool} (h : ∀ d, (Op.equalIn (d + 1) t x y).run P w = .ok b w) : (Op.equal t x y).run P w = .ok b w := h 9999
end

theorem bev_run {P : Program} {tb : Tab} (ht : TabOk P tb) {op : BinOp} {t : TypeId} {x y v : Value} (h : bev tb op t x y = some v) (w : World) : (binOp op t x y).run P w = .ok v w := by
  unfold bev at h
  split at h
  · rename_i k a k' b
    cases op <;> simp only at h
    case shl => exact bevS_run h P t w
    case shr => exact bevS_run h P t w
    all_goals
      (cases hb : Nat.beq (ik k) (ik k') with
       | true => rw [hb] at h; simp only [cond_true] at h; have := ik_eq hb; subst this; exact bevI_run h P t w
       | false => rw [hb] at h; simp at h)
  · rename_i a b
    cases op <;> simp only [reduceCtorEq, Option.some.injEq] at h <;> subst h <;> simp [binOp, Op.stringOp, toList_beq]
  · rename_i a b
    split at h
    · rename_i i hi
      have hu := (ht t i hi).und
      split at h <;> rename_i hd <;> simp only [Option.some.injEq, reduceCtorEq] at h <;> subst h <;> rw [hd] at hu <;>
        (have he := run_eq_of (w := w) (x := .bool a) (y := .bool b) (b := a == b) (fun d => equalIn_bool w d hu a b); unfold binOp; simp [he])
    · simp at h
  · rename_i a
    split at h
    · rename_i i hi
      have hu := (ht t i hi).und
      split at h <;> rename_i hd <;> simp only [Option.some.injEq, reduceCtorEq] at h <;> subst h <;> rw [hd] at hu <;>
        (have he := run_eq_of (w := w) (x := .pointer a) (y := .pointer none) (b := a.isNone) (fun d => equalIn_ptr w d hu a); unfold binOp; simp [he])
    · simp at h
  · rename_i a
    split at h
    · rename_i i hi
      have hu := (ht t i hi).und
      split at h <;> rename_i hd <;> simp only [Option.some.injEq, reduceCtorEq] at h <;> subst h <;> rw [hd] at hu <;>
        (have he := run_eq_of (w := w) (x := .chan a) (y := .chan none) (b := a.isNone) (fun d => by rw [equalIn_chan w d hu, beq_none]); unfold binOp; simp [he])
    · simp at h
  · rename_i a
    split at h
    · rename_i i hi
      have hu := (ht t i hi).und
      split at h <;> rename_i hd <;> simp only [Option.some.injEq, reduceCtorEq] at h <;> subst h <;> rw [hd] at hu <;>
        (have he := run_eq_of (w := w) (x := .map a) (y := .map none) (b := a.isNone) (fun d => equalIn_map w d hu a); unfold binOp; simp [he])
    · simp at h
  · simp at h

theorem bev_guard {P : Program} {tb : Tab} {op : BinOp} {t : TypeId} {x y v : Value} (h : bev tb op t x y = some v) (p q : Operand) (w : World) : (eqGuard op t p q x y).run P w = .ok () w := by
  unfold eqGuard
  cases op <;> first
    | (simp; done)
    | (cases x <;> cases y <;> first | (simp; done) | (simp [bev] at h; done))
end Go.Proofs.Ytabcaiecoiejkaa.K
