/- The engine of these proofs: a walk is told by two lists, what each slot of the frame holds and what each known block of memory holds; every rule takes one step of the machine's. Nothing here speaks of the program of this seat. -/
import Derived.WalkKit
import Derived.Deep.Quiet
import Derived.Conc.LoneSelect
import Derived.KernelRfl
import Derived.Defers
set_option linter.unusedVariables false
namespace Go.Proofs.Ytabcaiecoiejkaa.K
open Go

/-! ### slots -/
abbrev Fr := List (Nat × Value)
def look : Fr → Nat → Option Value
  | [], _ => none
  | (k, v) :: r, d => cond (Nat.beq k d) (some v) (look r d)
def Has (F : Fr) (a : Act) : Prop := ∀ d v, look F d = some v → a.tmps[d]? = some v
theorem Has.nil (a : Act) : Has [] a := fun _ _ h => by simp [look] at h
theorem Has.put {F : Fr} {a : Act} (h : Has F a) {d : Nat} (hd : d < a.tmps.size) (v : Value) : Has ((d, v) :: F) (a.put (some d) v) := by
  intro e u hu
  unfold look at hu
  unfold Act.put
  cases hb : Nat.beq d e with
  | true =>
    have := Nat.eq_of_beq_eq_true hb
    subst this
    simp only [hb, cond_true, Option.some.injEq] at hu
    subst hu
    simp [hd]
  | false =>
    have hne : d ≠ e := Nat.ne_of_beq_eq_false hb
    simp only [hb, cond_false] at hu
    simp only [Array.getElem?_setIfInBounds_ne hne]
    exact h e u hu
theorem Has.none {F : Fr} {a : Act} (h : Has F a) (v : Value) : Has F (a.put none v) := h

def ev (F : Fr) : Operand → Option Value
  | .tmp t => look F t
  | .const v => some v
  | .global g => some (.pointer (some ⟨g, 0, none⟩))
  | .func f => some (.func (.func f) #[] #[])
theorem ev_eval {F : Fr} {a : Act} (h : Has F a) {x : Operand} {v : Value} (hv : ev F x = some v) : a.eval x = v := by
  cases x with
  | tmp t => have := h t v hv; simp [Act.eval, this]
  | const u => simpa [ev, Act.eval] using hv
  | global g => simpa [ev, Act.eval] using hv
  | func f => simpa [ev, Act.eval] using hv
def evs (F : Fr) : List Operand → Option (List Value)
  | [] => some []
  | x :: r => match ev F x, evs F r with
    | some v, some l => some (v :: l)
    | _, _ => none
theorem evs_eval {F : Fr} {a : Act} (h : Has F a) : ∀ {xs : List Operand} {l : List Value}, evs F xs = some l → xs.map a.eval = l
  | [], l, hl => by simpa [evs] using hl
  | x :: r, l, hl => by
    unfold evs at hl
    split at hl
    · rename_i v l' hv hr
      simp only [Option.some.injEq] at hl
      subst hl
      simp [ev_eval h hv, evs_eval h hr]
    · simp at hl

/-- one frame's facts out of another's -/
def Sub : Fr → Fr → Prop
  | [], _ => True
  | (d, v) :: r, F => look F d = some v ∧ Sub r F
theorem Sub.has {F F' : Fr} (hs : Sub F' F) {a : Act} (h : Has F a) : Has F' a := by
  induction F' with
  | nil => exact Has.nil a
  | cons p r ih =>
    obtain ⟨d, v⟩ := p
    intro e u hu
    unfold look at hu
    cases hb : Nat.beq d e with
    | true =>
      have := Nat.eq_of_beq_eq_true hb
      subst this
      simp only [hb, cond_true, Option.some.injEq] at hu
      subst hu
      exact h d v hs.1
    | false =>
      simp only [hb, cond_false] at hu
      exact ih hs.2 e u hu

/-! ### memory -/
inductive Blk where
  | c (cs : List Value) (t : TypeId) (lo hi : Nat)
  | o (x : Obj)
def Blk.obj : Blk → Obj
  | .c cs t lo hi => .cells cs.toArray t (lo, hi)
  | .o x => x
abbrev Mm := List (Nat × Blk)

/-- 'w' is 'w0' gone on: of the blocks of 'w0' those of 'ks' alone may hold other things; 'L' tells what some blocks hold, each of 'ks' or new. -/
structure Mem (w0 : World) (ks : List Nat) (L : Mm) (w : World) : Prop where
  size : w0.heap.size ≤ w.heap.size
  tape : w.tape = w0.tape
  os : w.os = w0.os
  out : w.output = w0.output
  base : ∀ k, k < w0.heap.size → k ∉ ks → w.heap[k]? = w0.heap[k]?
  known : ∀ p ∈ L, w.heap[p.1]? = some p.2.obj
  kept : ∀ p ∈ L, p.1 ∈ ks ∨ w0.heap.size ≤ p.1
  nd : (L.map (·.1)).Nodup

theorem Mem.refl (w : World) : Mem w [] [] w := ⟨Nat.le_refl _, rfl, rfl, rfl, fun _ _ _ => rfl, by simp, by simp, by simp⟩
theorem Mem.refl1 {w : World} {b : Nat} {x : Blk} (h : w.heap[b]? = some x.obj) : Mem w [b] [(b, x)] w :=
  ⟨Nat.le_refl _, rfl, rfl, rfl, fun _ _ _ => rfl, by simpa using h, by simp, by simp⟩
theorem Mem.refl2 {w : World} {b b' : Nat} {x x' : Blk} (h : w.heap[b]? = some x.obj) (h' : w.heap[b']? = some x'.obj) (hne : b ≠ b') : Mem w [b, b'] [(b, x), (b', x')] w :=
  ⟨Nat.le_refl _, rfl, rfl, rfl, fun _ _ _ => rfl, by simp [h, h'], by simp, by simpa using hne⟩
theorem Mem.lt {w0 w : World} {ks : List Nat} {L : Mm} (h : Mem w0 ks L w) {p : Nat × Blk} (hp : p ∈ L) : p.1 < w.heap.size := by
  have := h.known p hp
  rcases Nat.lt_or_ge p.1 w.heap.size with h' | h'
  · exact h'
  · rw [Array.getElem?_eq_none h'] at this; cases this
theorem Mem.drew {w0 w : World} {ks : List Nat} {L : Mm} (h : Mem w0 ks L w) : Mem w0 ks L { w with drawn := w.drawn + 1 } :=
  ⟨h.size, h.tape, h.os, h.out, h.base, h.known, h.kept, h.nd⟩
theorem Mem.weaken {w0 w : World} {ks ks' : List Nat} {L L' : Mm} (h : Mem w0 ks L w) (hk : ∀ k ∈ ks, k ∈ ks') (hL : L'.Sublist L) : Mem w0 ks' L' w :=
  ⟨h.size, h.tape, h.os, h.out, fun k h1 h2 => h.base k h1 (fun h3 => h2 (hk k h3)), fun p hp => h.known p (hL.subset hp),
   fun p hp => (h.kept p (hL.subset hp)).imp (hk _) id, h.nd.sublist (hL.map _)⟩
theorem Mem.alloc {w0 w : World} {ks : List Nat} {L : Mm} (h : Mem w0 ks L w) (x : Blk) : Mem w0 ks ((w.heap.size, x) :: L) (w.alloc x.obj) := by
  have hsz : (w.alloc x.obj).heap.size = w.heap.size + 1 := by simp
  refine ⟨by rw [hsz]; have := h.size; omega, h.tape, h.os, h.out, ?_, ?_, ?_, ?_⟩
  · intro k h1 h2
    have := h.size
    show (w.heap.push x.obj)[k]? = _
    rw [Array.getElem?_push, if_neg (by omega)]
    exact h.base k h1 h2
  · intro p hp
    rcases List.mem_cons.1 hp with rfl | hp
    · show (w.heap.push x.obj)[w.heap.size]? = _
      simp
    · have hlt := h.lt hp
      show (w.heap.push x.obj)[p.1]? = _
      rw [Array.getElem?_push, if_neg (by omega)]
      exact h.known p hp
  · intro p hp
    rcases List.mem_cons.1 hp with rfl | hp
    · exact .inr h.size
    · exact h.kept p hp
  · simp only [List.map_cons, List.nodup_cons]
    refine ⟨fun hm => ?_, h.nd⟩
    obtain ⟨p, hp, he⟩ := List.mem_map.1 hm
    have := h.lt hp
    omega

theorem Mem.bare {w0 w : World} {ks : List Nat} {L : Mm} (h : Mem w0 ks L w) : Mem w0 ks [] w := h.weaken (fun _ h => h) (List.nil_sublist _)

/-- Block number i of the list turned. -/
theorem Mem.setBlk {w0 w w' : World} {ks : List Nat} {L : Mm} (h : Mem w0 ks L w) {i b : Nat} {x x' : Blk} (hi : L[i]? = some (b, x))
    (hsz : w'.heap.size = w.heap.size) (ht : w'.tape = w.tape) (ho : w'.os = w.os) (hu : w'.output = w.output)
    (hb : w'.heap[b]? = some x'.obj) (hne : ∀ k, k ≠ b → w'.heap[k]? = w.heap[k]?) : Mem w0 ks (L.set i (b, x')) w' := by
  have hm : (b, x) ∈ L := List.mem_of_getElem? hi
  have hkeys : (L.set i (b, x')).map (·.1) = L.map (·.1) := by
    rw [List.map_set]
    apply List.ext_getElem?
    intro j
    by_cases hj : i = j
    · subst hj
      have hlt : i < (L.map (·.1)).length := by
        rw [List.length_map]
        exact (List.getElem?_eq_some_iff.1 hi).1
      rw [List.getElem?_set_self hlt, List.getElem?_map, hi]; rfl
    · rw [List.getElem?_set_ne hj]
  refine ⟨by rw [hsz]; exact h.size, ht.trans h.tape, ho.trans h.os, hu.trans h.out, ?_, ?_, ?_, ?_⟩
  · intro k h1 h2
    have hk : k ≠ b := by
      rintro rfl
      rcases h.kept _ hm with h3 | h3
      · exact h2 h3
      · exact absurd h1 (Nat.not_lt.2 h3)
    rw [hne k hk]
    exact h.base k h1 h2
  · intro p hp
    obtain ⟨j, hj⟩ := List.getElem?_of_mem hp
    by_cases hij : i = j
    · subst hij
      have hlt : i < L.length := (List.getElem?_eq_some_iff.1 hi).1
      rw [List.getElem?_set_self hlt, Option.some.injEq] at hj
      subst hj
      exact hb
    · rw [List.getElem?_set_ne hij] at hj
      have hp' : p ∈ L := List.mem_of_getElem? hj
      have hpb : p.1 ≠ b := by
        intro he
        have h1 : (L.map (·.1))[j]? = some b := by rw [List.getElem?_map, hj]; simp [he]
        have h2 : (L.map (·.1))[i]? = some b := by rw [List.getElem?_map, hi]; rfl
        exact hij ((List.getElem?_inj (by rw [List.length_map]; exact (List.getElem?_eq_some_iff.1 hi).1) h.nd).1 (h2.trans h1.symm))
      rw [hne _ hpb]
      exact h.known p hp'
  · intro p hp
    have : p.1 ∈ (L.set i (b, x')).map (·.1) := List.mem_map.2 ⟨p, hp, rfl⟩
    rw [hkeys] at this
    obtain ⟨q, hq, he⟩ := List.mem_map.1 this
    rw [← he]
    exact h.kept q hq
  · rw [hkeys]; exact h.nd

theorem Mem.setCell {w0 w : World} {ks : List Nat} {L : Mm} (h : Mem w0 ks L w) {i b j : Nat} {cs : List Value} {t : TypeId} {lo hi : Nat} (hi' : L[i]? = some (b, .c cs t lo hi)) (v : Value) :
    Mem w0 ks (L.set i (b, .c (cs.set j v) t lo hi)) (w.setCell ⟨b, j, none⟩ v) := by
  have hb : w.heap[b]? = some (.cells cs.toArray t (lo, hi)) := h.known _ (List.mem_of_getElem? hi')
  refine h.setBlk hi' (by simp) rfl rfl rfl ?_ ?_
  · simp only [World.setCell, Array.getElem?_modify, if_true, hb, Option.map_some, Blk.obj]
    simp
  · intro k hk
    simp only [World.setCell, Array.getElem?_modify]
    rw [if_neg (fun e => hk e.symm)]

theorem Mem.cell {w0 w : World} {ks : List Nat} {L : Mm} (h : Mem w0 ks L w) {i b j : Nat} {cs : List Value} {t : TypeId} {lo hi : Nat} (hi' : L[i]? = some (b, .c cs t lo hi)) : w.cell? ⟨b, j, none⟩ = cs[j]? := by
  have hb : w.heap[b]? = some (.cells cs.toArray t (lo, hi)) := h.known _ (List.mem_of_getElem? hi')
  simp [World.cell?, hb]
theorem Mem.cellB {w0 w : World} {ks : List Nat} {L : Mm} (h : Mem w0 ks L w) {a : Addr} {v : Value} (hc : w0.cell? a = some v) (hk : a.block ∉ ks) : w.cell? a = some v := by
  have hlt := World.block_lt_of_cell? w0 a hc
  unfold World.cell? at hc ⊢
  rw [h.base _ hlt hk]
  exact hc
theorem Mem.blkB {w0 w : World} {ks : List Nat} {L : Mm} (h : Mem w0 ks L w) {b : Nat} {x : Obj} (hc : w0.heap[b]? = some x) (hk : b ∉ ks) : w.heap[b]? = some x := by
  have hlt : b < w0.heap.size := by
    rcases Nat.lt_or_ge b w0.heap.size with h' | h'
    · exact h'
    · rw [Array.getElem?_eq_none h'] at hc; cases hc
  rw [h.base _ hlt hk]
  exact hc

/-- What a call that turns nothing leaves. -/
theorem Mem.trans0 {w0 w w' : World} {ks : List Nat} {L L1 : Mm} (h : Mem w0 ks L w) (h1 : Mem w [] L1 w') : Mem w0 ks (L1 ++ L) w' := by
  refine ⟨Nat.le_trans h.size h1.size, h1.tape.trans h.tape, h1.os.trans h.os, h1.out.trans h.out, ?_, ?_, ?_, ?_⟩
  · intro k hk hn
    rw [h1.base k (Nat.lt_of_lt_of_le hk h.size) (by simp)]
    exact h.base k hk hn
  · intro p hp
    rcases List.mem_append.1 hp with hp | hp
    · exact h1.known p hp
    · rw [h1.base _ (h.lt hp) (by simp)]
      exact h.known p hp
  · intro p hp
    rcases List.mem_append.1 hp with hp | hp
    · refine .inr (Nat.le_trans h.size ?_)
      rcases h1.kept p hp with h2 | h2
      · simp at h2
      · exact h2
    · exact h.kept p hp
  · rw [List.map_append, List.nodup_append]
    refine ⟨h1.nd, h.nd, ?_⟩
    intro x hx y hy he
    obtain ⟨p, hp, rfl⟩ := List.mem_map.1 hx
    obtain ⟨q, hq, rfl⟩ := List.mem_map.1 hy
    have := h.lt hq
    rcases h1.kept p hp with h2 | h2
    · simp at h2
    · omega

/-! ### the machine -/
/-- What a walk is about: the program, the function, what is asked of its end, who waits for it. -/
structure Cx where
  P : Program
  f : FuncId
  R : Ending → World → Prop
  cs : List Frame
  b : Frame
  X : Option (Act → World → Prop)

/-- How the frame stands as the call ends: of a plain call, of a deferred one. -/
def Lv (c : Cx) (fr : Frame) (w' : World) (e : Ending) : Prop := match c.b.kind with
  | .deferred => fr.kind = .deferred ∧ fr.going c.P w' e
  | _ => fr.fn = c.f ∧ fr.leaving c.P w' e
/-- From here on the call comes to its end, and that is as asked. -/
def Rn (c : Cx) (todo : List Item) (a : Act) (w : World) : Prop :=
  ∃ e w' fr, c.R e w' ∧ Comes c.P (lone (c.b.at a todo) c.cs w) (lone fr c.cs w') e ∧ Lv c fr w' e

def Nn (n : Nat) (F : Fr) (w0 : World) (ks : List Nat) (L : Mm) (D : List Deferred) (X : Act → World → Prop) : Prop :=
  ∀ a w, a.tmps.size = n → a.defers = D → Has F a → Mem w0 ks L w → X a w
structure Z (c : Cx) (n : Nat) (F : Fr) (w0 : World) (ks : List Nat) (L : Mm) (D : List Deferred) (todo : List Item) : Prop where
  go : Nn n F w0 ks L D (Rn c todo)

section
variable {c : Cx} {n : Nat} {F : Fr} {w0 : World} {ks : List Nat} {L : Mm} {D : List Deferred} {k : List Item}

theorem Rn.steps {a a' : Act} {w w' : World} {t t' : List Item} (h : Steps c.P (lone (c.b.at a t) c.cs w) (lone (c.b.at a' t') c.cs w')) (h' : Rn c t' a' w') : Rn c t a w := by
  obtain ⟨e, w₂, fr, hR, hc, hl⟩ := h'
  exact ⟨e, w₂, fr, hR, Comes.of_steps h hc, hl⟩
theorem Rn.one {a a' : Act} {w w' : World} {t t' : List Item} (h : step c.P (lone (c.b.at a t) c.cs w) = .next (lone (c.b.at a' t') c.cs w')) (h' : Rn c t' a' w') : Rn c t a w := .steps (.one h) h'

theorem z_skip (h : Z c n F w0 ks L D k) : Z c n F w0 ks L D (.code .skip :: k) := ⟨fun a w h1 h2 h3 h4 => .one step_skip (h.go a w h1 h2 h3 h4)⟩
theorem z_label {l : Nat} (h : Z c n F w0 ks L D k) : Z c n F w0 ks L D (.code (.label l) :: k) := ⟨fun a w h1 h2 h3 h4 => .one step_label (h.go a w h1 h2 h3 h4)⟩
theorem z_inBlock {i : Nat} (h : Z c n F w0 ks L D k) : Z c n F w0 ks L D (.inBlock i :: k) := ⟨fun a w h1 h2 h3 h4 => .one step_inBlock (h.go a w h1 h2 h3 h4)⟩
theorem z_seq {x y : Code} (h : Z c n F w0 ks L D (.code x :: .code y :: k)) : Z c n F w0 ks L D (.code (.seq x y) :: k) := ⟨fun a w h1 h2 h3 h4 => .one step_seq (h.go a w h1 h2 h3 h4)⟩
theorem z_block {i : Nat} {x : Code} (h : Z c n F w0 ks L D (.code x :: .inBlock i :: k)) : Z c n F w0 ks L D (.code (.block i x) :: k) := ⟨fun a w h1 h2 h3 h4 => .one step_block (h.go a w h1 h2 h3 h4)⟩
theorem z_exit {i : Nat} {k' : List Item} (he : exitTo i k = some k') (h : Z c n F w0 ks L D k') : Z c n F w0 ks L D (.code (.exit i) :: k) := ⟨fun a w h1 h2 h3 h4 => .one (step_exit he) (h.go a w h1 h2 h3 h4)⟩
theorem z_goto {l : Nat} {k' : List Item} (he : gotoIn l k = some k') (h : Z c n F w0 ks L D k') : Z c n F w0 ks L D (.code (.goto l) :: k) := ⟨fun a w h1 h2 h3 h4 => .one (step_goto he) (h.go a w h1 h2 h3 h4)⟩
theorem z_scope {x : Code} (h : Z c n F w0 ks L D (.code x :: .inScope x :: k)) : Z c n F w0 ks L D (.code (.scope x) :: k) := ⟨fun a w h1 h2 h3 h4 =>
  .one (step_lone_go (by simp [stepG, stepG.exec, Frame.at])) (h.go a w h1 h2 h3 h4)⟩
theorem z_inScope {x : Code} (h : Z c n F w0 ks L D k) : Z c n F w0 ks L D (.inScope x :: k) := ⟨fun a w h1 h2 h3 h4 =>
  .one (step_lone_go (by simp [stepG, stepG.exec, Frame.at])) (h.go a w h1 h2 h3 h4)⟩
theorem z_cond {x : Operand} {p q : Code} {t : Bool} (hv : ev F x = some (.bool t)) (h1 : t = true → Z c n F w0 ks L D (.code p :: k)) (h2 : t = false → Z c n F w0 ks L D (.code q :: k)) : Z c n F w0 ks L D (.code (.cond x p q) :: k) := by
  refine ⟨fun a w a1 a2 a3 a4 => ?_⟩
  have he := ev_eval a3 hv
  cases t with
  | true => exact .one (step_cond he) ((h1 rfl).go a w a1 a2 a3 a4)
  | false => exact .one (step_cond he) ((h2 rfl).go a w a1 a2 a3 a4)
theorem z_condT {x : Operand} {p q : Code} (hv : ev F x = some (.bool true)) (h : Z c n F w0 ks L D (.code p :: k)) : Z c n F w0 ks L D (.code (.cond x p q) :: k) := z_cond hv (fun _ => h) (by simp)
theorem z_condF {x : Operand} {p q : Code} (hv : ev F x = some (.bool false)) (h : Z c n F w0 ks L D (.code q :: k)) : Z c n F w0 ks L D (.code (.cond x p q) :: k) := z_cond hv (by simp) (fun _ => h)
theorem z_weaken (F' : Fr) (L' : Mm) {ks' : List Nat} (hs : Sub F' F) (hL : L'.Sublist L) (hk : ∀ k ∈ ks, k ∈ ks') (h : Z c n F' w0 ks' L' D k) : Z c n F w0 ks L D k :=
  ⟨fun a w h1 h2 h3 h4 => h.go a w h1 h2 (hs.has h3) (h4.weaken hk hL)⟩

/-- A loop's next round, as it comes. -/
theorem z_once {x : Code} (h : Z c n F w0 ks L D (.code x :: .inLoop x :: k)) : Z c n F w0 ks L D (.code (.loop x) :: k) := ⟨fun a w h1 h2 h3 h4 => .one step_loop (h.go a w h1 h2 h3 h4)⟩
theorem z_again {x : Code} (h : Z c n F w0 ks L D (.code x :: .inLoop x :: k)) : Z c n F w0 ks L D (.inLoop x :: k) := ⟨fun a w h1 h2 h3 h4 => .one step_inLoop (h.go a w h1 h2 h3 h4)⟩
/-- A loop: 'g' is what a round is known by. -/
theorem z_loop {x : Code} {G : Type} (Φ : G → Prop) (F' : G → Fr) (L' : G → Mm) (μ : G → Nat) (g0 : G) (h0 : Φ g0) (hs : Sub (F' g0) F) (hL : (L' g0).Sublist L)
    (round : ∀ g, Φ g → (∀ g', Φ g' → μ g' < μ g → Z c n (F' g') w0 ks (L' g') D (.inLoop x :: k)) → Z c n (F' g) w0 ks (L' g) D (.code x :: .inLoop x :: k)) :
    Z c n F w0 ks L D (.code (.loop x) :: k) := by
  have key : ∀ m g, μ g = m → Φ g → Z c n (F' g) w0 ks (L' g) D (.code x :: .inLoop x :: k) := by
    intro m
    induction m using Nat.strongRecOn with
    | _ m ih =>
      intro g hg hp
      refine round g hp fun g' hp' hlt => ⟨fun a w h1 h2 h3 h4 => ?_⟩
      exact .one step_inLoop ((ih (μ g') (hg ▸ hlt) g' rfl hp').go a w h1 h2 h3 h4)
  refine ⟨fun a w h1 h2 h3 h4 => ?_⟩
  exact .one step_loop ((key _ g0 rfl h0).go a w h1 h2 (hs.has h3) (h4.weaken (fun _ h => h) hL))

/-! ### the end -/
theorem z_ret_any {fn : Func} (hf : c.P.funcs[c.f]? = some fn) (hb : c.b.fn = c.f) (hk : c.b.kind = .normal) {v : Value}
    (h : ∀ a w, Has F a → Mem w0 ks L w → (results fn a.tmps).run c.P w = .ok v w) (hR : ∀ w, Mem w0 ks L w → c.R (.returned v) w) : Z c n F w0 ks L [] (.code .ret :: k) := by
  refine ⟨fun a w a1 a2 a3 a4 => ?_⟩
  refine ⟨.returned v, w, _, hR w a4, Steps.one step_ret, ?_⟩
  unfold Lv
  rw [hk]
  exact ⟨hb, rfl, a2, hk, fn, by rw [show ({ c.b.at a (.code .ret :: k) with mode := .returning } : Frame).fn = c.f from hb]; exact hf, h a w a3 a4⟩
theorem z_end_any {fn : Func} (hf : c.P.funcs[c.f]? = some fn) (hb : c.b.fn = c.f) (hk : c.b.kind = .normal) {v : Value}
    (h : ∀ a w, Has F a → Mem w0 ks L w → (results fn a.tmps).run c.P w = .ok v w) (hR : ∀ w, Mem w0 ks L w → c.R (.returned v) w) : Z c n F w0 ks L [] [] := by
  refine ⟨fun a w a1 a2 a3 a4 => ?_⟩
  refine ⟨.returned v, w, _, hR w a4, Steps.one step_end, ?_⟩
  unfold Lv
  rw [hk]
  exact ⟨hb, rfl, a2, hk, fn, by rw [show ({ c.b.at a [] with mode := .returning } : Frame).fn = c.f from hb]; exact hf, h a w a3 a4⟩
end

/-- The frame at a function's entry. -/
def entry : Nat → List Value → Fr
  | _, [] => []
  | i, v :: r => (i, v) :: entry (i + 1) r
theorem entry_has : ∀ (args : List Value) (i : Nat) (pre post : List Value), pre.length = i → ∀ d v, look (entry i args) d = some v → (pre ++ args ++ post)[d]? = some v
  | [], _, _, _, _, d, v, h => by simp [entry, look] at h
  | x :: r, i, pre, post, hi, d, v, h => by
    unfold entry look at h
    cases hb : Nat.beq i d with
    | true =>
      have := Nat.eq_of_beq_eq_true hb
      subst this
      simp only [hb, cond_true, Option.some.injEq] at h
      subst h
      simp [← hi]
    | false =>
      simp only [hb, cond_false] at h
      have := entry_has r (i + 1) (pre ++ [x]) post (by simp [hi]) d v h
      simpa using this

theorem calls_of_z {P : Program} {f : FuncId} {fn : Func} {x : Code} {args : List Value} {w : World} {R : Ending → World → Prop} {ks : List Nat} {L : Mm} {n : Nat}
    (hf : P.funcs[f]? = some fn) (hb : fn.body = some x) (hn : fn.ntmps = n) (hle : Nat.ble args.length n = true) (hm : Mem w ks L w)
    (h : ∀ (cs : List Frame) (b : Frame), b.fn = f → b.kind = .normal → Z ⟨P, f, R, cs, b, none⟩ n (entry 0 args) w ks L [] [.code x]) : Calls P f args.toArray w R := by
  intro cs
  have hle' := Nat.le_of_ble_eq_true hle
  have henter : Frame.enter P f args.toArray .normal =
      ({ (default : Frame) with fn := f, kind := .normal } : Frame).at { tmps := args.toArray ++ Array.replicate (fn.ntmps - args.toArray.size) undef, defers := [] } [.code x] := by
    simp [Frame.enter, Frame.at, hf, hb]
  have := (h cs { (default : Frame) with fn := f, kind := .normal } rfl rfl).go { tmps := args.toArray ++ Array.replicate (fn.ntmps - args.toArray.size) undef, defers := [] } w
    (by simp [hn]; omega) rfl (fun d v hd => by
      have := entry_has args 0 [] (List.replicate (fn.ntmps - args.length) undef) rfl d v hd
      simp only [List.nil_append] at this
      rw [← this, ← Array.getElem?_toList]
      simp) hm
  obtain ⟨e, w', fr, hR, hc, hf', hl⟩ := this
  rw [henter]
  exact ⟨e, w', fr, hR, hc, hf', hl⟩

/-! ### regions -/
def Qn (c : Cx) (k : List Item) : Exit → Act → World → Prop
  | .normal, a, w => match c.X with
    | none => Rn c k a w
    | some X => X a w
  | _, _, _ => False

/-! ### a region that draws its order -/
/-- In state 'a', in every world of 'S', the operation leaves 'v' and turns no block that is there. -/
def YR (P : Program) (ops : Array Oper) (S : World → Prop) (o : Oper) (v : Value) (a : Act) : Prop :=
  (Region.wanted o (yielded ops a.tmps) = true ∧ ∀ w, S w → o.quietAt P a (fun w' => Mem w [] [] w') w v) ∨
  (Region.wanted o (yielded ops a.tmps) = false ∧ v = undef)
theorem YR.wpOp {P : Program} {ops : Array Oper} {S : World → Prop} {Q : Exit → Act → World → Prop} {i : Nat} {o : Oper} {v : Value} {a : Act} {w : World} (hi : ops[i]? = some o) (hy : YR P ops S o v a) (hS : S w)
    {K : Act → World → Prop} (h : ∀ w', Mem w [] [] w' → K (a.put o.dst v) w') : wpOp P ops Q i K a w := by
  unfold Go.wpOp
  simp only [hi]
  rcases hy with ⟨hw, hv⟩ | ⟨hw, rfl⟩
  · simp only [hw, if_true]
    refine .inl ?_
    have hq := hv w hS
    unfold Oper.quietAt at hq
    unfold Oper.wp
    generalize (execOp a.eval o).run P w = r at *
    cases r with
    | halt x w' => exact hq.elim
    | ok x w' =>
      cases x <;> simp only [Oper.quietUpon] at hq <;> simp only [Oper.upon]
      case value u => obtain ⟨e1, e2⟩ := hq; rw [e1, e2]; exact h w (Mem.refl w)
      case skip => obtain ⟨e1, e2⟩ := hq; rw [e1, ← e2]; exact h w (Mem.refl w)
      case enter f args =>
        obtain ⟨e1, hc⟩ := hq
        rw [e1]
        exact hc.mono fun e w'' ⟨he, hw''⟩ => by subst he; exact h _ hw''
  · simp only [hw, Bool.false_eq_true, if_false]; exact h w (Mem.refl w)

/-- Another operation makes no odds to one that is apart from it. -/
theorem wpOp_past {P : Program} {ops : Array Oper} {Q : Exit → Act → World → Prop} {j : Nat} {oi oj : Oper} {v : Value} (hj : ops[j]? = some oj) (hap : oi.apart ops oj = true)
    (hsi : ∀ cs b, oi.op ≠ .select cs b) (hsj : ∀ cs b, oj.op ≠ .select cs b) (hQ : ∀ c a w, ¬ Q (.panic c) a w) (Y : Act → Prop)
    (hY : ∀ a a' : Act, execOp a'.eval oi = execOp a.eval oi → Region.wanted oi (yielded ops a'.tmps) = Region.wanted oi (yielded ops a.tmps) → Y a → Y a')
    {K : Act → World → Prop} {a : Act} {w : World} (hy : Y a) (h : wpOp P ops Q j K (a.put oi.dst v) w) :
    wpOp P ops Q j (fun a' w' => Y a' ∧ K (a'.put oi.dst v) w') a w := by
  obtain ⟨h1, h2, h3⟩ := Oper.apart_spec hap
  have keep : ∀ u, Y (a.put oj.dst u) := fun u => hY _ _ (execOp_put oi hsi a oj.dst u h3) (wanted_put oi a oj.dst u h3) hy
  have comm : ∀ u, (a.put oi.dst v).put oj.dst u = (a.put oj.dst u).put oi.dst v := fun u => Act.put_comm a v u h2
  unfold wpOp at *
  simp only [hj] at *
  rw [wanted_put oj a oi.dst v h1] at h
  cases hw : Region.wanted oj (yielded ops a.tmps) with
  | false =>
    simp only [hw, Bool.false_eq_true, if_false] at h ⊢
    exact ⟨keep _, comm undef ▸ h⟩
  | true =>
    simp only [hw, if_true] at h ⊢
    rcases h with h | ⟨ha, hl⟩
    · refine .inl ?_
      unfold Oper.wp at *
      rw [execOp_put oj hsj a oi.dst v h1] at h
      generalize (execOp a.eval oj).run P w = r at *
      cases r with
      | halt x w' => cases x <;> simp only [Oper.upon] at h ⊢ <;> exact (hQ _ _ _ h).elim
      | ok x w' =>
        cases x <;> simp only [Oper.upon] at h ⊢
        case value u => exact ⟨keep u, comm u ▸ h⟩
        case skip => exact ⟨keep _, comm undef ▸ h⟩
        case defer d =>
          refine ⟨hY { a with defers := d :: a.defers } _ (execOp_put oi hsi _ oj.dst undef h3) (wanted_put oi _ oj.dst undef h3) (hY a _ rfl rfl hy), ?_⟩
          rw [← Act.put_comm _ v undef h2, ← Act.put_defers]
          exact h
        case enter f args =>
          refine h.mono fun e w'' he => ?_
          cases e with
          | returned u => exact ⟨keep u, comm u ▸ he⟩
          | panicked c => exact (hQ _ _ _ he).elim
          | outgrown => exact he
        case row row args => exact Rows.mono h fun u w'' he => ⟨keep u, comm u ▸ he⟩
    · exact .inr ⟨by unfold Oper.asks at *; rw [execOp_put oj hsj a oi.dst v h1] at ha; exact ha, hl⟩

/-- Whatever order is drawn, and however much is made meanwhile. -/
def wpAnyR (P : Program) (ops : Array Oper) (Q : Exit → Act → World → Prop) (S : World → Prop) : Nat → Array Bool → Act → World → Prop
  | 0, listed, a, w => ∀ w', Mem w [] [] w' → S w' → Region.ready .any ops listed = [] ∧ Q .normal a w'
  | fuel + 1, listed, a, w => ∀ w', Mem w [] [] w' → S w' → (Region.ready .any ops listed = [] → Q .normal a w') ∧
    ∀ i ∈ Region.ready .any ops listed, wpOp P ops Q i (fun a' w'' => S w'' ∧ wpAnyR P ops Q S fuel (listed.setIfInBounds i true) a' w'') a w'
section
variable {P : Program} {ops : Array Oper} {Q : Exit → Act → World → Prop} {S : World → Prop}
theorem Mem.on {w w' w'' : World} (h : Mem w [] [] w') (h' : Mem w' [] [] w'') : Mem w [] [] w'' := by simpa using h.trans0 h'
theorem wpAnyR.stab : ∀ {fuel : Nat} {listed : Array Bool} {a : Act} {w w' : World}, wpAnyR P ops Q S fuel listed a w → Mem w [] [] w' → wpAnyR P ops Q S fuel listed a w'
  | 0, _, _, _, _, h, hm => fun w'' h1 h2 => h w'' (hm.on h1) h2
  | _ + 1, _, _, _, _, h, hm => fun w'' h1 h2 => h w'' (hm.on h1) h2
theorem wpAny_of_R : ∀ (fuel : Nat) (listed : Array Bool) (a : Act) (w : World), S w → wpAnyR P ops Q S fuel listed a w → wpAny P .any ops Q fuel listed a w
  | 0, _, _, w, hs, h => h w (Mem.refl w) hs
  | fuel + 1, _, _, w, hs, h => ⟨(h w (Mem.refl w) hs).1, fun i hi => wpOp_mono (fun a' w' h' => wpAny_of_R fuel _ a' w' h'.1 h'.2) ((h w (Mem.refl w) hs).2 i hi)⟩
theorem wpAnyR_first (hS : ∀ w w', S w → Mem w [] [] w' → S w') (hQ : ∀ c a w, ¬ Q (.panic c) a w) {i : Nat} {oi : Oper} {v : Value} (hi : ops[i]? = some oi) (hsel : ∀ (j : Nat) (o : Oper) cs b, ops[j]? = some o → o.op ≠ .select cs b) :
    ∀ (fuel : Nat) (listed : Array Bool) (a : Act) (w : World),
      (∀ j oj, ops[j]? = some oj → j ≠ i → listed.getD j true = false → (∀ e ∈ oj.after, Region.binds .any e = true → e.on ≠ i) → oi.apart ops oj = true) →
      i ∈ Region.ready .any ops listed → YR P ops S oi v a →
      wpAnyR P ops Q S fuel (listed.setIfInBounds i true) (a.put oi.dst v) w → wpAnyR P ops Q S (fuel + 1) listed a w := by
  intro fuel
  induction fuel with
  | zero =>
    intro listed a w _ hr hy H w1 hm1 hs1
    refine ⟨fun h => (by rw [h] at hr; cases hr), fun j hj => ?_⟩
    by_cases hji : j = i
    · subst hji
      exact hy.wpOp hi hs1 fun w2 hm2 => ⟨hS _ _ hs1 hm2, H.stab (hm1.on hm2)⟩
    · have h0 := ready_mono hj hji
      rw [(H w1 hm1 hs1).1] at h0
      cases h0
  | succ fuel ih =>
    intro listed a w hfree hr hy H w1 hm1 hs1
    refine ⟨fun h => (by rw [h] at hr; cases hr), fun j hj => ?_⟩
    by_cases hji : j = i
    · subst hji
      exact hy.wpOp hi hs1 fun w2 hm2 => ⟨hS _ _ hs1 hm2, H.stab (hm1.on hm2)⟩
    · have h1 := (H w1 hm1 hs1).2 j (ready_mono hj hji)
      obtain ⟨hjun, oj, hoj, hall⟩ := mem_ready.1 hj
      have hir := (mem_ready.1 hr).1
      have hnot : ∀ e ∈ oj.after, Region.binds .any e = true → e.on ≠ i := by
        intro e he hb heq
        have h3 := hall e he hb
        rw [heq] at h3
        rcases Nat.lt_or_ge i listed.size with h' | h'
        · simp [h'] at hir h3; rw [hir] at h3; cases h3
        · simp [Array.getElem?_eq_none h'] at h3
      have h2 := wpOp_past hoj (hfree j oj hoj hji hjun hnot) (fun cs b => hsel i oi cs b hi) (fun cs b => hsel j oj cs b hoj) hQ (YR P ops S oi v)
        (fun a a' e1 e2 hy => by unfold YR Oper.quietAt at *; rw [e1, e2]; exact hy) hy h1
      refine wpOp_mono (fun a' w3 h3 => ⟨h3.2.1, ih (listed.setIfInBounds j true) a' w3 (fun k ok hk hki hun hno => ?_) (ready_mono hr (Ne.symm hji)) h3.1 ?_⟩) h2
      · refine hfree k ok hk hki ?_ hno
        by_cases hjk : j = k
        · subst hjk; exact hjun
        · rw [getD_set_ne true hjk] at hun; exact hun
      · rw [Array.setIfInBounds_comm _ _ hji]
        exact h3.2.2

/-- The operations in the text's order, each of them quiet. -/
def wpQR (P : Program) (ops : Array Oper) (S : World → Prop) (Q : Act → Prop) : List Oper → Act → Prop
  | [], a => Q a
  | o :: rest, a => ∃ v, YR P ops S o v a ∧ wpQR P ops S Q rest (a.put o.dst v)
theorem wpAnyR_lex (hS : ∀ w w', S w → Mem w [] [] w' → S w') (hQ : ∀ c a w, ¬ Q (.panic c) a w) (hs : Region.noSelect ops = true) : ∀ (l : List Oper) (k : Nat) (listed : Array Bool) (a : Act) (w : World), (∀ j, l[j]? = ops[k + j]?) →
    Region.lexFrom .any ops l.length k listed = true → wpQR P ops S (fun a' => ∀ w', S w' → Q .normal a' w') l a → wpAnyR P ops Q S l.length listed a w
  | [], _, _, _, _, _, hB, h => fun w' _ hs' => ⟨by simpa [Region.lexFrom] using hB, h w' hs'⟩
  | o :: l, k, listed, a, w, hl, hB, ⟨v, hy, h⟩ => by
    have h0 : ops[k]? = some o := by simpa using (hl 0).symm
    simp only [List.length_cons, Region.lexFrom, Bool.and_eq_true] at hB
    obtain ⟨⟨hr, hf⟩, hB'⟩ := hB
    exact wpAnyR_first hS hQ h0 (Region.noSelect_spec hs) l.length listed a w (Region.free_spec h0 hf) (by simpa using hr) hy
      (wpAnyR_lex hS hQ hs l (k + 1) _ _ w (fun j => by have := hl (j + 1); simpa [Nat.add_assoc, Nat.add_comm 1 j] using this) hB' h)
end

/-- A region's operations from number i on: 'l'. 'q': the region draws its order, and its operations leave memory alone. -/
def ZXd (c : Cx) (q : Bool) (n : Nat) (F : Fr) (w0 : World) (ks : List Nat) (L : Mm) (D : List Deferred) (ops : Array Oper) (i : Nat) (l : List Oper) (k : List Item) : Prop :=
  match q with
  | false => ∀ js : List Nat, js.map (fun j => ops[j]?) = l.map some → Nn n F w0 ks L D (wpOps c.P ops (Qn c k) js)
  | true => ∀ a, a.tmps.size = n → a.defers = D → Has F a → wpQR c.P ops (Mem w0 ks L) (fun a' => ∀ w', Mem w0 ks L w' → Qn c k .normal a' w') l a
structure ZX (c : Cx) (q : Bool) (n : Nat) (F : Fr) (w0 : World) (ks : List Nat) (L : Mm) (D : List Deferred) (ops : Array Oper) (i : Nat) (l : List Oper) (k : List Item) : Prop where
  go : ZXd c q n F w0 ks L D ops i l k

section
variable {c : Cx} {q : Bool} {n : Nat} {F : Fr} {w0 : World} {ks : List Nat} {L : Mm} {D : List Deferred} {k : List Item} {ops : Array Oper} {i : Nat} {rest : List Oper}

theorem arrives_normal (hX : c.X = none) {e : Exit} {a a' : Act} {w w' : World} {x : Code} (hq : Qn c k e a' w') (h : Arrives c.P (lone (c.b.at a (.code x :: k)) c.cs w) c.b k c.cs e a' w') : Rn c (.code x :: k) a w := by
  cases e with
  | normal => simp only [Qn, hX] at hq; exact Rn.steps h hq
  | _ => exact hq.elim
theorem mem_stab {w w' : World} (h : Mem w0 ks L w) (h' : Mem w [] [] w') : Mem w0 ks L w' := by simpa using h.trans0 h'
theorem range_map (l : List Oper) : ∀ (pre : List Oper), (List.range' pre.length l.length).map (fun j => (pre ++ l).toArray[j]?) = l.map some := by
  induction l with
  | nil => intro _; rfl
  | cons o l ih =>
    intro pre
    rw [List.length_cons, List.range'_succ, List.map_cons, List.map_cons]
    have := ih (pre ++ [o])
    rw [List.length_append, List.append_assoc] at this
    rw [show pre.length + 1 = pre.length + [o].length from rfl]
    refine congr (congrArg _ (by simp)) this

def noSel : List Oper → Bool
  | ⟨_, .select _ _, _, _, _, _⟩ :: _ => false
  | _ => true
theorem z_region {id : Nat} {l : List Oper} (hX : c.X = none) (hl : ops.toList = l) (_hn : noSel l = true) (h : ZX c false n F w0 ks L D ops 0 l k) : Z c n F w0 ks L D (.code (.region id ops false) :: k) := by
  refine ⟨fun a w a1 a2 a3 a4 => ?_⟩
  have hr : List.range' 0 l.length = List.range ops.size := by rw [← hl, Array.length_toList, List.range_eq_range']
  have hw := h.go (List.range' 0 l.length) (by have := range_map l []; simpa [← hl] using this) a w a1 a2 a3 a4
  rw [hr] at hw
  obtain ⟨e, a', w', hq, harr⟩ := wp_region (id := id) hw c.b k c.cs
  exact arrives_normal hX hq harr
theorem z_regionQ {id : Nat} {l : List Oper} (hX : c.X = none) (hm : c.P.follows .mixedOrders = true) (hB : Region.lexB .any ops = true) (hl : ops.toList = l) (h : ZX c true n F w0 ks L D ops 0 l k) : Z c n F w0 ks L D (.code (.region id ops true) :: k) := by
  refine ⟨fun a w a1 a2 a3 a4 => ?_⟩
  have hw := h.go a a1 a2 a3
  simp only [Region.lexB, Bool.and_eq_true] at hB
  have hsz : l.length = ops.size := by rw [← hl, Array.length_toList]
  have h1 := wpAnyR_lex (P := c.P) (Q := Qn c k) (S := Mem w0 ks L) (fun _ _ => mem_stab) (fun _ _ _ h => h) hB.1 l 0 (Array.replicate ops.size false) a { w with drawn := w.drawn + 1 } (by simp [← hl]) (by rw [hsz]; exact hB.2) hw
  rw [hsz] at h1
  obtain ⟨e, a', w', hq, harr⟩ := wp_region_any (id := id) hm (wpAny_of_R _ _ _ _ a4.drew h1) c.b k c.cs
  exact arrives_normal hX hq harr
theorem zx_nil (hX : c.X = none) (h : Z c n F w0 ks L D k) : ZX c q n F w0 ks L D ops i [] k := by
  refine ⟨?_⟩
  cases q with
  | false =>
    intro js hj a w a1 a2 a3 a4
    rw [List.map_eq_nil_iff.1 hj]
    show Qn c k .normal a w
    simp only [Qn, hX]
    exact h.go a w a1 a2 a3 a4
  | true =>
    intro a a1 a2 a3 w' a4
    simp only [Qn, hX]
    exact h.go a w' a1 a2 a3 a4

/-- is the operation wanted? -/
def beqB : Bool → Bool → Bool
  | true, b => b
  | false, b => !b
theorem beqB_eq (a b : Bool) : beqB a b = (a == b) := by cases a <;> cases b <;> rfl
def dstOf (ops : Array Oper) (j : Nat) : Option Nat := (ops[j]?).bind (·.dst)
def wn (ops : Array Oper) (F : Fr) : Option (Nat × Bool) → Option Bool
  | none => some true
  | some (j, want) => match dstOf ops j with
    | some t => match look F t with
      | some (.bool b) => some (beqB b want)
      | _ => none
    | none => none
theorem wn_wanted {a : Act} (h : Has F a) {o : Oper} {b : Bool} (hw : wn ops F o.guard = some b) : Region.wanted o (yielded ops a.tmps) = b := by
  unfold wn at hw
  unfold Region.wanted
  cases hg : o.guard with
  | none => rw [hg] at hw; simpa using hw
  | some p =>
    obtain ⟨j, want⟩ := p
    rw [hg] at hw
    simp only at hw ⊢
    cases hd : dstOf ops j with
    | none => rw [hd] at hw; simp at hw
    | some t =>
      rw [hd] at hw
      simp only at hw
      split at hw
      · rename_i b' hl
        have h1 := h t _ hl
        simp only [Option.some.injEq] at hw
        have h2 : yielded ops a.tmps j = some b' := by
          unfold dstOf at hd
          unfold yielded
          rw [hd]
          simp [h1]
        rw [h2, ← hw, beqB_eq]
        cases b' <;> cases want <;> rfl
      · simp at hw

theorem js_cons {o : Oper} {l : List Oper} {js : List Nat} (h : js.map (fun j => ops[j]?) = (o :: l).map some) : ∃ j js', js = j :: js' ∧ ops[j]? = some o ∧ js'.map (fun j => ops[j]?) = l.map some := by
  cases js with
  | nil => simp at h
  | cons j js' => simp only [List.map_cons, List.cons.injEq] at h; exact ⟨j, js', rfl, h.1, h.2⟩

/-- One operation that yields v and leaves memory as it was. -/
theorem zx_op {o : Oper} {v : Value} (hw : wn ops F o.guard = some true)
    (hop : ∀ a w, a.tmps.size = n → Has F a → Mem w0 ks L w → o.quietAt c.P a (fun w' => Mem w [] [] w') w v)
    {F' : Fr} (hF : ∀ a, a.tmps.size = n → Has F a → Has F' (a.put o.dst v)) (h : ZX c q n F' w0 ks L D ops (i + 1) rest k) : ZX c q n F w0 ks L D ops i (o :: rest) k := by
  have hsz : ∀ a : Act, (a.put o.dst v).tmps.size = a.tmps.size := by intro a; unfold Act.put; cases o.dst <;> simp
  have hdf : ∀ a : Act, (a.put o.dst v).defers = a.defers := by intro a; unfold Act.put; cases o.dst <;> rfl
  replace h := h.go
  refine ⟨?_⟩
  cases q with
  | true =>
    intro a a1 a2 a3
    exact ⟨v, .inl ⟨wn_wanted a3 hw, fun w hm => hop a w a1 a3 hm⟩, h _ (by rw [hsz]; exact a1) (by rw [hdf]; exact a2) (hF a a1 a3)⟩
  | false =>
    intro js hd a w a1 a2 a3 a4
    obtain ⟨j, js', rfl, h0, h1⟩ := js_cons hd
    unfold wpOps
    simp only [h0]
    rw [if_pos (wn_wanted a3 hw)]
    refine .inl ?_
    have hq := hop a w a1 a3 a4
    have hnext : ∀ w', Mem w0 ks L w' → wpOps c.P ops (Qn c k) js' (a.put o.dst v) w' := fun w' hm =>
      h js' h1 _ w' (by rw [hsz]; exact a1) (by rw [hdf]; exact a2) (hF a a1 a3) hm
    unfold Oper.quietAt at hq
    unfold Oper.wp
    generalize (execOp a.eval o).run c.P w = r at *
    cases r with
    | halt x w' => exact hq.elim
    | ok x w' =>
      cases x <;> simp only [Oper.quietUpon] at hq <;> simp only [Oper.upon]
      case value u => obtain ⟨e1, e2⟩ := hq; rw [e1, e2]; exact hnext w a4
      case skip => obtain ⟨e1, e2⟩ := hq; rw [e1, ← e2]; exact hnext w a4
      case enter f args =>
        obtain ⟨e1, hc⟩ := hq
        rw [e1]
        exact hc.mono fun e w'' ⟨he, hw''⟩ => by subst he; exact hnext _ (mem_stab a4 hw'')

/-- An operation that is not wanted. -/
theorem zx_skip {o : Oper} (hw : wn ops F o.guard = some false) {F' : Fr} (hF : ∀ a, a.tmps.size = n → Has F a → Has F' (a.put o.dst undef)) (h : ZX c q n F' w0 ks L D ops (i + 1) rest k) : ZX c q n F w0 ks L D ops i (o :: rest) k := by
  have hsz : ∀ a : Act, (a.put o.dst undef).tmps.size = a.tmps.size := by intro a; unfold Act.put; cases o.dst <;> simp
  have hdf : ∀ a : Act, (a.put o.dst undef).defers = a.defers := by intro a; unfold Act.put; cases o.dst <;> rfl
  replace h := h.go
  refine ⟨?_⟩
  cases q with
  | true =>
    intro a a1 a2 a3
    exact ⟨undef, .inr ⟨wn_wanted a3 hw, rfl⟩, h _ (by rw [hsz]; exact a1) (by rw [hdf]; exact a2) (hF a a1 a3)⟩
  | false =>
    intro js hd a w a1 a2 a3 a4
    obtain ⟨j, js', rfl, h0, h1⟩ := js_cons hd
    unfold wpOps
    simp only [h0]
    rw [if_neg (by rw [wn_wanted a3 hw]; simp)]
    exact h js' h1 _ w (by rw [hsz]; exact a1) (by rw [hdf]; exact a2) (hF a a1 a3) a4

/-- One operation that may turn memory: 'Y' is what is only known behind it. -/
theorem zx_mem {o : Oper} {Y : Type} {v : Y → Value} {L' : Y → Mm} {Φ : Y → Prop} (hw : wn ops F o.guard = some true)
    (hop : ∀ a w, a.tmps.size = n → Has F a → Mem w0 ks L w → ∀ K : Act → World → Prop, (∀ y w', Φ y → Mem w0 ks (L' y) w' → K (a.put o.dst (v y)) w') → o.wp c.P a w K (Qn c k))
    {F' : Y → Fr} (hF : ∀ y a, a.tmps.size = n → Has F a → Has (F' y) (a.put o.dst (v y))) (h : ∀ y, Φ y → ZX c false n (F' y) w0 ks (L' y) D ops (i + 1) rest k) : ZX c false n F w0 ks L D ops i (o :: rest) k := by
  replace h := fun y hy => (h y hy).go
  refine ⟨?_⟩
  intro js hd a w a1 a2 a3 a4
  obtain ⟨j, js', rfl, h0, h1⟩ := js_cons hd
  unfold wpOps
  simp only [h0]
  rw [if_pos (wn_wanted a3 hw)]
  refine .inl (hop a w a1 a3 a4 _ fun y w' hy hm => ?_)
  exact h y hy js' h1 _ w' (by unfold Act.put; cases o.dst <;> simpa using a1) (by unfold Act.put; cases o.dst <;> exact a2) (hF y a a1 a3) hm

/-- The same frame, one slot's test taken. -/
theorem zx_split {l : List Oper} {t : Nat} {b : Bool} (ht : look F t = some (.bool b)) (h1 : b = true → ZX c q n ((t, .bool true) :: F) w0 ks L D ops i l k) (h2 : b = false → ZX c q n ((t, .bool false) :: F) w0 ks L D ops i l k) : ZX c q n F w0 ks L D ops i l k := by
  have hs : ∀ u a, u = b → Has F a → Has ((t, .bool u) :: F) a := by
    intro u a hu hF d v hv
    unfold look at hv
    cases hb : Nat.beq t d with
    | true =>
      have := Nat.eq_of_beq_eq_true hb
      subst this
      simp only [hb, cond_true, Option.some.injEq] at hv
      subst hv
      rw [hu]
      exact hF t _ ht
    | false => simp only [hb, cond_false] at hv; exact hF d v hv
  replace h1 := fun hb => (h1 hb).go
  replace h2 := fun hb => (h2 hb).go
  refine ⟨?_⟩
  cases b with
  | true => cases q with
    | true => exact fun a a1 a2 a3 => h1 rfl a a1 a2 (hs _ _ rfl a3)
    | false => exact fun js hd a w a1 a2 a3 a4 => h1 rfl js hd a w a1 a2 (hs _ _ rfl a3) a4
  | false => cases q with
    | true => exact fun a a1 a2 a3 => h2 rfl a a1 a2 (hs _ _ rfl a3)
    | false => exact fun js hd a w a1 a2 a3 a4 => h2 rfl js hd a w a1 a2 (hs _ _ rfl a3) a4
end
end Go.Proofs.Ytabcaiecoiejkaa.K
