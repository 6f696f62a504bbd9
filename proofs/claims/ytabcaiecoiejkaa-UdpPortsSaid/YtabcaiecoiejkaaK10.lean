/- Rules of the walk: regions that draw their order and write memory, maps with integer keys, channels and selects in one goroutine. -/
import Derived.Test.YtabcaiecoiejkaaK9
import Derived.Conc.LoneSelect
import Derived.WideMake
set_option maxRecDepth 100000
set_option linter.unusedVariables false
set_option linter.unusedSimpArgs false
namespace Go.Proofs.Ytabcaiecoiejkaa.K
open Go Go.Conc

section
variable {c : Cx} {q : Bool} {n d : Nat} {F : Fr} {w0 : World} {ks : List Nat} {L0 L : Mm} {D : List Deferred} {k : List Item} {ops : Array Oper} {i : Nat} {rest : List Oper} {ty : TypeId} {pos : String} {af : Array Edge} {g : Option (Nat × Bool)} {tb : Tab}

/-! ### a region that draws its order and writes -/
/-- 'L0': what stays known whatever comes first; 'l': which operations have come. -/
structure ZH (c : Cx) (n : Nat) (F : Fr) (w0 : World) (ks : List Nat) (L0 L : Mm) (D : List Deferred) (ops : Array Oper) (fuel : Nat) (l : List Bool) (k : List Item) : Prop where
  go : Nn n F w0 ks L D (wpAnyR c.P ops (Qn c k) (Mem w0 ks L0) fuel l.toArray)
/-- what is asked behind one operation -/
def XQ (c : Cx) (w0 : World) (ks : List Nat) (L0 L : Mm) (ops : Array Oper) (fuel : Nat) (l : List Bool) (k : List Item) (a : Act) (w : World) : Prop := Mem w0 ks L w → wpAnyR c.P ops (Qn c k) (Mem w0 ks L0) fuel l.toArray a w
def XL (c : Cx) (w0 : World) (ks : List Nat) (L0 : Mm) (ops : Array Oper) (fuel : Nat) (l : List Bool) (k : List Item) (a : Act) (w : World) : Prop := Mem w0 ks L0 w ∧ wpAnyR c.P ops (Qn c k) (Mem w0 ks L0) fuel l.toArray a w

def nth : List Oper → Nat → Option Oper
  | [], _ => none
  | o :: _, 0 => some o
  | _ :: l, m + 1 => nth l m
theorem nth_eq : ∀ (l : List Oper) (m : Nat), nth l m = l[m]?
  | [], _ => rfl
  | _ :: _, 0 => rfl
  | _ :: l, m + 1 => by simpa [nth] using nth_eq l m
theorem z_regionH {id : Nat} (L0 : Mm) (hX : c.X = none) (hm : c.P.follows .mixedOrders = true) (hL : L0.Sublist L) {m : Nat} (hsz : ops.size = m) (h : ZH c n F w0 ks L0 L D ops m (List.replicate m false) k) : Z c n F w0 ks L D (.code (.region id ops true) :: k) := by
  refine ⟨fun a w a1 a2 a3 a4 => ?_⟩
  have h1 := h.go a { w with drawn := w.drawn + 1 } a1 a2 a3 a4.drew
  rw [List.toArray_replicate, ← hsz] at h1
  obtain ⟨e, a', w', hq, harr⟩ := wp_region_any (id := id) hm (wpAny_of_R _ _ _ _ (a4.drew.weaken (fun _ h => h) hL) h1) c.b k c.cs
  exact arrives_normal hX hq harr
theorem zh_end {l : List Bool} (hX : c.X = none) (hr : Region.ready .any ops l.toArray = []) (h : Z c n F w0 ks L D k) : ZH c n F w0 ks L0 L D ops 0 l k := by
  refine ⟨fun a w a1 a2 a3 a4 w' h1 h2 => ⟨hr, ?_⟩⟩
  simp only [Qn, hX]
  exact h.go a w' a1 a2 a3 (mem_stab a4 h1)
/-- a quiet operation is taken first -/
theorem zh_take (m : Nat) {o : Oper} {fuel : Nat} {l : List Bool} (hs : Region.noSelect ops = true) (hi' : nth ops.toList m = some o) (hf : Region.free .any ops l.toArray m = true) (hr : (Region.ready .any ops l.toArray).contains m = true)
    (h : ZX ⟨c.P, c.f, c.R, c.cs, c.b, some (XQ c w0 ks L0 L ops fuel (l.set m true) k)⟩ true n F w0 ks L0 D ops m [o] k) (hL : L0.Sublist L) : ZH c n F w0 ks L0 L D ops (fuel + 1) l k := by
  have hi : ops[m]? = some o := by rw [← Array.getElem?_toList, ← nth_eq]; exact hi'
  refine ⟨fun a w a1 a2 a3 a4 => ?_⟩
  obtain ⟨v, hy, hq⟩ := h.go a a1 a2 a3
  refine wpAnyR_first (fun _ _ => mem_stab) (fun _ _ _ h => h) hi (Region.noSelect_spec hs) fuel l.toArray a w (Region.free_spec hi hf) (by simpa using hr) hy ?_
  have := hq w (a4.weaken (fun _ h => h) hL) a4
  rw [List.setIfInBounds_toArray]
  exact this
theorem zh_took {c' : Cx} {l : List Bool} {fuel : Nat} (hX : c'.X = some (XQ c w0 ks L0 L ops fuel l k)) (h : ZH c n F w0 ks L0 L D ops fuel l k) : ZX c' true n F w0 ks L0 D ops i [] k := by
  refine ⟨fun a a1 a2 a3 w' a4 => ?_⟩
  simp only [Qn, hX]
  exact fun hm => h.go a w' a1 a2 a3 hm
theorem oper_wp_Q {P : Program} {o : Oper} {a : Act} {w : World} {K : Act → World → Prop} {Q Q' : Exit → Act → World → Prop} (hQ : ∀ e a w, e ≠ .normal → Q e a w → Q' e a w) (h : o.wp P a w K Q) : o.wp P a w K Q' := by
  unfold Oper.wp at *
  generalize (execOp a.eval o).run P w = r at *
  cases r with
  | ok x w' =>
    cases x <;> simp only [Oper.upon] at h ⊢ <;> try exact h
    refine h.mono fun e w'' he => ?_
    cases e with
    | returned v => exact he
    | panicked ch => exact hQ _ _ _ (by simp) he
    | outgrown => obtain ⟨a₀, w₀, h0⟩ := he; exact ⟨a₀, w₀, hQ _ _ _ (by simp) h0⟩
  | halt x w' => cases x <;> simp only [Oper.upon] at h ⊢ <;> first | exact h | exact hQ _ _ _ (by simp) h
/-- the one operation whose turn it is -/
theorem zh_one (m : Nat) {o : Oper} {fuel : Nat} {l : List Bool} (hi' : nth ops.toList m = some o) (hr : Region.ready .any ops l.toArray = [m])
    (h : ZX ⟨c.P, c.f, c.R, c.cs, c.b, some (XL c w0 ks L0 ops fuel (l.set m true) k)⟩ false n F w0 ks L D ops m [o] k) : ZH c n F w0 ks L0 L D ops (fuel + 1) l k := by
  have hi : ops[m]? = some o := by rw [← Array.getElem?_toList, ← nth_eq]; exact hi'
  refine ⟨fun a w a1 a2 a3 a4 w' h1 h2 => ⟨by simp [hr], fun j hj => ?_⟩⟩
  rw [hr, List.mem_singleton] at hj
  subst hj
  have hw := h.go [j] (by simp [hi]) a w' a1 a2 a3 (mem_stab a4 h1)
  rw [wpOps_cons] at hw
  unfold wpOp at hw ⊢
  simp only [hi] at hw ⊢
  have key : ∀ a' w'', wpOps c.P ops (Qn ⟨c.P, c.f, c.R, c.cs, c.b, some (XL c w0 ks L0 ops fuel (l.set j true) k)⟩ k) [] a' w'' → Mem w0 ks L0 w'' ∧ wpAnyR c.P ops (Qn c k) (Mem w0 ks L0) fuel (l.toArray.setIfInBounds j true) a' w'' := by
    intro a' w'' hx
    rw [List.setIfInBounds_toArray]
    exact hx
  have hQ : ∀ e a w, e ≠ .normal → Qn ⟨c.P, c.f, c.R, c.cs, c.b, some (XL c w0 ks L0 ops fuel (l.set j true) k)⟩ k e a w → Qn c k e a w := by
    intro e a w he hq
    cases e <;> first | exact hq | exact absurd rfl he
  split
  · rename_i hwant
    simp only [hwant, if_true] at hw
    rcases hw with hw | ⟨_, hlets⟩
    · exact .inl (oper_wp_Q hQ (Oper.wp_mono key hw))
    · obtain ⟨a₀, w₀, h0⟩ := hlets
      exact h0.elim
  · rename_i hwant
    simp only [hwant, Bool.false_eq_true, if_false] at hw
    exact key _ _ hw
theorem zh_oned {c' : Cx} {l : List Bool} {fuel : Nat} (hX : c'.X = some (XL c w0 ks L0 ops fuel l k)) (hL : L0.Sublist L) (h : ZH c n F w0 ks L0 L D ops fuel l k) : ZX c' false n F w0 ks L D ops i [] k := by
  refine ⟨fun js hj a w a1 a2 a3 a4 => ?_⟩
  rw [List.map_eq_nil_iff.1 hj]
  show Qn c' k .normal a w
  simp only [Qn, hX]
  exact ⟨a4.weaken (fun _ h => h) hL, h.go a w a1 a2 a3 a4⟩

/-! ### maps -/
def mE (p : Int × Value × Nat) : MapEntry := ⟨.int .i64 p.1, p.2.1, p.2.2⟩
def mB (ms : List (Int × Value × Nat)) (clock : Nat) : Blk := .o (.map (ms.map mE).toArray clock)
def fnd (x : Int) : List (Int × Value × Nat) → Nat → Option (Nat × Value)
  | [], _ => none
  | p :: r, i => bif x == p.1 then some (i, p.2.1) else fnd x r (i + 1)
theorem findNow_mE (x : Int) : ∀ (ms : List (Int × Value × Nat)) (i : Nat), Instr.findNow (.int .i64) (.int .i64 x) (ms.map mE) i = some (fnd x ms i)
  | [], _ => rfl
  | p :: r, i => by
    simp only [List.map_cons, Instr.findNow, mE, Instr.sameNow, if_true, fnd]
    cases hb : x == p.1
    · simpa using findNow_mE x r (i + 1)
    · simp
def lkp (x : Int) (ms : List (Int × Value × Nat)) (z : Value) : Value := ((fnd x ms 0).map (·.2)).getD z

theorem zx_lookup0 (ht : TabOk c.P tb) {t kt et : TypeId} {tz kz : Nat} {tzs kzs : List Value} {x y : Operand} {m : Int} {z : Value} (hw : wn ops F g = some true) (htt : lookT tb t = some ⟨.map kt et, tz, tzs⟩) (hkt : lookT tb kt = some ⟨.int .i64, kz, kzs⟩) (hz : ∀ w, (zeroValue et).run c.P w = .ok z w)
    (hx : ev F x = some (.map none)) (hy : ev F y = some (.int .i64 m)) (hd : Nat.blt d n = true) (h : ZX c q n ((d, z) :: F) w0 ks L D ops (i + 1) rest k) : ZX c q n F w0 ks L D ops i (⟨some d, .lookup t x y false, ty, pos, af, g⟩ :: rest) k :=
  zx_val hw hd (fun a w h2 _ => by
    have h1 := (ht _ _ htt).und
    have h3 := (ht _ _ hkt).und
    have hc : (Instr.checkKey true 10000 kt (.int .i64 m)).run c.P w = .ok () w := MapKept.run_checkKey (k := .int .i64 m) h3 rfl true 9999
    have hf : (Instr.findKey kt (.int .i64 m) []).run c.P w = .ok none w := MapKept.run_findKey h3 rfl
    simp [execOp, ev_eval h2 hx, ev_eval h2 hy, Instr.lookup, run_underlying h1, hc, hf, hz, Result.andThen]) h
theorem zx_lookup (ht : TabOk c.P tb) {t kt et : TypeId} {tz kz : Nat} {tzs kzs : List Value} {x y : Operand} {m : Int} {z : Value} {b clock : Nat} {ms : List (Int × Value × Nat)} (j : Nat) (hw : wn ops F g = some true) (htt : lookT tb t = some ⟨.map kt et, tz, tzs⟩) (hkt : lookT tb kt = some ⟨.int .i64, kz, kzs⟩) (hz : ∀ w, (zeroValue et).run c.P w = .ok z w)
    (hx : ev F x = some (.map (some b))) (hy : ev F y = some (.int .i64 m)) (hL : L[j]? = some (b, mB ms clock)) (hd : Nat.blt d n = true) (h : ZX c q n ((d, lkp m ms z) :: F) w0 ks L D ops (i + 1) rest k) : ZX c q n F w0 ks L D ops i (⟨some d, .lookup t x y false, ty, pos, af, g⟩ :: rest) k :=
  zx_val hw hd (fun a w h2 hm => by
    have h1 := (ht _ _ htt).und
    have h3 := (ht _ _ hkt).und
    have hb := hm.known _ (List.mem_of_getElem? hL)
    have hc : ∀ e, (Instr.checkKey e 10000 kt (.int .i64 m)).run c.P w = .ok () w := fun e => MapKept.run_checkKey (k := .int .i64 m) h3 rfl e 9999
    have hf : (Instr.findKey kt (.int .i64 m) (ms.map mE)).run c.P w = .ok (fnd m ms 0) w := MapKept.run_findKey h3 (findNow_mE m ms 0)
    have hg := MapKept.run_getObj_map (P := c.P) hb
    cases hv : fnd m ms 0 with
    | none => simp [execOp, ev_eval h2 hx, ev_eval h2 hy, Instr.lookup, run_underlying h1, hg, hc, hf, hz, Result.andThen, lkp, hv]
    | some p => obtain ⟨i', v'⟩ := p; simp [execOp, ev_eval h2 hx, ev_eval h2 hy, Instr.lookup, run_underlying h1, hg, hc, hf, hz, Result.andThen, lkp, hv]) h
theorem zx_lenMap (ht : TabOk c.P tb) {t kt et : TypeId} {tz : Nat} {tzs : List Value} {x : Operand} {b clock : Nat} {ms : List (Int × Value × Nat)} (j : Nat) (hw : wn ops F g = some true) (htt : lookT tb t = some ⟨.map kt et, tz, tzs⟩)
    (hx : ev F x = some (.map (some b))) (hL : L[j]? = some (b, mB ms clock)) (hd : Nat.blt d n = true) (h : ZX c q n ((d, .int .i64 ms.length) :: F) w0 ks L D ops (i + 1) rest k) : ZX c q n F w0 ks L D ops i (⟨some d, .call ⟨.builtin .len, #[x], #[t]⟩, ty, pos, af, g⟩ :: rest) k :=
  zx_val hw hd (fun a w h2 hm => by
    have h1 := (ht _ _ htt).und
    have hb := hm.known _ (List.mem_of_getElem? hL)
    have hg := MapKept.run_getObj_map (P := c.P) hb
    simp [execOp, resolve, invoke, builtin, Builtin.len_, run_underlying h1, ev_eval h2 hx, hg, goInt]) h
theorem zx_lenMap0 (ht : TabOk c.P tb) {t kt et : TypeId} {tz : Nat} {tzs : List Value} {x : Operand} (hw : wn ops F g = some true) (htt : lookT tb t = some ⟨.map kt et, tz, tzs⟩)
    (hx : ev F x = some (.map none)) (hd : Nat.blt d n = true) (h : ZX c q n ((d, .int .i64 0) :: F) w0 ks L D ops (i + 1) rest k) : ZX c q n F w0 ks L D ops i (⟨some d, .call ⟨.builtin .len, #[x], #[t]⟩, ty, pos, af, g⟩ :: rest) k :=
  zx_val hw hd (fun a w h2 hm => by
    have h1 := (ht _ _ htt).und
    simp [execOp, resolve, invoke, builtin, Builtin.len_, run_underlying h1, ev_eval h2 hx, goInt]) h
theorem zx_makeMap {t : TypeId} (hw : wn ops F g = some true) (hd : Nat.blt d n = true)
    (h : ∀ b, ZX c false n ((d, .map (some b)) :: F) w0 ks ((b, mB [] 0) :: L) D ops (i + 1) rest k) : ZX c false n F w0 ks L D ops i (⟨some d, .makeMap t none, ty, pos, af, g⟩ :: rest) k :=
  zx_new (v := fun b => .map (some b)) hw hd (fun a w h2 h3 => by
    have := run_makeMap_plain (P := c.P) w t
    simp [execOp, this, mB, Blk.obj]) h
theorem zx_mapNew (ht : TabOk c.P tb) {t kt et : TypeId} {tz kz : Nat} {tzs kzs : List Value} {x y u : Operand} {m : Int} {v : Value} {b clock : Nat} {ms : List (Int × Value × Nat)} {L' : Mm} (j : Nat) (hw : wn ops F g = some true) (htt : lookT tb t = some ⟨.map kt et, tz, tzs⟩) (hkt : lookT tb kt = some ⟨.int .i64, kz, kzs⟩)
    (hx : ev F x = some (.map (some b))) (hy : ev F y = some (.int .i64 m)) (hu : ev F u = some v) (hL : L[j]? = some (b, mB ms clock)) (hL' : L.set j (b, mB (ms ++ [(m, v, clock)]) (clock + 1)) = L') (hf : fnd m ms 0 = none)
    (h : ZX c false n F w0 ks L' D ops (i + 1) rest k) : ZX c false n F w0 ks L D ops i (⟨none, .mapUpdate t x y u, ty, pos, af, g⟩ :: rest) k :=
  zx_mem (o := ⟨none, .mapUpdate t x y u, ty, pos, af, g⟩) (Y := Unit) (v := fun _ => undef) (L' := fun _ => L') (Φ := fun _ => True) hw
    (fun a w _ h2 hm _ hK => by
      have h1 := (ht _ _ htt).und
      have h3 := (ht _ _ hkt).und
      have hb := hm.known _ (List.mem_of_getElem? hL)
      have hlt := hm.lt (List.mem_of_getElem? hL)
      have hc : (Instr.checkKey false 10000 kt (.int .i64 m)).run c.P w = .ok () w := MapKept.run_checkKey (k := .int .i64 m) h3 rfl false 9999
      have hf' : (Instr.findKey kt (.int .i64 m) (ms.map mE)).run c.P w = .ok none w := MapKept.run_findKey h3 (by rw [findNow_mE, hf])
      have hg := MapKept.run_getObj_map (P := c.P) hb
      have hs := MapKept.run_setObj_map (P := c.P) (.map ((ms.map mE).toArray.push ⟨.int .i64 m, v, clock⟩) (clock + 1)) hb
      refine upon_skp (w' := { w with heap := w.heap.setIfInBounds b (.map ((ms.map mE).toArray.push ⟨.int .i64 m, v, clock⟩) (clock + 1)) }) ?_ (hK () _ trivial ?_)
      · simp only [List.push_toArray] at hs
        simp [execOp, ev_eval h2 hx, ev_eval h2 hy, ev_eval h2 hu, Instr.mapUpdate, run_underlying h1, hg, hc, hf', hs, Result.andThen]
      · rw [← hL']
        refine hm.setBlk hL (by simp) rfl rfl rfl ?_ ?_
        · simp only [mB, Blk.obj, List.map_append, List.push_toArray]
          rw [Array.getElem?_setIfInBounds_self_of_lt hlt]
          rfl
        · intro k' hk'
          exact Array.getElem?_setIfInBounds_ne (Ne.symm hk'))
    (fun _ _ _ h2 => h2.none _) (fun _ _ => h)

theorem zero_of {P : Program} {t : TypeId} {z : Value} (h : (P.info? t).bind (·.zero) = some z) (w : World) : (zeroValue t).run P w = .ok z w := by
  obtain ⟨i, hi, hz⟩ := Option.bind_eq_some_iff.1 h
  simp [zeroValue, typeInfo, hi, hz]
/-- nothing was turned after all -/
theorem Mem.back {w w' : World} {ks : List Nat} {L : Mm} (h : Mem w ks L w') (hs : ∀ p ∈ L, w.heap[p.1]? = some p.2.obj) (hk : ∀ k ∈ ks, k ∈ L.map (·.1)) : Mem w [] [] w' := by
  refine ⟨h.size, h.tape, h.os, h.out, fun k h1 _ => ?_, by simp, by simp, by simp⟩
  by_cases hin : k ∈ ks
  · obtain ⟨p, hp, rfl⟩ := List.mem_map.1 (hk k hin)
    rw [h.known p hp, hs p hp]
  · exact h.base k h1 hin
/-- a call that turns what is known of 'S' alone -/
theorem Mem.call {w0 w w' : World} {ks : List Nat} {S S' R : Mm} (h : Mem w0 ks (S ++ R) w) (h1 : Mem w (S.map (·.1)) S' w') : Mem w0 ks (S' ++ R) w' := by
  have hnd := h.nd
  rw [List.map_append, List.nodup_append] at hnd
  refine ⟨Nat.le_trans h.size h1.size, h1.tape.trans h.tape, h1.os.trans h.os, h1.out.trans h.out, ?_, ?_, ?_, ?_⟩
  · intro k hk hn
    rw [h1.base k (Nat.lt_of_lt_of_le hk h.size) ?_]
    · exact h.base k hk hn
    · intro hm
      obtain ⟨p, hp, rfl⟩ := List.mem_map.1 hm
      rcases h.kept p (List.mem_append_left _ hp) with h2 | h2
      · exact hn h2
      · omega
  · intro p hp
    rcases List.mem_append.1 hp with hp | hp
    · exact h1.known p hp
    · rw [h1.base _ (h.lt (List.mem_append_right _ hp)) (fun hm => hnd.2.2 _ hm _ (List.mem_map_of_mem hp) rfl)]
      exact h.known p (List.mem_append_right _ hp)
  · intro p hp
    rcases List.mem_append.1 hp with hp | hp
    · rcases h1.kept p hp with h2 | h2
      · obtain ⟨p', hp', he⟩ := List.mem_map.1 h2
        rw [← he]
        exact h.kept p' (List.mem_append_left _ hp')
      · exact .inr (Nat.le_trans h.size h2)
    · exact h.kept p (List.mem_append_right _ hp)
  · rw [List.map_append, List.nodup_append]
    refine ⟨h1.nd, hnd.2.1, ?_⟩
    intro x hx y hy he
    obtain ⟨p, hp, rfl⟩ := List.mem_map.1 hx
    obtain ⟨q, hq, rfl⟩ := List.mem_map.1 hy
    have := h.lt (List.mem_append_right S hq)
    rcases h1.kept p hp with h2 | h2
    · exact hnd.2.2 _ h2 _ hy he
    · omega
/-- what is known now, told from now on -/
theorem Mem.now {w0 w : World} {ks : List Nat} {S R : Mm} (h : Mem w0 ks (S ++ R) w) : Mem w (S.map (·.1)) S w := by
  have hnd := h.nd
  rw [List.map_append, List.nodup_append] at hnd
  exact ⟨Nat.le_refl _, rfl, rfl, rfl, fun _ _ _ => rfl, fun p hp => h.known p (List.mem_append_left _ hp), fun p hp => .inl (List.mem_map_of_mem hp), hnd.1⟩

/-! ### channels -/
def cB (cap : Nat) (buf : List Value) (s r : Nat) : Blk := .o (.chan cap buf.toArray false s r false)
theorem zx_makeChan (ht : TabOk c.P tb) {t e : TypeId} {dir : ChanDir} {tz m : Nat} {tzs : List Value} {x : Operand} {nb : Nat} (hw : wn ops F g = some true) (htt : lookT tb t = some ⟨.chan dir e, tz, tzs⟩) (hi : (c.P.info? e).map (·.bytes) = some nb) (hx : ev F x = some (.int .i64 (m : Nat)))
    (hb : (nb : Int) * m ≤ 281474976710544) (h63 : (m : Int) ≤ 9223372036854775807) (hd : Nat.blt d n = true)
    (h : ∀ b, ZX c false n ((d, .chan (some b)) :: F) w0 ks ((b, cB m [] 0 0) :: L) D ops (i + 1) rest k) : ZX c false n F w0 ks L D ops i (⟨some d, .makeChan t x, ty, pos, af, g⟩ :: rest) k :=
  zx_new (v := fun b => .chan (some b)) hw hd (fun a w h2 h3 => by
    obtain ⟨inf, hi', he⟩ := Option.map_eq_some_iff.1 hi
    have := run_makeChan (P := c.P) (w := w) (ht _ _ htt).und hi' .i64 m h63 (by rw [he]; exact hb)
    simp [execOp, ev_eval h2 hx, this, cB, Blk.obj]) h

/-- a select, the region's first operation -/
theorem z_comm {id : Nat} {op : Op} {v : Value} {L' : Mm} (hX : c.X = none) (hl : ops.toList = ⟨some d, op, ty, pos, af, none⟩ :: rest) (hd : Nat.blt d n = true)
    (hstep : ∀ a w js, Has F a → Mem w0 ks L w → ops[0]? = some ⟨some d, op, ty, pos, af, none⟩ → ∃ w', Mem w0 ks L' w' ∧ step c.P (solo (G (c.b.at a (.inRegion ops (0 :: js) :: k)) c.cs) w) = .next (solo (G ((c.b.at a (.inRegion ops (0 :: js) :: k)).finish v) c.cs) w'))
    (h : ZX c false n ((d, v) :: F) w0 ks L' D ops 1 rest k) : Z c n F w0 ks L D (.code (.region id ops false) :: k) := by
  refine ⟨fun a w a1 a2 a3 a4 => ?_⟩
  have h0 : ops[0]? = some ⟨some d, op, ty, pos, af, none⟩ := by rw [← Array.getElem?_toList, hl]; rfl
  have hr : List.range ops.size = 0 :: List.range' 1 rest.length := by
    have : ops.size = rest.length + 1 := by rw [← Array.length_toList, hl, List.length_cons]
    rw [this, List.range_eq_range', List.range'_succ]
  obtain ⟨w', hm, hs⟩ := hstep a w (List.range' 1 rest.length) a3 a4 h0
  have hfin : (c.b.at a (.inRegion ops (0 :: List.range' 1 rest.length) :: k)).finish v = c.b.at (a.put (some d) v) (.inRegion ops (List.range' 1 rest.length) :: k) := by rw [Frame.finish_at, h0]; rfl
  rw [hfin] at hs
  have hjs : (List.range' 1 rest.length).map (fun j => ops[j]?) = rest.map some := by
    have := range_map rest [⟨some d, op, ty, pos, af, none⟩]
    rw [List.singleton_append, ← hl] at this
    simpa using this
  have hw := h.go (List.range' 1 rest.length) hjs (a.put (some d) v) w' (by unfold Act.put; simpa using a1) (by unfold Act.put; exact a2) (has_put_d hd v a a1 a3) hm
  obtain ⟨e, a', w2, hq, harr⟩ := wp_ops _ _ _ hw c.b k c.cs
  have harr' := Arrives.of_steps (.one (step_region (P := c.P) (id := id) (b := c.b) (a := a) (k := k) (cs := c.cs) (w := w))) (hr ▸ Arrives.of_steps (.one hs) harr)
  exact arrives_normal hX hq harr'
theorem run_sel1 {a : Act} {w : World} {P : Program} (ht : TabOk P tb) {x : Operand} {sd : Option Operand} {e : TypeId} {ti : TI} {cv : Value} (he : lookT tb e = some ti) (h2 : Has F a) (hx : ev F x = some cv) :
    ∃ z, (execOp a.eval ⟨some d, .select #[⟨x, sd, e⟩] false, ty, pos, af, none⟩).run P w = .ok (.comm #[{ chan := cv, send := sd.map a.eval, zero := z }] false .select) w := by
  obtain ⟨z, hz, _⟩ := (ht _ _ he).run_zero w
  refine ⟨z, ?_⟩
  simp [execOp, ev_eval h2 hx, hz, Result.andThen]
theorem z_selRoom (ht : TabOk c.P tb) {id : Nat} {x y : Operand} {e : TypeId} {ti : TI} {v : Value} {b cap s r : Nat} {buf : List Value} {L' : Mm} (j : Nat) (hX : c.X = none) (hk : c.b.kind = .normal) (hl : ops.toList = ⟨some d, .select #[⟨x, some y, e⟩] false, ty, pos, af, none⟩ :: rest) (hd : Nat.blt d n = true)
    (he : lookT tb e = some ti) (hx : ev F x = some (.chan (some b))) (hy : ev F y = some v) (hL : L[j]? = some (b, cB cap buf s r)) (hroom : buf.length < cap) (hL' : L.set j (b, cB cap (buf ++ [v]) (s + 1) r) = L')
    (h : ZX c false n ((d, .tuple #[.int .i64 0, .bool false]) :: F) w0 ks L' D ops 1 rest k) : Z c n F w0 ks L D (.code (.region id ops false) :: k) :=
  z_comm hX hl hd (fun a w js h2 hm h0 => by
    obtain ⟨z, hr⟩ := run_sel1 (a := a) (w := w) (sd := some y) (d := d) (ty := ty) (pos := pos) (af := af) ht he h2 hx
    rw [Option.map_some, ev_eval h2 hy] at hr
    have hb := hm.known _ (List.mem_of_getElem? hL)
    have hlt := hm.lt (List.mem_of_getElem? hL)
    refine ⟨_, ?_, step_lone_select_send_room (stepG_comm h0 rfl (by rw [hk]; decide) hr) hb (by simpa using hroom)⟩
    rw [← hL']
    refine hm.setBlk hL (size_setChan _ _ _ _ _ _ _ _) rfl rfl rfl ?_ ?_
    · rw [heap_setChan _ _ _ _ _ _ _ _ hlt, List.push_toArray]; rfl
    · intro k' hk'
      exact Array.getElem?_setIfInBounds_ne (Ne.symm hk')) h
theorem z_selFull (ht : TabOk c.P tb) {id : Nat} {x y : Operand} {e : TypeId} {ti : TI} {v : Value} {b cap s r : Nat} {buf : List Value} (j : Nat) (hX : c.X = none) (hk : c.b.kind = .normal) (hl : ops.toList = ⟨some d, .select #[⟨x, some y, e⟩] false, ty, pos, af, none⟩ :: rest) (hd : Nat.blt d n = true)
    (he : lookT tb e = some ti) (hx : ev F x = some (.chan (some b))) (hy : ev F y = some v) (hL : L[j]? = some (b, cB cap buf s r)) (hroom : cap ≤ buf.length)
    (h : ZX c false n ((d, .tuple #[.int .i64 (-1), .bool false]) :: F) w0 ks L D ops 1 rest k) : Z c n F w0 ks L D (.code (.region id ops false) :: k) :=
  z_comm hX hl hd (fun a w js h2 hm h0 => by
    obtain ⟨z, hr⟩ := run_sel1 (a := a) (w := w) (sd := some y) (d := d) (ty := ty) (pos := pos) (af := af) ht he h2 hx
    rw [Option.map_some, ev_eval h2 hy] at hr
    have hb := hm.known _ (List.mem_of_getElem? hL)
    exact ⟨_, hm, step_lone_select_send_full (stepG_comm h0 rfl (by rw [hk]; decide) hr) hb (by simpa using hroom)⟩) h
theorem z_selTake (ht : TabOk c.P tb) {id : Nat} {x : Operand} {e : TypeId} {ti : TI} {v : Value} {b cap s r : Nat} {buf : List Value} {L' : Mm} (j : Nat) (hX : c.X = none) (hk : c.b.kind = .normal) (hl : ops.toList = ⟨some d, .select #[⟨x, none, e⟩] false, ty, pos, af, none⟩ :: rest) (hd : Nat.blt d n = true)
    (he : lookT tb e = some ti) (hx : ev F x = some (.chan (some b))) (hL : L[j]? = some (b, cB cap (v :: buf) s r)) (hL' : L.set j (b, cB cap buf s (r + 1)) = L')
    (h : ZX c false n ((d, .tuple #[.int .i64 0, .bool true, v]) :: F) w0 ks L' D ops 1 rest k) : Z c n F w0 ks L D (.code (.region id ops false) :: k) :=
  z_comm hX hl hd (fun a w js h2 hm h0 => by
    obtain ⟨z, hr⟩ := run_sel1 (a := a) (w := w) (sd := none) (d := d) (ty := ty) (pos := pos) (af := af) ht he h2 hx
    rw [Option.map_none] at hr
    have hb := hm.known _ (List.mem_of_getElem? hL)
    have hlt := hm.lt (List.mem_of_getElem? hL)
    refine ⟨_, ?_, step_lone_select_recv_buf (stepG_comm h0 rfl (by rw [hk]; decide) hr) hb (by simp)⟩
    rw [← hL']
    refine hm.setBlk hL (size_setChan _ _ _ _ _ _ _ _) rfl rfl rfl ?_ ?_
    · rw [heap_setChan _ _ _ _ _ _ _ _ hlt]
      simp [cB, Blk.obj]
    · intro k' hk'
      exact Array.getElem?_setIfInBounds_ne (Ne.symm hk')) h
theorem z_selNone (ht : TabOk c.P tb) {id : Nat} {x : Operand} {e : TypeId} {ti : TI} {b cap s r : Nat} (j : Nat) (hX : c.X = none) (hk : c.b.kind = .normal) (hl : ops.toList = ⟨some d, .select #[⟨x, none, e⟩] false, ty, pos, af, none⟩ :: rest) (hd : Nat.blt d n = true)
    (he : lookT tb e = some ti) (hx : ev F x = some (.chan (some b))) (hL : L[j]? = some (b, cB cap [] s r)) {z : Value} (hz : ∀ w, (zeroValue e).run c.P w = .ok z w)
    (h : ZX c false n ((d, .tuple #[.int .i64 (-1), .bool false, z]) :: F) w0 ks L D ops 1 rest k) : Z c n F w0 ks L D (.code (.region id ops false) :: k) :=
  z_comm hX hl hd (fun a w js h2 hm h0 => by
    have hr : (execOp a.eval ⟨some d, .select #[⟨x, none, e⟩] false, ty, pos, af, none⟩).run c.P w = .ok (.comm #[{ chan := .chan (some b), send := none, zero := z }] false .select) w := by
      simp [execOp, ev_eval h2 hx, hz, Result.andThen]
    have hb := hm.known _ (List.mem_of_getElem? hL)
    exact ⟨_, hm, step_lone_select_default (stepG_comm h0 rfl (by rw [hk]; decide) hr) hb⟩) h
end
end Go.Proofs.Ytabcaiecoiejkaa.K
