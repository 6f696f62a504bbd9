/- Rules of the walk: deferred calls; regions that draw their order, each order taken; slices of slices; a string as bytes, bytes as a string; what is known, in another order. -/
import Derived.Test.YtabcaiecoiejkaaK12
set_option maxRecDepth 100000
set_option linter.unusedVariables false
set_option linter.unusedSimpArgs false
namespace Go.Proofs.Ytabcaiecoiejkaa.K
open Go Go.Conc
section
variable {c : Cx} {q : Bool} {n d : Nat} {F : Fr} {w0 : World} {ks : List Nat} {L0 L : Mm} {D : List Deferred} {k : List Item} {ops : Array Oper} {i : Nat} {rest : List Oper} {ty : TypeId} {pos : String} {af : Array Edge} {g : Option (Nat × Bool)} {tb : Tab}

/-! ### deferred calls -/
theorem zx_defer {f : FuncId} {as : Array Operand} {ats : Array TypeId} {vs : List Value} (hw : wn ops F g = some true) (ha : evs F as.toList = some vs)
    (h : ZX c false n F w0 ks L ({ target := .fn (.func f) #[], args := vs.toArray } :: D) ops (i + 1) rest k) : ZX c false n F w0 ks L D ops i (⟨none, .defer ⟨.value (.func f), as, ats⟩, ty, pos, af, g⟩ :: rest) k := by
  replace h := h.go
  refine ⟨fun js hd a w a1 a2 a3 a4 => ?_⟩
  obtain ⟨j, js', rfl, h0, h1⟩ := js_cons hd
  unfold wpOps
  simp only [h0]
  rw [if_pos (wn_wanted a3 hw)]
  refine .inl ?_
  have e1 : as.map a.eval = vs.toArray := by apply Array.ext'; simpa using evs_eval a3 ha
  have e2 : (execOp a.eval ⟨none, .defer ⟨.value (.func f), as, ats⟩, ty, pos, af, g⟩).run c.P w = .ok (.defer { target := .fn (.func f) #[], args := vs.toArray }) w := by
    simp [execOp, resolve, Deferred.ofValue, Act.eval, e1]
  unfold Oper.wp
  rw [e2]
  exact h js' h1 _ w a1 (by show _ :: a.defers = _; rw [a2]) a3 a4
theorem z_ret_defer {fn : Func} (hf : c.P.funcs[c.f]? = some fn) (hb : c.b.fn = c.f) (hk : c.b.kind = .normal) {f : FuncId} {vs : List Value} (hfn : Fnc c.P f) {Y : Type} {Φ : Y → Prop} {L' : Y → Mm} {v : Value}
    (hc : ∀ w, Mem w0 ks L w → CallsD c.P f vs.toArray .returning w fun e u w' => u = .returning ∧ ∃ y, Φ y ∧ (∃ rv, e = .returned rv) ∧ Mem w0 ks (L' y) w')
    (h : ∀ y a w, Φ y → Has F a → Mem w0 ks (L' y) w → (results fn a.tmps).run c.P w = .ok v w) (hR : ∀ y w, Φ y → Mem w0 ks (L' y) w → c.R (.returned v) w) :
    Z c n F w0 ks L [{ target := .fn (.func f) #[], args := vs.toArray }] (.code .ret :: k) := by
  refine ⟨fun a w a1 a2 a3 a4 => ?_⟩
  have hl : Leaves c.P fn a.tmps c.R [{ target := .fn (.func f) #[], args := vs.toArray }] .returning w := by
    refine ⟨by simp, .func f, #[], f, vs.toArray, rfl, by simp [invoke, hfn.run], ?_⟩
    refine (hc w a4).mono fun e u w' ⟨hu, y, hy, ⟨rv, he⟩, hm⟩ => ?_
    subst hu
    subst he
    exact ⟨v, h y a w' hy a3 hm, hR y w' hy hm⟩
  obtain ⟨e, w', fr', hR', hs, hfn', hlv⟩ := leaves_steps _ .returning w { c.b.at a (.code .ret :: k) with mode := .returning } c.cs rfl a2 rfl (by rw [show ({ c.b.at a (.code .ret :: k) with mode := .returning } : Frame).fn = c.f from hb]; exact hf) hk hl
  refine ⟨e, w', fr', hR', Comes.of_steps (Steps.one step_ret) hs, ?_⟩
  unfold Lv
  rw [hk]
  exact ⟨hfn'.trans hb, hlv⟩
theorem callsD_of_z {P : Program} {f : FuncId} {fn : Func} {x : Code} {args : List Value} {u : FrameMode} {w : World} {R : Ending → World → Prop} {ks : List Nat} {L : Mm} {n : Nat}
    (hf : P.funcs[f]? = some fn) (hb : fn.body = some x) (hn : fn.ntmps = n) (hle : Nat.ble args.length n = true) (hm : Mem w ks L w)
    (h : ∀ (cs : List Frame) (b : Frame), b.fn = f → b.kind = .deferred → Z ⟨P, f, R, cs, b, none⟩ n (entry 0 args) w ks L [] [.code x]) : CallsD P f args.toArray u w fun e u' w' => u' = u ∧ R e w' := by
  intro c0 cs hu
  have hle' := Nat.le_of_ble_eq_true hle
  have hc : ({ c0 with mode := u } : Frame) = c0 := by subst hu; rfl
  have henter : Frame.enter P f args.toArray .deferred =
      ({ (default : Frame) with fn := f, kind := .deferred } : Frame).at { tmps := args.toArray ++ Array.replicate (fn.ntmps - args.toArray.size) undef, defers := [] } [.code x] := by
    simp [Frame.enter, Frame.at, hf, hb]
  have := (h (c0 :: cs) { (default : Frame) with fn := f, kind := .deferred } rfl rfl).go { tmps := args.toArray ++ Array.replicate (fn.ntmps - args.toArray.size) undef, defers := [] } w
    (by simp [hn]; omega) rfl (fun d v hd => by
      have := entry_has args 0 [] (List.replicate (fn.ntmps - args.length) undef) rfl d v hd
      simp only [List.nil_append] at this
      rw [← this, ← Array.getElem?_toList]
      simp) hm
  obtain ⟨e, w', fr, hR, hcm, hl⟩ := this
  refine ⟨e, u, w', fr, ⟨rfl, hR⟩, ?_, hl.1, hl.2⟩
  rw [hc, henter]
  exact hcm
theorem z_endD0 {fn : Func} (hf : c.P.funcs[c.f]? = some fn) (hb : c.b.fn = c.f) (hk : c.b.kind = .deferred) (hr : fn.results = #[]) (hR : ∀ w, Mem w0 ks L w → c.R (.returned (.tuple #[])) w) : Z c n F w0 ks L [] [] := by
  refine ⟨fun a w a1 a2 a3 a4 => ?_⟩
  refine ⟨.returned (.tuple #[]), w, _, hR w a4, Steps.one step_end, ?_⟩
  unfold Lv
  rw [hk]
  exact ⟨hk, rfl, a2, fn, by rw [show ({ c.b.at a [] with mode := .returning } : Frame).fn = c.f from hb]; exact hf, run_res0 hr⟩
theorem z_retD0 {fn : Func} (hf : c.P.funcs[c.f]? = some fn) (hb : c.b.fn = c.f) (hk : c.b.kind = .deferred) (hr : fn.results = #[]) (hR : ∀ w, Mem w0 ks L w → c.R (.returned (.tuple #[])) w) : Z c n F w0 ks L [] (.code .ret :: k) := by
  refine ⟨fun a w a1 a2 a3 a4 => ?_⟩
  refine ⟨.returned (.tuple #[]), w, _, hR w a4, Steps.one step_ret, ?_⟩
  unfold Lv
  rw [hk]
  exact ⟨hk, rfl, a2, fn, by rw [show ({ c.b.at a (.code .ret :: k) with mode := .returning } : Frame).fn = c.f from hb]; exact hf, run_res0 hr⟩

/-! ### each order taken -/
structure ZP (c : Cx) (n : Nat) (F : Fr) (w0 : World) (ks : List Nat) (L : Mm) (D : List Deferred) (ops : Array Oper) (fuel : Nat) (l : List Bool) (k : List Item) : Prop where
  go : Nn n F w0 ks L D (wpAny c.P .any ops (Qn c k) fuel l.toArray)
def XP (c : Cx) (ops : Array Oper) (fuel : Nat) (l : List Bool) (k : List Item) (a : Act) (w : World) : Prop := wpAny c.P .any ops (Qn c k) fuel l.toArray a w
theorem z_regionP {id : Nat} (hX : c.X = none) (hm : c.P.follows .mixedOrders = true) {m : Nat} (hsz : ops.size = m) (h : ZP c n F w0 ks L D ops m (List.replicate m false) k) : Z c n F w0 ks L D (.code (.region id ops true) :: k) := by
  refine ⟨fun a w a1 a2 a3 a4 => ?_⟩
  have h1 := h.go a { w with drawn := w.drawn + 1 } a1 a2 a3 a4.drew
  rw [List.toArray_replicate, ← hsz] at h1
  obtain ⟨e, a', w', hq, harr⟩ := wp_region_any (id := id) hm h1 c.b k c.cs
  exact arrives_normal hX hq harr
theorem zp_end {l : List Bool} (hX : c.X = none) (hr : Region.ready .any ops l.toArray = []) (h : Z c n F w0 ks L D k) : ZP c n F w0 ks L D ops 0 l k := by
  refine ⟨fun a w a1 a2 a3 a4 => ⟨hr, ?_⟩⟩
  simp only [Qn, hX]
  exact h.go a w a1 a2 a3 a4
theorem zp_oned {c' : Cx} {l : List Bool} {fuel : Nat} (hX : c'.X = some (XP c ops fuel l k)) (h : ZP c n F w0 ks L D ops fuel l k) : ZX c' false n F w0 ks L D ops i [] k := by
  refine ⟨fun js hj a w a1 a2 a3 a4 => ?_⟩
  rw [List.map_eq_nil_iff.1 hj]
  show Qn c' k .normal a w
  simp only [Qn, hX]
  exact h.go a w a1 a2 a3 a4
theorem zp_step (m : Nat) {o : Oper} {fuel : Nat} {l : List Bool} (hi' : nth ops.toList m = some o)
    (h : ZX ⟨c.P, c.f, c.R, c.cs, c.b, some (XP c ops fuel (l.set m true) k)⟩ false n F w0 ks L D ops m [o] k) :
    Nn n F w0 ks L D (wpOp c.P ops (Qn c k) m (wpAny c.P .any ops (Qn c k) fuel (l.toArray.setIfInBounds m true))) := by
  have hi : ops[m]? = some o := by rw [← Array.getElem?_toList, ← nth_eq]; exact hi'
  intro a w a1 a2 a3 a4
  have hw := h.go [m] (by simp [hi]) a w a1 a2 a3 a4
  rw [wpOps_cons] at hw
  unfold wpOp at hw ⊢
  simp only [hi] at hw ⊢
  have key : ∀ a' w'', wpOps c.P ops (Qn ⟨c.P, c.f, c.R, c.cs, c.b, some (XP c ops fuel (l.set m true) k)⟩ k) [] a' w'' → wpAny c.P .any ops (Qn c k) fuel (l.toArray.setIfInBounds m true) a' w'' := by
    intro a' w'' hx
    rw [List.setIfInBounds_toArray]
    exact hx
  have hQ : ∀ e a w, e ≠ .normal → Qn ⟨c.P, c.f, c.R, c.cs, c.b, some (XP c ops fuel (l.set m true) k)⟩ k e a w → Qn c k e a w := by
    intro e a w he hq
    cases e <;> first | exact hq | exact absurd rfl he
  split
  · rename_i hwant
    simp only [hwant, if_true] at hw
    rcases hw with hw | ⟨_, hlets⟩
    · exact .inl (oper_wp_Q hQ (Oper.wp_mono key hw))
    · obtain ⟨a₀, w₀, h0⟩ := hlets
      exact h0.elim
  · rename_i hwant
    simp only [hwant, Bool.false_eq_true, if_false] at hw
    exact key _ _ hw
theorem zp_one (m : Nat) {o : Oper} {fuel : Nat} {l : List Bool} (hi' : nth ops.toList m = some o) (hr : Region.ready .any ops l.toArray = [m])
    (h : ZX ⟨c.P, c.f, c.R, c.cs, c.b, some (XP c ops fuel (l.set m true) k)⟩ false n F w0 ks L D ops m [o] k) : ZP c n F w0 ks L D ops (fuel + 1) l k := by
  refine ⟨fun a w a1 a2 a3 a4 => ⟨by simp [hr], fun j hj => ?_⟩⟩
  rw [hr, List.mem_singleton] at hj
  subst hj
  exact zp_step j hi' h a w a1 a2 a3 a4
theorem zp_two (m m' : Nat) {o o' : Oper} {fuel : Nat} {l : List Bool} (hi1 : nth ops.toList m = some o) (hi2 : nth ops.toList m' = some o') (hr : Region.ready .any ops l.toArray = [m, m'])
    (h : ZX ⟨c.P, c.f, c.R, c.cs, c.b, some (XP c ops fuel (l.set m true) k)⟩ false n F w0 ks L D ops m [o] k)
    (h' : ZX ⟨c.P, c.f, c.R, c.cs, c.b, some (XP c ops fuel (l.set m' true) k)⟩ false n F w0 ks L D ops m' [o'] k) : ZP c n F w0 ks L D ops (fuel + 1) l k := by
  refine ⟨fun a w a1 a2 a3 a4 => ⟨by simp [hr], fun j hj => ?_⟩⟩
  rw [hr, List.mem_cons, List.mem_singleton] at hj
  rcases hj with rfl | rfl
  · exact zp_step j hi1 h a w a1 a2 a3 a4
  · exact zp_step j hi2 h' a w a1 a2 a3 a4
theorem zp_three (m m' m'' : Nat) {o o' o'' : Oper} {fuel : Nat} {l : List Bool} (hi1 : nth ops.toList m = some o) (hi2 : nth ops.toList m' = some o') (hi3 : nth ops.toList m'' = some o'') (hr : Region.ready .any ops l.toArray = [m, m', m''])
    (h : ZX ⟨c.P, c.f, c.R, c.cs, c.b, some (XP c ops fuel (l.set m true) k)⟩ false n F w0 ks L D ops m [o] k)
    (h' : ZX ⟨c.P, c.f, c.R, c.cs, c.b, some (XP c ops fuel (l.set m' true) k)⟩ false n F w0 ks L D ops m' [o'] k)
    (h'' : ZX ⟨c.P, c.f, c.R, c.cs, c.b, some (XP c ops fuel (l.set m'' true) k)⟩ false n F w0 ks L D ops m'' [o''] k) : ZP c n F w0 ks L D ops (fuel + 1) l k := by
  refine ⟨fun a w a1 a2 a3 a4 => ⟨by simp [hr], fun j hj => ?_⟩⟩
  rw [hr, List.mem_cons, List.mem_cons, List.mem_singleton] at hj
  rcases hj with rfl | rfl | rfl
  · exact zp_step j hi1 h a w a1 a2 a3 a4
  · exact zp_step j hi2 h' a w a1 a2 a3 a4
  · exact zp_step j hi3 h'' a w a1 a2 a3 a4
/-- a region of quiet operations first, whatever comes first; then each order -/
theorem z_perm (L' : Mm) (hp : L'.Perm L) (h : Z c n F w0 ks L' D k) : Z c n F w0 ks L D k := ⟨fun a w a1 a2 a3 a4 => h.go a w a1 a2 a3 (a4.perm hp)⟩
theorem zx_perm (L' : Mm) {l : List Oper} (hp : L'.Perm L) (h : ZX c false n F w0 ks L' D ops i l k) : ZX c false n F w0 ks L D ops i l k := ⟨fun js hj a w a1 a2 a3 a4 => h.go js hj a w a1 a2 a3 (a4.perm hp)⟩

/-! ### slices of slices -/
theorem zx_sliceW (ht : TabOk c.P tb) {t e : TypeId} {x : Operand} {lo hi mx : Option Operand} {o : Option Addr} {len cap tz esz : Nat} {zs ez : List Value} {ed : TypeDesc} {vl vm vu : Int} (l m u : Nat) (hw : wn ops F g = some true) (htt : lookT tb t = some ⟨.slice e, tz, zs⟩) (hte : lookT tb e = some ⟨ed, esz, ez⟩)
    (hx : ev F x = some (.slice o len cap)) (hl : bnd F 0 lo = some vl) (hm : bnd F len hi = some vm) (hu : bnd F cap mx = some vu) (hmx : mx.isSome = true → hi.isSome = true) (el : vl = l) (em : vm = m) (eu : vu = u) (hd : Nat.blt d n = true) (h1 : l ≤ m) (h2' : m ≤ u) (h3' : u ≤ cap)
    (h : ZX c q n ((d, .slice (if u = l then o else o.map (·.add (l * esz))) (m - l) (u - l)) :: F) w0 ks L D ops (i + 1) rest k) : ZX c q n F w0 ks L D ops i (⟨some d, .slice t x lo hi mx, ty, pos, af, g⟩ :: rest) k :=
  zx_val hw hd (fun a w h2 _ => by
    have h3 := (ht _ _ htt).run_und w
    have h4 := (ht _ _ hte).run_size w
    simp only at h3 h4
    subst el em eu
    have bl : ∀ (z : Operand) (dflt : Nat) (v : Int), bnd F dflt (some z) = some v → ∃ kk, a.eval z = .int kk v := by
      intro z dflt v hz
      simp only [bnd] at hz
      split at hz
      · rename_i kk v' hv
        simp only [Option.some.injEq] at hz
        subst hz
        exact ⟨kk, ev_eval h2 hv⟩
      · simp at hz
    have i1 : (l : Int) ≤ (m : Int) := by omega
    have i2 : (m : Int) ≤ (u : Int) := by omega
    have i3 : (u : Int) ≤ (cap : Int) := by omega
    have i4 : (m : Int) ≤ (cap : Int) := by omega
    have n1 : (0 : Int) ≤ (l : Int) := by omega
    have n2 : (0 : Int) ≤ (m : Int) := by omega
    have n3 : (0 : Int) ≤ (u : Int) := by omega
    cases lo with
    | none =>
      simp only [bnd, Option.some.injEq] at hl
      have hl0 : l = 0 := by omega
      subst hl0
      cases hi with
      | none =>
        cases mx with
        | none =>
          simp only [bnd, Option.some.injEq] at hm hu
          have e1 : m = len := by omega
          have e2 : u = cap := by omega
          subst e1 e2
          simp [execOp, ev_eval h2 hx, Instr.sliceAt, Instr.slice, h3, h4, Instr.sliceBounds]
        | some z => simp at hmx
      | some y =>
        obtain ⟨k1, hy⟩ := bl y _ _ hm
        cases mx with
        | none =>
          simp only [bnd, Option.some.injEq] at hu
          have e2 : u = cap := by omega
          subst e2
          simp [execOp, ev_eval h2 hx, Instr.sliceAt, Instr.slice, h3, h4, Instr.sliceBounds, Instr.sliceBound, hy, asIntOf, n2, i2, h2']
        | some z =>
          obtain ⟨k2, hz⟩ := bl z _ _ hu
          simp [execOp, ev_eval h2 hx, Instr.sliceAt, Instr.slice, h3, h4, Instr.sliceBounds, Instr.sliceBound, hy, hz, asIntOf, n2, i2, n3, i3, h2', h3']
    | some xl =>
      obtain ⟨k0, hxl⟩ := bl xl _ _ hl
      cases hi with
      | none =>
        cases mx with
        | none =>
          simp only [bnd, Option.some.injEq] at hm hu
          have e1 : m = len := by omega
          have e2 : u = cap := by omega
          subst e1 e2
          simp [execOp, ev_eval h2 hx, Instr.sliceAt, Instr.slice, h3, h4, Instr.sliceBounds, Instr.sliceBound, hxl, asIntOf, n1, i1, h1]
        | some z => simp at hmx
      | some y =>
        obtain ⟨k1, hy⟩ := bl y _ _ hm
        cases mx with
        | none =>
          simp only [bnd, Option.some.injEq] at hu
          have e2 : u = cap := by omega
          subst e2
          simp [execOp, ev_eval h2 hx, Instr.sliceAt, Instr.slice, h3, h4, Instr.sliceBounds, Instr.sliceBound, hxl, hy, asIntOf, n1, i1, n2, i2, h1, h2']
        | some z =>
          obtain ⟨k2, hz⟩ := bl z _ _ hu
          simp [execOp, ev_eval h2 hx, Instr.sliceAt, Instr.slice, h3, h4, Instr.sliceBounds, Instr.sliceBound, hxl, hy, hz, asIntOf, n1, i1, n2, i2, n3, i3, h1, h2', h3']) h
/-- bytes of a known block as a string -/
theorem zx_b2sR {s t e : TypeId} {x : Operand} {tz sz esz : Nat} {tzs zs ez : List Value} (ht : TabOk c.P tb) (j : Nat) (l : List Int) {b off len cap : Nat} {cs : List Value} {et : TypeId} {lo hi : Nat} (hw : wn ops F g = some true)
    (hts : lookT tb s = some ⟨.slice e, sz, zs⟩) (htt : lookT tb t = some ⟨.string, tz, tzs⟩) (hte : lookT tb e = some ⟨.int .u8, esz, ez⟩) (hx : ev F x = some (.slice (some ⟨b, off, none⟩) len cap)) (hL : L[j]? = some (b, .c cs et lo hi)) (hc : (cs.drop off).take len = l.map (Value.int .u8)) (hlen : l.length = len) (hd : Nat.blt d n = true)
    (h : ZX c q n ((d, .string (ofInts l)) :: F) w0 ks L D ops (i + 1) rest k) : ZX c q n F w0 ks L D ops i (⟨some d, .convert s t x, ty, pos, af, g⟩ :: rest) k :=
  zx_val hw hd (fun a w h2 h3 => by
    have h1 := (ht _ _ hts).run_und w
    have h4 := (ht _ _ htt).run_und w
    have h5 := (ht _ _ hte).run_und w
    simp only at h1 h4 h5
    have h6 := run_loadCells_list (P := c.P) w ⟨b, off, none⟩ (l.map (Value.int .u8)) (fun j' u hu => by
      have hj : j' < (l.map (Value.int .u8)).length := (List.getElem?_eq_some_iff.1 hu).1
      rw [addr_add, h3.cell hL]
      rw [← hc, List.getElem?_take_of_lt (by rw [List.length_map] at hj; omega), List.getElem?_drop] at hu
      exact hu)
    rw [List.length_map, hlen] at h6
    have h7 := run_bytesToString w ⟨b, off, none⟩ len cap l h6
    have h8 := foldl_ofInts l ByteArray.empty
    have h9 : ByteArray.empty ++ ofInts l = ofInts l := by apply ByteArray.ext; simp
    rw [h8, h9] at h7
    simp [execOp, ev_eval h2 hx, convert, h1, h4, h5, h7]) h
theorem zx_b2sN {s t e : TypeId} {x : Operand} {tz sz esz : Nat} {tzs zs ez : List Value} (ht : TabOk c.P tb) {o : Option Addr} {cap : Nat} (hw : wn ops F g = some true)
    (hts : lookT tb s = some ⟨.slice e, sz, zs⟩) (htt : lookT tb t = some ⟨.string, tz, tzs⟩) (hte : lookT tb e = some ⟨.int .u8, esz, ez⟩) (hx : ev F x = some (.slice none 0 cap)) (hd : Nat.blt d n = true)
    (h : ZX c q n ((d, .string (ofInts [])) :: F) w0 ks L D ops (i + 1) rest k) : ZX c q n F w0 ks L D ops i (⟨some d, .convert s t x, ty, pos, af, g⟩ :: rest) k :=
  zx_val hw hd (fun a w h2 h3 => by
    have h1 := (ht _ _ hts).run_und w
    have h4 := (ht _ _ htt).run_und w
    have h5 := (ht _ _ hte).run_und w
    simp only at h1 h4 h5
    have hz : ofInts [] = ByteArray.empty := by apply ByteArray.ext; simp [ofInts]
    simp [execOp, ev_eval h2 hx, convert, h1, h4, h5, Conv.bytesToString, hz]) h
end
end Go.Proofs.Ytabcaiecoiejkaa.K
