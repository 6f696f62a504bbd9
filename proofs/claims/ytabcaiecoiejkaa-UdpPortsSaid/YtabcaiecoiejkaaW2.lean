/- Walk of List: slices.Sorted over maps.Keys, at a map that holds entries. A rule of the engine: a load of some cells that came in (as in S13, with nothing of the sessions). Plain: three sets of ports side by side; how many ports are open. -/
import Derived.Test.YtabcaiecoiejkaaU2
import Derived.Test.YtabcaiecoiejkaaW1
import Derived.Test.YtabcaiecoiejkaaK18
set_option maxRecDepth 100000
set_option linter.unusedSimpArgs false
set_option linter.unusedVariables false
set_option maxHeartbeats 2000000
namespace Go.Proofs.Ytabcaiecoiejkaa
open Go K Go.RowKit Go.Maps Go.Sort Go.Shelf

theorem key_at (n : Int) (h : 0 ≤ n ∧ n ≤ 65535) : keyOf Try.prog 3 (.int .i64 n) = some (.int .i64 n) := by
  have hw : (Lit.int .i64 n).wf = true := by
    simp only [Lit.wf, Bool.and_eq_true, decide_eq_true_eq]
    simp [IntKind.min, IntKind.max, IntKind.bits, IntKind.signed]
    omega
  simp [keyOf, Try.underlying3, mapKey, hw]
theorem rd_at (R : Value → Option (DataW Unit × List MemPlace)) (hR : ∀ v, R v = some (.nil, [])) (c : Chn) (h : 0 ≤ c.n ∧ c.n ≤ 65535) : Go.WideElems.rd Try.prog 3 R (mE c.en) = some (.int .i64 c.n, .nil) := Go.WideElems.rd_mk (R := R) (yv := (.nil, [])) (key_at c.n h) (hR _)
theorem keys_of (R : Value → Option (DataW Unit × List MemPlace)) (hR : ∀ v, R v = some (.nil, [])) : ∀ (cs : List Chn), (∀ c ∈ cs, 0 ≤ c.n ∧ c.n ≤ 65535) → ((cs.map Chn.en).map mE).map (fun x => _root_.Go.intOf (Go.WideElems.rg Try.prog 3 R x).1) = cs.map Chn.n
  | [], _ => rfl
  | c :: cs, h => by
    rw [List.map_cons, List.map_cons, List.map_cons, List.map_cons, keys_of R hR cs (fun x hx => h x (List.mem_cons_of_mem _ hx)), Go.WideElems.rg_of (rd_at R hR c (h c (List.mem_cons_self ..)))]
    rfl
theorem own_of (w : World) (mb ck : Nat) (cs : List Chn) (hl : cs.length ≤ 16) (h : ∀ c ∈ cs, 0 ≤ c.n ∧ c.n ≤ 65535) (hd : (cs.map Chn.n).Nodup) (hs1 : ∀ c ∈ cs, c.ck < ck) (hs2 : (cs.map Chn.ck).Nodup) (hb : w.heap[mb]? = some (mB (cs.map Chn.en) ck).obj) :
    ∃ (R : Value → Option (DataW Unit × List MemPlace)) (D : DataW Unit), w.ownsMap Try.prog 3 R mb cs.length D ∧ Maps.size D = cs.length ∧ (intKeys D).Perm (cs.map Chn.n) := by
  obtain ⟨R, hR⟩ : ∃ R : Value → Option (DataW Unit × List MemPlace), ∀ v, R v = some (.nil, []) := ⟨fun _ => some (.nil, []), fun _ => rfl⟩
  obtain ⟨es, hes⟩ : ∃ es : Array MapEntry, es = ((cs.map Chn.en).map mE).toArray := ⟨_, rfl⟩
  have hel : es.toList = (cs.map Chn.en).map mE := by rw [hes]
  have hmem : ∀ x ∈ (cs.map Chn.en).map mE, ∃ c ∈ cs, mE c.en = x := fun x hx => by
    obtain ⟨y, hy, rfl⟩ := List.mem_map.1 hx
    obtain ⟨c, hc, rfl⟩ := List.mem_map.1 hy
    exact ⟨c, hc, rfl⟩
  have e1 : ((cs.map Chn.en).map mE).map (·.born) = cs.map Chn.ck := by rw [List.map_map, List.map_map]; rfl
  have e2 : ((cs.map Chn.en).map mE).map (·.key) = (cs.map Chn.n).map (Value.int .i64) := by rw [List.map_map, List.map_map, List.map_map]; rfl
  have esz : es.size = cs.length := by simp [hes]
  refine ⟨R, .map ((es.toList.map (Go.WideElems.rg Try.prog 3 R)).foldr DataW.insert []), ⟨es, ck, ?_, ⟨?_, ⟨?_, ?_, ?_⟩, ?_⟩, ?_, rfl⟩, ?_, ?_⟩
  · rw [hes]; exact hb
  · rw [esz]
    exact Nat.le_trans hl (by decide)
  · intro x hx
    rw [hel] at hx
    obtain ⟨c, hc, rfl⟩ := hmem x hx
    exact hs1 c hc
  · rw [hel, e1]; exact hs2
  · rw [hel, e2]
    exact List.Pairwise.map _ (fun a b hab hh => hab (Value.int.inj hh).2) hd
  · intro x hx
    rw [hel] at hx
    obtain ⟨c, hc, rfl⟩ := hmem x hx
    exact ⟨_, rd_at R hR c (h c hc)⟩
  · exact Nat.le_of_eq esz
  · rw [Maps.size_eq, (Go.WideShapes.sorted_perm _).length_eq, List.length_map, Array.length_toList, esz]
  · show (((es.toList.map (Go.WideElems.rg Try.prog 3 R)).foldr DataW.insert []).map fun p => _root_.Go.intOf p.1).Perm _
    refine ((Go.WideShapes.sorted_perm _).map _).trans ?_
    rw [List.map_map, hel]
    exact List.Perm.of_eq (keys_of R hR cs h)
/-- what List hands back -/
def Lst (w w' : World) (v : Value) (l : List Int) : Prop := ∃ ss : List Int, ss.Perm l ∧ w'.ownsRow w.heap.size 3 1 v ss.length ((ss.mergeSort (fun x y => decide (x ≤ y))).map encZ)
theorem Keys3_any (mb : Option Nat) (w : World) : Calls Try.prog 116 [.map mb].toArray w fun e w' => ∃ k : Nat, True ∧ e = .returned (.func (.func 135) #[] #[ptr k]) ∧ Mem w [] [(k, .c [.map mb] 158 0 0)] w' := by
  refine calls_of_z Try.func116 rfl Try.ntmps116 rfl (Mem.refl w) ?_; intro cs b hb hk
  repeat (first | (refine st ?_) | (refine stx ?_) | (intro _))
  rename_i k
  refine z_ret1 tab_ok Try.func116 hb hk Try.results116 (.tmp rfl) (fun w hm => ?_)
  exact ⟨k, trivial, rfl, hm⟩
theorem Sorted3_any (k mb ck : Nat) (cs : List Chn) (hl : cs.length ≤ 16) (h : ∀ c ∈ cs, 0 ≤ c.n ∧ c.n ≤ 65535) (hd : (cs.map Chn.n).Nodup) (hs1 : ∀ c ∈ cs, c.ck < ck) (hs2 : (cs.map Chn.ck).Nodup) (w : World) (hb : w.heap[mb]? = some (mB (cs.map Chn.en) ck).obj) (hc : w.cell? ⟨k, 0, none⟩ = some (.map (some mb))) :
    Calls Try.prog 109 [.func (.func 135) #[] #[ptr k]].toArray w fun e w' => ∃ v : Value, Lst w w' v (cs.map Chn.n) ∧ e = .returned v ∧ Mem w [] [] w' := by
  have hlt := World.block_lt_of_cell? w _ hc
  obtain ⟨R, D, hown, hsz, hkeys⟩ := own_of w mb ck cs hl h hd hs1 hs2 hb
  have hseq : SeqGives Fence.wide 2 Try.prog 135 #[.pointer (some ⟨k, 0, none⟩)] encZ (fun ss : List Int => ss.Perm (intKeys D)) (Maps.size D) w :=
    AnyZI.keys_gives (ρ := Try.keysA_ren) { Try.keysA with } Fence.wide _ trivial rfl (by omega) k mb cs.length D w hlt hc hown
  have cS := AnyZI.sorted_in Try.sortedA Fence.wide 5 trivial trivial trivial trivial rfl (by omega) (sortsA _) (enters_of Try.func133 (by kernel_rfl) rfl) 135 #[.pointer (some ⟨k, 0, none⟩)] trivial (enters_of Try.func135 (by kernel_rfl) rfl) _ (Maps.size D) (by rw [hsz]; exact Nat.le_trans hl (by decide)) (by omega) _ hseq
  refine ((callsIn_wide (n := 5)).1 cS).mono fun e w' ⟨v, ss, he, hS, hrow, hnil, hbl⟩ => ?_
  exact ⟨v, ⟨ss, hS.trans hkeys, hrow⟩, he, below_mem hbl⟩
theorem Sorted3_nil (k : Nat) (w : World) (hc : w.cell? ⟨k, 0, none⟩ = some (.map none)) : Calls Try.prog 109 [.func (.func 135) #[] #[ptr k]].toArray w fun e w' => ∃ v : Value, Lst w w' v [] ∧ e = .returned v ∧ Mem w [] [] w' := by
  have hlt := World.block_lt_of_cell? w _ hc
  have hseq : SeqGives Fence.wide 2 Try.prog 135 #[.pointer (some ⟨k, 0, none⟩)] encZ (fun ss : List Int => ss = []) 0 w :=
    AnyZI.keys_gives_nil (ρ := Try.keysA_ren) { Try.keysA with } Fence.wide _ trivial rfl k w hlt hc
  have cS := AnyZI.sorted_in Try.sortedA Fence.wide 5 trivial trivial trivial trivial rfl (by omega) (sortsA _) (enters_of Try.func133 (by kernel_rfl) rfl) 135 #[.pointer (some ⟨k, 0, none⟩)] trivial (enters_of Try.func135 (by kernel_rfl) rfl) _ 0 (Nat.zero_le _) (by omega) _ hseq
  refine ((callsIn_wide (n := 5)).1 cS).mono fun e w' ⟨v, ss, he, hS, hrow, hnil, hb⟩ => ?_
  exact ⟨v, ⟨ss, List.Perm.of_eq hS, hrow⟩, he, below_mem hb⟩
theorem Lst.form {w w' : World} {v : Value} {l : List Int} (h : Lst w w' v l) : ∃ a cap, v = .slice a l.length cap := by
  obtain ⟨ss, hp, hr⟩ := h
  rcases hr.2 with ⟨h1, h2⟩ | ⟨g, cap, cur, hv, _⟩
  · exact ⟨none, 0, by rw [h1, ← hp.length_eq, h2]⟩
  · exact ⟨some ⟨g, 0, none⟩, cap, by rw [hv, hp.length_eq]⟩
/-- what the numbers of open ports are -/
def inRange (cs : List Chn) : Prop := ∀ c ∈ cs, 0 ≤ c.n ∧ c.n ≤ 65535
theorem ListV (x : Pq) (hx : WQ x) (hl : x.cs.length ≤ 16) (hr : inRange x.cs) (w : World) (hw : Mem w ((mQ x).map (·.1)) (mQ x) w) :
    Calls Try.prog 63 [ptr x.p].toArray w fun e w' => ∃ v : Value × World, (∃ w0, Lst v.2 w0 v.1 (x.cs.map Chn.n)) ∧ e = .returned v.1 ∧ Mem w [] [] w' := by
  obtain ⟨p, sq⟩ := x
  cases sq with
  | none =>
    have hw : Mem w [p] [pP p none] w := hw
    refine calls_of_z Try.func63 rfl Try.ntmps63 rfl hw ?_; intro cs b hb hk
    repeat (first | (refine st ?_) | (refine stx ?_) | (intro _))
    refine zx_call (Y := Nat) (v := fun k => .func (.func 135) #[] #[ptr k]) (Φ := fun _ => True) (L' := fun k => [(k, .c [.map none] 158 0 0), pP p none]) rfl fnc116 rfl rfl (fun w1 hm1 => (Keys3_any none w1).mono fun e w' ⟨k, _, he, hm'⟩ => ⟨k, trivial, he, hm1.trans0 hm'⟩) (fun k _ => ?_)
    refine zx_call (Y := Value × World) (v := fun y => y.1) (Φ := fun y => ∃ w0, Lst y.2 w0 y.1 []) (L' := fun _ => [(k, .c [.map none] 158 0 0), pP p none]) rfl fnc109 rfl rfl (fun w1 hm1 => (Sorted3_nil k w1 (hm1.cell (i := 0) rfl)).mono fun e w' ⟨v, hv, he, hm'⟩ => ⟨(v, w1), ⟨w', hv⟩, he, by have := hm1.trans0 hm'; rwa [List.nil_append] at this⟩) (fun y hy => ?_)
    repeat (first | (refine st ?_) | (refine stx ?_) | (intro _))
    refine z_ret1 tab_ok Try.func63 hb hk Try.results63 (.tmp rfl) (fun w hm => ?_)
    exact ⟨y, hy, rfl, MQ.back (S := [pP p none]) hw hm (List.Sublist.cons _ (List.Sublist.refl _))⟩
  | some z =>
    obtain ⟨mb, ck, ds⟩ := z
    obtain ⟨hs1, hs2⟩ : (∀ x ∈ ds, x.ck < ck) ∧ (ds.map Chn.ck).Nodup := hx.stamp
    have hd : (ds.map Chn.n).Nodup := hx.dist
    have hw : Mem w ((mP p mb ck ds).map (·.1)) (mP p mb ck ds) w := hw
    refine calls_of_z Try.func63 rfl Try.ntmps63 rfl hw ?_; intro cs b hb hk
    repeat (first | (refine st ?_) | (refine stx ?_) | (intro _))
    refine zx_call (Y := Nat) (v := fun k => .func (.func 135) #[] #[ptr k]) (Φ := fun _ => True) (L' := fun k => (k, .c [.map (some mb)] 158 0 0) :: mP p mb ck ds) rfl fnc116 rfl rfl (fun w1 hm1 => (Keys3_any (some mb) w1).mono fun e w' ⟨k, _, he, hm'⟩ => ⟨k, trivial, he, hm1.trans0 hm'⟩) (fun k _ => ?_)
    refine zx_call (Y := Value × World) (v := fun y => y.1) (Φ := fun y => ∃ w0, Lst y.2 w0 y.1 (ds.map Chn.n)) (L' := fun _ => (k, .c [.map (some mb)] 158 0 0) :: mP p mb ck ds) rfl fnc109 rfl rfl (fun w1 hm1 => (Sorted3_any k mb ck ds hl hr hd hs1 hs2 w1 (hm1.known _ (List.mem_cons_of_mem _ (List.mem_cons_of_mem _ (List.mem_cons_self ..)))) (hm1.cell (i := 0) rfl)).mono fun e w' ⟨v, hv, he, hm'⟩ => ⟨(v, w1), ⟨w', hv⟩, he, by have := hm1.trans0 hm'; rwa [List.nil_append] at this⟩) (fun y hy => ?_)
    repeat (first | (refine st ?_) | (refine stx ?_) | (intro _))
    refine z_ret1 tab_ok Try.func63 hb hk Try.results63 (.tmp rfl) (fun w hm => ?_)
    exact ⟨y, hy, rfl, MQ.back hw hm (List.Sublist.cons _ (List.Sublist.refl _))⟩
end Go.Proofs.Ytabcaiecoiejkaa
namespace Go.Proofs.Ytabcaiecoiejkaa
open Go K
section
variable {c : Cx} {q : Bool} {n : Nat} {F : Fr} {w0 : World} {ks : List Nat} {L : Mm} {D : List Deferred} {ops : Array Oper} {i : Nat} {rest : List Oper} {k : List Item}
/-- a load of some cells that came in -/
theorem zx_loadBB {tb : Tab} (ht : TabOk c.P tb) {d : Nat} {t : TypeId} {x : Operand} {ty : TypeId} {pos : String} {af : Array Edge} {g : Option (Nat × Bool)} {ti : TI} {b off : Nat} (vs : List Value) (hw : wn ops F g = some true)
    (htt : lookT tb t = some ti) (hag : isAggD ti.desc = true) (hx : ev F x = some (.pointer (some ⟨b, off, none⟩))) (hc : ∀ m u, vs[m]? = some u → w0.cell? ⟨b, off + m, none⟩ = some u) (hk : b ∉ ks) (hlen : Nat.beq vs.length ti.size = true) (hd : Nat.blt d n = true)
    (h : ZX c q n ((d, .agg vs.toArray) :: F) w0 ks L D ops (i + 1) rest k) : ZX c q n F w0 ks L D ops i (⟨some d, .load t x, ty, pos, af, g⟩ :: rest) k :=
  zx_val hw hd (fun a w h2 h3 => by
    have h1 := (ht _ _ htt).run_agg w
    rw [hag] at h1
    have hs := (ht _ _ htt).run_size w
    have hl : vs.length = ti.size := Nat.eq_of_beq_eq_true hlen
    have h4 := run_loadCells_list (P := c.P) w ⟨b, off, none⟩ vs (fun m u hu => by
      rw [addr_add]
      exact h3.cellB (hc m u hu) hk)
    rw [hl] at h4
    simp [execOp, ev_eval h2 hx, Instr.loadAt, Instr.sureAddr, loadVar, h1, hs, h4]) h
end
end Go.Proofs.Ytabcaiecoiejkaa
namespace Go.Proofs.Ytabcaiecoiejkaa
open Go K

theorem StrsAt.now {w w1 : World} {L S : Mm} {ia : Option Addr} {l : List ByteArray} (h : StrsAt w [] ia l) (hm : Mem w [] L w1) (hs : ∀ p ∈ S, p ∈ L) : StrsAt w1 (S.map (·.1)) ia l := by
  obtain ⟨bi, ioff, h1, h2, h3⟩ := h
  refine ⟨bi, ioff, ?_, h2, fun j x hx => hm.cellB (h3 j x hx) (by simp)⟩
  rcases h1 with h1 | ⟨h1, _⟩
  · exact .inl h1
  · cases l with
    | nil => exact .inl rfl
    | cons y l =>
      refine .inr ⟨h1, fun hb => ?_⟩
      obtain ⟨p, hp, hpb⟩ := List.mem_map.1 hb
      have hlt := World.block_lt_of_cell? w _ (h3 0 y rfl)
      simp only at hlt
      rcases hm.kept p (hs p hp) with hk | hk
      · cases hk
      · omega
/-- a call of one set of ports, the others beside it -/
theorem at3 {f : Nat} {args : List Value} {x : Pq} {v : Value} {n : Int} {r : Vw} {w0 w : World} {ks : List Nat} {L R : Mm} (hm : Mem w0 ks L w) (hp : (mQ x ++ R).Perm L) (T : Mm → Mm) (hT : ∀ S, (T S).Perm (S ++ R))
    (h : Mem w ((mQ x).map (·.1)) (mQ x) w → Calls Try.prog f args.toArray w fun e w' => ∃ x' : Pq, Stp x x' n r ∧ e = .returned v ∧ Mem w ((mQ x).map (·.1)) (mQ x') w') :
    Calls Try.prog f args.toArray w fun e w' => ∃ x' : Pq, Stp x x' n r ∧ e = .returned v ∧ Mem w0 ks (T (mQ x')) w' := by
  have hm2 := hm.perm hp
  refine (h (Mem.now (S := mQ x) (R := R) hm2)).mono fun e w' ⟨x', hs, he, hm'⟩ => ⟨x', hs, he, ?_⟩
  exact (Mem.call (S := mQ x) (S' := mQ x') (R := R) hm2 hm').perm (hT _)
theorem at3q {f : Nat} {args : List Value} {S : Mm} {v : Value} {w0 w : World} {ks : List Nat} {L R : Mm} (hm : Mem w0 ks L w) (hp : (S ++ R).Perm L) (h : MQ f args S v) : Calls Try.prog f args.toArray w fun e w' => e = .returned v ∧ Mem w [] [] w' :=
  h w (Mem.now (S := S) (R := R) (hm.perm hp))
theorem px3 (Q X K : Mm) : (X ++ (Q ++ K)).Perm (Q ++ (X ++ K)) := by
  rw [← List.append_assoc, ← List.append_assoc]
  exact List.perm_append_comm.append_right K
theorem px1 (Q X K : Mm) : (Q ++ (X ++ K)).Perm (X ++ (Q ++ K)) := (px3 Q X K).symm
theorem px2 (Q X Y K : Mm) : (Q ++ (X ++ (Y ++ K))).Perm (Y ++ (Q ++ (X ++ K))) := ((px1 X Y K).append_left Q).trans (px1 Q Y (X ++ K))
theorem px0 (Q X Y Z : Mm) : (Q ++ (X ++ (Y ++ Z))).Perm (Z ++ (Q ++ (X ++ Y))) := ((List.perm_append_comm.append_left X).append_left Q).trans (px2 Q X Z Y)
/-- the numbers of the open ports, where no port but a and b is open -/
theorem ports_of {x : Pq} (hx : WQ x) {a b : Int} (hab : a ≠ b) (h : ∀ m, m ≠ a → m ≠ b → vw x.cs m = none) : (x.cs.map Chn.n).Perm ([a, b].filter fun m => (vw x.cs m).isSome) := by
  refine (List.perm_ext_iff_of_nodup hx.dist (List.Nodup.sublist List.filter_sublist (by simp [hab]))).2 fun m => ?_
  have key : m ∈ x.cs.map Chn.n ↔ (vw x.cs m).isSome = true := by
    constructor
    · intro hm
      cases hv : vw x.cs m with
      | none =>
        obtain ⟨c, hc, hcn⟩ := List.mem_map.1 hm
        exact absurd hcn (vw_none hv c hc)
      | some v => rfl
    · intro hm
      obtain ⟨v, hv⟩ := Option.isSome_iff_exists.1 hm
      obtain ⟨pre, c, post, h1, h2, _⟩ := vw_some hv
      rw [h1]
      exact List.mem_map.2 ⟨c, List.mem_append_right _ (List.mem_cons_self ..), h2⟩
  rw [key, List.mem_filter]
  refine ⟨fun hm => ⟨?_, hm⟩, fun hm => hm.2⟩
  by_cases h1 : m = a
  · simp [h1]
  by_cases h2 : m = b
  · simp [h2]
  rw [h m h1 h2] at hm
  cases hm
/-- what stands in one is what stands in the two others -/
structure Apt (x y z : Pq) : Prop where
  wx : WQ x
  wy : WQ y
  wz : WQ z
  one : vw y.cs 1001 = vw x.cs 1001
  two : vw z.cs 2002 = vw x.cs 2002
  nx : ∀ m, m ≠ 1001 → m ≠ 2002 → vw x.cs m = none
  ny : ∀ m, m ≠ 1001 → vw y.cs m = none
  nz : ∀ m, m ≠ 2002 → vw z.cs m = none
theorem Apt.count {x y z : Pq} (h : Apt x y z) : x.cs.length = y.cs.length + z.cs.length ∧ x.cs.length ≤ 2 := by
  have h1 := (ports_of h.wx (a := 1001) (b := 2002) (by decide) h.nx).length_eq
  have h2 := (ports_of h.wy (a := 1001) (b := 2002) (by decide) (fun m a _ => h.ny m a)).length_eq
  have h3 := (ports_of h.wz (a := 1001) (b := 2002) (by decide) (fun m _ b => h.nz m b)).length_eq
  rw [List.length_map] at h1 h2 h3
  rw [h1, h2, h3]
  simp only [List.filter, h.one, h.two, h.ny 2002 (by decide), h.nz 1001 (by decide)]
  cases (vw x.cs 1001).isSome <;> cases (vw x.cs 2002).isSome <;> simp
theorem Apt.range {x : Pq} (hx : WQ x) (h : ∀ m, m ≠ 1001 → m ≠ 2002 → vw x.cs m = none) : inRange x.cs := fun c hc => by
  have := (ports_of hx (a := 1001) (b := 2002) (by decide) h).mem_iff.1 (List.mem_map.2 ⟨c, hc, rfl⟩)
  have := (List.mem_filter.1 this).1
  rcases List.mem_cons.1 this with h | h
  · omega
  · have := List.mem_singleton.1 h
    omega
theorem Apt.stepOne {x y z x' y' : Pq} {r : Vw} (h : Apt x y z) (hx : Stp x x' 1001 r) (hy : Stp y y' 1001 r) : Apt x' y' z := by
  refine ⟨hx.wq, hy.wq, h.wz, by rw [hx.here, hy.here], ?_, ?_, ?_, h.nz⟩
  · rw [h.two, hx.others 2002 (by decide)]
  · intro m h1 h2; rw [hx.others m h1]; exact h.nx m h1 h2
  · intro m h1; rw [hy.others m h1]; exact h.ny m h1
theorem Apt.stepTwo {x y z x' z' : Pq} {r : Vw} (h : Apt x y z) (hx : Stp x x' 2002 r) (hz : Stp z z' 2002 r) : Apt x' y z' := by
  refine ⟨hx.wq, h.wy, hz.wq, ?_, by rw [hx.here, hz.here], ?_, h.ny, ?_⟩
  · rw [h.one, hx.others 1001 (by decide)]
  · intro m h1 h2; rw [hx.others m h2]; exact h.nx m h1 h2
  · intro m h1; rw [hz.others m h1]; exact h.nz m h1
end Go.Proofs.Ytabcaiecoiejkaa
