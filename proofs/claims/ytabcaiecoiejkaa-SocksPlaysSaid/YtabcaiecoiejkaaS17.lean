/- Walk of package socks: request, of any session. -/
import Derived.Test.YtabcaiecoiejkaaS15
set_option maxRecDepth 100000
set_option linter.unusedSimpArgs false
set_option linter.unusedVariables false
set_option maxHeartbeats 8000000
namespace Go.Proofs.Ytabcaiecoiejkaa
open Go K

def nmAd (ns : List Nm) (b : ByteArray) : Option Adr := match ns.findIdx? (fun m => decide (m.name = b)) with | some i => some (ns.getD i ⟨noX, adr0⟩).ad | none => none
theorem nm_cases (ns : List Nm) (b : ByteArray) : (nmIx ns b = -1 ∧ nmAd ns b = none) ∨ ∃ (i : Nat) (m : Nm), ns[i]? = some m ∧ nmIx ns b = (i : Int) ∧ nmAd ns b = some m.ad := by
  unfold nmIx nmAd
  cases h : ns.findIdx? (fun m => decide (m.name = b)) with
  | none => exact .inl ⟨rfl, rfl⟩
  | some i =>
    obtain ⟨hi, _⟩ := List.findIdx?_eq_some_iff_getElem.1 h
    refine .inr ⟨i, ns[i], List.getElem?_eq_getElem hi, rfl, ?_⟩
    show some (ns.getD i ⟨noX, adr0⟩).ad = _
    rw [List.getD_eq_getElem?_getD, List.getElem?_eq_getElem hi]
    rfl
/-- a request of a name that the session knows as a -/
def pReqNm (x : Px) (a : Option Adr) (e : Nat) : Px :=
  match a with
  | none => pFail 4 (pEat x e)
  | some a => if a.valid = true ∧ a.none = false ∧ a.group = false then { pEat x e with ta := a, tp := pPort x.up e, state := 3 } else pFail 4 (pEat x e)
/-- what request does; none: there is not enough -/
def pReqN (ns : List Nm) (x : Px) : Option Px :=
  if x.up.length < 4 then none
  else if x.up.getD 0 0 ≠ 5 ∨ x.up.getD 2 0 ≠ 0 then some (pFail 1 x)
  else if x.up.getD 1 0 ≠ 1 then some (pFail 7 x)
  else if x.up.getD 3 0 = 1 then pReqA x (adr4 (pBody x 4)) 8
  else if x.up.getD 3 0 = 4 then pReqA x (adr16 (pBody x 16)) 20
  else if x.up.getD 3 0 = 3 then
    (if (pField x.up 4).2.2 = true ∧ (pField x.up 4).2.1 + 2 ≤ x.up.length then
      (if (pField x.up 4).1 = noX ∨ pPort x.up (pField x.up 4).2.1.toNat = 0 then some (pFail 1 (pEat x (pField x.up 4).2.1.toNat)) else some (pReqNm x (nmAd ns (pField x.up 4).1) (pField x.up 4).2.1.toNat))
    else none)
  else some (pFail 8 x)
/-- a method of the session at p, which knows the names ns: it turns x into x' and tells v -/
def PN (ns : List Nm) (f : Nat) (args : List Value) (p : Nat) (x x' : Px) (v : Value) : Prop := ∀ (o : Own × Own) (w : World), okX x o → Mem w (kX p x o) (pX p x o) w → NmAt w (kX p x o) x.names ns →
  Calls Try.prog f args.toArray w fun e w' => ∃ y : Own × Own, okX x' y ∧ e = .returned v ∧ Mem w (kX p x o) (pX p x' y) w'
theorem requestN_any (ns : List Nm) (p : Nat) (x : Px) (hs : Small x.up) (hl : x.up.length ≤ 1000000) (hd : x.down.length ≤ 1000000) : PN ns 125 [fP p 0] p x ((pReqN ns x).getD x) (.bool (pReqN ns x).isSome) := by
  intro o w hok h hnm
  have hnm0 := hnm
  obtain ⟨na, nb, noff, ncap, hnv, hna, hnl, hnc⟩ := hnm0
  unfold pReqN
  by_cases h4 : x.up.length < 4
  · rw [if_pos h4]
    refine calls_of_z Try.func125 rfl Try.ntmps125 rfl h ?_; intro cs b hb hk
    repeat (first | (refine st ?_) | (refine stx ?_) | (refine sb ?_) | (intro _))
    refine z_ret1 tab_ok Try.func125 hb hk Try.results125 (.tmp rfl) (fun w hm => ?_)
    exact ⟨o, hok, rfl, hm⟩
  rw [if_neg h4]
  obtain ⟨b1, pre, r, rest, ho⟩ := own_some hok.1 (by omega)
  obtain ⟨o1, o2⟩ := o
  simp only at ho
  subst ho
  have hc0 := cell_at pre rest x.up 0 (by omega)
  have hc1 := cell_at pre rest x.up 1 (by omega)
  have hc2 := cell_at pre rest x.up 2 (by omega)
  have hc3 := cell_at pre rest x.up 3 (by omega)
  have hpc := piece pre rest x.up
  generalize hz0 : x.up.getD 0 0 = z0 at *
  generalize hz1 : x.up.getD 1 0 = z1 at *
  generalize hz2 : x.up.getD 2 0 = z2 at *
  generalize hz3 : x.up.getD 3 0 = z3 at *
  refine calls_of_z Try.func125 rfl Try.ntmps125 rfl h ?_; intro cs b hb hk
  repeat (first | (refine st ?_) | (refine stx ?_) | (refine sb ?_) | (intro _))
  refine zx_idxA (sz := 0) tab_ok rfl rfl rfl rfl rfl rfl (by omega) (by omega) (by simp) ?_
  repeat (first | (refine st ?_) | (refine stx ?_) | (refine sb ?_) | (intro _))
  refine zx_load tab_ok 1 rfl rfl rfl rfl rfl hc0 rfl ?_
  repeat (first | (refine st ?_) | (refine stx ?_) | (refine sb ?_) | (intro _))
  by_cases g0 : z0 = 5
  · subst g0
    repeat (first | (refine st ?_) | (refine stx ?_) | (refine sb ?_) | (intro _))
    refine zx_idxA (sz := 2) tab_ok rfl rfl rfl rfl rfl rfl (by omega) (by omega) (by simp) ?_
    repeat (first | (refine st ?_) | (refine stx ?_) | (refine sb ?_) | (intro _))
    refine zx_load tab_ok 1 rfl rfl rfl rfl rfl hc2 rfl ?_
    repeat (first | (refine st ?_) | (refine stx ?_) | (refine sb ?_) | (intro _))
    by_cases g2 : z2 = 0
    · subst g2
      rw [if_neg (by omega)]
      repeat (first | (refine st ?_) | (refine stx ?_) | (refine sb ?_) | (intro _))
      refine zx_idxA (sz := 1) tab_ok rfl rfl rfl rfl rfl rfl (by omega) (by omega) (by simp) ?_
      repeat (first | (refine st ?_) | (refine stx ?_) | (refine sb ?_) | (intro _))
      refine zx_load tab_ok 1 rfl rfl rfl rfl rfl hc1 rfl ?_
      repeat (first | (refine st ?_) | (refine stx ?_) | (refine sb ?_) | (intro _))
      by_cases g1 : z1 = 1
      · subst g1
        rw [if_neg (by omega)]
        repeat (first | (refine st ?_) | (refine stx ?_) | (refine sb ?_) | (intro _))
        rename_i k4
        refine zx_idxA (sz := 3) tab_ok rfl rfl rfl rfl rfl rfl (by omega) (by omega) (by simp) ?_
        repeat (first | (refine st ?_) | (refine stx ?_) | (refine sb ?_) | (intro _))
        refine zx_load tab_ok 2 rfl rfl rfl rfl rfl hc3 rfl ?_
        repeat (first | (refine st ?_) | (refine stx ?_) | (refine sb ?_) | (intro _))
        by_cases g3 : z3 = 1
        · subst g3
          rw [if_pos rfl]
          unfold pReqA
          by_cases hlen : x.up.length < 8 + 2
          · rw [if_pos hlen]
            repeat (first | (refine st ?_) | (refine stx ?_) | (refine sb ?_) | (intro _))
            refine z_ret1 tab_ok Try.func125 hb hk Try.results125 (.tmp rfl) (fun w hm => ?_)
            exact ⟨_, hok, rfl, hm.weaken (fun _ h => h) (List.Sublist.cons _ (List.Sublist.refl _))⟩
          rw [if_neg hlen]
          have hbs : (pBody x 4).size = 4 := by unfold pBody; rw [ofInts_size, List.length_take, List.length_drop]; omega
          have re0 := getD_small hs 8
          have re1 := getD_small hs (8 + 1)
          have hce := cell_at pre rest x.up 8 (by omega)
          have hce1 := cell_at pre rest x.up (8 + 1) (by omega)
          have hpo : bits .or .i64 (IntKind.i64.wrap (IntKind.i64.wrap (x.up.getD 8 0) * 2 ^ min 8 IntKind.i64.bits)) (IntKind.i64.wrap (x.up.getD (8 + 1) 0)) = pPort x.up 8 := by
            have e8 : (2 : Int) ^ min 8 IntKind.i64.bits = 256 := by decide
            rw [e8, wr64 (x := x.up.getD 8 0) (by omega) (by omega), wr64 (x := x.up.getD 8 0 * 256) (by omega) (by omega), wr64 (x := x.up.getD (8 + 1) 0) (by omega) (by omega), or64 _ _ re0 re1]
            rfl
          have hkn : ((8 + 2 : Nat) : Int) = min (max ((8 + 2 : Nat) : Int) 0) x.up.length := by omega
          have hkl : 8 + 2 ≤ x.up.length := by omega
          have hok1 := okX_take_up hok (8 + 2) hkl
          generalize hpp : pPort x.up 8 = po at *
          repeat (first | (refine st ?_) | (refine stx ?_) | (refine sb ?_) | (intro _))
          refine zx_idxA (sz := 8) tab_ok rfl rfl rfl rfl rfl rfl (by omega) (by omega) (by omega) ?_
          repeat (first | (refine st ?_) | (refine stx ?_) | (refine sb ?_) | (intro _))
          refine zx_load tab_ok 2 rfl rfl rfl rfl rfl hce rfl ?_
          repeat (first | (refine st ?_) | (refine stx ?_) | (refine sb ?_) | (intro _))
          refine zx_idxA (sz := 8 + 1) tab_ok rfl rfl rfl rfl rfl rfl (by first | omega | (simp only [IntKind.wrap_i64]; omega)) (by first | omega | (simp only [IntKind.wrap_i64]; omega)) (by first | omega | (simp only [IntKind.wrap_i64]; omega)) ?_
          repeat (first | (refine st ?_) | (refine stx ?_) | (refine sb ?_) | (intro _))
          refine zx_load tab_ok 2 rfl rfl rfl rfl rfl hce1 rfl ?_
          repeat (first | (refine st ?_) | (refine stx ?_) | (refine sb ?_) | (intro _))
          refine zx_re 7 (.int .i64 po) rfl (congrArg _ hpo) ?_
          repeat (first | (refine st ?_) | (refine stx ?_) | (refine sb ?_) | (intro _))
          rename_i k8
          refine zx_idxA (sz := 3) tab_ok rfl rfl rfl rfl rfl rfl (by omega) (by omega) (by simp) ?_
          repeat (first | (refine st ?_) | (refine stx ?_) | (refine sb ?_) | (intro _))
          refine zx_load tab_ok 3 rfl rfl rfl rfl rfl hc3 rfl ?_
          repeat (first | (refine st ?_) | (refine stx ?_) | (refine sb ?_) | (intro _))
          refine zx_sliceW tab_ok 4 8 (x.up.length + r) rfl rfl rfl rfl rfl rfl rfl (fun h => by cases h) rfl rfl rfl rfl (by omega) (by omega) (Nat.le_refl _) ?_
          refine zx_re 105 (.slice (some ⟨b1, if x.up.length + r = 4 then pre.length else pre.length + 4, none⟩) 4 (x.up.length + r - 4)) rfl (by
            by_cases hq : x.up.length + r = 4
            · rw [if_pos hq, if_pos hq]; rfl
            · rw [if_neg hq, if_neg hq]; rfl) ?_
          refine zx_b2sR tab_ok 3 ((x.up.drop 4).take 4) rfl rfl rfl rfl rfl rfl (hpc 4 4 _ (by split <;> omega) (by omega)) (by rw [List.length_take, List.length_drop]; omega) rfl ?_
          ((try (refine sg ?_)); (refine zx_call0 rfl fnc141 rfl rfl (fun w hm => From4_any (pBody x 4) hbs w) ?_))
          repeat (first | (refine st ?_) | (refine stx ?_) | (refine sb ?_) | (intro _))
          refine zx_re 114 (.int .i64 ((8 + 2 : Nat) : Int)) rfl (congrArg _ (by first | rfl | exact wr64 (by omega) (by omega))) ?_
          refine zx_call (Y := Unit) (v := fun _ => .slice (oA (some (b1, pre, r, rest))) (8 + 2) (8 + 2)) (Φ := fun _ => True) (L' := fun _ => [(k8, Blk.c (Adr.cells (adr4 (pBody x 4))) 24 0 0), (k4, Blk.c [.string sAn] 9 0 0)] ++ pX p (pEat x 8) (ownDrop (some (b1, pre, r, rest)) (u8s x.up) (8 + 2), o2)) rfl fnc95 rfl rfl (fun w1 hm1 => (take_up_use (R := [(k8, Blk.c (Adr.cells (adr4 (pBody x 4))) 24 0 0), (k4, Blk.c [.string sAn] 9 0 0)]) hok hm1 ((8 + 2 : Nat) : Int) (8 + 2) hkn (by omega)).mono fun e w' hh => ⟨(), trivial, hh.1, hh.2⟩) (fun _ _ => ?_)
          repeat (first | (refine st ?_) | (refine stx ?_) | (refine sb ?_) | (intro _))
          by_cases hp0 : po = 0
          · rw [if_pos hp0]
            repeat (first | (refine st ?_) | (refine stx ?_) | (refine sb ?_) | (intro _))
            refine zx_call (Y := Own × Own) (v := fun _ => .bool true) (Φ := fun y => okX (pFail 1 (pEat x 8)) y) (L' := fun y => [(k8, Blk.c (Adr.cells (adr4 (pBody x 4))) 24 0 0), (k4, Blk.c [.string sAn] 9 0 0)] ++ pX p (pFail 1 (pEat x 8)) y) rfl fnc106 rfl rfl (fun w1 hm1 => PC.use (R := [(k8, Blk.c (Adr.cells (adr4 (pBody x 4))) 24 0 0), (k4, Blk.c [.string sAn] 9 0 0)]) (fail_any p (pEat x 8) 1 hd) hok1 hm1) (fun y hy => ?_)
            repeat (first | (refine st ?_) | (refine stx ?_) | (refine sb ?_) | (intro _))
            refine z_ret1 tab_ok Try.func125 hb hk Try.results125 (.tmp rfl) (fun w hm => ?_)
            exact ⟨y, hy, rfl, hm.weaken (fun _ h => h) (List.Sublist.cons _ (List.Sublist.cons _ (List.Sublist.refl _)))⟩
          rw [if_neg hp0]
          have hav := adr4_valid (pBody x 4)
          repeat (first | (refine st ?_) | (refine stx ?_) | (refine sb ?_) | (intro _))
          ((try (refine sg ?_)); (refine zx_call0 rfl fnc48 rfl rfl (fun w hm => Valid_any (adr4 (pBody x 4)) w) ?_))
          repeat (first | (refine st ?_) | (refine stx ?_) | (refine sb ?_) | (intro _))
          ((try (refine sg ?_)); (refine zx_call0 rfl fnc42 rfl rfl (fun w hm => None_any (adr4 (pBody x 4)) w) ?_))
          by_cases hno : (adr4 (pBody x 4)).none = true
          · rw [if_pos (.inl hno)]
            repeat (first | (refine st ?_) | (refine stx ?_) | (refine sb ?_) | (intro _))
            refine zx_call (Y := Own × Own) (v := fun _ => .bool true) (Φ := fun y => okX (pFail 4 (pEat x 8)) y) (L' := fun y => [(k8, Blk.c (Adr.cells (adr4 (pBody x 4))) 24 0 0), (k4, Blk.c [.string sAn] 9 0 0)] ++ pX p (pFail 4 (pEat x 8)) y) rfl fnc106 rfl rfl (fun w1 hm1 => PC.use (R := [(k8, Blk.c (Adr.cells (adr4 (pBody x 4))) 24 0 0), (k4, Blk.c [.string sAn] 9 0 0)]) (fail_any p (pEat x 8) 4 hd) hok1 hm1) (fun y hy => ?_)
            repeat (first | (refine st ?_) | (refine stx ?_) | (refine sb ?_) | (intro _))
            refine z_ret1 tab_ok Try.func125 hb hk Try.results125 (.tmp rfl) (fun w hm => ?_)
            exact ⟨y, hy, rfl, hm.weaken (fun _ h => h) (List.Sublist.cons _ (List.Sublist.cons _ (List.Sublist.refl _)))⟩
          have hno2 : (adr4 (pBody x 4)).none = false := by simpa using hno
          repeat (first | (refine st ?_) | (refine stx ?_) | (refine sb ?_) | (intro _))
          ((try (refine sg ?_)); (refine zx_call0 rfl fnc43 rfl rfl (fun w hm => Group_any (adr4 (pBody x 4)) w) ?_))
          by_cases hgr : (adr4 (pBody x 4)).group = true
          · rw [if_pos (.inr hgr)]
            repeat (first | (refine st ?_) | (refine stx ?_) | (refine sb ?_) | (intro _))
            refine zx_call (Y := Own × Own) (v := fun _ => .bool true) (Φ := fun y => okX (pFail 4 (pEat x 8)) y) (L' := fun y => [(k8, Blk.c (Adr.cells (adr4 (pBody x 4))) 24 0 0), (k4, Blk.c [.string sAn] 9 0 0)] ++ pX p (pFail 4 (pEat x 8)) y) rfl fnc106 rfl rfl (fun w1 hm1 => PC.use (R := [(k8, Blk.c (Adr.cells (adr4 (pBody x 4))) 24 0 0), (k4, Blk.c [.string sAn] 9 0 0)]) (fail_any p (pEat x 8) 4 hd) hok1 hm1) (fun y hy => ?_)
            repeat (first | (refine st ?_) | (refine stx ?_) | (refine sb ?_) | (intro _))
            refine z_ret1 tab_ok Try.func125 hb hk Try.results125 (.tmp rfl) (fun w hm => ?_)
            exact ⟨y, hy, rfl, hm.weaken (fun _ h => h) (List.Sublist.cons _ (List.Sublist.cons _ (List.Sublist.refl _)))⟩
          have hgr2 : (adr4 (pBody x 4)).group = false := by simpa using hgr
          rw [if_neg (fun hh => hh.elim hno hgr)]
          repeat (first | (refine st ?_) | (refine stx ?_) | (refine sb ?_) | (intro _))
          refine z_ret1 tab_ok Try.func125 hb hk Try.results125 (.tmp rfl) (fun w hm => ?_)
          exact ⟨_, okX_same hok1 rfl rfl, rfl, hm.weaken (fun _ h => h) (List.Sublist.cons _ (List.Sublist.cons _ (List.Sublist.refl _)))⟩
        by_cases g3' : z3 = 4
        · subst g3'
          rw [if_neg g3, if_pos rfl]
          unfold pReqA
          by_cases hlen : x.up.length < 20 + 2
          · rw [if_pos hlen]
            repeat (first | (refine st ?_) | (refine stx ?_) | (refine sb ?_) | (intro _))
            refine z_ret1 tab_ok Try.func125 hb hk Try.results125 (.tmp rfl) (fun w hm => ?_)
            exact ⟨_, hok, rfl, hm.weaken (fun _ h => h) (List.Sublist.cons _ (List.Sublist.refl _))⟩
          rw [if_neg hlen]
          have hbs : (pBody x 16).size = 16 := by unfold pBody; rw [ofInts_size, List.length_take, List.length_drop]; omega
          have re0 := getD_small hs 20
          have re1 := getD_small hs (20 + 1)
          have hce := cell_at pre rest x.up 20 (by omega)
          have hce1 := cell_at pre rest x.up (20 + 1) (by omega)
          have hpo : bits .or .i64 (IntKind.i64.wrap (IntKind.i64.wrap (x.up.getD 20 0) * 2 ^ min 8 IntKind.i64.bits)) (IntKind.i64.wrap (x.up.getD (20 + 1) 0)) = pPort x.up 20 := by
            have e8 : (2 : Int) ^ min 8 IntKind.i64.bits = 256 := by decide
            rw [e8, wr64 (x := x.up.getD 20 0) (by omega) (by omega), wr64 (x := x.up.getD 20 0 * 256) (by omega) (by omega), wr64 (x := x.up.getD (20 + 1) 0) (by omega) (by omega), or64 _ _ re0 re1]
            rfl
          have hkn : ((20 + 2 : Nat) : Int) = min (max ((20 + 2 : Nat) : Int) 0) x.up.length := by omega
          have hkl : 20 + 2 ≤ x.up.length := by omega
          have hok1 := okX_take_up hok (20 + 2) hkl
          generalize hpp : pPort x.up 20 = po at *
          repeat (first | (refine st ?_) | (refine stx ?_) | (refine sb ?_) | (intro _))
          refine zx_idxA (sz := 20) tab_ok rfl rfl rfl rfl rfl rfl (by omega) (by omega) (by omega) ?_
          repeat (first | (refine st ?_) | (refine stx ?_) | (refine sb ?_) | (intro _))
          refine zx_load tab_ok 2 rfl rfl rfl rfl rfl hce rfl ?_
          repeat (first | (refine st ?_) | (refine stx ?_) | (refine sb ?_) | (intro _))
          refine zx_idxA (sz := 20 + 1) tab_ok rfl rfl rfl rfl rfl rfl (by first | omega | (simp only [IntKind.wrap_i64]; omega)) (by first | omega | (simp only [IntKind.wrap_i64]; omega)) (by first | omega | (simp only [IntKind.wrap_i64]; omega)) ?_
          repeat (first | (refine st ?_) | (refine stx ?_) | (refine sb ?_) | (intro _))
          refine zx_load tab_ok 2 rfl rfl rfl rfl rfl hce1 rfl ?_
          repeat (first | (refine st ?_) | (refine stx ?_) | (refine sb ?_) | (intro _))
          refine zx_re 7 (.int .i64 po) rfl (congrArg _ hpo) ?_
          repeat (first | (refine st ?_) | (refine stx ?_) | (refine sb ?_) | (intro _))
          rename_i k8
          refine zx_idxA (sz := 3) tab_ok rfl rfl rfl rfl rfl rfl (by omega) (by omega) (by simp) ?_
          repeat (first | (refine st ?_) | (refine stx ?_) | (refine sb ?_) | (intro _))
          refine zx_load tab_ok 3 rfl rfl rfl rfl rfl hc3 rfl ?_
          repeat (first | (refine st ?_) | (refine stx ?_) | (refine sb ?_) | (intro _))
          refine zx_sliceW tab_ok 4 20 (x.up.length + r) rfl rfl rfl rfl rfl rfl rfl (fun h => by cases h) rfl rfl rfl rfl (by omega) (by omega) (Nat.le_refl _) ?_
          refine zx_re 105 (.slice (some ⟨b1, if x.up.length + r = 4 then pre.length else pre.length + 4, none⟩) 16 (x.up.length + r - 4)) rfl (by
            by_cases hq : x.up.length + r = 4
            · rw [if_pos hq, if_pos hq]; rfl
            · rw [if_neg hq, if_neg hq]; rfl) ?_
          refine zx_b2sR tab_ok 3 ((x.up.drop 4).take 16) rfl rfl rfl rfl rfl rfl (hpc 4 16 _ (by split <;> omega) (by omega)) (by rw [List.length_take, List.length_drop]; omega) rfl ?_
          ((try (refine sg ?_)); (refine zx_call0 rfl fnc141 rfl rfl (fun w hm => From16_any (pBody x 16) hbs w) ?_))
          repeat (first | (refine st ?_) | (refine stx ?_) | (refine sb ?_) | (intro _))
          refine zx_re 114 (.int .i64 ((20 + 2 : Nat) : Int)) rfl (congrArg _ (by first | rfl | exact wr64 (by omega) (by omega))) ?_
          refine zx_call (Y := Unit) (v := fun _ => .slice (oA (some (b1, pre, r, rest))) (20 + 2) (20 + 2)) (Φ := fun _ => True) (L' := fun _ => [(k8, Blk.c (Adr.cells (adr16 (pBody x 16))) 24 0 0), (k4, Blk.c [.string sAn] 9 0 0)] ++ pX p (pEat x 20) (ownDrop (some (b1, pre, r, rest)) (u8s x.up) (20 + 2), o2)) rfl fnc95 rfl rfl (fun w1 hm1 => (take_up_use (R := [(k8, Blk.c (Adr.cells (adr16 (pBody x 16))) 24 0 0), (k4, Blk.c [.string sAn] 9 0 0)]) hok hm1 ((20 + 2 : Nat) : Int) (20 + 2) hkn (by omega)).mono fun e w' hh => ⟨(), trivial, hh.1, hh.2⟩) (fun _ _ => ?_)
          repeat (first | (refine st ?_) | (refine stx ?_) | (refine sb ?_) | (intro _))
          by_cases hp0 : po = 0
          · rw [if_pos hp0]
            repeat (first | (refine st ?_) | (refine stx ?_) | (refine sb ?_) | (intro _))
            refine zx_call (Y := Own × Own) (v := fun _ => .bool true) (Φ := fun y => okX (pFail 1 (pEat x 20)) y) (L' := fun y => [(k8, Blk.c (Adr.cells (adr16 (pBody x 16))) 24 0 0), (k4, Blk.c [.string sAn] 9 0 0)] ++ pX p (pFail 1 (pEat x 20)) y) rfl fnc106 rfl rfl (fun w1 hm1 => PC.use (R := [(k8, Blk.c (Adr.cells (adr16 (pBody x 16))) 24 0 0), (k4, Blk.c [.string sAn] 9 0 0)]) (fail_any p (pEat x 20) 1 hd) hok1 hm1) (fun y hy => ?_)
            repeat (first | (refine st ?_) | (refine stx ?_) | (refine sb ?_) | (intro _))
            refine z_ret1 tab_ok Try.func125 hb hk Try.results125 (.tmp rfl) (fun w hm => ?_)
            exact ⟨y, hy, rfl, hm.weaken (fun _ h => h) (List.Sublist.cons _ (List.Sublist.cons _ (List.Sublist.refl _)))⟩
          rw [if_neg hp0]
          have hav := adr16_valid (pBody x 16)
          repeat (first | (refine st ?_) | (refine stx ?_) | (refine sb ?_) | (intro _))
          ((try (refine sg ?_)); (refine zx_call0 rfl fnc48 rfl rfl (fun w hm => Valid_any (adr16 (pBody x 16)) w) ?_))
          repeat (first | (refine st ?_) | (refine stx ?_) | (refine sb ?_) | (intro _))
          ((try (refine sg ?_)); (refine zx_call0 rfl fnc42 rfl rfl (fun w hm => None_any (adr16 (pBody x 16)) w) ?_))
          by_cases hno : (adr16 (pBody x 16)).none = true
          · rw [if_pos (.inl hno)]
            repeat (first | (refine st ?_) | (refine stx ?_) | (refine sb ?_) | (intro _))
            refine zx_call (Y := Own × Own) (v := fun _ => .bool true) (Φ := fun y => okX (pFail 4 (pEat x 20)) y) (L' := fun y => [(k8, Blk.c (Adr.cells (adr16 (pBody x 16))) 24 0 0), (k4, Blk.c [.string sAn] 9 0 0)] ++ pX p (pFail 4 (pEat x 20)) y) rfl fnc106 rfl rfl (fun w1 hm1 => PC.use (R := [(k8, Blk.c (Adr.cells (adr16 (pBody x 16))) 24 0 0), (k4, Blk.c [.string sAn] 9 0 0)]) (fail_any p (pEat x 20) 4 hd) hok1 hm1) (fun y hy => ?_)
            repeat (first | (refine st ?_) | (refine stx ?_) | (refine sb ?_) | (intro _))
            refine z_ret1 tab_ok Try.func125 hb hk Try.results125 (.tmp rfl) (fun w hm => ?_)
            exact ⟨y, hy, rfl, hm.weaken (fun _ h => h) (List.Sublist.cons _ (List.Sublist.cons _ (List.Sublist.refl _)))⟩
          have hno2 : (adr16 (pBody x 16)).none = false := by simpa using hno
          repeat (first | (refine st ?_) | (refine stx ?_) | (refine sb ?_) | (intro _))
          ((try (refine sg ?_)); (refine zx_call0 rfl fnc43 rfl rfl (fun w hm => Group_any (adr16 (pBody x 16)) w) ?_))
          by_cases hgr : (adr16 (pBody x 16)).group = true
          · rw [if_pos (.inr hgr)]
            repeat (first | (refine st ?_) | (refine stx ?_) | (refine sb ?_) | (intro _))
            refine zx_call (Y := Own × Own) (v := fun _ => .bool true) (Φ := fun y => okX (pFail 4 (pEat x 20)) y) (L' := fun y => [(k8, Blk.c (Adr.cells (adr16 (pBody x 16))) 24 0 0), (k4, Blk.c [.string sAn] 9 0 0)] ++ pX p (pFail 4 (pEat x 20)) y) rfl fnc106 rfl rfl (fun w1 hm1 => PC.use (R := [(k8, Blk.c (Adr.cells (adr16 (pBody x 16))) 24 0 0), (k4, Blk.c [.string sAn] 9 0 0)]) (fail_any p (pEat x 20) 4 hd) hok1 hm1) (fun y hy => ?_)
            repeat (first | (refine st ?_) | (refine stx ?_) | (refine sb ?_) | (intro _))
            refine z_ret1 tab_ok Try.func125 hb hk Try.results125 (.tmp rfl) (fun w hm => ?_)
            exact ⟨y, hy, rfl, hm.weaken (fun _ h => h) (List.Sublist.cons _ (List.Sublist.cons _ (List.Sublist.refl _)))⟩
          have hgr2 : (adr16 (pBody x 16)).group = false := by simpa using hgr
          rw [if_neg (fun hh => hh.elim hno hgr)]
          repeat (first | (refine st ?_) | (refine stx ?_) | (refine sb ?_) | (intro _))
          refine z_ret1 tab_ok Try.func125 hb hk Try.results125 (.tmp rfl) (fun w hm => ?_)
          exact ⟨_, okX_same hok1 rfl rfl, rfl, hm.weaken (fun _ h => h) (List.Sublist.cons _ (List.Sublist.cons _ (List.Sublist.refl _)))⟩
        by_cases g3'' : z3 = 3
        · subst g3''
          rw [if_neg g3, if_neg g3', if_pos rfl]
          have hF := pField_le x.up 4 hs
          have hfld := field_any p x 4 (by omega) hs (by omega)
          generalize hfl : pField x.up 4 = fl at *
          repeat (first | (refine st ?_) | (refine stx ?_) | (refine sb ?_) | (intro _))
          ((try (refine sg ?_)); (refine zx_call0 rfl fnc137 rfl rfl (fun w hm => QC.use (R := [(k4, Blk.c [.string noX] 9 0 0)]) hfld hok hm) ?_))
          rcases Bool.eq_false_or_eq_true fl.2.2 with hf | hf
          · obtain ⟨hF1, hF2⟩ := hF hf
            obtain ⟨ee, hee⟩ : ∃ ee : Nat, fl.2.1 = ee := ⟨fl.2.1.toNat, by omega⟩
            rw [hee] at hF1 hF2 hfld ⊢
            rw [Int.toNat_natCast]
            repeat (first | (refine st ?_) | (refine stx ?_) | (refine sb ?_) | (intro _))
            by_cases hle : (ee : Int) + 2 ≤ x.up.length
            · rw [if_pos ⟨hf, hle⟩]
              have re0 := getD_small hs ee
              have re1 := getD_small hs (ee + 1)
              have hce := cell_at pre rest x.up ee (by omega)
              have hce1 := cell_at pre rest x.up (ee + 1) (by omega)
              have hpo : bits .or .i64 (IntKind.i64.wrap (IntKind.i64.wrap (x.up.getD ee 0) * 2 ^ min 8 IntKind.i64.bits)) (IntKind.i64.wrap (x.up.getD (ee + 1) 0)) = pPort x.up ee := by
                have e8 : (2 : Int) ^ min 8 IntKind.i64.bits = 256 := by decide
                rw [e8, wr64 (x := x.up.getD ee 0) (by omega) (by omega), wr64 (x := x.up.getD ee 0 * 256) (by omega) (by omega), wr64 (x := x.up.getD (ee + 1) 0) (by omega) (by omega), or64 _ _ re0 re1]
                rfl
              have hkn : ((ee + 2 : Nat) : Int) = min (max ((ee + 2 : Nat) : Int) 0) x.up.length := by omega
              have hkl : ee + 2 ≤ x.up.length := by omega
              have hok1 := okX_take_up hok (ee + 2) hkl
              generalize hpp : pPort x.up ee = po at *
              repeat (first | (refine st ?_) | (refine stx ?_) | (refine sb ?_) | (intro _))
              refine zx_idxA (sz := ee) tab_ok rfl rfl rfl rfl rfl rfl (by omega) (by omega) (by omega) ?_
              repeat (first | (refine st ?_) | (refine stx ?_) | (refine sb ?_) | (intro _))
              refine zx_load tab_ok 2 rfl rfl rfl rfl rfl hce rfl ?_
              repeat (first | (refine st ?_) | (refine stx ?_) | (refine sb ?_) | (intro _))
              refine zx_re 73 (.int .i64 ((ee + 1 : Nat) : Int)) rfl (congrArg _ (wr64 (by omega) (by omega))) ?_
              refine zx_idxA (sz := ee + 1) tab_ok rfl rfl rfl rfl rfl rfl (by omega) (by omega) (by omega) ?_
              repeat (first | (refine st ?_) | (refine stx ?_) | (refine sb ?_) | (intro _))
              refine zx_load tab_ok 2 rfl rfl rfl rfl rfl hce1 rfl ?_
              repeat (first | (refine st ?_) | (refine stx ?_) | (refine sb ?_) | (intro _))
              refine zx_re 7 (.int .i64 po) rfl (congrArg _ hpo) ?_
              repeat (first | (refine st ?_) | (refine stx ?_) | (refine sb ?_) | (intro _))
              rename_i k8
              refine zx_idxA (sz := 3) tab_ok rfl rfl rfl rfl rfl rfl (by omega) (by omega) (by simp) ?_
              repeat (first | (refine st ?_) | (refine stx ?_) | (refine sb ?_) | (intro _))
              refine zx_load tab_ok 3 rfl rfl rfl rfl rfl hc3 rfl ?_
              repeat (first | (refine st ?_) | (refine stx ?_) | (refine sb ?_) | (intro _))
              ((try (refine sg ?_)); (refine zx_call0 rfl fnc139 rfl rfl (fun w hm => IndexFunc_any x.names ns fl.1 k4 w (hnm.step hm (by simp)) (hm.cell (i := 1) rfl)) ?_))
              rcases nm_cases ns fl.1 with ⟨hix, hnd⟩ | ⟨ix, m, hm0, hix, hnd⟩
              · rw [hix]
                repeat (first | (refine st ?_) | (refine stx ?_) | (refine sb ?_) | (intro _))
                refine zx_re 114 (.int .i64 ((ee + 2 : Nat) : Int)) rfl (congrArg _ (by first | rfl | exact wr64 (by omega) (by omega))) ?_
                refine zx_call (Y := Unit) (v := fun _ => .slice (oA (some (b1, pre, r, rest))) (ee + 2) (ee + 2)) (Φ := fun _ => True) (L' := fun _ => [(k8, Blk.c (Adr.cells adr0) 24 0 0), (k4, Blk.c [.string fl.1] 9 0 0)] ++ pX p (pEat x ee) (ownDrop (some (b1, pre, r, rest)) (u8s x.up) (ee + 2), o2)) rfl fnc95 rfl rfl (fun w1 hm1 => (take_up_use (R := [(k8, Blk.c (Adr.cells adr0) 24 0 0), (k4, Blk.c [.string fl.1] 9 0 0)]) hok hm1 ((ee + 2 : Nat) : Int) (ee + 2) hkn (by omega)).mono fun e w' hh => ⟨(), trivial, hh.1, hh.2⟩) (fun _ _ => ?_)
                repeat (first | (refine st ?_) | (refine stx ?_) | (refine sb ?_) | (intro _))
                by_cases hbo : fl.1 = noX
                · have hbo2 : decide (fl.1 = ByteArray.mk #[]) = true := decide_eq_true hbo
                  rw [if_pos (.inl hbo)]
                  repeat (first | (refine st ?_) | (refine stx ?_) | (refine sb ?_) | (intro _))
                  refine zx_call (Y := Own × Own) (v := fun _ => .bool true) (Φ := fun y => okX (pFail 1 (pEat x ee)) y) (L' := fun y => [(k8, Blk.c (Adr.cells adr0) 24 0 0), (k4, Blk.c [.string fl.1] 9 0 0)] ++ pX p (pFail 1 (pEat x ee)) y) rfl fnc106 rfl rfl (fun w1 hm1 => PC.use (R := [(k8, Blk.c (Adr.cells adr0) 24 0 0), (k4, Blk.c [.string fl.1] 9 0 0)]) (fail_any p (pEat x ee) 1 hd) hok1 hm1) (fun y hy => ?_)
                  repeat (first | (refine st ?_) | (refine stx ?_) | (refine sb ?_) | (intro _))
                  refine z_ret1 tab_ok Try.func125 hb hk Try.results125 (.tmp rfl) (fun w hm => ?_)
                  exact ⟨y, hy, rfl, hm.weaken (fun _ h => h) (List.Sublist.cons _ (List.Sublist.cons _ (List.Sublist.refl _)))⟩
                have hbo2 : decide (fl.1 = ByteArray.mk #[]) = false := decide_eq_false hbo
                by_cases hp0 : po = 0
                · rw [if_pos (.inr hp0)]
                  repeat (first | (refine st ?_) | (refine stx ?_) | (refine sb ?_) | (intro _))
                  refine zx_call (Y := Own × Own) (v := fun _ => .bool true) (Φ := fun y => okX (pFail 1 (pEat x ee)) y) (L' := fun y => [(k8, Blk.c (Adr.cells adr0) 24 0 0), (k4, Blk.c [.string fl.1] 9 0 0)] ++ pX p (pFail 1 (pEat x ee)) y) rfl fnc106 rfl rfl (fun w1 hm1 => PC.use (R := [(k8, Blk.c (Adr.cells adr0) 24 0 0), (k4, Blk.c [.string fl.1] 9 0 0)]) (fail_any p (pEat x ee) 1 hd) hok1 hm1) (fun y hy => ?_)
                  repeat (first | (refine st ?_) | (refine stx ?_) | (refine sb ?_) | (intro _))
                  refine z_ret1 tab_ok Try.func125 hb hk Try.results125 (.tmp rfl) (fun w hm => ?_)
                  exact ⟨y, hy, rfl, hm.weaken (fun _ h => h) (List.Sublist.cons _ (List.Sublist.cons _ (List.Sublist.refl _)))⟩
                rw [if_neg (fun hh => hh.elim hbo hp0)]
                simp only [hnd, pReqNm]
                repeat (first | (refine st ?_) | (refine stx ?_) | (refine sb ?_) | (intro _))
                refine zx_call (Y := Own × Own) (v := fun _ => .bool true) (Φ := fun y => okX (pFail 4 (pEat x ee)) y) (L' := fun y => [(k8, Blk.c (Adr.cells adr0) 24 0 0), (k4, Blk.c [.string fl.1] 9 0 0)] ++ pX p (pFail 4 (pEat x ee)) y) rfl fnc106 rfl rfl (fun w1 hm1 => PC.use (R := [(k8, Blk.c (Adr.cells adr0) 24 0 0), (k4, Blk.c [.string fl.1] 9 0 0)]) (fail_any p (pEat x ee) 4 hd) hok1 hm1) (fun y hy => ?_)
                repeat (first | (refine st ?_) | (refine stx ?_) | (refine sb ?_) | (intro _))
                refine z_ret1 tab_ok Try.func125 hb hk Try.results125 (.tmp rfl) (fun w hm => ?_)
                exact ⟨y, hy, rfl, hm.weaken (fun _ h => h) (List.Sublist.cons _ (List.Sublist.cons _ (List.Sublist.refl _)))⟩
              · rw [hix]
                have hixl : ix < ns.length := (List.getElem?_eq_some_iff.1 hm0).1
                obtain ⟨hna1, hna2⟩ : na = some ⟨nb, noff, none⟩ ∧ nb ∉ kX p x (some (b1, pre, r, rest), o2) := by
                  rcases hna with hh | hh
                  · rw [hh] at hixl; exact absurd hixl (Nat.not_lt_zero _)
                  · exact hh
                have hmc := hnc ix m hm0
                have hadc : ∀ j u, ([.bool m.ad.v6, .int .u8 (m.ad.b 0), .int .u8 (m.ad.b 1), .int .u8 (m.ad.b 2), .int .u8 (m.ad.b 3), .int .u8 (m.ad.b 4), .int .u8 (m.ad.b 5), .int .u8 (m.ad.b 6), .int .u8 (m.ad.b 7), .int .u8 (m.ad.b 8), .int .u8 (m.ad.b 9), .int .u8 (m.ad.b 10), .int .u8 (m.ad.b 11), .int .u8 (m.ad.b 12), .int .u8 (m.ad.b 13), .int .u8 (m.ad.b 14), .int .u8 (m.ad.b 15)] : List Value)[j]? = some u → w.cell? ⟨nb, noff + ix * 18 + 1 + j, none⟩ = some u := fun j u hu => by
                  have := hmc (j + 1) u (by simpa [Nm.cells, Adr.cells] using hu)
                  rw [show noff + ix * 18 + 1 + j = noff + ix * 18 + (j + 1) by omega]
                  exact this
                repeat (first | (refine st ?_) | (refine stx ?_) | (refine sb ?_) | (intro _))
                refine zx_re 97 (.slice (some ⟨nb, noff, none⟩) ns.length ncap) rfl (by rw [← hna1]; exact hnv) ?_
                repeat (first | (refine st ?_) | (refine stx ?_) | (refine sb ?_) | (intro _))
                refine zx_idxA (sz := ix * 18) tab_ok rfl rfl rfl rfl rfl rfl (by omega) (by omega) (by simp) ?_
                repeat (first | (refine st ?_) | (refine stx ?_) | (refine sb ?_) | (intro _))
                refine zx_loadBA tab_ok [.bool m.ad.v6, .int .u8 (m.ad.b 0), .int .u8 (m.ad.b 1), .int .u8 (m.ad.b 2), .int .u8 (m.ad.b 3), .int .u8 (m.ad.b 4), .int .u8 (m.ad.b 5), .int .u8 (m.ad.b 6), .int .u8 (m.ad.b 7), .int .u8 (m.ad.b 8), .int .u8 (m.ad.b 9), .int .u8 (m.ad.b 10), .int .u8 (m.ad.b 11), .int .u8 (m.ad.b 12), .int .u8 (m.ad.b 13), .int .u8 (m.ad.b 14), .int .u8 (m.ad.b 15)] rfl rfl rfl rfl hadc hna2 rfl rfl ?_
                repeat (first | (refine st ?_) | (refine stx ?_) | (refine sb ?_) | (intro _))
                refine zx_re 114 (.int .i64 ((ee + 2 : Nat) : Int)) rfl (congrArg _ (by first | rfl | exact wr64 (by omega) (by omega))) ?_
                refine zx_call (Y := Unit) (v := fun _ => .slice (oA (some (b1, pre, r, rest))) (ee + 2) (ee + 2)) (Φ := fun _ => True) (L' := fun _ => [(k8, Blk.c (Adr.cells m.ad) 24 0 0), (k4, Blk.c [.string fl.1] 9 0 0)] ++ pX p (pEat x ee) (ownDrop (some (b1, pre, r, rest)) (u8s x.up) (ee + 2), o2)) rfl fnc95 rfl rfl (fun w1 hm1 => (take_up_use (R := [(k8, Blk.c (Adr.cells m.ad) 24 0 0), (k4, Blk.c [.string fl.1] 9 0 0)]) hok hm1 ((ee + 2 : Nat) : Int) (ee + 2) hkn (by omega)).mono fun e w' hh => ⟨(), trivial, hh.1, hh.2⟩) (fun _ _ => ?_)
                repeat (first | (refine st ?_) | (refine stx ?_) | (refine sb ?_) | (intro _))
                by_cases hbo : fl.1 = noX
                · have hbo2 : decide (fl.1 = ByteArray.mk #[]) = true := decide_eq_true hbo
                  rw [if_pos (.inl hbo)]
                  repeat (first | (refine st ?_) | (refine stx ?_) | (refine sb ?_) | (intro _))
                  refine zx_call (Y := Own × Own) (v := fun _ => .bool true) (Φ := fun y => okX (pFail 1 (pEat x ee)) y) (L' := fun y => [(k8, Blk.c (Adr.cells m.ad) 24 0 0), (k4, Blk.c [.string fl.1] 9 0 0)] ++ pX p (pFail 1 (pEat x ee)) y) rfl fnc106 rfl rfl (fun w1 hm1 => PC.use (R := [(k8, Blk.c (Adr.cells m.ad) 24 0 0), (k4, Blk.c [.string fl.1] 9 0 0)]) (fail_any p (pEat x ee) 1 hd) hok1 hm1) (fun y hy => ?_)
                  repeat (first | (refine st ?_) | (refine stx ?_) | (refine sb ?_) | (intro _))
                  refine z_ret1 tab_ok Try.func125 hb hk Try.results125 (.tmp rfl) (fun w hm => ?_)
                  exact ⟨y, hy, rfl, hm.weaken (fun _ h => h) (List.Sublist.cons _ (List.Sublist.cons _ (List.Sublist.refl _)))⟩
                have hbo2 : decide (fl.1 = ByteArray.mk #[]) = false := decide_eq_false hbo
                by_cases hp0 : po = 0
                · rw [if_pos (.inr hp0)]
                  repeat (first | (refine st ?_) | (refine stx ?_) | (refine sb ?_) | (intro _))
                  refine zx_call (Y := Own × Own) (v := fun _ => .bool true) (Φ := fun y => okX (pFail 1 (pEat x ee)) y) (L' := fun y => [(k8, Blk.c (Adr.cells m.ad) 24 0 0), (k4, Blk.c [.string fl.1] 9 0 0)] ++ pX p (pFail 1 (pEat x ee)) y) rfl fnc106 rfl rfl (fun w1 hm1 => PC.use (R := [(k8, Blk.c (Adr.cells m.ad) 24 0 0), (k4, Blk.c [.string fl.1] 9 0 0)]) (fail_any p (pEat x ee) 1 hd) hok1 hm1) (fun y hy => ?_)
                  repeat (first | (refine st ?_) | (refine stx ?_) | (refine sb ?_) | (intro _))
                  refine z_ret1 tab_ok Try.func125 hb hk Try.results125 (.tmp rfl) (fun w hm => ?_)
                  exact ⟨y, hy, rfl, hm.weaken (fun _ h => h) (List.Sublist.cons _ (List.Sublist.cons _ (List.Sublist.refl _)))⟩
                rw [if_neg (fun hh => hh.elim hbo hp0)]
                simp only [hnd, pReqNm]
                repeat (first | (refine st ?_) | (refine stx ?_) | (refine sb ?_) | (intro _))
                ((try (refine sg ?_)); (refine zx_call0 rfl fnc48 rfl rfl (fun w hm => Valid_any m.ad w) ?_))
                by_cases hva : m.ad.valid = true
                · have hva2 := hva
                  repeat (first | (refine st ?_) | (refine stx ?_) | (refine sb ?_) | (intro _))
                  ((try (refine sg ?_)); (refine zx_call0 rfl fnc42 rfl rfl (fun w hm => None_any m.ad w) ?_))
                  by_cases hno : m.ad.none = true
                  · rw [if_neg (fun hh => by rw [hno] at hh; cases hh.2.1)]
                    repeat (first | (refine st ?_) | (refine stx ?_) | (refine sb ?_) | (intro _))
                    refine zx_call (Y := Own × Own) (v := fun _ => .bool true) (Φ := fun y => okX (pFail 4 (pEat x ee)) y) (L' := fun y => [(k8, Blk.c (Adr.cells m.ad) 24 0 0), (k4, Blk.c [.string fl.1] 9 0 0)] ++ pX p (pFail 4 (pEat x ee)) y) rfl fnc106 rfl rfl (fun w1 hm1 => PC.use (R := [(k8, Blk.c (Adr.cells m.ad) 24 0 0), (k4, Blk.c [.string fl.1] 9 0 0)]) (fail_any p (pEat x ee) 4 hd) hok1 hm1) (fun y hy => ?_)
                    repeat (first | (refine st ?_) | (refine stx ?_) | (refine sb ?_) | (intro _))
                    refine z_ret1 tab_ok Try.func125 hb hk Try.results125 (.tmp rfl) (fun w hm => ?_)
                    exact ⟨y, hy, rfl, hm.weaken (fun _ h => h) (List.Sublist.cons _ (List.Sublist.cons _ (List.Sublist.refl _)))⟩
                  have hno2 : m.ad.none = false := by simpa using hno
                  repeat (first | (refine st ?_) | (refine stx ?_) | (refine sb ?_) | (intro _))
                  ((try (refine sg ?_)); (refine zx_call0 rfl fnc43 rfl rfl (fun w hm => Group_any m.ad w) ?_))
                  by_cases hgr : m.ad.group = true
                  · rw [if_neg (fun hh => by rw [hgr] at hh; cases hh.2.2)]
                    repeat (first | (refine st ?_) | (refine stx ?_) | (refine sb ?_) | (intro _))
                    refine zx_call (Y := Own × Own) (v := fun _ => .bool true) (Φ := fun y => okX (pFail 4 (pEat x ee)) y) (L' := fun y => [(k8, Blk.c (Adr.cells m.ad) 24 0 0), (k4, Blk.c [.string fl.1] 9 0 0)] ++ pX p (pFail 4 (pEat x ee)) y) rfl fnc106 rfl rfl (fun w1 hm1 => PC.use (R := [(k8, Blk.c (Adr.cells m.ad) 24 0 0), (k4, Blk.c [.string fl.1] 9 0 0)]) (fail_any p (pEat x ee) 4 hd) hok1 hm1) (fun y hy => ?_)
                    repeat (first | (refine st ?_) | (refine stx ?_) | (refine sb ?_) | (intro _))
                    refine z_ret1 tab_ok Try.func125 hb hk Try.results125 (.tmp rfl) (fun w hm => ?_)
                    exact ⟨y, hy, rfl, hm.weaken (fun _ h => h) (List.Sublist.cons _ (List.Sublist.cons _ (List.Sublist.refl _)))⟩
                  have hgr2 : m.ad.group = false := by simpa using hgr
                  rw [if_pos ⟨hva, hno2, hgr2⟩]
                  repeat (first | (refine st ?_) | (refine stx ?_) | (refine sb ?_) | (intro _))
                  refine z_ret1 tab_ok Try.func125 hb hk Try.results125 (.tmp rfl) (fun w hm => ?_)
                  subst hpp
                  exact ⟨_, okX_same hok1 rfl rfl, rfl, hm.weaken (fun _ h => h) (List.Sublist.cons _ (List.Sublist.cons _ (List.Sublist.refl _)))⟩
                · have hva2 : m.ad.valid = false := by simpa using hva
                  rw [if_neg (fun hh => hva hh.1)]
                  repeat (first | (refine st ?_) | (refine stx ?_) | (refine sb ?_) | (intro _))
                  refine zx_call (Y := Own × Own) (v := fun _ => .bool true) (Φ := fun y => okX (pFail 4 (pEat x ee)) y) (L' := fun y => [(k8, Blk.c (Adr.cells m.ad) 24 0 0), (k4, Blk.c [.string fl.1] 9 0 0)] ++ pX p (pFail 4 (pEat x ee)) y) rfl fnc106 rfl rfl (fun w1 hm1 => PC.use (R := [(k8, Blk.c (Adr.cells m.ad) 24 0 0), (k4, Blk.c [.string fl.1] 9 0 0)]) (fail_any p (pEat x ee) 4 hd) hok1 hm1) (fun y hy => ?_)
                  repeat (first | (refine st ?_) | (refine stx ?_) | (refine sb ?_) | (intro _))
                  refine z_ret1 tab_ok Try.func125 hb hk Try.results125 (.tmp rfl) (fun w hm => ?_)
                  exact ⟨y, hy, rfl, hm.weaken (fun _ h => h) (List.Sublist.cons _ (List.Sublist.cons _ (List.Sublist.refl _)))⟩
            · rw [if_neg (fun hh => hle hh.2)]
              repeat (first | (refine st ?_) | (refine stx ?_) | (refine sb ?_) | (intro _))
              refine z_ret1 tab_ok Try.func125 hb hk Try.results125 (.tmp rfl) (fun w hm => ?_)
              exact ⟨_, hok, rfl, hm.weaken (fun _ h => h) (List.Sublist.cons _ (List.Sublist.refl _))⟩
          · rw [if_neg (fun hh => by rw [hh.1] at hf; cases hf)]
            repeat (first | (refine st ?_) | (refine stx ?_) | (refine sb ?_) | (intro _))
            refine z_ret1 tab_ok Try.func125 hb hk Try.results125 (.tmp rfl) (fun w hm => ?_)
            exact ⟨_, hok, rfl, hm.weaken (fun _ h => h) (List.Sublist.cons _ (List.Sublist.refl _))⟩
        rw [if_neg g3, if_neg g3', if_neg g3'']
        repeat (first | (refine st ?_) | (refine stx ?_) | (refine sb ?_) | (intro _))
        refine zx_call (Y := Own × Own) (v := fun _ => .bool true) (Φ := fun y => okX (pFail 8 x) y) (L' := fun y => [(k4, Blk.c [.string noX] 9 0 0)] ++ pX p (pFail 8 x) y) rfl fnc106 rfl rfl (fun w1 hm1 => PC.use (R := [(k4, Blk.c [.string noX] 9 0 0)]) (fail_any p x 8 hd) hok hm1) (fun y hy => ?_)
        repeat (first | (refine st ?_) | (refine stx ?_) | (refine sb ?_) | (intro _))
        refine z_ret1 tab_ok Try.func125 hb hk Try.results125 (.tmp rfl) (fun w hm => ?_)
        exact ⟨y, hy, rfl, hm.weaken (fun _ h => h) (List.Sublist.cons _ (List.Sublist.refl _))⟩
      · rw [if_pos g1]
        repeat (first | (refine st ?_) | (refine stx ?_) | (refine sb ?_) | (intro _))
        refine zx_call (Y := Own × Own) (v := fun _ => .bool true) (Φ := fun y => okX (pFail 7 x) y) (L' := fun y => [] ++ pX p (pFail 7 x) y) rfl fnc106 rfl rfl (fun w1 hm1 => PC.use (R := []) (fail_any p x 7 hd) hok hm1) (fun y hy => ?_)
        repeat (first | (refine st ?_) | (refine stx ?_) | (refine sb ?_) | (intro _))
        refine z_ret1 tab_ok Try.func125 hb hk Try.results125 (.tmp rfl) (fun w hm => ?_)
        exact ⟨y, hy, rfl, hm.weaken (fun _ h => h) (List.Sublist.refl _)⟩
    · rw [if_pos (.inr g2)]
      repeat (first | (refine st ?_) | (refine stx ?_) | (refine sb ?_) | (intro _))
      refine zx_call (Y := Own × Own) (v := fun _ => .bool true) (Φ := fun y => okX (pFail 1 x) y) (L' := fun y => [] ++ pX p (pFail 1 x) y) rfl fnc106 rfl rfl (fun w1 hm1 => PC.use (R := []) (fail_any p x 1 hd) hok hm1) (fun y hy => ?_)
      repeat (first | (refine st ?_) | (refine stx ?_) | (refine sb ?_) | (intro _))
      refine z_ret1 tab_ok Try.func125 hb hk Try.results125 (.tmp rfl) (fun w hm => ?_)
      exact ⟨y, hy, rfl, hm.weaken (fun _ h => h) (List.Sublist.refl _)⟩
  · rw [if_pos (.inl g0)]
    repeat (first | (refine st ?_) | (refine stx ?_) | (refine sb ?_) | (intro _))
    refine zx_call (Y := Own × Own) (v := fun _ => .bool true) (Φ := fun y => okX (pFail 1 x) y) (L' := fun y => [] ++ pX p (pFail 1 x) y) rfl fnc106 rfl rfl (fun w1 hm1 => PC.use (R := []) (fail_any p x 1 hd) hok hm1) (fun y hy => ?_)
    repeat (first | (refine st ?_) | (refine stx ?_) | (refine sb ?_) | (intro _))
    refine z_ret1 tab_ok Try.func125 hb hk Try.results125 (.tmp rfl) (fun w hm => ?_)
    exact ⟨y, hy, rfl, hm.weaken (fun _ h => h) (List.Sublist.refl _)⟩
end Go.Proofs.Ytabcaiecoiejkaa
