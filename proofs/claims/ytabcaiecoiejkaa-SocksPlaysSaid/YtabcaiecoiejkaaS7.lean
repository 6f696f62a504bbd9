/- Walk of package socks: request, of a session that knows no names. -/
import Derived.Test.YtabcaiecoiejkaaS6
set_option maxRecDepth 100000
set_option linter.unusedSimpArgs false
set_option linter.unusedVariables false
set_option maxHeartbeats 4000000
namespace Go.Proofs.Ytabcaiecoiejkaa
open Go K

theorem or64 (a b : Int) (ha : 0 ≤ a ∧ a ≤ 255) (hb : 0 ≤ b ∧ b ≤ 255) : bits .or .i64 (a * 256) b = a * 256 + b := by
  obtain ⟨m, rfl⟩ := Int.eq_ofNat_of_zero_le ha.1
  obtain ⟨r, rfl⟩ := Int.eq_ofNat_of_zero_le hb.1
  have e : (m * 256) ||| r = m * 256 + r := by
    have := Nat.shiftLeft_add_eq_or_of_lt (show r < 2 ^ 8 by omega) m
    rw [Nat.shiftLeft_eq] at this
    exact this.symm
  have e2 : ((m : Int) * 256) = ((m * 256 : Nat) : Int) := by omega
  rw [e2]
  show IntKind.i64.wrap ((BitVec.ofInt 64 ((m * 256 : Nat) : Int) ||| BitVec.ofInt 64 (r : Int)).toNat : Int) = _
  rw [BitVec.toNat_or, ofInt_u64 _ (by omega), ofInt_u64 _ (by omega), e, wr64 (by omega) (by omega)]
  omega
def pPort (l : List Int) (e : Nat) : Int := l.getD e 0 * 256 + l.getD (e + 1) 0
def pEat (x : Px) (e : Nat) : Px := { x with up := x.up.drop (e + 2) }
/-- a request of an address, of 'e' bytes with what stands ahead of it -/
def pReqA (x : Px) (a : Adr) (e : Nat) : Option Px :=
  if x.up.length < e + 2 then none
  else if pPort x.up e = 0 then some (pFail 1 (pEat x e))
  else if a.none = true ∨ a.group = true then some (pFail 4 (pEat x e))
  else some { pEat x e with ta := a, tp := pPort x.up e, state := 3 }
def pBody (x : Px) (m : Nat) : ByteArray := ofInts ((x.up.drop 4).take m)
/-- what request does, of a session that knows no names; none: there is not enough -/
def pReq (x : Px) : Option Px :=
  if x.up.length < 4 then none
  else if x.up.getD 0 0 ≠ 5 ∨ x.up.getD 2 0 ≠ 0 then some (pFail 1 x)
  else if x.up.getD 1 0 ≠ 1 then some (pFail 7 x)
  else if x.up.getD 3 0 = 1 then pReqA x (adr4 (pBody x 4)) 8
  else if x.up.getD 3 0 = 4 then pReqA x (adr16 (pBody x 16)) 20
  else if x.up.getD 3 0 = 3 then
    (if (pField x.up 4).2.2 = true ∧ (pField x.up 4).2.1 + 2 ≤ x.up.length then
      (if (pField x.up 4).1 = noX ∨ pPort x.up (pField x.up 4).2.1.toNat = 0 then some (pFail 1 (pEat x (pField x.up 4).2.1.toNat)) else some (pFail 4 (pEat x (pField x.up 4).2.1.toNat)))
    else none)
  else some (pFail 8 x)
theorem adr4_valid (s : ByteArray) : (adr4 s).valid = true := rfl
theorem adr16_valid (s : ByteArray) : (adr16 s).valid = true := rfl
def sAn : ByteArray := ⟨#[97, 110, 32, 97, 100, 100, 114, 101, 115, 115]⟩
theorem request_any (p : Nat) (x : Px) (hs : Small x.up) (hl : x.up.length ≤ 1000000) (hd : x.down.length ≤ 1000000) (hnm : x.names = .slice none 0 0) : PC 125 [fP p 0] p x ((pReq x).getD x) (.bool (pReq x).isSome) := by
  intro o w hok h
  unfold pReq
  by_cases h4 : x.up.length < 4
  · rw [if_pos h4]
    refine calls_of_z Try.func125 rfl Try.ntmps125 rfl h ?_; intro cs b hb hk
    repeat (first | (refine st ?_) | (refine stx ?_) | (refine sb ?_) | (intro _))
    refine z_ret1 tab_ok Try.func125 hb hk Try.results125 (.tmp rfl) (fun w hm => ?_)
    exact ⟨o, hok, rfl, hm⟩
  rw [if_neg h4]
  obtain ⟨b1, pre, r, rest, ho⟩ := own_some hok.1 (by omega)
  obtain ⟨o1, o2⟩ := o
  simp only at ho
  subst ho
  have hc0 := cell_at pre rest x.up 0 (by omega)
  have hc1 := cell_at pre rest x.up 1 (by omega)
  have hc2 := cell_at pre rest x.up 2 (by omega)
  have hc3 := cell_at pre rest x.up 3 (by omega)
  have hpc := piece pre rest x.up
  generalize hz0 : x.up.getD 0 0 = z0 at *
  generalize hz1 : x.up.getD 1 0 = z1 at *
  generalize hz2 : x.up.getD 2 0 = z2 at *
  generalize hz3 : x.up.getD 3 0 = z3 at *
  refine calls_of_z Try.func125 rfl Try.ntmps125 rfl h ?_; intro cs b hb hk
  repeat (first | (refine st ?_) | (refine stx ?_) | (refine sb ?_) | (intro _))
  refine zx_idxA (sz := 0) tab_ok rfl rfl rfl rfl rfl rfl (by omega) (by omega) (by simp) ?_
  repeat (first | (refine st ?_) | (refine stx ?_) | (refine sb ?_) | (intro _))
  refine zx_load tab_ok 1 rfl rfl rfl rfl rfl hc0 rfl ?_
  repeat (first | (refine st ?_) | (refine stx ?_) | (refine sb ?_) | (intro _))
  by_cases g0 : z0 = 5
  · subst g0
    repeat (first | (refine st ?_) | (refine stx ?_) | (refine sb ?_) | (intro _))
    refine zx_idxA (sz := 2) tab_ok rfl rfl rfl rfl rfl rfl (by omega) (by omega) (by simp) ?_
    repeat (first | (refine st ?_) | (refine stx ?_) | (refine sb ?_) | (intro _))
    refine zx_load tab_ok 1 rfl rfl rfl rfl rfl hc2 rfl ?_
    repeat (first | (refine st ?_) | (refine stx ?_) | (refine sb ?_) | (intro _))
    by_cases g2 : z2 = 0
    · subst g2
      rw [if_neg (by omega)]
      repeat (first | (refine st ?_) | (refine stx ?_) | (refine sb ?_) | (intro _))
      refine zx_idxA (sz := 1) tab_ok rfl rfl rfl rfl rfl rfl (by omega) (by omega) (by simp) ?_
      repeat (first | (refine st ?_) | (refine stx ?_) | (refine sb ?_) | (intro _))
      refine zx_load tab_ok 1 rfl rfl rfl rfl rfl hc1 rfl ?_
      repeat (first | (refine st ?_) | (refine stx ?_) | (refine sb ?_) | (intro _))
      by_cases g1 : z1 = 1
      · subst g1
        rw [if_neg (by omega)]
        repeat (first | (refine st ?_) | (refine stx ?_) | (refine sb ?_) | (intro _))
        rename_i k4
        refine zx_idxA (sz := 3) tab_ok rfl rfl rfl rfl rfl rfl (by omega) (by omega) (by simp) ?_
        repeat (first | (refine st ?_) | (refine stx ?_) | (refine sb ?_) | (intro _))
        refine zx_load tab_ok 2 rfl rfl rfl rfl rfl hc3 rfl ?_
        repeat (first | (refine st ?_) | (refine stx ?_) | (refine sb ?_) | (intro _))
        by_cases g3 : z3 = 1
        · subst g3
          rw [if_pos rfl]
          unfold pReqA
          by_cases hlen : x.up.length < 8 + 2
          · rw [if_pos hlen]
            repeat (first | (refine st ?_) | (refine stx ?_) | (refine sb ?_) | (intro _))
            refine z_ret1 tab_ok Try.func125 hb hk Try.results125 (.tmp rfl) (fun w hm => ?_)
            exact ⟨_, hok, rfl, hm.weaken (fun _ h => h) (List.Sublist.cons _ (List.Sublist.refl _))⟩
          rw [if_neg hlen]
          have hbs : (pBody x 4).size = 4 := by unfold pBody; rw [ofInts_size, List.length_take, List.length_drop]; omega
          have re0 := getD_small hs 8
          have re1 := getD_small hs (8 + 1)
          have hce := cell_at pre rest x.up 8 (by omega)
          have hce1 := cell_at pre rest x.up (8 + 1) (by omega)
          have hpo : bits .or .i64 (IntKind.i64.wrap (IntKind.i64.wrap (x.up.getD 8 0) * 2 ^ min 8 IntKind.i64.bits)) (IntKind.i64.wrap (x.up.getD (8 + 1) 0)) = pPort x.up 8 := by
            have e8 : (2 : Int) ^ min 8 IntKind.i64.bits = 256 := by decide
            rw [e8, wr64 (x := x.up.getD 8 0) (by omega) (by omega), wr64 (x := x.up.getD 8 0 * 256) (by omega) (by omega), wr64 (x := x.up.getD (8 + 1) 0) (by omega) (by omega), or64 _ _ re0 re1]
            rfl
          have hkn : ((8 + 2 : Nat) : Int) = min (max ((8 + 2 : Nat) : Int) 0) x.up.length := by omega
          have hkl : 8 + 2 ≤ x.up.length := by omega
          have hok1 := okX_take_up hok (8 + 2) hkl
          generalize hpp : pPort x.up 8 = po at *
          repeat (first | (refine st ?_) | (refine stx ?_) | (refine sb ?_) | (intro _))
          refine zx_idxA (sz := 8) tab_ok rfl rfl rfl rfl rfl rfl (by omega) (by omega) (by omega) ?_
          repeat (first | (refine st ?_) | (refine stx ?_) | (refine sb ?_) | (intro _))
          refine zx_load tab_ok 2 rfl rfl rfl rfl rfl hce rfl ?_
          repeat (first | (refine st ?_) | (refine stx ?_) | (refine sb ?_) | (intro _))
          refine zx_idxA (sz := 8 + 1) tab_ok rfl rfl rfl rfl rfl rfl (by first | omega | (simp only [IntKind.wrap_i64]; omega)) (by first | omega | (simp only [IntKind.wrap_i64]; omega)) (by first | omega | (simp only [IntKind.wrap_i64]; omega)) ?_
          repeat (first | (refine st ?_) | (refine stx ?_) | (refine sb ?_) | (intro _))
          refine zx_load tab_ok 2 rfl rfl rfl rfl rfl hce1 rfl ?_
          repeat (first | (refine st ?_) | (refine stx ?_) | (refine sb ?_) | (intro _))
          refine zx_re 7 (.int .i64 po) rfl (congrArg _ hpo) ?_
          repeat (first | (refine st ?_) | (refine stx ?_) | (refine sb ?_) | (intro _))
          rename_i k8
          refine zx_idxA (sz := 3) tab_ok rfl rfl rfl rfl rfl rfl (by omega) (by omega) (by simp) ?_
          repeat (first | (refine st ?_) | (refine stx ?_) | (refine sb ?_) | (intro _))
          refine zx_load tab_ok 3 rfl rfl rfl rfl rfl hc3 rfl ?_
          repeat (first | (refine st ?_) | (refine stx ?_) | (refine sb ?_) | (intro _))
          refine zx_sliceW tab_ok 4 8 (x.up.length + r) rfl rfl rfl rfl rfl rfl rfl (fun h => by cases h) rfl rfl rfl rfl (by omega) (by omega) (Nat.le_refl _) ?_
          refine zx_re 105 (.slice (some ⟨b1, if x.up.length + r = 4 then pre.length else pre.length + 4, none⟩) 4 (x.up.length + r - 4)) rfl (by
            by_cases hq : x.up.length + r = 4
            · rw [if_pos hq, if_pos hq]; rfl
            · rw [if_neg hq, if_neg hq]; rfl) ?_
          refine zx_b2sR tab_ok 3 ((x.up.drop 4).take 4) rfl rfl rfl rfl rfl rfl (hpc 4 4 _ (by split <;> omega) (by omega)) (by rw [List.length_take, List.length_drop]; omega) rfl ?_
          ((try (refine sg ?_)); (refine zx_call0 rfl fnc141 rfl rfl (fun w hm => From4_any (pBody x 4) hbs w) ?_))
          repeat (first | (refine st ?_) | (refine stx ?_) | (refine sb ?_) | (intro _))
          refine zx_re 114 (.int .i64 ((8 + 2 : Nat) : Int)) rfl (congrArg _ (by first | rfl | exact wr64 (by omega) (by omega))) ?_
          refine zx_call (Y := Unit) (v := fun _ => .slice (oA (some (b1, pre, r, rest))) (8 + 2) (8 + 2)) (Φ := fun _ => True) (L' := fun _ => [(k8, Blk.c (Adr.cells (adr4 (pBody x 4))) 24 0 0), (k4, Blk.c [.string sAn] 9 0 0)] ++ pX p (pEat x 8) (ownDrop (some (b1, pre, r, rest)) (u8s x.up) (8 + 2), o2)) rfl fnc95 rfl rfl (fun w1 hm1 => (take_up_use (R := [(k8, Blk.c (Adr.cells (adr4 (pBody x 4))) 24 0 0), (k4, Blk.c [.string sAn] 9 0 0)]) hok hm1 ((8 + 2 : Nat) : Int) (8 + 2) hkn (by omega)).mono fun e w' hh => ⟨(), trivial, hh.1, hh.2⟩) (fun _ _ => ?_)
          repeat (first | (refine st ?_) | (refine stx ?_) | (refine sb ?_) | (intro _))
          by_cases hp0 : po = 0
          · rw [if_pos hp0]
            repeat (first | (refine st ?_) | (refine stx ?_) | (refine sb ?_) | (intro _))
            refine zx_call (Y := Own × Own) (v := fun _ => .bool true) (Φ := fun y => okX (pFail 1 (pEat x 8)) y) (L' := fun y => [(k8, Blk.c (Adr.cells (adr4 (pBody x 4))) 24 0 0), (k4, Blk.c [.string sAn] 9 0 0)] ++ pX p (pFail 1 (pEat x 8)) y) rfl fnc106 rfl rfl (fun w1 hm1 => PC.use (R := [(k8, Blk.c (Adr.cells (adr4 (pBody x 4))) 24 0 0), (k4, Blk.c [.string sAn] 9 0 0)]) (fail_any p (pEat x 8) 1 hd) hok1 hm1) (fun y hy => ?_)
            repeat (first | (refine st ?_) | (refine stx ?_) | (refine sb ?_) | (intro _))
            refine z_ret1 tab_ok Try.func125 hb hk Try.results125 (.tmp rfl) (fun w hm => ?_)
            exact ⟨y, hy, rfl, hm.weaken (fun _ h => h) (List.Sublist.cons _ (List.Sublist.cons _ (List.Sublist.refl _)))⟩
          rw [if_neg hp0]
          have hav := adr4_valid (pBody x 4)
          repeat (first | (refine st ?_) | (refine stx ?_) | (refine sb ?_) | (intro _))
          ((try (refine sg ?_)); (refine zx_call0 rfl fnc48 rfl rfl (fun w hm => Valid_any (adr4 (pBody x 4)) w) ?_))
          repeat (first | (refine st ?_) | (refine stx ?_) | (refine sb ?_) | (intro _))
          ((try (refine sg ?_)); (refine zx_call0 rfl fnc42 rfl rfl (fun w hm => None_any (adr4 (pBody x 4)) w) ?_))
          by_cases hno : (adr4 (pBody x 4)).none = true
          · rw [if_pos (.inl hno)]
            repeat (first | (refine st ?_) | (refine stx ?_) | (refine sb ?_) | (intro _))
            refine zx_call (Y := Own × Own) (v := fun _ => .bool true) (Φ := fun y => okX (pFail 4 (pEat x 8)) y) (L' := fun y => [(k8, Blk.c (Adr.cells (adr4 (pBody x 4))) 24 0 0), (k4, Blk.c [.string sAn] 9 0 0)] ++ pX p (pFail 4 (pEat x 8)) y) rfl fnc106 rfl rfl (fun w1 hm1 => PC.use (R := [(k8, Blk.c (Adr.cells (adr4 (pBody x 4))) 24 0 0), (k4, Blk.c [.string sAn] 9 0 0)]) (fail_any p (pEat x 8) 4 hd) hok1 hm1) (fun y hy => ?_)
            repeat (first | (refine st ?_) | (refine stx ?_) | (refine sb ?_) | (intro _))
            refine z_ret1 tab_ok Try.func125 hb hk Try.results125 (.tmp rfl) (fun w hm => ?_)
            exact ⟨y, hy, rfl, hm.weaken (fun _ h => h) (List.Sublist.cons _ (List.Sublist.cons _ (List.Sublist.refl _)))⟩
          have hno2 : (adr4 (pBody x 4)).none = false := by simpa using hno
          repeat (first | (refine st ?_) | (refine stx ?_) | (refine sb ?_) | (intro _))
          ((try (refine sg ?_)); (refine zx_call0 rfl fnc43 rfl rfl (fun w hm => Group_any (adr4 (pBody x 4)) w) ?_))
          by_cases hgr : (adr4 (pBody x 4)).group = true
          · rw [if_pos (.inr hgr)]
            repeat (first | (refine st ?_) | (refine stx ?_) | (refine sb ?_) | (intro _))
            refine zx_call (Y := Own × Own) (v := fun _ => .bool true) (Φ := fun y => okX (pFail 4 (pEat x 8)) y) (L' := fun y => [(k8, Blk.c (Adr.cells (adr4 (pBody x 4))) 24 0 0), (k4, Blk.c [.string sAn] 9 0 0)] ++ pX p (pFail 4 (pEat x 8)) y) rfl fnc106 rfl rfl (fun w1 hm1 => PC.use (R := [(k8, Blk.c (Adr.cells (adr4 (pBody x 4))) 24 0 0), (k4, Blk.c [.string sAn] 9 0 0)]) (fail_any p (pEat x 8) 4 hd) hok1 hm1) (fun y hy => ?_)
            repeat (first | (refine st ?_) | (refine stx ?_) | (refine sb ?_) | (intro _))
            refine z_ret1 tab_ok Try.func125 hb hk Try.results125 (.tmp rfl) (fun w hm => ?_)
            exact ⟨y, hy, rfl, hm.weaken (fun _ h => h) (List.Sublist.cons _ (List.Sublist.cons _ (List.Sublist.refl _)))⟩
          have hgr2 : (adr4 (pBody x 4)).group = false := by simpa using hgr
          rw [if_neg (fun hh => hh.elim hno hgr)]
          repeat (first | (refine st ?_) | (refine stx ?_) | (refine sb ?_) | (intro _))
          refine z_ret1 tab_ok Try.func125 hb hk Try.results125 (.tmp rfl) (fun w hm => ?_)
          exact ⟨_, okX_same hok1 rfl rfl, rfl, hm.weaken (fun _ h => h) (List.Sublist.cons _ (List.Sublist.cons _ (List.Sublist.refl _)))⟩
        by_cases g3' : z3 = 4
        · subst g3'
          rw [if_neg g3, if_pos rfl]
          unfold pReqA
          by_cases hlen : x.up.length < 20 + 2
          · rw [if_pos hlen]
            repeat (first | (refine st ?_) | (refine stx ?_) | (refine sb ?_) | (intro _))
            refine z_ret1 tab_ok Try.func125 hb hk Try.results125 (.tmp rfl) (fun w hm => ?_)
            exact ⟨_, hok, rfl, hm.weaken (fun _ h => h) (List.Sublist.cons _ (List.Sublist.refl _))⟩
          rw [if_neg hlen]
          have hbs : (pBody x 16).size = 16 := by unfold pBody; rw [ofInts_size, List.length_take, List.length_drop]; omega
          have re0 := getD_small hs 20
          have re1 := getD_small hs (20 + 1)
          have hce := cell_at pre rest x.up 20 (by omega)
          have hce1 := cell_at pre rest x.up (20 + 1) (by omega)
          have hpo : bits .or .i64 (IntKind.i64.wrap (IntKind.i64.wrap (x.up.getD 20 0) * 2 ^ min 8 IntKind.i64.bits)) (IntKind.i64.wrap (x.up.getD (20 + 1) 0)) = pPort x.up 20 := by
            have e8 : (2 : Int) ^ min 8 IntKind.i64.bits = 256 := by decide
            rw [e8, wr64 (x := x.up.getD 20 0) (by omega) (by omega), wr64 (x := x.up.getD 20 0 * 256) (by omega) (by omega), wr64 (x := x.up.getD (20 + 1) 0) (by omega) (by omega), or64 _ _ re0 re1]
            rfl
          have hkn : ((20 + 2 : Nat) : Int) = min (max ((20 + 2 : Nat) : Int) 0) x.up.length := by omega
          have hkl : 20 + 2 ≤ x.up.length := by omega
          have hok1 := okX_take_up hok (20 + 2) hkl
          generalize hpp : pPort x.up 20 = po at *
          repeat (first | (refine st ?_) | (refine stx ?_) | (refine sb ?_) | (intro _))
          refine zx_idxA (sz := 20) tab_ok rfl rfl rfl rfl rfl rfl (by omega) (by omega) (by omega) ?_
          repeat (first | (refine st ?_) | (refine stx ?_) | (refine sb ?_) | (intro _))
          refine zx_load tab_ok 2 rfl rfl rfl rfl rfl hce rfl ?_
          repeat (first | (refine st ?_) | (refine stx ?_) | (refine sb ?_) | (intro _))
          refine zx_idxA (sz := 20 + 1) tab_ok rfl rfl rfl rfl rfl rfl (by first | omega | (simp only [IntKind.wrap_i64]; omega)) (by first | omega | (simp only [IntKind.wrap_i64]; omega)) (by first | omega | (simp only [IntKind.wrap_i64]; omega)) ?_
          repeat (first | (refine st ?_) | (refine stx ?_) | (refine sb ?_) | (intro _))
          refine zx_load tab_ok 2 rfl rfl rfl rfl rfl hce1 rfl ?_
          repeat (first | (refine st ?_) | (refine stx ?_) | (refine sb ?_) | (intro _))
          refine zx_re 7 (.int .i64 po) rfl (congrArg _ hpo) ?_
          repeat (first | (refine st ?_) | (refine stx ?_) | (refine sb ?_) | (intro _))
          rename_i k8
          refine zx_idxA (sz := 3) tab_ok rfl rfl rfl rfl rfl rfl (by omega) (by omega) (by simp) ?_
          repeat (first | (refine st ?_) | (refine stx ?_) | (refine sb ?_) | (intro _))
          refine zx_load tab_ok 3 rfl rfl rfl rfl rfl hc3 rfl ?_
          repeat (first | (refine st ?_) | (refine stx ?_) | (refine sb ?_) | (intro _))
          refine zx_sliceW tab_ok 4 20 (x.up.length + r) rfl rfl rfl rfl rfl rfl rfl (fun h => by cases h) rfl rfl rfl rfl (by omega) (by omega) (Nat.le_refl _) ?_
          refine zx_re 105 (.slice (some ⟨b1, if x.up.length + r = 4 then pre.length else pre.length + 4, none⟩) 16 (x.up.length + r - 4)) rfl (by
            by_cases hq : x.up.length + r = 4
            · rw [if_pos hq, if_pos hq]; rfl
            · rw [if_neg hq, if_neg hq]; rfl) ?_
          refine zx_b2sR tab_ok 3 ((x.up.drop 4).take 16) rfl rfl rfl rfl rfl rfl (hpc 4 16 _ (by split <;> omega) (by omega)) (by rw [List.length_take, List.length_drop]; omega) rfl ?_
          ((try (refine sg ?_)); (refine zx_call0 rfl fnc141 rfl rfl (fun w hm => From16_any (pBody x 16) hbs w) ?_))
          repeat (first | (refine st ?_) | (refine stx ?_) | (refine sb ?_) | (intro _))
          refine zx_re 114 (.int .i64 ((20 + 2 : Nat) : Int)) rfl (congrArg _ (by first | rfl | exact wr64 (by omega) (by omega))) ?_
          refine zx_call (Y := Unit) (v := fun _ => .slice (oA (some (b1, pre, r, rest))) (20 + 2) (20 + 2)) (Φ := fun _ => True) (L' := fun _ => [(k8, Blk.c (Adr.cells (adr16 (pBody x 16))) 24 0 0), (k4, Blk.c [.string sAn] 9 0 0)] ++ pX p (pEat x 20) (ownDrop (some (b1, pre, r, rest)) (u8s x.up) (20 + 2), o2)) rfl fnc95 rfl rfl (fun w1 hm1 => (take_up_use (R := [(k8, Blk.c (Adr.cells (adr16 (pBody x 16))) 24 0 0), (k4, Blk.c [.string sAn] 9 0 0)]) hok hm1 ((20 + 2 : Nat) : Int) (20 + 2) hkn (by omega)).mono fun e w' hh => ⟨(), trivial, hh.1, hh.2⟩) (fun _ _ => ?_)
          repeat (first | (refine st ?_) | (refine stx ?_) | (refine sb ?_) | (intro _))
          by_cases hp0 : po = 0
          · rw [if_pos hp0]
            repeat (first | (refine st ?_) | (refine stx ?_) | (refine sb ?_) | (intro _))
            refine zx_call (Y := Own × Own) (v := fun _ => .bool true) (Φ := fun y => okX (pFail 1 (pEat x 20)) y) (L' := fun y => [(k8, Blk.c (Adr.cells (adr16 (pBody x 16))) 24 0 0), (k4, Blk.c [.string sAn] 9 0 0)] ++ pX p (pFail 1 (pEat x 20)) y) rfl fnc106 rfl rfl (fun w1 hm1 => PC.use (R := [(k8, Blk.c (Adr.cells (adr16 (pBody x 16))) 24 0 0), (k4, Blk.c [.string sAn] 9 0 0)]) (fail_any p (pEat x 20) 1 hd) hok1 hm1) (fun y hy => ?_)
            repeat (first | (refine st ?_) | (refine stx ?_) | (refine sb ?_) | (intro _))
            refine z_ret1 tab_ok Try.func125 hb hk Try.results125 (.tmp rfl) (fun w hm => ?_)
            exact ⟨y, hy, rfl, hm.weaken (fun _ h => h) (List.Sublist.cons _ (List.Sublist.cons _ (List.Sublist.refl _)))⟩
          rw [if_neg hp0]
          have hav := adr16_valid (pBody x 16)
          repeat (first | (refine st ?_) | (refine stx ?_) | (refine sb ?_) | (intro _))
          ((try (refine sg ?_)); (refine zx_call0 rfl fnc48 rfl rfl (fun w hm => Valid_any (adr16 (pBody x 16)) w) ?_))
          repeat (first | (refine st ?_) | (refine stx ?_) | (refine sb ?_) | (intro _))
          ((try (refine sg ?_)); (refine zx_call0 rfl fnc42 rfl rfl (fun w hm => None_any (adr16 (pBody x 16)) w) ?_))
          by_cases hno : (adr16 (pBody x 16)).none = true
          · rw [if_pos (.inl hno)]
            repeat (first | (refine st ?_) | (refine stx ?_) | (refine sb ?_) | (intro _))
            refine zx_call (Y := Own × Own) (v := fun _ => .bool true) (Φ := fun y => okX (pFail 4 (pEat x 20)) y) (L' := fun y => [(k8, Blk.c (Adr.cells (adr16 (pBody x 16))) 24 0 0), (k4, Blk.c [.string sAn] 9 0 0)] ++ pX p (pFail 4 (pEat x 20)) y) rfl fnc106 rfl rfl (fun w1 hm1 => PC.use (R := [(k8, Blk.c (Adr.cells (adr16 (pBody x 16))) 24 0 0), (k4, Blk.c [.string sAn] 9 0 0)]) (fail_any p (pEat x 20) 4 hd) hok1 hm1) (fun y hy => ?_)
            repeat (first | (refine st ?_) | (refine stx ?_) | (refine sb ?_) | (intro _))
            refine z_ret1 tab_ok Try.func125 hb hk Try.results125 (.tmp rfl) (fun w hm => ?_)
            exact ⟨y, hy, rfl, hm.weaken (fun _ h => h) (List.Sublist.cons _ (List.Sublist.cons _ (List.Sublist.refl _)))⟩
          have hno2 : (adr16 (pBody x 16)).none = false := by simpa using hno
          repeat (first | (refine st ?_) | (refine stx ?_) | (refine sb ?_) | (intro _))
          ((try (refine sg ?_)); (refine zx_call0 rfl fnc43 rfl rfl (fun w hm => Group_any (adr16 (pBody x 16)) w) ?_))
          by_cases hgr : (adr16 (pBody x 16)).group = true
          · rw [if_pos (.inr hgr)]
            repeat (first | (refine st ?_) | (refine stx ?_) | (refine sb ?_) | (intro _))
            refine zx_call (Y := Own × Own) (v := fun _ => .bool true) (Φ := fun y => okX (pFail 4 (pEat x 20)) y) (L' := fun y => [(k8, Blk.c (Adr.cells (adr16 (pBody x 16))) 24 0 0), (k4, Blk.c [.string sAn] 9 0 0)] ++ pX p (pFail 4 (pEat x 20)) y) rfl fnc106 rfl rfl (fun w1 hm1 => PC.use (R := [(k8, Blk.c (Adr.cells (adr16 (pBody x 16))) 24 0 0), (k4, Blk.c [.string sAn] 9 0 0)]) (fail_any p (pEat x 20) 4 hd) hok1 hm1) (fun y hy => ?_)
            repeat (first | (refine st ?_) | (refine stx ?_) | (refine sb ?_) | (intro _))
            refine z_ret1 tab_ok Try.func125 hb hk Try.results125 (.tmp rfl) (fun w hm => ?_)
            exact ⟨y, hy, rfl, hm.weaken (fun _ h => h) (List.Sublist.cons _ (List.Sublist.cons _ (List.Sublist.refl _)))⟩
          have hgr2 : (adr16 (pBody x 16)).group = false := by simpa using hgr
          rw [if_neg (fun hh => hh.elim hno hgr)]
          repeat (first | (refine st ?_) | (refine stx ?_) | (refine sb ?_) | (intro _))
          refine z_ret1 tab_ok Try.func125 hb hk Try.results125 (.tmp rfl) (fun w hm => ?_)
          exact ⟨_, okX_same hok1 rfl rfl, rfl, hm.weaken (fun _ h => h) (List.Sublist.cons _ (List.Sublist.cons _ (List.Sublist.refl _)))⟩
        by_cases g3'' : z3 = 3
        · subst g3''
          rw [if_neg g3, if_neg g3', if_pos rfl]
          have hF := pField_le x.up 4 hs
          have hfld := field_any p x 4 (by omega) hs (by omega)
          generalize hfl : pField x.up 4 = fl at *
          repeat (first | (refine st ?_) | (refine stx ?_) | (refine sb ?_) | (intro _))
          ((try (refine sg ?_)); (refine zx_call0 rfl fnc137 rfl rfl (fun w hm => QC.use (R := [(k4, Blk.c [.string noX] 9 0 0)]) hfld hok hm) ?_))
          rcases Bool.eq_false_or_eq_true fl.2.2 with hf | hf
          · obtain ⟨hF1, hF2⟩ := hF hf
            obtain ⟨ee, hee⟩ : ∃ ee : Nat, fl.2.1 = ee := ⟨fl.2.1.toNat, by omega⟩
            rw [hee] at hF1 hF2 hfld ⊢
            rw [Int.toNat_natCast]
            repeat (first | (refine st ?_) | (refine stx ?_) | (refine sb ?_) | (intro _))
            by_cases hle : (ee : Int) + 2 ≤ x.up.length
            · rw [if_pos ⟨hf, hle⟩]
              have re0 := getD_small hs ee
              have re1 := getD_small hs (ee + 1)
              have hce := cell_at pre rest x.up ee (by omega)
              have hce1 := cell_at pre rest x.up (ee + 1) (by omega)
              have hpo : bits .or .i64 (IntKind.i64.wrap (IntKind.i64.wrap (x.up.getD ee 0) * 2 ^ min 8 IntKind.i64.bits)) (IntKind.i64.wrap (x.up.getD (ee + 1) 0)) = pPort x.up ee := by
                have e8 : (2 : Int) ^ min 8 IntKind.i64.bits = 256 := by decide
                rw [e8, wr64 (x := x.up.getD ee 0) (by omega) (by omega), wr64 (x := x.up.getD ee 0 * 256) (by omega) (by omega), wr64 (x := x.up.getD (ee + 1) 0) (by omega) (by omega), or64 _ _ re0 re1]
                rfl
              have hkn : ((ee + 2 : Nat) : Int) = min (max ((ee + 2 : Nat) : Int) 0) x.up.length := by omega
              have hkl : ee + 2 ≤ x.up.length := by omega
              have hok1 := okX_take_up hok (ee + 2) hkl
              generalize hpp : pPort x.up ee = po at *
              repeat (first | (refine st ?_) | (refine stx ?_) | (refine sb ?_) | (intro _))
              refine zx_idxA (sz := ee) tab_ok rfl rfl rfl rfl rfl rfl (by omega) (by omega) (by omega) ?_
              repeat (first | (refine st ?_) | (refine stx ?_) | (refine sb ?_) | (intro _))
              refine zx_load tab_ok 2 rfl rfl rfl rfl rfl hce rfl ?_
              repeat (first | (refine st ?_) | (refine stx ?_) | (refine sb ?_) | (intro _))
              refine zx_re 73 (.int .i64 ((ee + 1 : Nat) : Int)) rfl (congrArg _ (wr64 (by omega) (by omega))) ?_
              refine zx_idxA (sz := ee + 1) tab_ok rfl rfl rfl rfl rfl rfl (by omega) (by omega) (by omega) ?_
              repeat (first | (refine st ?_) | (refine stx ?_) | (refine sb ?_) | (intro _))
              refine zx_load tab_ok 2 rfl rfl rfl rfl rfl hce1 rfl ?_
              repeat (first | (refine st ?_) | (refine stx ?_) | (refine sb ?_) | (intro _))
              refine zx_re 7 (.int .i64 po) rfl (congrArg _ hpo) ?_
              repeat (first | (refine st ?_) | (refine stx ?_) | (refine sb ?_) | (intro _))
              rename_i k8
              refine zx_idxA (sz := 3) tab_ok rfl rfl rfl rfl rfl rfl (by omega) (by omega) (by simp) ?_
              repeat (first | (refine st ?_) | (refine stx ?_) | (refine sb ?_) | (intro _))
              refine zx_load tab_ok 3 rfl rfl rfl rfl rfl hc3 rfl ?_
              repeat (first | (refine st ?_) | (refine stx ?_) | (refine sb ?_) | (intro _))
              refine zx_re 87 (.slice none 0 0) rfl hnm ?_
              ((try (refine sg ?_)); (refine zx_call0 rfl fnc139 rfl rfl (fun w hm => IndexFunc_nil _ w) ?_))
              repeat (first | (refine st ?_) | (refine stx ?_) | (refine sb ?_) | (intro _))
              refine zx_re 114 (.int .i64 ((ee + 2 : Nat) : Int)) rfl (congrArg _ (by first | rfl | exact wr64 (by omega) (by omega))) ?_
              refine zx_call (Y := Unit) (v := fun _ => .slice (oA (some (b1, pre, r, rest))) (ee + 2) (ee + 2)) (Φ := fun _ => True) (L' := fun _ => [(k8, Blk.c (Adr.cells adr0) 24 0 0), (k4, Blk.c [.string fl.1] 9 0 0)] ++ pX p (pEat x ee) (ownDrop (some (b1, pre, r, rest)) (u8s x.up) (ee + 2), o2)) rfl fnc95 rfl rfl (fun w1 hm1 => (take_up_use (R := [(k8, Blk.c (Adr.cells adr0) 24 0 0), (k4, Blk.c [.string fl.1] 9 0 0)]) hok hm1 ((ee + 2 : Nat) : Int) (ee + 2) hkn (by omega)).mono fun e w' hh => ⟨(), trivial, hh.1, hh.2⟩) (fun _ _ => ?_)
              repeat (first | (refine st ?_) | (refine stx ?_) | (refine sb ?_) | (intro _))
              by_cases hbo : fl.1 = noX
              · have hbo2 : decide (fl.1 = ByteArray.mk #[]) = true := decide_eq_true hbo
                rw [if_pos (.inl hbo)]
                repeat (first | (refine st ?_) | (refine stx ?_) | (refine sb ?_) | (intro _))
                refine zx_call (Y := Own × Own) (v := fun _ => .bool true) (Φ := fun y => okX (pFail 1 (pEat x ee)) y) (L' := fun y => [(k8, Blk.c (Adr.cells adr0) 24 0 0), (k4, Blk.c [.string fl.1] 9 0 0)] ++ pX p (pFail 1 (pEat x ee)) y) rfl fnc106 rfl rfl (fun w1 hm1 => PC.use (R := [(k8, Blk.c (Adr.cells adr0) 24 0 0), (k4, Blk.c [.string fl.1] 9 0 0)]) (fail_any p (pEat x ee) 1 hd) hok1 hm1) (fun y hy => ?_)
                repeat (first | (refine st ?_) | (refine stx ?_) | (refine sb ?_) | (intro _))
                refine z_ret1 tab_ok Try.func125 hb hk Try.results125 (.tmp rfl) (fun w hm => ?_)
                exact ⟨y, hy, rfl, hm.weaken (fun _ h => h) (List.Sublist.cons _ (List.Sublist.cons _ (List.Sublist.refl _)))⟩
              have hbo2 : decide (fl.1 = ByteArray.mk #[]) = false := decide_eq_false hbo
              by_cases hp0 : po = 0
              · rw [if_pos (.inr hp0)]
                repeat (first | (refine st ?_) | (refine stx ?_) | (refine sb ?_) | (intro _))
                refine zx_call (Y := Own × Own) (v := fun _ => .bool true) (Φ := fun y => okX (pFail 1 (pEat x ee)) y) (L' := fun y => [(k8, Blk.c (Adr.cells adr0) 24 0 0), (k4, Blk.c [.string fl.1] 9 0 0)] ++ pX p (pFail 1 (pEat x ee)) y) rfl fnc106 rfl rfl (fun w1 hm1 => PC.use (R := [(k8, Blk.c (Adr.cells adr0) 24 0 0), (k4, Blk.c [.string fl.1] 9 0 0)]) (fail_any p (pEat x ee) 1 hd) hok1 hm1) (fun y hy => ?_)
                repeat (first | (refine st ?_) | (refine stx ?_) | (refine sb ?_) | (intro _))
                refine z_ret1 tab_ok Try.func125 hb hk Try.results125 (.tmp rfl) (fun w hm => ?_)
                exact ⟨y, hy, rfl, hm.weaken (fun _ h => h) (List.Sublist.cons _ (List.Sublist.cons _ (List.Sublist.refl _)))⟩
              rw [if_neg (fun hh => hh.elim hbo hp0)]
              repeat (first | (refine st ?_) | (refine stx ?_) | (refine sb ?_) | (intro _))
              refine zx_call (Y := Own × Own) (v := fun _ => .bool true) (Φ := fun y => okX (pFail 4 (pEat x ee)) y) (L' := fun y => [(k8, Blk.c (Adr.cells adr0) 24 0 0), (k4, Blk.c [.string fl.1] 9 0 0)] ++ pX p (pFail 4 (pEat x ee)) y) rfl fnc106 rfl rfl (fun w1 hm1 => PC.use (R := [(k8, Blk.c (Adr.cells adr0) 24 0 0), (k4, Blk.c [.string fl.1] 9 0 0)]) (fail_any p (pEat x ee) 4 hd) hok1 hm1) (fun y hy => ?_)
              repeat (first | (refine st ?_) | (refine stx ?_) | (refine sb ?_) | (intro _))
              refine z_ret1 tab_ok Try.func125 hb hk Try.results125 (.tmp rfl) (fun w hm => ?_)
              exact ⟨y, hy, rfl, hm.weaken (fun _ h => h) (List.Sublist.cons _ (List.Sublist.cons _ (List.Sublist.refl _)))⟩
            · rw [if_neg (fun hh => hle hh.2)]
              repeat (first | (refine st ?_) | (refine stx ?_) | (refine sb ?_) | (intro _))
              refine z_ret1 tab_ok Try.func125 hb hk Try.results125 (.tmp rfl) (fun w hm => ?_)
              exact ⟨_, hok, rfl, hm.weaken (fun _ h => h) (List.Sublist.cons _ (List.Sublist.refl _))⟩
          · rw [if_neg (fun hh => by rw [hh.1] at hf; cases hf)]
            repeat (first | (refine st ?_) | (refine stx ?_) | (refine sb ?_) | (intro _))
            refine z_ret1 tab_ok Try.func125 hb hk Try.results125 (.tmp rfl) (fun w hm => ?_)
            exact ⟨_, hok, rfl, hm.weaken (fun _ h => h) (List.Sublist.cons _ (List.Sublist.refl _))⟩
        rw [if_neg g3, if_neg g3', if_neg g3'']
        repeat (first | (refine st ?_) | (refine stx ?_) | (refine sb ?_) | (intro _))
        refine zx_call (Y := Own × Own) (v := fun _ => .bool true) (Φ := fun y => okX (pFail 8 x) y) (L' := fun y => [(k4, Blk.c [.string noX] 9 0 0)] ++ pX p (pFail 8 x) y) rfl fnc106 rfl rfl (fun w1 hm1 => PC.use (R := [(k4, Blk.c [.string noX] 9 0 0)]) (fail_any p x 8 hd) hok hm1) (fun y hy => ?_)
        repeat (first | (refine st ?_) | (refine stx ?_) | (refine sb ?_) | (intro _))
        refine z_ret1 tab_ok Try.func125 hb hk Try.results125 (.tmp rfl) (fun w hm => ?_)
        exact ⟨y, hy, rfl, hm.weaken (fun _ h => h) (List.Sublist.cons _ (List.Sublist.refl _))⟩
      · rw [if_pos g1]
        repeat (first | (refine st ?_) | (refine stx ?_) | (refine sb ?_) | (intro _))
        refine zx_call (Y := Own × Own) (v := fun _ => .bool true) (Φ := fun y => okX (pFail 7 x) y) (L' := fun y => [] ++ pX p (pFail 7 x) y) rfl fnc106 rfl rfl (fun w1 hm1 => PC.use (R := []) (fail_any p x 7 hd) hok hm1) (fun y hy => ?_)
        repeat (first | (refine st ?_) | (refine stx ?_) | (refine sb ?_) | (intro _))
        refine z_ret1 tab_ok Try.func125 hb hk Try.results125 (.tmp rfl) (fun w hm => ?_)
        exact ⟨y, hy, rfl, hm.weaken (fun _ h => h) (List.Sublist.refl _)⟩
    · rw [if_pos (.inr g2)]
      repeat (first | (refine st ?_) | (refine stx ?_) | (refine sb ?_) | (intro _))
      refine zx_call (Y := Own × Own) (v := fun _ => .bool true) (Φ := fun y => okX (pFail 1 x) y) (L' := fun y => [] ++ pX p (pFail 1 x) y) rfl fnc106 rfl rfl (fun w1 hm1 => PC.use (R := []) (fail_any p x 1 hd) hok hm1) (fun y hy => ?_)
      repeat (first | (refine st ?_) | (refine stx ?_) | (refine sb ?_) | (intro _))
      refine z_ret1 tab_ok Try.func125 hb hk Try.results125 (.tmp rfl) (fun w hm => ?_)
      exact ⟨y, hy, rfl, hm.weaken (fun _ h => h) (List.Sublist.refl _)⟩
  · rw [if_pos (.inl g0)]
    repeat (first | (refine st ?_) | (refine stx ?_) | (refine sb ?_) | (intro _))
    refine zx_call (Y := Own × Own) (v := fun _ => .bool true) (Φ := fun y => okX (pFail 1 x) y) (L' := fun y => [] ++ pX p (pFail 1 x) y) rfl fnc106 rfl rfl (fun w1 hm1 => PC.use (R := []) (fail_any p x 1 hd) hok hm1) (fun y hy => ?_)
    repeat (first | (refine st ?_) | (refine stx ?_) | (refine sb ?_) | (intro _))
    refine z_ret1 tab_ok Try.func125 hb hk Try.results125 (.tmp rfl) (fun w hm => ?_)
    exact ⟨y, hy, rfl, hm.weaken (fun _ h => h) (List.Sublist.refl _)⟩
end Go.Proofs.Ytabcaiecoiejkaa
