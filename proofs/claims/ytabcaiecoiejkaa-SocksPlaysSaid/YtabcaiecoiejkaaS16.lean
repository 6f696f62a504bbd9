/- Walk of package socks: login. -/
import Derived.Test.YtabcaiecoiejkaaS15
set_option maxRecDepth 100000
set_option linter.unusedSimpArgs false
set_option linter.unusedVariables false
set_option maxHeartbeats 4000000
namespace Go.Proofs.Ytabcaiecoiejkaa
open Go K

/-- the second field of a login -/
def pPass (l : List Int) : ByteArray × Int × Bool := if (pField l 1).2.2 = true then pField l (pField l 1).2.1.toNat else (noX, 0, false)
/-- what login does; none: there is not enough -/
def pLogin (x : Px) : Option Px :=
  if x.up.length = 0 then none
  else if x.up.getD 0 0 ≠ 1 then some (pDone (pSay x [1, 1]))
  else if (pPass x.up).2.2 = false then none
  else if (pField x.up 1).1 = x.user ∧ (pPass x.up).1 = x.pass then some { pSay { x with up := x.up.drop (pPass x.up).2.1.toNat } [1, 0] with state := 2 }
  else some (pDone (pSay x [1, 1]))
theorem login_any (p : Nat) (x : Px) (hs : Small x.up) (hl : x.up.length ≤ 1000000) (hd : x.down.length ≤ 1000000) : PC 124 [fP p 0] p x ((pLogin x).getD x) (.bool (pLogin x).isSome) := by
  intro o w hok h
  unfold pLogin
  have hF := pField_le x.up 1 hs
  have hfld := field_any p x 1 (by omega) hs (by omega)
  by_cases h0 : x.up.length = 0
  · rw [if_pos h0]
    have hf : (pField x.up 1).2.2 = false := by unfold pField; rw [if_pos (.inl (by omega))]
    generalize pField x.up 1 = fl at *
    refine calls_of_z Try.func124 rfl Try.ntmps124 rfl h ?_; intro cs b hb hk
    repeat (first | (refine st ?_) | (refine stx ?_) | (refine sb ?_) | (intro _))
    ((try (refine sg ?_)); (refine zx_call0 rfl fnc137 rfl rfl (fun w hm => QC.use (R := []) hfld hok hm) ?_))
    repeat (first | (refine st ?_) | (refine stx ?_) | (refine sb ?_) | (intro _))
    refine z_ret1 tab_ok Try.func124 hb hk Try.results124 (.tmp rfl) (fun w hm => ?_)
    exact ⟨o, hok, rfl, hm⟩
  rw [if_neg h0]
  obtain ⟨b1, pre, r, rest, ho⟩ := own_some hok.1 (by omega)
  obtain ⟨o1, o2⟩ := o
  simp only at ho
  subst ho
  have hc := cell_at pre rest x.up 0 (by omega)
  have hG : (pField x.up 1).2.2 = true → ∃ ee : Nat, (pField x.up 1).2.1 = (ee : Int) ∧ ee ≤ x.up.length ∧ pPass x.up = pField x.up ee ∧ ((pField x.up ee).2.2 = true → (ee : Int) + 1 ≤ (pField x.up ee).2.1 ∧ (pField x.up ee).2.1 ≤ x.up.length) := by
    intro hf
    obtain ⟨h1, h2⟩ := hF hf
    refine ⟨(pField x.up 1).2.1.toNat, by omega, by omega, by unfold pPass; rw [if_pos hf], pField_le x.up _ hs⟩
  have hN : (pField x.up 1).2.2 = false → pPass x.up = (noX, 0, false) := by intro hf; unfold pPass; rw [if_neg (by rw [hf]; decide)]
  have hfld2 := fun (ee : Nat) (he : ee ≤ x.up.length) => field_any p x ee (by omega) hs (by omega)
  generalize hz : x.up.getD 0 0 = z0 at *
  generalize hps : pPass x.up = g at *
  generalize hfl : pField x.up 1 = fl at *
  rcases Bool.eq_false_or_eq_true fl.2.2 with hf | hf
  · obtain ⟨ee, he1, he2, he3, he4⟩ := hG hf
    have hg2 := hfld2 ee he2
    rw [← he3] at hg2 he4
    rw [he1] at hfld
    refine calls_of_z Try.func124 rfl Try.ntmps124 rfl h ?_; intro cs b hb hk
    repeat (first | (refine st ?_) | (refine stx ?_) | (refine sb ?_) | (intro _))
    ((try (refine sg ?_)); (refine zx_call0 rfl fnc137 rfl rfl (fun w hm => QC.use (R := []) hfld hok hm) ?_))
    repeat (first | (refine st ?_) | (refine stx ?_) | (refine sb ?_) | (intro _))
    ((try (refine sg ?_)); (refine zx_call0 rfl fnc137 rfl rfl (fun w hm => QC.use (R := []) hg2 hok hm) ?_))
    repeat (first | (refine st ?_) | (refine stx ?_) | (refine sb ?_) | (intro _))
    refine zx_idxA (sz := 0) tab_ok rfl rfl rfl rfl rfl rfl (by omega) (by omega) (by simp) ?_
    repeat (first | (refine st ?_) | (refine stx ?_) | (refine sb ?_) | (intro _))
    refine zx_load tab_ok 1 rfl rfl rfl rfl rfl hc rfl ?_
    repeat (first | (refine st ?_) | (refine stx ?_) | (refine sb ?_) | (intro _))
    by_cases hz1 : z0 = 1
    · subst hz1
      rw [if_neg (by omega)]
      rcases Bool.eq_false_or_eq_true g.2.2 with hg | hg
      · rw [hg, if_neg (by simp)]
        obtain ⟨hg3, hg4⟩ := he4 hg
        by_cases hus : fl.1 = x.user
        · have hus2 : decide (fl.1 = x.user) = true := decide_eq_true hus
          by_cases hpa : g.1 = x.pass
          · have hpa2 : decide (g.1 = x.pass) = true := decide_eq_true hpa
            rw [if_pos ⟨hus, hpa⟩]
            have hkn : (g.2.1.toNat : Int) = min (max g.2.1 0) x.up.length := by omega
            have hkl : g.2.1.toNat ≤ x.up.length := by omega
            have hok1 := okX_take_up hok g.2.1.toNat hkl
            repeat (first | (refine st ?_) | (refine stx ?_) | (refine sb ?_) | (intro _))
            refine zx_call (Y := Unit) (v := fun _ => .slice (oA (some (b1, pre, r, rest))) g.2.1.toNat g.2.1.toNat) (Φ := fun _ => True) (L' := fun _ => [] ++ pX p { x with up := x.up.drop g.2.1.toNat } (ownDrop (some (b1, pre, r, rest)) (u8s x.up) g.2.1.toNat, o2)) rfl fnc95 rfl rfl (fun w1 hm1 => (take_up_use (R := []) hok hm1 g.2.1 g.2.1.toNat hkn (by omega)).mono fun e w' hh => ⟨(), trivial, hh.1, hh.2⟩) (fun _ _ => ?_)
            repeat (first | (refine st ?_) | (refine stx ?_) | (refine sb ?_) | (intro _))
            rename_i kb
            refine zx_call (Y := Own × Own) (v := fun _ => .tuple #[]) (Φ := fun y => okX (pSay { x with up := x.up.drop g.2.1.toNat } [1, 0]) y) (L' := fun y => [(kb, Blk.c (u8s [1, 0]) 5 0 0)] ++ pX p (pSay { x with up := x.up.drop g.2.1.toNat } [1, 0]) y) rfl fnc107 rfl rfl
              (fun w1 hm1 => say_use (R := [(kb, Blk.c (u8s [1, 0]) 5 0 0)]) hok1 hm1 0 rfl [1, 0] [] (by rw [List.append_nil]) 2 2 (by show x.down.length + 2 ≤ _; omega) rfl) (fun y hy => ?_)
            repeat (first | (refine st ?_) | (refine stx ?_) | (refine sb ?_) | (intro _))
            refine z_ret1 tab_ok Try.func124 hb hk Try.results124 (.tmp rfl) (fun w hm => ?_)
            exact ⟨y, okX_same hy rfl rfl, rfl, hm.weaken (fun _ h => h) (List.Sublist.cons _ (List.Sublist.refl _))⟩
          · have hpa2 : decide (g.1 = x.pass) = false := decide_eq_false hpa
            rw [if_neg (fun hh => hpa hh.2)]
            repeat (first | (refine st ?_) | (refine stx ?_) | (refine sb ?_) | (intro _))
            rename_i kb
            refine zx_call (Y := Own × Own) (v := fun _ => .tuple #[]) (Φ := fun y => okX (pSay x [1, 1]) y) (L' := fun y => [(kb, Blk.c (u8s [1, 1]) 5 0 0)] ++ pX p (pSay x [1, 1]) y) rfl fnc107 rfl rfl
              (fun w1 hm1 => say_use (R := [(kb, Blk.c (u8s [1, 1]) 5 0 0)]) hok hm1 0 rfl [1, 1] [] (by rw [List.append_nil]) 2 2 (by omega) rfl) (fun y hy => ?_)
            repeat (first | (refine st ?_) | (refine stx ?_) | (refine sb ?_) | (intro _))
            refine zx_call (Y := Own × Own) (v := fun _ => .tuple #[]) (Φ := fun z => okX (pDone (pSay x [1, 1])) z) (L' := fun z => [(kb, Blk.c (u8s [1, 1]) 5 0 0)] ++ pX p (pDone (pSay x [1, 1])) z) rfl fnc108 rfl rfl (fun w1 hm1 => PC.use (R := [(kb, Blk.c (u8s [1, 1]) 5 0 0)]) (done_any p (pSay x [1, 1])) hy hm1) (fun z hz => ?_)
            repeat (first | (refine st ?_) | (refine stx ?_) | (refine sb ?_) | (intro _))
            refine z_ret1 tab_ok Try.func124 hb hk Try.results124 (.tmp rfl) (fun w hm => ?_)
            exact ⟨z, hz, rfl, hm.weaken (fun _ h => h) (List.Sublist.cons _ (List.Sublist.refl _))⟩
        · have hus2 : decide (fl.1 = x.user) = false := decide_eq_false hus
          rw [if_neg (fun hh => hus hh.1)]
          repeat (first | (refine st ?_) | (refine stx ?_) | (refine sb ?_) | (intro _))
          rename_i kb
          refine zx_call (Y := Own × Own) (v := fun _ => .tuple #[]) (Φ := fun y => okX (pSay x [1, 1]) y) (L' := fun y => [(kb, Blk.c (u8s [1, 1]) 5 0 0)] ++ pX p (pSay x [1, 1]) y) rfl fnc107 rfl rfl
            (fun w1 hm1 => say_use (R := [(kb, Blk.c (u8s [1, 1]) 5 0 0)]) hok hm1 0 rfl [1, 1] [] (by rw [List.append_nil]) 2 2 (by omega) rfl) (fun y hy => ?_)
          repeat (first | (refine st ?_) | (refine stx ?_) | (refine sb ?_) | (intro _))
          refine zx_call (Y := Own × Own) (v := fun _ => .tuple #[]) (Φ := fun z => okX (pDone (pSay x [1, 1])) z) (L' := fun z => [(kb, Blk.c (u8s [1, 1]) 5 0 0)] ++ pX p (pDone (pSay x [1, 1])) z) rfl fnc108 rfl rfl (fun w1 hm1 => PC.use (R := [(kb, Blk.c (u8s [1, 1]) 5 0 0)]) (done_any p (pSay x [1, 1])) hy hm1) (fun z hz => ?_)
          repeat (first | (refine st ?_) | (refine stx ?_) | (refine sb ?_) | (intro _))
          refine z_ret1 tab_ok Try.func124 hb hk Try.results124 (.tmp rfl) (fun w hm => ?_)
          exact ⟨z, hz, rfl, hm.weaken (fun _ h => h) (List.Sublist.cons _ (List.Sublist.refl _))⟩
      · rw [hg, if_pos rfl]
        repeat (first | (refine st ?_) | (refine stx ?_) | (refine sb ?_) | (intro _))
        refine z_ret1 tab_ok Try.func124 hb hk Try.results124 (.tmp rfl) (fun w hm => ?_)
        exact ⟨_, hok, rfl, hm⟩
    · rw [if_pos hz1]
      repeat (first | (refine st ?_) | (refine stx ?_) | (refine sb ?_) | (intro _))
      rename_i kb
      refine zx_call (Y := Own × Own) (v := fun _ => .tuple #[]) (Φ := fun y => okX (pSay x [1, 1]) y) (L' := fun y => [(kb, Blk.c (u8s [1, 1]) 5 0 0)] ++ pX p (pSay x [1, 1]) y) rfl fnc107 rfl rfl
        (fun w1 hm1 => say_use (R := [(kb, Blk.c (u8s [1, 1]) 5 0 0)]) hok hm1 0 rfl [1, 1] [] (by rw [List.append_nil]) 2 2 (by omega) rfl) (fun y hy => ?_)
      repeat (first | (refine st ?_) | (refine stx ?_) | (refine sb ?_) | (intro _))
      refine zx_call (Y := Own × Own) (v := fun _ => .tuple #[]) (Φ := fun z => okX (pDone (pSay x [1, 1])) z) (L' := fun z => [(kb, Blk.c (u8s [1, 1]) 5 0 0)] ++ pX p (pDone (pSay x [1, 1])) z) rfl fnc108 rfl rfl (fun w1 hm1 => PC.use (R := [(kb, Blk.c (u8s [1, 1]) 5 0 0)]) (done_any p (pSay x [1, 1])) hy hm1) (fun z hz => ?_)
      repeat (first | (refine st ?_) | (refine stx ?_) | (refine sb ?_) | (intro _))
      refine z_ret1 tab_ok Try.func124 hb hk Try.results124 (.tmp rfl) (fun w hm => ?_)
      exact ⟨z, hz, rfl, hm.weaken (fun _ h => h) (List.Sublist.cons _ (List.Sublist.refl _))⟩
  · have hN1 := hN hf
    have hg : g.2.2 = false := by rw [hN1]
    refine calls_of_z Try.func124 rfl Try.ntmps124 rfl h ?_; intro cs b hb hk
    repeat (first | (refine st ?_) | (refine stx ?_) | (refine sb ?_) | (intro _))
    ((try (refine sg ?_)); (refine zx_call0 rfl fnc137 rfl rfl (fun w hm => QC.use (R := []) hfld hok hm) ?_))
    repeat (first | (refine st ?_) | (refine stx ?_) | (refine sb ?_) | (intro _))
    refine zx_idxA (sz := 0) tab_ok rfl rfl rfl rfl rfl rfl (by omega) (by omega) (by simp) ?_
    repeat (first | (refine st ?_) | (refine stx ?_) | (refine sb ?_) | (intro _))
    refine zx_load tab_ok 1 rfl rfl rfl rfl rfl hc rfl ?_
    repeat (first | (refine st ?_) | (refine stx ?_) | (refine sb ?_) | (intro _))
    by_cases hz1 : z0 = 1
    · subst hz1
      rw [if_neg (by omega), hg, if_pos rfl]
      repeat (first | (refine st ?_) | (refine stx ?_) | (refine sb ?_) | (intro _))
      refine z_ret1 tab_ok Try.func124 hb hk Try.results124 (.tmp rfl) (fun w hm => ?_)
      exact ⟨_, hok, rfl, hm⟩
    · rw [if_pos hz1]
      repeat (first | (refine st ?_) | (refine stx ?_) | (refine sb ?_) | (intro _))
      rename_i kb
      refine zx_call (Y := Own × Own) (v := fun _ => .tuple #[]) (Φ := fun y => okX (pSay x [1, 1]) y) (L' := fun y => [(kb, Blk.c (u8s [1, 1]) 5 0 0)] ++ pX p (pSay x [1, 1]) y) rfl fnc107 rfl rfl
        (fun w1 hm1 => say_use (R := [(kb, Blk.c (u8s [1, 1]) 5 0 0)]) hok hm1 0 rfl [1, 1] [] (by rw [List.append_nil]) 2 2 (by omega) rfl) (fun y hy => ?_)
      repeat (first | (refine st ?_) | (refine stx ?_) | (refine sb ?_) | (intro _))
      refine zx_call (Y := Own × Own) (v := fun _ => .tuple #[]) (Φ := fun z => okX (pDone (pSay x [1, 1])) z) (L' := fun z => [(kb, Blk.c (u8s [1, 1]) 5 0 0)] ++ pX p (pDone (pSay x [1, 1])) z) rfl fnc108 rfl rfl (fun w1 hm1 => PC.use (R := [(kb, Blk.c (u8s [1, 1]) 5 0 0)]) (done_any p (pSay x [1, 1])) hy hm1) (fun z hz => ?_)
      repeat (first | (refine st ?_) | (refine stx ?_) | (refine sb ?_) | (intro _))
      refine z_ret1 tab_ok Try.func124 hb hk Try.results124 (.tmp rfl) (fun w hm => ?_)
      exact ⟨z, hz, rfl, hm.weaken (fun _ h => h) (List.Sublist.cons _ (List.Sublist.refl _))⟩
end Go.Proofs.Ytabcaiecoiejkaa
