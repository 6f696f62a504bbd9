/- Walks of strings.IndexByte and of package socks: greet. -/
import Derived.Test.YtabcaiecoiejkaaS4
import Derived.Laws.Externs
set_option maxRecDepth 100000
set_option linter.unusedSimpArgs false
set_option linter.unusedVariables false
set_option maxHeartbeats 1600000
namespace Go.Proofs.Ytabcaiecoiejkaa
open Go K

theorem run_ib (s : ByteArray) (z : Int) (w : World) : (callFunc 162 #[.string s, .int .u8 z]).run Try.prog w = .ok (.value (.int .i64 (firstIdx s z.toNat.toUInt8))) w := by
  rw [run_callFunc_extern (e := Extern.BytealgIndexByte.indexByte) Try.func162 (by kernel_rfl) (by kernel_rfl) (by kernel_rfl) (by rfl), run_indexByte_string]
  rfl
theorem zx_ib {R : Ending → World → Prop} {f : FuncId} {cs : List Frame} {b : Frame} {X : Option (Act → World → Prop)} {q : Bool} {n d : Nat} {F : Fr} {w0 : World} {ks : List Nat} {L : Mm} {D : List Deferred} {k : List Item} {ops : Array Oper} {i : Nat} {rest : List Oper} {ty : TypeId} {pos : String} {af : Array Edge} {g : Option (Nat × Bool)}
    {x y : Operand} {ts : Array TypeId} {s : ByteArray} {z : Int} (hw : wn ops F g = some true) (hx : ev F x = some (.string s)) (hy : ev F y = some (.int .u8 z)) (hd : Nat.blt d n = true)
    (h : ZX ⟨Try.prog, f, R, cs, b, X⟩ q n ((d, .int .i64 (firstIdx s z.toNat.toUInt8)) :: F) w0 ks L D ops (i + 1) rest k) : ZX ⟨Try.prog, f, R, cs, b, X⟩ q n F w0 ks L D ops i (⟨some d, .call ⟨.value (.func 162), #[x, y], ts⟩, ty, pos, af, g⟩ :: rest) k :=
  zx_val hw hd (fun a w h2 _ => by
    have h1 := ev_eval h2 hx
    have h3 := ev_eval h2 hy
    have h4 := run_ib s z w
    have h5 : a.eval (.func 162) = .func (.func 162) #[] #[] := rfl
    refine Eq.trans ?_ h4
    simp [execOp, resolve, Deferred.ofValue, invoke, h1, h3, h5]) h
theorem IndexByteL_any (s : ByteArray) (z : Int) (w : World) : Calls Try.prog 148 [.string s, .int .u8 z].toArray w fun e w' => e = .returned (.int .i64 (firstIdx s z.toNat.toUInt8)) ∧ Mem w [] [] w' := by
  refine calls_of_z Try.func148 rfl Try.ntmps148 rfl (Mem.refl w) ?_; intro cs b hb hk
  repeat (first | (refine st ?_) | (refine stx ?_) | (intro _))
  refine zx_ib rfl rfl rfl rfl ?_
  repeat (first | (refine st ?_) | (refine stx ?_) | (intro _))
  refine z_ret1 tab_ok Try.func148 hb hk Try.results148 (.tmp rfl) (fun w hm => ?_)
  exact ⟨rfl, hm.bare⟩
theorem IndexByte_any (s : ByteArray) (z : Int) (w : World) : Calls Try.prog 138 [.string s, .int .u8 z].toArray w fun e w' => e = .returned (.int .i64 (firstIdx s z.toNat.toUInt8)) ∧ Mem w [] [] w' := by
  refine calls_of_z Try.func138 rfl Try.ntmps138 rfl (Mem.refl w) ?_; intro cs b hb hk
  repeat (first | (refine st ?_) | (refine stx ?_) | (intro _))
  ((try (refine sg ?_)); (refine zx_call0 rfl fnc148 rfl rfl (fun w hm => IndexByteL_any s z w) ?_))
  repeat (first | (refine st ?_) | (refine stx ?_) | (intro _))
  refine z_ret1 tab_ok Try.func138 hb hk Try.results138 (.tmp rfl) (fun w hm => ?_)
  exact ⟨rfl, hm.bare⟩
theorem pField_le (l : List Int) (a : Nat) (hs : Small l) (h : (pField l a).2.2 = true) : (a : Int) + 1 ≤ (pField l a).2.1 ∧ (pField l a).2.1 ≤ l.length := by
  have hr := getD_small hs a
  unfold pField at h ⊢
  split at h
  · cases h
  · rename_i hc
    rw [if_neg hc]
    show (a : Int) + 1 ≤ a + 1 + l.getD a 0 ∧ a + 1 + l.getD a 0 ≤ l.length
    omega
/-- what greet does: none: there is not enough -/
def pGreet (x : Px) : Option Px :=
  if 0 < x.up.length ∧ x.up.getD 0 0 ≠ 5 then some (pDone x)
  else if (pField x.up 1).2.2 = true then
    (if x.user = noX then (if firstIdx (pField x.up 1).1 (0 : Int).toNat.toUInt8 < 0 then some (pDone (pSay { x with up := x.up.drop (pField x.up 1).2.1.toNat } [5, 255])) else some { pSay { x with up := x.up.drop (pField x.up 1).2.1.toNat } [5, 0] with state := 2 })
    else (if firstIdx (pField x.up 1).1 (2 : Int).toNat.toUInt8 < 0 then some (pDone (pSay { x with up := x.up.drop (pField x.up 1).2.1.toNat } [5, 255])) else some { pSay { x with up := x.up.drop (pField x.up 1).2.1.toNat } [5, 2] with state := 1 }))
  else none
theorem greet_any (p : Nat) (x : Px) (hs : Small x.up) (hl : x.up.length ≤ 1000000) (hd : x.down.length ≤ 1000000) : PC 123 [fP p 0] p x ((pGreet x).getD x) (.bool (pGreet x).isSome) := by
  intro o w hok h
  unfold pGreet
  by_cases hA : 0 < x.up.length ∧ x.up.getD 0 0 ≠ 5
  · rw [if_pos hA]
    obtain ⟨b1, pre, r, rest, ho⟩ := own_some hok.1 hA.1
    obtain ⟨o1, o2⟩ := o
    simp only at ho
    subst ho
    have hc := cell_at pre rest x.up 0 hA.1
    have hA1 := hA.1
    have hA2 := hA.2
    refine calls_of_z Try.func123 rfl Try.ntmps123 rfl h ?_; intro cs b hb hk
    repeat (first | (refine st ?_) | (refine stx ?_) | (refine sb ?_) | (intro _))
    refine zx_idxA (sz := 0) tab_ok rfl rfl rfl rfl rfl rfl (by omega) (by omega) (by simp) ?_
    repeat (first | (refine st ?_) | (refine stx ?_) | (refine sb ?_) | (intro _))
    refine zx_load tab_ok 1 rfl rfl rfl rfl rfl hc rfl ?_
    repeat (first | (refine st ?_) | (refine stx ?_) | (refine sb ?_) | (intro _))
    refine zx_call (Y := Own × Own) (v := fun _ => .tuple #[]) (Φ := fun y => okX (pDone x) y) (L' := fun y => [] ++ pX p (pDone x) y) rfl fnc108 rfl rfl (fun w1 hm1 => PC.use (R := []) (done_any p x) hok hm1) (fun y hy => ?_)
    repeat (first | (refine st ?_) | (refine stx ?_) | (refine sb ?_) | (intro _))
    refine z_ret1 tab_ok Try.func123 hb hk Try.results123 (.tmp rfl) (fun w hm => ?_)
    exact ⟨y, hy, rfl, hm⟩
  · rw [if_neg hA]
    have hF := pField_le x.up 1 hs
    have hfld := field_any p x 1 (by omega) hs (by omega)
    by_cases h0 : x.up.length = 0
    · have hf : (pField x.up 1).2.2 = false := by unfold pField; rw [if_pos (.inl (by omega))]
      rw [hf, if_neg (by simp)]
      generalize pField x.up 1 = fl at *
      refine calls_of_z Try.func123 rfl Try.ntmps123 rfl h ?_; intro cs b hb hk
      repeat (first | (refine st ?_) | (refine stx ?_) | (refine sb ?_) | (intro _))
      ((try (refine sg ?_)); (refine zx_call0 rfl fnc137 rfl rfl (fun w hm => QC.use (R := []) hfld hok hm) ?_))
      repeat (first | (refine st ?_) | (refine stx ?_) | (refine sb ?_) | (intro _))
      refine z_ret1 tab_ok Try.func123 hb hk Try.results123 (.tmp rfl) (fun w hm => ?_)
      exact ⟨o, hok, rfl, hm⟩
    · have h5 : x.up.getD 0 0 = 5 := Classical.byContradiction fun e => hA ⟨by omega, e⟩
      obtain ⟨b1, pre, r, rest, ho⟩ := own_some hok.1 (by omega)
      obtain ⟨o1, o2⟩ := o
      simp only at ho
      subst ho
      have hc := cell_at pre rest x.up 0 (by omega)
      rw [h5] at hc
      generalize hfl : pField x.up 1 = fl at *
      rcases Bool.eq_false_or_eq_true fl.2.2 with hf | hf
      · rw [hf, if_pos rfl]
        obtain ⟨hF1, hF2⟩ := hF hf
        have hkn : (fl.2.1.toNat : Int) = min (max fl.2.1 0) x.up.length := by omega
        have hkl : fl.2.1.toNat ≤ x.up.length := by omega
        have hok1 := okX_take_up hok fl.2.1.toNat hkl
        by_cases hus : x.user = noX
        · have hus2 : decide (x.user = ByteArray.mk #[]) = true := decide_eq_true hus
          rw [if_pos hus]
          by_cases hi : firstIdx fl.1 (0 : Int).toNat.toUInt8 < 0
          · rw [if_pos hi]
            refine calls_of_z Try.func123 rfl Try.ntmps123 rfl h ?_; intro cs b hb hk
            repeat (first | (refine st ?_) | (refine stx ?_) | (refine sb ?_) | (intro _))
            refine zx_idxA (sz := 0) tab_ok rfl rfl rfl rfl rfl rfl (by omega) (by omega) (by simp) ?_
            repeat (first | (refine st ?_) | (refine stx ?_) | (refine sb ?_) | (intro _))
            refine zx_load tab_ok 1 rfl rfl rfl rfl rfl hc rfl ?_
            repeat (first | (refine st ?_) | (refine stx ?_) | (refine sb ?_) | (intro _))
            ((try (refine sg ?_)); (refine zx_call0 rfl fnc137 rfl rfl (fun w hm => QC.use (R := []) hfld hok hm) ?_))
            repeat (first | (refine st ?_) | (refine stx ?_) | (refine sb ?_) | (intro _))
            refine zx_call (Y := Unit) (v := fun _ => .slice (oA (some (b1, pre, r, rest))) fl.2.1.toNat fl.2.1.toNat) (Φ := fun _ => True) (L' := fun _ => [] ++ pX p { x with up := x.up.drop fl.2.1.toNat } (ownDrop (some (b1, pre, r, rest)) (u8s x.up) fl.2.1.toNat, o2)) rfl fnc95 rfl rfl (fun w1 hm1 => (take_up_use (R := []) hok hm1 fl.2.1 fl.2.1.toNat hkn (by omega)).mono fun e w' hh => ⟨(), trivial, hh.1, hh.2⟩) (fun _ _ => ?_)
            repeat (first | (refine st ?_) | (refine stx ?_) | (refine sb ?_) | (intro _))
            ((try (refine sg ?_)); (refine zx_call0 rfl fnc138 rfl rfl (fun w hm => IndexByte_any fl.1 0 w) ?_))
            repeat (first | (refine st ?_) | (refine stx ?_) | (refine sb ?_) | (intro _))
            rename_i kb
            refine zx_call (Y := Own × Own) (v := fun _ => .tuple #[]) (Φ := fun y => okX (pSay { x with up := x.up.drop fl.2.1.toNat } [5, 255]) y) (L' := fun y => [(kb, Blk.c (u8s [5, 255]) 5 0 0)] ++ pX p (pSay { x with up := x.up.drop fl.2.1.toNat } [5, 255]) y) rfl fnc107 rfl rfl
              (fun w1 hm1 => say_use (R := [(kb, Blk.c (u8s [5, 255]) 5 0 0)]) hok1 hm1 0 rfl [5, 255] [] (by rw [List.append_nil]) 2 2 (by show x.down.length + 2 ≤ _; omega) rfl) (fun y hy => ?_)
            repeat (first | (refine st ?_) | (refine stx ?_) | (refine sb ?_) | (intro _))
            refine zx_call (Y := Own × Own) (v := fun _ => .tuple #[]) (Φ := fun z => okX (pDone (pSay { x with up := x.up.drop fl.2.1.toNat } [5, 255])) z) (L' := fun z => [(kb, Blk.c (u8s [5, 255]) 5 0 0)] ++ pX p (pDone (pSay { x with up := x.up.drop fl.2.1.toNat } [5, 255])) z) rfl fnc108 rfl rfl (fun w1 hm1 => PC.use (R := [(kb, Blk.c (u8s [5, 255]) 5 0 0)]) (done_any p (pSay { x with up := x.up.drop fl.2.1.toNat } [5, 255])) hy hm1) (fun z hz => ?_)
            repeat (first | (refine st ?_) | (refine stx ?_) | (refine sb ?_) | (intro _))
            refine z_ret1 tab_ok Try.func123 hb hk Try.results123 (.tmp rfl) (fun w hm => ?_)
            exact ⟨z, hz, rfl, hm.weaken (fun _ h => h) (List.Sublist.cons _ (List.Sublist.refl _))⟩
          · rw [if_neg hi]
            refine calls_of_z Try.func123 rfl Try.ntmps123 rfl h ?_; intro cs b hb hk
            repeat (first | (refine st ?_) | (refine stx ?_) | (refine sb ?_) | (intro _))
            refine zx_idxA (sz := 0) tab_ok rfl rfl rfl rfl rfl rfl (by omega) (by omega) (by simp) ?_
            repeat (first | (refine st ?_) | (refine stx ?_) | (refine sb ?_) | (intro _))
            refine zx_load tab_ok 1 rfl rfl rfl rfl rfl hc rfl ?_
            repeat (first | (refine st ?_) | (refine stx ?_) | (refine sb ?_) | (intro _))
            ((try (refine sg ?_)); (refine zx_call0 rfl fnc137 rfl rfl (fun w hm => QC.use (R := []) hfld hok hm) ?_))
            repeat (first | (refine st ?_) | (refine stx ?_) | (refine sb ?_) | (intro _))
            refine zx_call (Y := Unit) (v := fun _ => .slice (oA (some (b1, pre, r, rest))) fl.2.1.toNat fl.2.1.toNat) (Φ := fun _ => True) (L' := fun _ => [] ++ pX p { x with up := x.up.drop fl.2.1.toNat } (ownDrop (some (b1, pre, r, rest)) (u8s x.up) fl.2.1.toNat, o2)) rfl fnc95 rfl rfl (fun w1 hm1 => (take_up_use (R := []) hok hm1 fl.2.1 fl.2.1.toNat hkn (by omega)).mono fun e w' hh => ⟨(), trivial, hh.1, hh.2⟩) (fun _ _ => ?_)
            repeat (first | (refine st ?_) | (refine stx ?_) | (refine sb ?_) | (intro _))
            ((try (refine sg ?_)); (refine zx_call0 rfl fnc138 rfl rfl (fun w hm => IndexByte_any fl.1 0 w) ?_))
            repeat (first | (refine st ?_) | (refine stx ?_) | (refine sb ?_) | (intro _))
            rename_i kb
            refine zx_call (Y := Own × Own) (v := fun _ => .tuple #[]) (Φ := fun y => okX (pSay { x with up := x.up.drop fl.2.1.toNat } [5, 0]) y) (L' := fun y => [(kb, Blk.c (u8s [5, 0]) 5 0 0)] ++ pX p (pSay { x with up := x.up.drop fl.2.1.toNat } [5, 0]) y) rfl fnc107 rfl rfl
              (fun w1 hm1 => say_use (R := [(kb, Blk.c (u8s [5, 0]) 5 0 0)]) hok1 hm1 0 rfl [5, 0] [] (by rw [List.append_nil]) 2 2 (by show x.down.length + 2 ≤ _; omega) rfl) (fun y hy => ?_)
            repeat (first | (refine st ?_) | (refine stx ?_) | (refine sb ?_) | (intro _))
            refine z_ret1 tab_ok Try.func123 hb hk Try.results123 (.tmp rfl) (fun w hm => ?_)
            exact ⟨y, okX_same hy rfl rfl, rfl, hm.weaken (fun _ h => h) (List.Sublist.cons _ (List.Sublist.refl _))⟩
        · have hus2 : decide (x.user = ByteArray.mk #[]) = false := decide_eq_false hus
          rw [if_neg hus]
          by_cases hi : firstIdx fl.1 (2 : Int).toNat.toUInt8 < 0
          · rw [if_pos hi]
            refine calls_of_z Try.func123 rfl Try.ntmps123 rfl h ?_; intro cs b hb hk
            repeat (first | (refine st ?_) | (refine stx ?_) | (refine sb ?_) | (intro _))
            refine zx_idxA (sz := 0) tab_ok rfl rfl rfl rfl rfl rfl (by omega) (by omega) (by simp) ?_
            repeat (first | (refine st ?_) | (refine stx ?_) | (refine sb ?_) | (intro _))
            refine zx_load tab_ok 1 rfl rfl rfl rfl rfl hc rfl ?_
            repeat (first | (refine st ?_) | (refine stx ?_) | (refine sb ?_) | (intro _))
            ((try (refine sg ?_)); (refine zx_call0 rfl fnc137 rfl rfl (fun w hm => QC.use (R := []) hfld hok hm) ?_))
            repeat (first | (refine st ?_) | (refine stx ?_) | (refine sb ?_) | (intro _))
            refine zx_call (Y := Unit) (v := fun _ => .slice (oA (some (b1, pre, r, rest))) fl.2.1.toNat fl.2.1.toNat) (Φ := fun _ => True) (L' := fun _ => [] ++ pX p { x with up := x.up.drop fl.2.1.toNat } (ownDrop (some (b1, pre, r, rest)) (u8s x.up) fl.2.1.toNat, o2)) rfl fnc95 rfl rfl (fun w1 hm1 => (take_up_use (R := []) hok hm1 fl.2.1 fl.2.1.toNat hkn (by omega)).mono fun e w' hh => ⟨(), trivial, hh.1, hh.2⟩) (fun _ _ => ?_)
            repeat (first | (refine st ?_) | (refine stx ?_) | (refine sb ?_) | (intro _))
            ((try (refine sg ?_)); (refine zx_call0 rfl fnc138 rfl rfl (fun w hm => IndexByte_any fl.1 2 w) ?_))
            repeat (first | (refine st ?_) | (refine stx ?_) | (refine sb ?_) | (intro _))
            rename_i kb
            refine zx_call (Y := Own × Own) (v := fun _ => .tuple #[]) (Φ := fun y => okX (pSay { x with up := x.up.drop fl.2.1.toNat } [5, 255]) y) (L' := fun y => [(kb, Blk.c (u8s [5, 255]) 5 0 0)] ++ pX p (pSay { x with up := x.up.drop fl.2.1.toNat } [5, 255]) y) rfl fnc107 rfl rfl
              (fun w1 hm1 => say_use (R := [(kb, Blk.c (u8s [5, 255]) 5 0 0)]) hok1 hm1 0 rfl [5, 255] [] (by rw [List.append_nil]) 2 2 (by show x.down.length + 2 ≤ _; omega) rfl) (fun y hy => ?_)
            repeat (first | (refine st ?_) | (refine stx ?_) | (refine sb ?_) | (intro _))
            refine zx_call (Y := Own × Own) (v := fun _ => .tuple #[]) (Φ := fun z => okX (pDone (pSay { x with up := x.up.drop fl.2.1.toNat } [5, 255])) z) (L' := fun z => [(kb, Blk.c (u8s [5, 255]) 5 0 0)] ++ pX p (pDone (pSay { x with up := x.up.drop fl.2.1.toNat } [5, 255])) z) rfl fnc108 rfl rfl (fun w1 hm1 => PC.use (R := [(kb, Blk.c (u8s [5, 255]) 5 0 0)]) (done_any p (pSay { x with up := x.up.drop fl.2.1.toNat } [5, 255])) hy hm1) (fun z hz => ?_)
            repeat (first | (refine st ?_) | (refine stx ?_) | (refine sb ?_) | (intro _))
            refine z_ret1 tab_ok Try.func123 hb hk Try.results123 (.tmp rfl) (fun w hm => ?_)
            exact ⟨z, hz, rfl, hm.weaken (fun _ h => h) (List.Sublist.cons _ (List.Sublist.refl _))⟩
          · rw [if_neg hi]
            refine calls_of_z Try.func123 rfl Try.ntmps123 rfl h ?_; intro cs b hb hk
            repeat (first | (refine st ?_) | (refine stx ?_) | (refine sb ?_) | (intro _))
            refine zx_idxA (sz := 0) tab_ok rfl rfl rfl rfl rfl rfl (by omega) (by omega) (by simp) ?_
            repeat (first | (refine st ?_) | (refine stx ?_) | (refine sb ?_) | (intro _))
            refine zx_load tab_ok 1 rfl rfl rfl rfl rfl hc rfl ?_
            repeat (first | (refine st ?_) | (refine stx ?_) | (refine sb ?_) | (intro _))
            ((try (refine sg ?_)); (refine zx_call0 rfl fnc137 rfl rfl (fun w hm => QC.use (R := []) hfld hok hm) ?_))
            repeat (first | (refine st ?_) | (refine stx ?_) | (refine sb ?_) | (intro _))
            refine zx_call (Y := Unit) (v := fun _ => .slice (oA (some (b1, pre, r, rest))) fl.2.1.toNat fl.2.1.toNat) (Φ := fun _ => True) (L' := fun _ => [] ++ pX p { x with up := x.up.drop fl.2.1.toNat } (ownDrop (some (b1, pre, r, rest)) (u8s x.up) fl.2.1.toNat, o2)) rfl fnc95 rfl rfl (fun w1 hm1 => (take_up_use (R := []) hok hm1 fl.2.1 fl.2.1.toNat hkn (by omega)).mono fun e w' hh => ⟨(), trivial, hh.1, hh.2⟩) (fun _ _ => ?_)
            repeat (first | (refine st ?_) | (refine stx ?_) | (refine sb ?_) | (intro _))
            ((try (refine sg ?_)); (refine zx_call0 rfl fnc138 rfl rfl (fun w hm => IndexByte_any fl.1 2 w) ?_))
            repeat (first | (refine st ?_) | (refine stx ?_) | (refine sb ?_) | (intro _))
            rename_i kb
            refine zx_call (Y := Own × Own) (v := fun _ => .tuple #[]) (Φ := fun y => okX (pSay { x with up := x.up.drop fl.2.1.toNat } [5, 2]) y) (L' := fun y => [(kb, Blk.c (u8s [5, 2]) 5 0 0)] ++ pX p (pSay { x with up := x.up.drop fl.2.1.toNat } [5, 2]) y) rfl fnc107 rfl rfl
              (fun w1 hm1 => say_use (R := [(kb, Blk.c (u8s [5, 2]) 5 0 0)]) hok1 hm1 0 rfl [5, 2] [] (by rw [List.append_nil]) 2 2 (by show x.down.length + 2 ≤ _; omega) rfl) (fun y hy => ?_)
            repeat (first | (refine st ?_) | (refine stx ?_) | (refine sb ?_) | (intro _))
            refine z_ret1 tab_ok Try.func123 hb hk Try.results123 (.tmp rfl) (fun w hm => ?_)
            exact ⟨y, okX_same hy rfl rfl, rfl, hm.weaken (fun _ h => h) (List.Sublist.cons _ (List.Sublist.refl _))⟩
      · rw [hf, if_neg (by simp)]
        refine calls_of_z Try.func123 rfl Try.ntmps123 rfl h ?_; intro cs b hb hk
        repeat (first | (refine st ?_) | (refine stx ?_) | (refine sb ?_) | (intro _))
        refine zx_idxA (sz := 0) tab_ok rfl rfl rfl rfl rfl rfl (by omega) (by omega) (by simp) ?_
        repeat (first | (refine st ?_) | (refine stx ?_) | (refine sb ?_) | (intro _))
        refine zx_load tab_ok 1 rfl rfl rfl rfl rfl hc rfl ?_
        repeat (first | (refine st ?_) | (refine stx ?_) | (refine sb ?_) | (intro _))
        ((try (refine sg ?_)); (refine zx_call0 rfl fnc137 rfl rfl (fun w hm => QC.use (R := []) hfld hok hm) ?_))
        repeat (first | (refine st ?_) | (refine stx ?_) | (refine sb ?_) | (intro _))
        refine z_ret1 tab_ok Try.func123 hb hk Try.results123 (.tmp rfl) (fun w hm => ?_)
        exact ⟨_, hok, rfl, hm⟩
end Go.Proofs.Ytabcaiecoiejkaa
