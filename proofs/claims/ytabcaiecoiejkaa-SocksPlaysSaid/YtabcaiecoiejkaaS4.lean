/- Walks of package socks: offer, FromRemote, ToClient, ToRemote, ClientEnd, RemoteEnd. -/
import Derived.Test.YtabcaiecoiejkaaS3
set_option maxRecDepth 100000
set_option linter.unusedSimpArgs false
set_option linter.unusedVariables false
set_option maxHeartbeats 1600000
namespace Go.Proofs.Ytabcaiecoiejkaa
open Go K

theorem bc_eq (s : ByteArray) : byteCells s = u8s (bL s) := by
  unfold byteCells u8s bL
  rw [List.map_map]
  rfl
theorem own_cap {o : Own} {n : Nat} {xs : List Value} (h : RowOk 1 o n xs) : n ≤ oC o n := by
  cases o with
  | none => rw [h.nil rfl]; exact Nat.zero_le _
  | some q => obtain ⟨b, pre, r, rest⟩ := q; exact Nat.le_add_right _ _
theorem offer_up (p : Nat) (x : Px) (o : Own × Own) (hok : okX x o) (sb m cap n : Nat) (news : List Int) (hnl : news.length = m) (hcap : m ≤ cap) (hn : n = min m (4096 - x.up.length)) (hm : m ≤ 1000000000000000) (hx : x.up.length ≤ 900000000) (w : World) (h : Mem w (kX p x o) (pX p x o) w)
    (hc : ∀ j v, (u8s news)[j]? = some v → w.cell? ⟨sb, j, none⟩ = some v) (hsb : sb ∉ kX p x o) :
    Calls Try.prog 92 [fP p 4, .slice (some ⟨sb, 0, none⟩) m cap].toArray w fun e w' => ∃ y : Own × Own, okX { x with up := x.up ++ news.take n } y ∧ e = .returned (.int .i64 (n : Int)) ∧ Mem w (kX p x o) (pX p { x with up := x.up ++ news.take n } y) w' := by
  have ht : (news.take n).length = n := by rw [List.length_take]; omega
  refine calls_of_z Try.func92 rfl Try.ntmps92 rfl h ?_; intro cs b hb hk
  repeat (first | (refine st ?_) | (refine stx ?_) | (intro _))
  refine zx_max (max (4096 - (x.up.length : Int)) 0) rfl rfl rfl (by rw [wr64 (by omega) (by omega)]; omega) rfl ?_
  repeat (first | (refine st ?_) | (refine stx ?_) | (intro _))
  refine zx_min (n : Int) rfl rfl rfl (by omega) rfl ?_
  repeat (first | (refine st ?_) | (refine stx ?_) | (intro _))
  refine zx_sliceW tab_ok 0 n cap rfl rfl rfl rfl rfl rfl rfl (fun h => by cases h) rfl rfl rfl rfl (Nat.zero_le _) (by omega) (Nat.le_refl _) ?_
  refine zx_re 19 (.slice (some ⟨sb, 0, none⟩) n cap) rfl (by rw [Nat.sub_zero, Nat.sub_zero, Nat.zero_mul]; split <;> rfl) ?_
  refine zx_call (Y := Own × Own) (v := fun _ => .tuple #[]) (Φ := fun y => okX { x with up := x.up ++ news.take n } y) (L' := fun y => [] ++ pX p { x with up := x.up ++ news.take n } y) rfl fnc122 rfl rfl
    (fun w1 hm1 => putU_use (R := []) (news := news.take n) hok hm1 n cap (fun j v hj => hm1.cellB (hc j v (by rw [u8s_take] at hj; exact (List.getElem?_take_of_lt (by have := (List.getElem?_eq_some_iff.1 hj).1; rw [List.length_take] at this; omega)).symm.trans hj)) hsb) hsb (by omega) ht) (fun y hy => ?_)
  repeat (first | (refine st ?_) | (refine stx ?_) | (intro _))
  refine z_ret1 tab_ok Try.func92 hb hk Try.results92 (.tmp rfl) (fun w hm => ?_)
  exact ⟨y, hy, rfl, hm⟩
theorem offer_up_use {w0 w : World} {ks : List Nat} {R : Mm} {p : Nat} {x : Px} {o : Own × Own} (hok : okX x o) (hm : Mem w0 ks (R ++ pX p x o) w) (i : Nat) {sb : Nat} {cs : List Value} {et : TypeId} {lo hi : Nat} (hR : R[i]? = some (sb, .c cs et lo hi)) (news : List Int) (rst : List Value) (hcs : cs = u8s news ++ rst) (m cap n : Nat) (hnl : news.length = m) (hcap : m ≤ cap) (hn : n = min m (4096 - x.up.length)) (hmm : m ≤ 1000000000000000) (hx : x.up.length ≤ 900000000) :
    Calls Try.prog 92 [fP p 4, .slice (some ⟨sb, 0, none⟩) m cap].toArray w fun e w' => ∃ y : Own × Own, okX { x with up := x.up ++ news.take n } y ∧ e = .returned (.int .i64 (n : Int)) ∧ Mem w0 ks (R ++ pX p { x with up := x.up ++ news.take n } y) w' := by
  have hm2 := hm.perm (L' := pX p x o ++ R) List.perm_append_comm
  obtain ⟨h1, h2⟩ := cells_in hm i hR
  refine (offer_up p x o hok sb m cap n news hnl hcap hn hmm hx w (Mem.now (S := pX p x o) (R := R) hm2) (fun j v hj => by
    rw [h1, hcs, List.getElem?_append_left (List.getElem?_eq_some_iff.1 hj).1]; exact hj) h2).mono fun e w' ⟨y, hy, he, hm'⟩ => ⟨y, hy, he, ?_⟩
  exact (Mem.call (S := pX p x o) (S' := pX p { x with up := x.up ++ news.take n } y) (R := R) hm2 hm').perm List.perm_append_comm
theorem offer_down (p : Nat) (x : Px) (o : Own × Own) (hok : okX x o) (sb m cap n : Nat) (news : List Int) (hnl : news.length = m) (hcap : m ≤ cap) (hn : n = min m (4096 - x.down.length)) (hm : m ≤ 1000000000000000) (hx : x.down.length ≤ 900000000) (w : World) (h : Mem w (kX p x o) (pX p x o) w)
    (hc : ∀ j v, (u8s news)[j]? = some v → w.cell? ⟨sb, j, none⟩ = some v) (hsb : sb ∉ kX p x o) :
    Calls Try.prog 92 [fP p 5, .slice (some ⟨sb, 0, none⟩) m cap].toArray w fun e w' => ∃ y : Own × Own, okX { x with down := x.down ++ news.take n } y ∧ e = .returned (.int .i64 (n : Int)) ∧ Mem w (kX p x o) (pX p { x with down := x.down ++ news.take n } y) w' := by
  have ht : (news.take n).length = n := by rw [List.length_take]; omega
  refine calls_of_z Try.func92 rfl Try.ntmps92 rfl h ?_; intro cs b hb hk
  repeat (first | (refine st ?_) | (refine stx ?_) | (intro _))
  refine zx_max (max (4096 - (x.down.length : Int)) 0) rfl rfl rfl (by rw [wr64 (by omega) (by omega)]; omega) rfl ?_
  repeat (first | (refine st ?_) | (refine stx ?_) | (intro _))
  refine zx_min (n : Int) rfl rfl rfl (by omega) rfl ?_
  repeat (first | (refine st ?_) | (refine stx ?_) | (intro _))
  refine zx_sliceW tab_ok 0 n cap rfl rfl rfl rfl rfl rfl rfl (fun h => by cases h) rfl rfl rfl rfl (Nat.zero_le _) (by omega) (Nat.le_refl _) ?_
  refine zx_re 19 (.slice (some ⟨sb, 0, none⟩) n cap) rfl (by rw [Nat.sub_zero, Nat.sub_zero, Nat.zero_mul]; split <;> rfl) ?_
  refine zx_call (Y := Own × Own) (v := fun _ => .tuple #[]) (Φ := fun y => okX { x with down := x.down ++ news.take n } y) (L' := fun y => [] ++ pX p { x with down := x.down ++ news.take n } y) rfl fnc122 rfl rfl
    (fun w1 hm1 => putD_use (R := []) (news := news.take n) hok hm1 n cap (fun j v hj => hm1.cellB (hc j v (by rw [u8s_take] at hj; exact (List.getElem?_take_of_lt (by have := (List.getElem?_eq_some_iff.1 hj).1; rw [List.length_take] at this; omega)).symm.trans hj)) hsb) hsb (by omega) ht) (fun y hy => ?_)
  repeat (first | (refine st ?_) | (refine stx ?_) | (intro _))
  refine z_ret1 tab_ok Try.func92 hb hk Try.results92 (.tmp rfl) (fun w hm => ?_)
  exact ⟨y, hy, rfl, hm⟩
theorem offer_down_use {w0 w : World} {ks : List Nat} {R : Mm} {p : Nat} {x : Px} {o : Own × Own} (hok : okX x o) (hm : Mem w0 ks (R ++ pX p x o) w) (i : Nat) {sb : Nat} {cs : List Value} {et : TypeId} {lo hi : Nat} (hR : R[i]? = some (sb, .c cs et lo hi)) (news : List Int) (rst : List Value) (hcs : cs = u8s news ++ rst) (m cap n : Nat) (hnl : news.length = m) (hcap : m ≤ cap) (hn : n = min m (4096 - x.down.length)) (hmm : m ≤ 1000000000000000) (hx : x.down.length ≤ 900000000) :
    Calls Try.prog 92 [fP p 5, .slice (some ⟨sb, 0, none⟩) m cap].toArray w fun e w' => ∃ y : Own × Own, okX { x with down := x.down ++ news.take n } y ∧ e = .returned (.int .i64 (n : Int)) ∧ Mem w0 ks (R ++ pX p { x with down := x.down ++ news.take n } y) w' := by
  have hm2 := hm.perm (L' := pX p x o ++ R) List.perm_append_comm
  obtain ⟨h1, h2⟩ := cells_in hm i hR
  refine (offer_down p x o hok sb m cap n news hnl hcap hn hmm hx w (Mem.now (S := pX p x o) (R := R) hm2) (fun j v hj => by
    rw [h1, hcs, List.getElem?_append_left (List.getElem?_eq_some_iff.1 hj).1]; exact hj) h2).mono fun e w' ⟨y, hy, he, hm'⟩ => ⟨y, hy, he, ?_⟩
  exact (Mem.call (S := pX p x o) (S' := pX p { x with down := x.down ++ news.take n } y) (R := R) hm2 hm').perm List.perm_append_comm
def pRemote (x : Px) (s : ByteArray) : Px × Int := if x.state = 4 ∧ x.rOver = false then ({ x with down := x.down ++ (bL s).take (min s.size (4096 - x.down.length)) }, (min s.size (4096 - x.down.length) : Nat)) else (x, 0)
theorem FromRemote_any (p : Nat) (x : Px) (s : ByteArray) (hs : s.size ≤ 1000000000000000) (hx : x.down.length ≤ 900000000) : PC 46 [fP p 0, .string s] p x (pRemote x s).1 (.int .i64 (pRemote x s).2) := by
  intro o w hok h
  unfold pRemote
  by_cases h4 : x.state = 4
  · rcases Bool.eq_false_or_eq_true x.rOver with hr | hr
    · rw [if_neg (fun hh => by rw [hh.2] at hr; cases hr)]
      refine calls_of_z Try.func46 rfl Try.ntmps46 rfl h ?_; intro cs b hb hk
      repeat (first | (refine st ?_) | (refine stx ?_) | (refine sb ?_) | (intro _))
      refine z_ret1 tab_ok Try.func46 hb hk Try.results46 (.tmp rfl) (fun w hm => ?_)
      exact ⟨o, hok, rfl, hm⟩
    · rw [if_pos ⟨h4, hr⟩]
      refine calls_of_z Try.func46 rfl Try.ntmps46 rfl h ?_; intro cs b hb hk
      repeat (first | (refine st ?_) | (refine stx ?_) | (refine sb ?_) | (intro _))
      refine zx_s2b tab_ok rfl rfl rfl rfl rfl rfl ?_
      intro kb cap lo hi rst hcap
      refine zx_call (Y := Own × Own) (v := fun _ => .int .i64 ((min s.size (4096 - x.down.length) : Nat) : Int)) (Φ := fun y => okX { x with down := x.down ++ (bL s).take (min s.size (4096 - x.down.length)) } y) (L' := fun y => [(kb, Blk.c (byteCells s ++ rst) 5 lo hi)] ++ pX p { x with down := x.down ++ (bL s).take (min s.size (4096 - x.down.length)) } y) rfl fnc92 rfl rfl
        (fun w1 hm1 => offer_down_use (R := [(kb, Blk.c (byteCells s ++ rst) 5 lo hi)]) hok hm1 0 rfl (bL s) rst (by rw [bc_eq]) s.size cap _ (bL_length s) (by omega) rfl hs hx) (fun y hy => ?_)
      repeat (first | (refine st ?_) | (refine stx ?_) | (refine sb ?_) | (intro _))
      refine z_ret1 tab_ok Try.func46 hb hk Try.results46 (.tmp rfl) (fun w hm => ?_)
      exact ⟨y, hy, rfl, hm.weaken (fun _ h => h) (List.Sublist.cons _ (List.Sublist.refl _))⟩
  · rw [if_neg (fun hh => h4 hh.1)]
    refine calls_of_z Try.func46 rfl Try.ntmps46 rfl h ?_; intro cs b hb hk
    repeat (first | (refine st ?_) | (refine stx ?_) | (refine sb ?_) | (intro _))
    refine z_ret1 tab_ok Try.func46 hb hk Try.results46 (.tmp rfl) (fun w hm => ?_)
    exact ⟨o, hok, rfl, hm⟩
theorem ClientEnd_any (p : Nat) (x : Px) (hl : x.up.length + x.down.length ≤ 1000000000) : PC 53 [fP p 0] p x (pSettle (if x.state < 3 then pDone { x with cOver := true } else { x with cOver := true })) (.tuple #[]) := by
  intro o w hok h
  have hok1 : okX { x with cOver := true } o := okX_same hok rfl rfl
  by_cases h3 : x.state < 3
  · rw [if_pos h3]
    refine calls_of_z Try.func53 rfl Try.ntmps53 rfl h ?_; intro cs b hb hk
    repeat (first | (refine st ?_) | (refine stx ?_) | (refine sb ?_) | (intro _))
    refine zx_call (Y := Own × Own) (v := fun _ => .tuple #[]) (Φ := fun y => okX (pDone { x with cOver := true }) y) (L' := fun y => [] ++ pX p (pDone { x with cOver := true }) y) rfl fnc108 rfl rfl (fun w1 hm1 => PC.use (R := []) (done_any p { x with cOver := true }) hok1 hm1) (fun y hy => ?_)
    repeat (first | (refine st ?_) | (refine stx ?_) | (refine sb ?_) | (intro _))
    refine zx_call (Y := Own × Own) (v := fun _ => .tuple #[]) (Φ := fun z => okX (pSettle (pDone { x with cOver := true })) z) (L' := fun z => [] ++ pX p (pSettle (pDone { x with cOver := true })) z) rfl fnc94 rfl rfl (fun w1 hm1 => PC.use (R := []) (settle_any p (pDone { x with cOver := true }) (by show 0 + x.down.length ≤ _; omega)) hy hm1) (fun z hz => ?_)
    repeat (first | (refine st ?_) | (refine stx ?_) | (refine sb ?_) | (intro _))
    refine z_end0 Try.func53 hb hk Try.results53 (fun w hm => ?_)
    exact ⟨z, hz, rfl, hm⟩
  · rw [if_neg h3]
    refine calls_of_z Try.func53 rfl Try.ntmps53 rfl h ?_; intro cs b hb hk
    repeat (first | (refine st ?_) | (refine stx ?_) | (refine sb ?_) | (intro _))
    refine zx_call (Y := Own × Own) (v := fun _ => .tuple #[]) (Φ := fun z => okX (pSettle { x with cOver := true }) z) (L' := fun z => [] ++ pX p (pSettle { x with cOver := true }) z) rfl fnc94 rfl rfl (fun w1 hm1 => PC.use (R := []) (settle_any p { x with cOver := true } hl) hok1 hm1) (fun z hz => ?_)
    repeat (first | (refine st ?_) | (refine stx ?_) | (refine sb ?_) | (intro _))
    refine z_end0 Try.func53 hb hk Try.results53 (fun w hm => ?_)
    exact ⟨z, hz, rfl, hm⟩
theorem RemoteEnd_any (p : Nat) (x : Px) (hl : x.up.length + x.down.length ≤ 1000000000) : PC 54 [fP p 0] p x (if x.state = 4 then pSettle { x with rOver := true } else x) (.tuple #[]) := by
  intro o w hok h
  have hok1 : okX { x with rOver := true } o := okX_same hok rfl rfl
  by_cases h4 : x.state = 4
  · rw [if_pos h4]
    refine calls_of_z Try.func54 rfl Try.ntmps54 rfl h ?_; intro cs b hb hk
    repeat (first | (refine st ?_) | (refine stx ?_) | (refine sb ?_) | (intro _))
    refine zx_call (Y := Own × Own) (v := fun _ => .tuple #[]) (Φ := fun z => okX (pSettle { x with rOver := true }) z) (L' := fun z => [] ++ pX p (pSettle { x with rOver := true }) z) rfl fnc94 rfl rfl (fun w1 hm1 => PC.use (R := []) (settle_any p { x with rOver := true } hl) hok1 hm1) (fun z hz => ?_)
    repeat (first | (refine st ?_) | (refine stx ?_) | (refine sb ?_) | (intro _))
    refine z_end0 Try.func54 hb hk Try.results54 (fun w hm => ?_)
    exact ⟨z, hz, rfl, hm⟩
  · rw [if_neg h4]
    refine calls_of_z Try.func54 rfl Try.ntmps54 rfl h ?_; intro cs b hb hk
    repeat (first | (refine st ?_) | (refine stx ?_) | (refine sb ?_) | (intro _))
    refine z_ret0 Try.func54 hb hk Try.results54 (fun w hm => ?_)
    exact ⟨o, hok, rfl, hm⟩
theorem settle_ok {x : Px} {o : Own × Own} (h : okX x o) : okX (pSettle x) o := by
  unfold pSettle
  split
  · exact okX_same h rfl rfl
  · exact h
theorem take_down_use {w0 w : World} {ks : List Nat} {R : Mm} {p : Nat} {x : Px} {o : Own × Own} (hok : okX x o) (hm : Mem w0 ks (R ++ pX p x o) w) (n : Int) (k : Nat) (hkn : (k : Int) = min (max n 0) x.down.length) (hx : x.down.length ≤ 1000000000) :
    Calls Try.prog 95 [fP p 5, .int .i64 n].toArray w fun e w' => e = .returned (.slice (oA o.2) k k) ∧ Mem w0 ks (R ++ pX p { x with down := x.down.drop k } (o.1, ownDrop o.2 (u8s x.down) k)) w' := by
  have hm2 := hm.perm (L' := pX p x o ++ R) List.perm_append_comm
  refine (take_down p x o hok n k hkn hx w (Mem.now (S := pX p x o) (R := R) hm2)).mono fun e w' ⟨he, hm'⟩ => ⟨he, ?_⟩
  exact (Mem.call (S := pX p x o) (S' := pX p { x with down := x.down.drop k } (o.1, ownDrop o.2 (u8s x.down) k)) (R := R) hm2 hm').perm List.perm_append_comm
theorem ToClient_any (p : Nat) (x : Px) (n : Int) (k : Nat) (hkn : (k : Int) = min (max n 0) x.down.length) (hx : x.up.length + x.down.length ≤ 1000000000) : PC 39 [fP p 0, .int .i64 n] p x (pSettle { x with down := x.down.drop k }) (.string (ofInts (x.down.take k))) := by
  intro o w hok h
  have hkl : k ≤ x.down.length := by omega
  have hok1 := okX_take_down hok k hkl
  have hrow := rowL_drop 5 o.2 (u8s x.down) k (drop_u8 _ _ hkl)
  rw [← u8s_drop] at hrow
  refine calls_of_z Try.func39 rfl Try.ntmps39 rfl h ?_; intro cs b hb hk
  repeat (first | (refine st ?_) | (refine stx ?_) | (refine sb ?_) | (intro _))
  refine zx_defer rfl rfl ?_
  repeat (first | (refine st ?_) | (refine stx ?_) | (refine sb ?_) | (intro _))
  refine zx_call (Y := Unit) (v := fun _ => .slice (oA o.2) k k) (Φ := fun _ => True) (L' := fun _ => [] ++ pX p { x with down := x.down.drop k } (o.1, ownDrop o.2 (u8s x.down) k)) rfl fnc95 rfl rfl (fun w1 hm1 => (take_down_use (R := []) hok hm1 n k hkn (by omega)).mono fun e w' hh => ⟨(), trivial, hh.1, hh.2⟩) (fun _ _ => ?_)
  refine zx_re 12 (.slice (oA o.2) k k) rfl rfl ?_
  have hcase : o.2 = none ∨ ∃ b pre r rest, o.2 = some (b, pre, r, rest) := by
    cases o.2 with
    | none => exact .inl rfl
    | some q => obtain ⟨b, pre, r, rest⟩ := q; exact .inr ⟨b, pre, r, rest, rfl⟩
  rcases hcase with ho | ⟨b1, pre, r, rest, ho⟩
  · have hn0 := hok.2.nil ho
    have hk0 : k = 0 := by omega
    refine zx_re 12 (.slice none 0 0) rfl (by rw [ho, hk0]; rfl) ?_
    refine zx_b2sN (o := none) tab_ok rfl rfl rfl rfl rfl rfl ?_
    refine zx_re 13 (.string (ofInts (x.down.take k))) rfl (by rw [hk0]; rfl) ?_
    repeat (first | (refine st ?_) | (refine stx ?_) | (refine sb ?_) | (intro _))
    refine z_ret_defer Try.func39 hb hk fnc94 (Y := Unit) (Φ := fun _ => True) (L' := fun _ => pX p (pSettle { x with down := x.down.drop k }) (o.1, ownDrop o.2 (u8s x.down) k)) (fun w1 hm1 => ?_) (fun _ a w1 _ hF hm1 => run_res1 tab_ok Try.results39 (.tmp rfl) hm1 hF) (fun _ w1 _ hm1 => ⟨(o.1, ownDrop o.2 (u8s x.down) k), settle_ok hok1, rfl, hm1⟩)
    refine (settleD_any p { x with down := x.down.drop k } (o.1, ownDrop o.2 (u8s x.down) k) w1 hok1 (Mem.now (S := pX p { x with down := x.down.drop k } (o.1, ownDrop o.2 (u8s x.down) k)) (R := []) (by rw [List.append_nil]; exact hm1)) (by show x.up.length + (x.down.drop k).length ≤ _; rw [List.length_drop]; omega)).mono fun e u w' ⟨hu, _, he, hm'⟩ => ⟨hu, (), trivial, ⟨_, he⟩, ?_⟩
    have := Mem.call (S := pX p { x with down := x.down.drop k } (o.1, ownDrop o.2 (u8s x.down) k)) (S' := pX p (pSettle { x with down := x.down.drop k }) (o.1, ownDrop o.2 (u8s x.down) k)) (R := []) (by rw [List.append_nil]; exact hm1) hm'
    rwa [List.append_nil] at this
  · skip
    refine zx_perm ((b1, .c (pre ++ u8s x.down ++ rest) 5 0 0) :: (p, .c (Px.cells { x with down := x.down.drop k } (o.1, ownDrop o.2 (u8s x.down) k)) 96 0 0) :: rowL 5 o.1 (u8s x.up)) (by
      show List.Perm _ ((p, Blk.c (Px.cells { x with down := x.down.drop k } (o.1, ownDrop o.2 (u8s x.down) k)) 96 0 0) :: (rowL 5 o.1 (u8s x.up) ++ rowL 5 (ownDrop o.2 (u8s x.down) k) (u8s (x.down.drop k))))
      rw [hrow, ho]
      exact (List.Perm.swap _ _ _).trans (List.Perm.cons _ (List.perm_append_comm (l₁ := [_])))) ?_
    refine zx_re 12 (.slice (some ⟨b1, pre.length, none⟩) k k) rfl (by rw [ho]; rfl) ?_
    refine zx_b2sR tab_ok 0 (x.down.take k) rfl rfl rfl rfl rfl rfl (by have := piece pre rest x.down 0 k pre.length (.inr rfl) (by omega); rw [List.drop_zero] at this; exact this) (by rw [List.length_take]; omega) rfl ?_
    refine zx_perm (pX p { x with down := x.down.drop k } (o.1, ownDrop o.2 (u8s x.down) k)) (by
      show List.Perm ((p, Blk.c (Px.cells { x with down := x.down.drop k } (o.1, ownDrop o.2 (u8s x.down) k)) 96 0 0) :: (rowL 5 o.1 (u8s x.up) ++ rowL 5 (ownDrop o.2 (u8s x.down) k) (u8s (x.down.drop k)))) _
      rw [hrow, ho]
      exact ((List.Perm.swap _ _ _).trans (List.Perm.cons _ (List.perm_append_comm (l₁ := [_])))).symm) ?_
    repeat (first | (refine st ?_) | (refine stx ?_) | (refine sb ?_) | (intro _))
    refine z_ret_defer Try.func39 hb hk fnc94 (Y := Unit) (Φ := fun _ => True) (L' := fun _ => pX p (pSettle { x with down := x.down.drop k }) (o.1, ownDrop o.2 (u8s x.down) k)) (fun w1 hm1 => ?_) (fun _ a w1 _ hF hm1 => run_res1 tab_ok Try.results39 (.tmp rfl) hm1 hF) (fun _ w1 _ hm1 => ⟨(o.1, ownDrop o.2 (u8s x.down) k), settle_ok hok1, rfl, hm1⟩)
    refine (settleD_any p { x with down := x.down.drop k } (o.1, ownDrop o.2 (u8s x.down) k) w1 hok1 (Mem.now (S := pX p { x with down := x.down.drop k } (o.1, ownDrop o.2 (u8s x.down) k)) (R := []) (by rw [List.append_nil]; exact hm1)) (by show x.up.length + (x.down.drop k).length ≤ _; rw [List.length_drop]; omega)).mono fun e u w' ⟨hu, _, he, hm'⟩ => ⟨hu, (), trivial, ⟨_, he⟩, ?_⟩
    have := Mem.call (S := pX p { x with down := x.down.drop k } (o.1, ownDrop o.2 (u8s x.down) k)) (S' := pX p (pSettle { x with down := x.down.drop k }) (o.1, ownDrop o.2 (u8s x.down) k)) (R := []) (by rw [List.append_nil]; exact hm1) hm'
    rwa [List.append_nil] at this
theorem take_up_use {w0 w : World} {ks : List Nat} {R : Mm} {p : Nat} {x : Px} {o : Own × Own} (hok : okX x o) (hm : Mem w0 ks (R ++ pX p x o) w) (n : Int) (k : Nat) (hkn : (k : Int) = min (max n 0) x.up.length) (hx : x.up.length ≤ 1000000000) :
    Calls Try.prog 95 [fP p 4, .int .i64 n].toArray w fun e w' => e = .returned (.slice (oA o.1) k k) ∧ Mem w0 ks (R ++ pX p { x with up := x.up.drop k } (ownDrop o.1 (u8s x.up) k, o.2)) w' := by
  have hm2 := hm.perm (L' := pX p x o ++ R) List.perm_append_comm
  refine (take_up p x o hok n k hkn hx w (Mem.now (S := pX p x o) (R := R) hm2)).mono fun e w' ⟨he, hm'⟩ => ⟨he, ?_⟩
  exact (Mem.call (S := pX p x o) (S' := pX p { x with up := x.up.drop k } (ownDrop o.1 (u8s x.up) k, o.2)) (R := R) hm2 hm').perm List.perm_append_comm
theorem ToRemote_any (p : Nat) (x : Px) (h4 : x.state = 4) (n : Int) (k : Nat) (hkn : (k : Int) = min (max n 0) x.up.length) (hx : x.up.length + x.down.length ≤ 1000000000) : PC 45 [fP p 0, .int .i64 n] p x (pSettle { x with up := x.up.drop k }) (.string (ofInts (x.up.take k))) := by
  intro o w hok h
  have hkl : k ≤ x.up.length := by omega
  have hok1 := okX_take_up hok k hkl
  have hrow := rowL_drop 5 o.1 (u8s x.up) k (drop_u8 _ _ hkl)
  rw [← u8s_drop] at hrow
  refine calls_of_z Try.func45 rfl Try.ntmps45 rfl h ?_; intro cs b hb hk
  repeat (first | (refine st ?_) | (refine stx ?_) | (refine sb ?_) | (intro _))
  refine zx_defer rfl rfl ?_
  repeat (first | (refine st ?_) | (refine stx ?_) | (refine sb ?_) | (intro _))
  refine zx_call (Y := Unit) (v := fun _ => .slice (oA o.1) k k) (Φ := fun _ => True) (L' := fun _ => [] ++ pX p { x with up := x.up.drop k } (ownDrop o.1 (u8s x.up) k, o.2)) rfl fnc95 rfl rfl (fun w1 hm1 => (take_up_use (R := []) hok hm1 n k hkn (by omega)).mono fun e w' hh => ⟨(), trivial, hh.1, hh.2⟩) (fun _ _ => ?_)
  refine zx_re 19 (.slice (oA o.1) k k) rfl rfl ?_
  have hcase : o.1 = none ∨ ∃ b pre r rest, o.1 = some (b, pre, r, rest) := by
    cases o.1 with
    | none => exact .inl rfl
    | some q => obtain ⟨b, pre, r, rest⟩ := q; exact .inr ⟨b, pre, r, rest, rfl⟩
  rcases hcase with ho | ⟨b1, pre, r, rest, ho⟩
  · have hn0 := hok.1.nil ho
    have hk0 : k = 0 := by omega
    refine zx_re 19 (.slice none 0 0) rfl (by rw [ho, hk0]; rfl) ?_
    refine zx_b2sN (o := none) tab_ok rfl rfl rfl rfl rfl rfl ?_
    refine zx_re 20 (.string (ofInts (x.up.take k))) rfl (by rw [hk0]; rfl) ?_
    repeat (first | (refine st ?_) | (refine stx ?_) | (refine sb ?_) | (intro _))
    refine z_ret_defer Try.func45 hb hk fnc94 (Y := Unit) (Φ := fun _ => True) (L' := fun _ => pX p (pSettle { x with up := x.up.drop k }) (ownDrop o.1 (u8s x.up) k, o.2)) (fun w1 hm1 => ?_) (fun _ a w1 _ hF hm1 => run_res1 tab_ok Try.results45 (.tmp rfl) hm1 hF) (fun _ w1 _ hm1 => ⟨(ownDrop o.1 (u8s x.up) k, o.2), settle_ok hok1, rfl, hm1⟩)
    refine (settleD_any p { x with up := x.up.drop k } (ownDrop o.1 (u8s x.up) k, o.2) w1 hok1 (Mem.now (S := pX p { x with up := x.up.drop k } (ownDrop o.1 (u8s x.up) k, o.2)) (R := []) (by rw [List.append_nil]; exact hm1)) (by show (x.up.drop k).length + x.down.length ≤ _; rw [List.length_drop]; omega)).mono fun e u w' ⟨hu, _, he, hm'⟩ => ⟨hu, (), trivial, ⟨_, he⟩, ?_⟩
    have := Mem.call (S := pX p { x with up := x.up.drop k } (ownDrop o.1 (u8s x.up) k, o.2)) (S' := pX p (pSettle { x with up := x.up.drop k }) (ownDrop o.1 (u8s x.up) k, o.2)) (R := []) (by rw [List.append_nil]; exact hm1) hm'
    rwa [List.append_nil] at this
  · skip
    refine zx_perm ((b1, .c (pre ++ u8s x.up ++ rest) 5 0 0) :: (p, .c (Px.cells { x with up := x.up.drop k } (ownDrop o.1 (u8s x.up) k, o.2)) 96 0 0) :: rowL 5 o.2 (u8s x.down)) (by
      show List.Perm _ ((p, Blk.c (Px.cells { x with up := x.up.drop k } (ownDrop o.1 (u8s x.up) k, o.2)) 96 0 0) :: (rowL 5 (ownDrop o.1 (u8s x.up) k) (u8s (x.up.drop k)) ++ rowL 5 o.2 (u8s x.down)))
      rw [hrow, ho]
      exact List.Perm.swap _ _ _) ?_
    refine zx_re 19 (.slice (some ⟨b1, pre.length, none⟩) k k) rfl (by rw [ho]; rfl) ?_
    refine zx_b2sR tab_ok 0 (x.up.take k) rfl rfl rfl rfl rfl rfl (by have := piece pre rest x.up 0 k pre.length (.inr rfl) (by omega); rw [List.drop_zero] at this; exact this) (by rw [List.length_take]; omega) rfl ?_
    refine zx_perm (pX p { x with up := x.up.drop k } (ownDrop o.1 (u8s x.up) k, o.2)) (by
      show List.Perm ((p, Blk.c (Px.cells { x with up := x.up.drop k } (ownDrop o.1 (u8s x.up) k, o.2)) 96 0 0) :: (rowL 5 (ownDrop o.1 (u8s x.up) k) (u8s (x.up.drop k)) ++ rowL 5 o.2 (u8s x.down))) _
      rw [hrow, ho]
      exact List.Perm.swap _ _ _) ?_
    repeat (first | (refine st ?_) | (refine stx ?_) | (refine sb ?_) | (intro _))
    refine z_ret_defer Try.func45 hb hk fnc94 (Y := Unit) (Φ := fun _ => True) (L' := fun _ => pX p (pSettle { x with up := x.up.drop k }) (ownDrop o.1 (u8s x.up) k, o.2)) (fun w1 hm1 => ?_) (fun _ a w1 _ hF hm1 => run_res1 tab_ok Try.results45 (.tmp rfl) hm1 hF) (fun _ w1 _ hm1 => ⟨(ownDrop o.1 (u8s x.up) k, o.2), settle_ok hok1, rfl, hm1⟩)
    refine (settleD_any p { x with up := x.up.drop k } (ownDrop o.1 (u8s x.up) k, o.2) w1 hok1 (Mem.now (S := pX p { x with up := x.up.drop k } (ownDrop o.1 (u8s x.up) k, o.2)) (R := []) (by rw [List.append_nil]; exact hm1)) (by show (x.up.drop k).length + x.down.length ≤ _; rw [List.length_drop]; omega)).mono fun e u w' ⟨hu, _, he, hm'⟩ => ⟨hu, (), trivial, ⟨_, he⟩, ?_⟩
    have := Mem.call (S := pX p { x with up := x.up.drop k } (ownDrop o.1 (u8s x.up) k, o.2)) (S' := pX p (pSettle { x with up := x.up.drop k }) (ownDrop o.1 (u8s x.up) k, o.2)) (R := []) (by rw [List.append_nil]; exact hm1) hm'
    rwa [List.append_nil] at this
end Go.Proofs.Ytabcaiecoiejkaa
