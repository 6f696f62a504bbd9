/- Walks of package socks: offer, done, say, fail, settle; State, Target, EndClient, EndRemote. -/
import Derived.Test.YtabcaiecoiejkaaS1
set_option maxRecDepth 100000
set_option linter.unusedSimpArgs false
set_option linter.unusedVariables false
set_option maxHeartbeats 1600000
namespace Go.Proofs.Ytabcaiecoiejkaa
open Go K

/-- a method of the session at p: it turns x into x' and tells v -/
def PC (f : Nat) (args : List Value) (p : Nat) (x x' : Px) (v : Value) : Prop := ∀ (o : Own × Own) (w : World), okX x o → Mem w (kX p x o) (pX p x o) w →
  Calls Try.prog f args.toArray w fun e w' => ∃ y : Own × Own, okX x' y ∧ e = .returned v ∧ Mem w (kX p x o) (pX p x' y) w'
theorem PC.use {f : Nat} {args : List Value} {p : Nat} {x x' : Px} {v : Value} (h : PC f args p x x' v) {w0 w : World} {ks : List Nat} {R : Mm} {o : Own × Own} (hok : okX x o) (hm : Mem w0 ks (R ++ pX p x o) w) :
    Calls Try.prog f args.toArray w fun e w' => ∃ y : Own × Own, okX x' y ∧ e = .returned v ∧ Mem w0 ks (R ++ pX p x' y) w' := by
  have hm2 := hm.perm (L' := pX p x o ++ R) List.perm_append_comm
  refine (h o w hok (Mem.now (S := pX p x o) (R := R) hm2)).mono fun e w' ⟨y, hy, he, hm'⟩ => ⟨y, hy, he, ?_⟩
  exact (Mem.call (S := pX p x o) (S' := pX p x' y) (R := R) hm2 hm').perm List.perm_append_comm
def pDone (x : Px) : Px := { x with state := 5, up := [] }
def pSay (x : Px) (l : List Int) : Px := { x with down := x.down ++ l }
def failL (code : Int) : List Int := [5, code, 0, 1, 0, 0, 0, 0, 0, 0]
def pFail (code : Int) (x : Px) : Px := pDone (pSay x (failL code))
def pSettle (x : Px) : Px := if x.state = 4 ∧ x.cOver = true ∧ x.rOver = true ∧ x.up = [] ∧ x.down = [] then { x with state := 5 } else x
theorem okX_same {x x' : Px} {o : Own × Own} (h : okX x o) (hu : x'.up = x.up) (hd : x'.down = x.down) : okX x' o := by
  unfold okX at *
  rw [hu, hd]
  exact h
theorem okX_done {x : Px} {o : Own × Own} (h : okX x o) : okX (pDone x) (none, o.2) := ⟨RowOk.nil0 1, h.2⟩
theorem done_any (p : Nat) (x : Px) : PC 108 [fP p 0] p x (pDone x) (.tuple #[]) := by
  intro o w hok h
  refine calls_of_z Try.func108 rfl Try.ntmps108 rfl h ?_; intro cs b hb hk
  repeat (first | (refine st ?_) | (refine stx ?_) | (intro _))
  refine z_end0 Try.func108 hb hk Try.results108 (fun w hm => ?_)
  refine ⟨(none, o.2), okX_done hok, rfl, ?_⟩
  refine hm.weaken (fun _ h => h) ?_
  exact List.Sublist.cons_cons _ (List.sublist_append_right _ _)
theorem cells_in {w0 w : World} {ks : List Nat} {R : Mm} {p : Nat} {x : Px} {o : Own × Own} (hm : Mem w0 ks (R ++ pX p x o) w) (i : Nat) {sb : Nat} {cs : List Value} {et : TypeId} {lo hi : Nat} (hR : R[i]? = some (sb, .c cs et lo hi)) :
    (∀ j, w.cell? ⟨sb, j, none⟩ = cs[j]?) ∧ sb ∉ kX p x o := by
  have hmem := List.mem_of_getElem? hR
  have hi : i < R.length := (List.getElem?_eq_some_iff.1 hR).1
  refine ⟨fun j => hm.cell (i := i) (by rw [List.getElem?_append_left hi]; exact hR), fun hk => ?_⟩
  have hnd := hm.nd
  rw [List.map_append, List.nodup_append] at hnd
  exact hnd.2.2 sb (List.mem_map_of_mem hmem) sb hk rfl
/-- bytes that lie in a block of R are put behind what waits for the client -/
theorem putD_use {w0 w : World} {ks : List Nat} {R : Mm} {p : Nat} {x : Px} {o : Own × Own} (hok : okX x o) (hm : Mem w0 ks (R ++ pX p x o) w) {sb : Nat} {news : List Int} (m cap : Nat) (hc : ∀ j v, (u8s news)[j]? = some v → w.cell? ⟨sb, j, none⟩ = some v) (hsb : sb ∉ kX p x o)
    (hl : x.down.length + m ≤ 1000000000) (hnl : news.length = m) :
    Calls Try.prog 122 [fP p 5, .slice (some ⟨sb, 0, none⟩) m cap].toArray w fun e w' => ∃ y : Own × Own, okX (pSay x news) y ∧ e = .returned (.tuple #[]) ∧ Mem w0 ks (R ++ pX p (pSay x news) y) w' := by
  have hm2 := hm.perm (L' := pX p x o ++ R) List.perm_append_comm
  refine (put_down p x o hok (.slice (some ⟨sb, 0, none⟩) m cap) m news w (Mem.now (S := pX p x o) (R := R) hm2) (fun w' hm' => Src.ofSlice w' Try.underlying46 ⟨sb, 0, none⟩ m cap (u8s news) (by rw [u8s_len, hnl, Nat.mul_one]) (fun j u hu => by
    rw [addr_add, Nat.zero_add]; exact hm'.cellB (hc j u hu) hsb) (fun u hu => by obtain ⟨z, _, rfl⟩ := List.mem_map.1 hu; rfl)) hl hnl).mono fun e w' ⟨y, hy, he, hm'⟩ => ⟨y, hy, he, ?_⟩
  exact (Mem.call (S := pX p x o) (S' := pX p (pSay x news) y) (R := R) hm2 hm').perm List.perm_append_comm
theorem putU_use {w0 w : World} {ks : List Nat} {R : Mm} {p : Nat} {x : Px} {o : Own × Own} (hok : okX x o) (hm : Mem w0 ks (R ++ pX p x o) w) {sb : Nat} {news : List Int} (m cap : Nat) (hc : ∀ j v, (u8s news)[j]? = some v → w.cell? ⟨sb, j, none⟩ = some v) (hsb : sb ∉ kX p x o)
    (hl : x.up.length + m ≤ 1000000000) (hnl : news.length = m) :
    Calls Try.prog 122 [fP p 4, .slice (some ⟨sb, 0, none⟩) m cap].toArray w fun e w' => ∃ y : Own × Own, okX { x with up := x.up ++ news } y ∧ e = .returned (.tuple #[]) ∧ Mem w0 ks (R ++ pX p { x with up := x.up ++ news } y) w' := by
  have hm2 := hm.perm (L' := pX p x o ++ R) List.perm_append_comm
  refine (put_up p x o hok (.slice (some ⟨sb, 0, none⟩) m cap) m news w (Mem.now (S := pX p x o) (R := R) hm2) (fun w' hm' => Src.ofSlice w' Try.underlying46 ⟨sb, 0, none⟩ m cap (u8s news) (by rw [u8s_len, hnl, Nat.mul_one]) (fun j u hu => by
    rw [addr_add, Nat.zero_add]; exact hm'.cellB (hc j u hu) hsb) (fun u hu => by obtain ⟨z, _, rfl⟩ := List.mem_map.1 hu; rfl)) hl hnl).mono fun e w' ⟨y, hy, he, hm'⟩ => ⟨y, hy, he, ?_⟩
  exact (Mem.call (S := pX p x o) (S' := pX p { x with up := x.up ++ news } y) (R := R) hm2 hm').perm List.perm_append_comm
theorem say_any (p : Nat) (x : Px) (o : Own × Own) (hok : okX x o) (sb m cap : Nat) (news : List Int) (w : World) (h : Mem w (kX p x o) (pX p x o) w) (hc : ∀ j v, (u8s news)[j]? = some v → w.cell? ⟨sb, j, none⟩ = some v) (hsb : sb ∉ kX p x o)
    (hl : x.down.length + m ≤ 1000000000) (hnl : news.length = m) :
    Calls Try.prog 107 [fP p 0, .slice (some ⟨sb, 0, none⟩) m cap].toArray w fun e w' => ∃ y : Own × Own, okX (pSay x news) y ∧ e = .returned (.tuple #[]) ∧ Mem w (kX p x o) (pX p (pSay x news) y) w' := by
  refine calls_of_z Try.func107 rfl Try.ntmps107 rfl h ?_; intro cs b hb hk
  repeat (first | (refine st ?_) | (refine stx ?_) | (intro _))
  refine zx_call (Y := Own × Own) (v := fun _ => .tuple #[]) (Φ := fun y => okX (pSay x news) y) (L' := fun y => [] ++ pX p (pSay x news) y) rfl fnc122 rfl rfl
    (fun w1 hm => putD_use (R := []) hok hm m cap (fun j v hj => hm.cellB (hc j v hj) hsb) hsb hl hnl) (fun y hy => ?_)
  repeat (first | (refine st ?_) | (refine stx ?_) | (intro _))
  refine z_end0 Try.func107 hb hk Try.results107 (fun w hm => ?_)
  exact ⟨y, hy, rfl, hm⟩
/-- what is said lies in a block of R -/
theorem say_use {w0 w : World} {ks : List Nat} {R : Mm} {p : Nat} {x : Px} {o : Own × Own} (hok : okX x o) (hm : Mem w0 ks (R ++ pX p x o) w) (i : Nat) {sb : Nat} {cs : List Value} {et : TypeId} {lo hi : Nat} (hR : R[i]? = some (sb, .c cs et lo hi)) (news : List Int) (rst : List Value) (hcs : cs = u8s news ++ rst) (m cap : Nat)
    (hl : x.down.length + m ≤ 1000000000) (hnl : news.length = m) :
    Calls Try.prog 107 [fP p 0, .slice (some ⟨sb, 0, none⟩) m cap].toArray w fun e w' => ∃ y : Own × Own, okX (pSay x news) y ∧ e = .returned (.tuple #[]) ∧ Mem w0 ks (R ++ pX p (pSay x news) y) w' := by
  have hm2 := hm.perm (L' := pX p x o ++ R) List.perm_append_comm
  obtain ⟨h1, h2⟩ := cells_in hm i hR
  refine (say_any p x o hok sb m cap news w (Mem.now (S := pX p x o) (R := R) hm2) (fun j v hj => by
    rw [h1, hcs, List.getElem?_append_left (List.getElem?_eq_some_iff.1 hj).1]; exact hj) h2 hl hnl).mono fun e w' ⟨y, hy, he, hm'⟩ => ⟨y, hy, he, ?_⟩
  exact (Mem.call (S := pX p x o) (S' := pX p (pSay x news) y) (R := R) hm2 hm').perm List.perm_append_comm
theorem fail_any (p : Nat) (x : Px) (code : Int) (hl : x.down.length ≤ 1000000) : PC 106 [fP p 0, .int .u8 code] p x (pFail code x) (.bool true) := by
  intro o w hok h
  refine calls_of_z Try.func106 rfl Try.ntmps106 rfl h ?_; intro cs b hb hk
  repeat (first | (refine st ?_) | (refine stx ?_) | (intro _))
  rename_i kb
  refine zx_call (Y := Own × Own) (v := fun _ => .tuple #[]) (Φ := fun y => okX (pSay x (failL code)) y) (L' := fun y => [(kb, Blk.c (u8s (failL code)) 5 0 0)] ++ pX p (pSay x (failL code)) y) rfl fnc107 rfl rfl
    (fun w1 hm => say_use (R := [(kb, .c (u8s (failL code)) 5 0 0)]) hok hm 0 rfl (failL code) [] (by rw [List.append_nil]) 10 10 (by omega) rfl) (fun y hy => ?_)
  repeat (first | (refine st ?_) | (refine stx ?_) | (intro _))
  refine zx_call (Y := Own × Own) (v := fun _ => .tuple #[]) (Φ := fun z => okX (pDone (pSay x (failL code))) z) (L' := fun z => [(kb, Blk.c (u8s (failL code)) 5 0 0)] ++ pX p (pDone (pSay x (failL code))) z) rfl fnc108 rfl rfl
    (fun w1 hm => PC.use (R := [(kb, Blk.c (u8s (failL code)) 5 0 0)]) (done_any p (pSay x (failL code))) hy hm) (fun z hz => ?_)
  repeat (first | (refine st ?_) | (refine stx ?_) | (intro _))
  refine z_ret1 tab_ok Try.func106 hb hk Try.results106 (.tmp rfl) (fun w hm => ?_)
  exact ⟨z, hz, rfl, hm.weaken (fun _ h => h) (List.Sublist.cons _ (List.Sublist.refl _))⟩
theorem settle_any (p : Nat) (x : Px) (hl : x.up.length + x.down.length ≤ 1000000000) : PC 94 [fP p 0] p x (pSettle x) (.tuple #[]) := by
  intro o w hok h
  refine calls_of_z Try.func94 rfl Try.ntmps94 rfl h ?_; intro cs b hb hk
  by_cases h4 : x.state = 4
  · rcases Bool.eq_false_or_eq_true x.cOver with hc | hc
    · rcases Bool.eq_false_or_eq_true x.rOver with hr | hr
      · by_cases he : x.up.length + x.down.length = 0
        · have hu : x.up = [] := List.eq_nil_of_length_eq_zero (by omega)
          have hd : x.down = [] := List.eq_nil_of_length_eq_zero (by omega)
          have hS : pSettle x = { x with state := 5 } := by rw [pSettle, if_pos ⟨h4, hc, hr, hu, hd⟩]
          have hw : (IntKind.i64.wrap ((x.up.length : Int) + x.down.length) == 0) = true := by rw [wr64 (by omega) (by omega)]; exact beq_iff_eq.2 (by omega)
          repeat (first | (refine st ?_) | (refine stx ?_) | (refine sb ?_) | (intro _))
          refine z_end0 Try.func94 hb hk Try.results94 (fun w hm => ?_)
          exact ⟨o, okX_same hok (by rw [hS]) (by rw [hS]), rfl, by rw [hS]; exact hm⟩
        · have hS : pSettle x = x := by rw [pSettle, if_neg]; intro hh; rw [hh.2.2.2.1, hh.2.2.2.2] at he; exact he rfl
          have hw : (IntKind.i64.wrap ((x.up.length : Int) + x.down.length) == 0) = false := by rw [wr64 (by omega) (by omega)]; exact beq_eq_false_iff_ne.2 (by omega)
          repeat (first | (refine st ?_) | (refine stx ?_) | (refine sb ?_) | (intro _))
          refine z_end0 Try.func94 hb hk Try.results94 (fun w hm => ?_)
          exact ⟨o, okX_same hok (by rw [hS]) (by rw [hS]), rfl, by rw [hS]; exact hm⟩
      · have hS : pSettle x = x := by rw [pSettle, if_neg]; intro hh; rw [hh.2.2.1] at hr; cases hr
        repeat (first | (refine st ?_) | (refine stx ?_) | (refine sb ?_) | (intro _))
        refine z_end0 Try.func94 hb hk Try.results94 (fun w hm => ?_)
        exact ⟨o, okX_same hok (by rw [hS]) (by rw [hS]), rfl, by rw [hS]; exact hm⟩
    · have hS : pSettle x = x := by rw [pSettle, if_neg]; intro hh; rw [hh.2.1] at hc; cases hc
      repeat (first | (refine st ?_) | (refine stx ?_) | (refine sb ?_) | (intro _))
      refine z_end0 Try.func94 hb hk Try.results94 (fun w hm => ?_)
      exact ⟨o, okX_same hok (by rw [hS]) (by rw [hS]), rfl, by rw [hS]; exact hm⟩
  · have hS : pSettle x = x := by rw [pSettle, if_neg]; intro hh; exact h4 hh.1
    repeat (first | (refine st ?_) | (refine stx ?_) | (refine sb ?_) | (intro _))
    refine z_end0 Try.func94 hb hk Try.results94 (fun w hm => ?_)
    exact ⟨o, okX_same hok (by rw [hS]) (by rw [hS]), rfl, by rw [hS]; exact hm⟩
theorem settleD_any (p : Nat) (x : Px) (o : Own × Own) (w : World) (hok : okX x o) (h : Mem w (kX p x o) (pX p x o) w) (hl : x.up.length + x.down.length ≤ 1000000000) :
    CallsD Try.prog 94 [fP p 0].toArray .returning w fun e u w' => u = .returning ∧ (okX (pSettle x) o ∧ e = .returned (.tuple #[]) ∧ Mem w (kX p x o) (pX p (pSettle x) o) w') := by
  refine callsD_of_z (R := fun e w' => okX (pSettle x) o ∧ e = .returned (.tuple #[]) ∧ Mem w (kX p x o) (pX p (pSettle x) o) w') Try.func94 rfl Try.ntmps94 rfl h ?_; intro cs b hb hk
  by_cases h4 : x.state = 4
  · rcases Bool.eq_false_or_eq_true x.cOver with hc | hc
    · rcases Bool.eq_false_or_eq_true x.rOver with hr | hr
      · by_cases he : x.up.length + x.down.length = 0
        · have hu : x.up = [] := List.eq_nil_of_length_eq_zero (by omega)
          have hd : x.down = [] := List.eq_nil_of_length_eq_zero (by omega)
          have hS : pSettle x = { x with state := 5 } := by rw [pSettle, if_pos ⟨h4, hc, hr, hu, hd⟩]
          have hw : (IntKind.i64.wrap ((x.up.length : Int) + x.down.length) == 0) = true := by rw [wr64 (by omega) (by omega)]; exact beq_iff_eq.2 (by omega)
          repeat (first | (refine st ?_) | (refine stx ?_) | (refine sb ?_) | (intro _))
          refine z_endD0 Try.func94 hb hk Try.results94 (fun w hm => ?_)
          exact ⟨okX_same hok (by rw [hS]) (by rw [hS]), rfl, by rw [hS]; exact hm⟩
        · have hS : pSettle x = x := by rw [pSettle, if_neg]; intro hh; rw [hh.2.2.2.1, hh.2.2.2.2] at he; exact he rfl
          have hw : (IntKind.i64.wrap ((x.up.length : Int) + x.down.length) == 0) = false := by rw [wr64 (by omega) (by omega)]; exact beq_eq_false_iff_ne.2 (by omega)
          repeat (first | (refine st ?_) | (refine stx ?_) | (refine sb ?_) | (intro _))
          refine z_endD0 Try.func94 hb hk Try.results94 (fun w hm => ?_)
          exact ⟨okX_same hok (by rw [hS]) (by rw [hS]), rfl, by rw [hS]; exact hm⟩
      · have hS : pSettle x = x := by rw [pSettle, if_neg]; intro hh; rw [hh.2.2.1] at hr; cases hr
        repeat (first | (refine st ?_) | (refine stx ?_) | (refine sb ?_) | (intro _))
        refine z_endD0 Try.func94 hb hk Try.results94 (fun w hm => ?_)
        exact ⟨okX_same hok (by rw [hS]) (by rw [hS]), rfl, by rw [hS]; exact hm⟩
    · have hS : pSettle x = x := by rw [pSettle, if_neg]; intro hh; rw [hh.2.1] at hc; cases hc
      repeat (first | (refine st ?_) | (refine stx ?_) | (refine sb ?_) | (intro _))
      refine z_endD0 Try.func94 hb hk Try.results94 (fun w hm => ?_)
      exact ⟨okX_same hok (by rw [hS]) (by rw [hS]), rfl, by rw [hS]; exact hm⟩
  · have hS : pSettle x = x := by rw [pSettle, if_neg]; intro hh; exact h4 hh.1
    repeat (first | (refine st ?_) | (refine stx ?_) | (refine sb ?_) | (intro _))
    refine z_endD0 Try.func94 hb hk Try.results94 (fun w hm => ?_)
    exact ⟨okX_same hok (by rw [hS]) (by rw [hS]), rfl, by rw [hS]; exact hm⟩
end Go.Proofs.Ytabcaiecoiejkaa
