/- Walks of package socks: State, EndClient, EndRemote, field; offer; ClientEnd, RemoteEnd. -/
import Derived.Test.YtabcaiecoiejkaaS2
set_option maxRecDepth 100000
set_option linter.unusedSimpArgs false
set_option linter.unusedVariables false
set_option maxHeartbeats 1600000
namespace Go.Proofs.Ytabcaiecoiejkaa
open Go K

/-- a method of the session at p that only reads -/
def QC (f : Nat) (args : List Value) (p : Nat) (x : Px) (v : Value) : Prop := ∀ (o : Own × Own) (w : World), okX x o → Mem w (kX p x o) (pX p x o) w →
  Calls Try.prog f args.toArray w fun e w' => e = .returned v ∧ Mem w [] [] w'
theorem QC.use {f : Nat} {args : List Value} {p : Nat} {x : Px} {v : Value} (h : QC f args p x v) {w0 w : World} {ks : List Nat} {R : Mm} {o : Own × Own} (hok : okX x o) (hm : Mem w0 ks (R ++ pX p x o) w) :
    Calls Try.prog f args.toArray w fun e w' => e = .returned v ∧ Mem w [] [] w' :=
  h o w hok (Mem.now (S := pX p x o) (R := R) (hm.perm (L' := pX p x o ++ R) List.perm_append_comm))
theorem back_X {w w' : World} {p : Nat} {x : Px} {o : Own × Own} {L : Mm} (h : Mem w (kX p x o) (pX p x o) w) (hm : Mem w (kX p x o) L w') (hL : (pX p x o).Sublist L) : Mem w [] [] w' :=
  (hm.weaken (L' := pX p x o) (fun _ h => h) hL).back (fun q hq => h.known q hq) (fun k hk => hk)
theorem State_any (p : Nat) (x : Px) : QC 37 [fP p 0] p x (.int .i64 x.state) := by
  intro o w hok h
  refine calls_of_z Try.func37 rfl Try.ntmps37 rfl h ?_; intro cs b hb hk
  repeat (first | (refine st ?_) | (refine stx ?_) | (intro _))
  refine z_ret1 tab_ok Try.func37 hb hk Try.results37 (.tmp rfl) (fun w hm => ?_)
  exact ⟨rfl, back_X h hm (List.Sublist.refl _)⟩
def noX : ByteArray := ⟨#[]⟩
def pEndC (x : Px) : Bool := x.down.isEmpty && (x.state == 5 || x.rOver)
def pEndR (x : Px) : Bool := x.up.isEmpty && (x.cOver && x.relayed)
theorem EndClient_any (p : Nat) (x : Px) : QC 44 [fP p 0] p x (.bool (pEndC x)) := by
  intro o w hok h
  unfold pEndC
  by_cases hd : x.down.length = 0
  · have hd2 : x.down = [] := List.eq_nil_of_length_eq_zero hd
    have hd3 : x.down.isEmpty = true := by rw [hd2]; rfl
    by_cases h5 : x.state = 5
    · have h6 : (x.state == 5) = true := beq_iff_eq.2 h5
      rw [hd3, h6]
      refine calls_of_z Try.func44 rfl Try.ntmps44 rfl h ?_; intro cs b hb hk
      repeat (first | (refine st ?_) | (refine stx ?_) | (refine sb ?_) | (intro _))
      refine z_ret1 tab_ok Try.func44 hb hk Try.results44 (.tmp rfl) (fun w hm => ?_)
      exact ⟨rfl, back_X h hm (List.Sublist.refl _)⟩
    · have h6 : (x.state == 5) = false := beq_eq_false_iff_ne.2 h5
      rcases Bool.eq_false_or_eq_true x.rOver with hr | hr
      · rw [hd3, h6, hr]
        refine calls_of_z Try.func44 rfl Try.ntmps44 rfl h ?_; intro cs b hb hk
        repeat (first | (refine st ?_) | (refine stx ?_) | (refine sb ?_) | (intro _))
        refine z_re 2 (.bool true) rfl (congrArg _ hr) ?_
        refine z_ret1 tab_ok Try.func44 hb hk Try.results44 (.tmp rfl) (fun w hm => ?_)
        exact ⟨rfl, back_X h hm (List.Sublist.refl _)⟩
      · rw [hd3, h6, hr]
        refine calls_of_z Try.func44 rfl Try.ntmps44 rfl h ?_; intro cs b hb hk
        repeat (first | (refine st ?_) | (refine stx ?_) | (refine sb ?_) | (intro _))
        refine z_re 2 (.bool false) rfl (congrArg _ hr) ?_
        refine z_ret1 tab_ok Try.func44 hb hk Try.results44 (.tmp rfl) (fun w hm => ?_)
        exact ⟨rfl, back_X h hm (List.Sublist.refl _)⟩
  · have hd3 : x.down.isEmpty = false := by cases hx : x.down with | nil => rw [hx] at hd; exact absurd rfl hd | cons a l => rfl
    rw [hd3]
    refine calls_of_z Try.func44 rfl Try.ntmps44 rfl h ?_; intro cs b hb hk
    repeat (first | (refine st ?_) | (refine stx ?_) | (refine sb ?_) | (intro _))
    refine z_ret1 tab_ok Try.func44 hb hk Try.results44 (.tmp rfl) (fun w hm => ?_)
    exact ⟨rfl, back_X h hm (List.Sublist.refl _)⟩
theorem EndRemote_any (p : Nat) (x : Px) : QC 47 [fP p 0] p x (.bool (pEndR x)) := by
  intro o w hok h
  unfold pEndR
  by_cases hd : x.up.length = 0
  · have hd2 : x.up = [] := List.eq_nil_of_length_eq_zero hd
    have hd3 : x.up.isEmpty = true := by rw [hd2]; rfl
    rcases Bool.eq_false_or_eq_true x.cOver with hc | hc
    · rw [hd3, hc]
      refine calls_of_z Try.func47 rfl Try.ntmps47 rfl h ?_; intro cs b hb hk
      repeat (first | (refine st ?_) | (refine stx ?_) | (refine sb ?_) | (intro _))
      refine z_ret1 tab_ok Try.func47 hb hk Try.results47 (.tmp rfl) (fun w hm => ?_)
      exact ⟨rfl, back_X h hm (List.Sublist.refl _)⟩
    · rw [hd3, hc]
      refine calls_of_z Try.func47 rfl Try.ntmps47 rfl h ?_; intro cs b hb hk
      repeat (first | (refine st ?_) | (refine stx ?_) | (refine sb ?_) | (intro _))
      refine z_ret1 tab_ok Try.func47 hb hk Try.results47 (.tmp rfl) (fun w hm => ?_)
      exact ⟨rfl, back_X h hm (List.Sublist.refl _)⟩
  · have hd3 : x.up.isEmpty = false := by cases hx : x.up with | nil => rw [hx] at hd; exact absurd rfl hd | cons a l => rfl
    rw [hd3]
    refine calls_of_z Try.func47 rfl Try.ntmps47 rfl h ?_; intro cs b hb hk
    repeat (first | (refine st ?_) | (refine stx ?_) | (refine sb ?_) | (intro _))
    refine z_ret1 tab_ok Try.func47 hb hk Try.results47 (.tmp rfl) (fun w hm => ?_)
    exact ⟨rfl, back_X h hm (List.Sublist.refl _)⟩
def epV (a : Adr) (n : Int) : Value := .agg (a.cells ++ [Value.int .i64 n]).toArray
def adr0 : Adr := ⟨false, fun _ => 0⟩
theorem Target_any (p : Nat) (x : Px) : QC 36 [fP p 0] p x (.tuple #[if x.state = 3 then epV x.ta x.tp else epV adr0 0, .bool (decide (x.state = 3))]) := by
  intro o w hok h
  by_cases h3 : x.state = 3
  · rw [if_pos h3, decide_eq_true h3]
    refine calls_of_z Try.func36 rfl Try.ntmps36 rfl h ?_; intro cs b hb hk
    repeat (first | (refine st ?_) | (refine stx ?_) | (refine sb ?_) | (intro _))
    first | (refine z_ret2A tab_ok Try.func36 hb hk Try.results36 0 rfl rfl rfl rfl rfl rfl rfl (fun w hm => ?_)) | (refine z_ret2A tab_ok Try.func36 hb hk Try.results36 1 rfl rfl rfl rfl rfl rfl rfl (fun w hm => ?_)) | (refine z_ret2A tab_ok Try.func36 hb hk Try.results36 2 rfl rfl rfl rfl rfl rfl rfl (fun w hm => ?_)) | (refine z_ret2A tab_ok Try.func36 hb hk Try.results36 3 rfl rfl rfl rfl rfl rfl rfl (fun w hm => ?_)) | (refine z_ret2A tab_ok Try.func36 hb hk Try.results36 4 rfl rfl rfl rfl rfl rfl rfl (fun w hm => ?_))
    exact ⟨rfl, back_X h hm (List.Sublist.cons _ (List.Sublist.refl _))⟩
  · rw [if_neg h3, decide_eq_false h3]
    refine calls_of_z Try.func36 rfl Try.ntmps36 rfl h ?_; intro cs b hb hk
    repeat (first | (refine st ?_) | (refine stx ?_) | (refine sb ?_) | (intro _))
    first | (refine z_ret2A tab_ok Try.func36 hb hk Try.results36 0 rfl rfl rfl rfl rfl rfl rfl (fun w hm => ?_)) | (refine z_ret2A tab_ok Try.func36 hb hk Try.results36 1 rfl rfl rfl rfl rfl rfl rfl (fun w hm => ?_)) | (refine z_ret2A tab_ok Try.func36 hb hk Try.results36 2 rfl rfl rfl rfl rfl rfl rfl (fun w hm => ?_)) | (refine z_ret2A tab_ok Try.func36 hb hk Try.results36 3 rfl rfl rfl rfl rfl rfl rfl (fun w hm => ?_)) | (refine z_ret2A tab_ok Try.func36 hb hk Try.results36 4 rfl rfl rfl rfl rfl rfl rfl (fun w hm => ?_))
    exact ⟨rfl, back_X h hm (List.Sublist.cons _ (List.Sublist.refl _))⟩
/-- the field of a number of bytes at a place -/
def pField (l : List Int) (a : Nat) : ByteArray × Int × Bool := if l.length ≤ a ∨ (l.length : Int) < a + 1 + l.getD a 0 then (noX, 0, false) else (ofInts ((l.drop (a + 1)).take (l.getD a 0).toNat), a + 1 + l.getD a 0, true)
theorem cell_at (pre rest : List Value) (l : List Int) (i : Nat) (h : i < l.length) : (pre ++ u8s l ++ rest)[pre.length + i]? = some (.int .u8 (l.getD i 0)) := by
  rw [List.append_assoc, List.getElem?_append_right (Nat.le_add_right _ _), Nat.add_sub_cancel_left, List.getElem?_append_left (by rw [u8s_len]; exact h), u8s, List.getElem?_map, List.getD_eq_getElem?_getD, List.getElem?_eq_getElem h]
  rfl
theorem own_some {o : Own} {n : Nat} {xs : List Value} (h : RowOk 1 o n xs) (hn : 0 < n) : ∃ b pre r rest, o = some (b, pre, r, rest) := by
  cases o with
  | none => have := h.nil rfl; omega
  | some q => obtain ⟨b, pre, r, rest⟩ := q; exact ⟨b, pre, r, rest, rfl⟩
theorem getD_small {l : List Int} (h : Small l) (i : Nat) : 0 ≤ l.getD i 0 ∧ l.getD i 0 ≤ 255 := by
  rw [List.getD_eq_getElem?_getD]
  cases hg : l[i]? with
  | none => exact ⟨Int.le_refl 0, by decide⟩
  | some v => exact h v (List.mem_of_getElem? hg)
theorem piece (pre rest : List Value) (l : List Int) (a m off : Nat) (hoff : m = 0 ∨ off = pre.length + a) (hm : a + m ≤ l.length) : ((pre ++ u8s l ++ rest).drop off).take m = ((l.drop a).take m).map (Value.int .u8) := by
  rcases hoff with h | h
  · subst h; rfl
  · subst h
    have e : (pre ++ u8s l ++ rest).drop (pre.length + a) = (u8s l).drop a ++ rest := by
      rw [List.append_assoc, ← List.drop_drop, List.drop_left, List.drop_append_of_le_length (by rw [u8s_len]; omega)]
    rw [e, List.take_append_of_le_length (by rw [List.length_drop, u8s_len]; omega), List.map_take, List.map_drop]
    rfl
theorem field_any (p : Nat) (x : Px) (a : Nat) (ha : a ≤ 1000000) (hs : Small x.up) (hl : x.up.length ≤ 1000000000) : QC 137 [fP p 0, .int .i64 (a : Int)] p x (.tuple #[.string (pField x.up a).1, .int .i64 (pField x.up a).2.1, .bool (pField x.up a).2.2]) := by
  intro o w hok h
  have hr := getD_small hs a
  unfold pField
  by_cases h1 : x.up.length ≤ a
  · rw [if_pos (.inl h1)]
    refine calls_of_z Try.func137 rfl Try.ntmps137 rfl h ?_; intro cs b hb hk
    repeat (first | (refine st ?_) | (refine stx ?_) | (refine sb ?_) | (intro _))
    refine z_ret3 tab_ok Try.func137 hb hk Try.results137 (.tmp rfl) (.tmp rfl) (.tmp rfl) (fun w hm => ?_)
    exact ⟨rfl, back_X h hm (List.Sublist.refl _)⟩
  · obtain ⟨b1, pre, r, rest, ho⟩ := own_some hok.1 (by omega)
    obtain ⟨o1, o2⟩ := o
    simp only at ho
    subst ho
    have hc := cell_at pre rest x.up a (by omega)
    have e1 : IntKind.i64.wrap (IntKind.i64.wrap ((a : Int) + 1) + IntKind.i64.wrap (x.up.getD a 0)) = a + 1 + x.up.getD a 0 := by rw [wr64 (x := (a : Int) + 1) (by omega) (by omega), wr64 (x := x.up.getD a 0) (by omega) (by omega), wr64 (by omega) (by omega)]
    by_cases h2 : (x.up.length : Int) < a + 1 + x.up.getD a 0
    · rw [if_pos (.inr h2)]
      refine calls_of_z Try.func137 rfl Try.ntmps137 rfl h ?_; intro cs b hb hk
      repeat (first | (refine st ?_) | (refine stx ?_) | (refine sb ?_) | (intro _))
      refine zx_idxA (sz := a) tab_ok rfl rfl rfl rfl rfl rfl (by omega) (by omega) (by simp) ?_
      repeat (first | (refine st ?_) | (refine stx ?_) | (refine sb ?_) | (intro _))
      refine zx_load tab_ok 1 rfl rfl rfl rfl rfl hc rfl ?_
      repeat (first | (refine st ?_) | (refine stx ?_) | (refine sb ?_) | (intro _))
      refine z_ret3 tab_ok Try.func137 hb hk Try.results137 (.tmp rfl) (.tmp rfl) (.tmp rfl) (fun w hm => ?_)
      exact ⟨rfl, back_X h hm (List.Sublist.refl _)⟩
    · rw [if_neg (by omega)]
      obtain ⟨m, hmm⟩ : ∃ m : Nat, x.up.getD a 0 = m := ⟨(x.up.getD a 0).toNat, by omega⟩
      rw [hmm] at hc e1 h2 hr ⊢
      rw [Int.toNat_natCast]
      refine calls_of_z Try.func137 rfl Try.ntmps137 rfl h ?_; intro cs b hb hk
      repeat (first | (refine st ?_) | (refine stx ?_) | (refine sb ?_) | (intro _))
      refine zx_idxA (sz := a) tab_ok rfl rfl rfl rfl rfl rfl (by omega) (by omega) (by simp) ?_
      repeat (first | (refine st ?_) | (refine stx ?_) | (refine sb ?_) | (intro _))
      refine zx_load tab_ok 1 rfl rfl rfl rfl rfl hc rfl ?_
      repeat (first | (refine st ?_) | (refine stx ?_) | (refine sb ?_) | (intro _))
      refine zx_idxA (sz := a) tab_ok rfl rfl rfl rfl rfl rfl (by omega) (by omega) (by simp) ?_
      repeat (first | (refine st ?_) | (refine stx ?_) | (refine sb ?_) | (intro _))
      refine zx_load tab_ok 1 rfl rfl rfl rfl rfl hc rfl ?_
      repeat (first | (refine st ?_) | (refine stx ?_) | (refine sb ?_) | (intro _))
      refine zx_sliceW tab_ok (a + 1) (a + 1 + m) (x.up.length + r) rfl rfl rfl rfl rfl rfl rfl (fun h => by cases h) (wr64 (by omega) (by omega)) (e1.trans (by omega)) rfl rfl (by omega) (by omega) (Nat.le_refl _) ?_
      refine zx_re 43 (.slice (some ⟨b1, if x.up.length + r = a + 1 then pre.length else pre.length + (a + 1), none⟩) m (x.up.length + r - (a + 1))) rfl (by
        have e : a + 1 + m - (a + 1) = m := by omega
        by_cases hq : x.up.length + r = a + 1
        · rw [if_pos hq, if_pos hq, e]; rfl
        · rw [if_neg hq, if_neg hq, e, Nat.mul_one]; rfl) ?_
      refine zx_b2sR tab_ok 1 ((x.up.drop (a + 1)).take m) rfl rfl rfl rfl rfl rfl (piece pre rest x.up (a + 1) m _ (by split <;> omega) (by omega)) (by rw [List.length_take, List.length_drop]; omega) rfl ?_
      refine zx_re 8 (.int .i64 (a + 1 + (m : Int))) rfl (congrArg _ e1) ?_
      repeat (first | (refine st ?_) | (refine stx ?_) | (refine sb ?_) | (intro _))
      refine z_ret3 tab_ok Try.func137 hb hk Try.results137 (.tmp rfl) (.tmp rfl) (.tmp rfl) (fun w hm => ?_)
      exact ⟨rfl, back_X h hm (List.Sublist.refl _)⟩
end Go.Proofs.Ytabcaiecoiejkaa
