/- Walks of the reference's session (aditref22): done, fails, ends, the two queues. Walks of the reference's functions on addresses: None, Group, From, usual. Walk of the reference's session: greeting. Walk of the reference's session: login. Walk of the reference's session: request. Walk of the reference's session: request of a name. Walks of the reference's session: request, goes, FromClient. -/
import Derived.Test.YtabcaiecoiejkaaQ3
import Derived.Test.YtabcaiecoiejkaaB2
import Derived.Test.YtabcaiecoiejkaaQ1
set_option maxRecDepth 100000
set_option linter.unusedSimpArgs false
set_option linter.unusedVariables false
set_option maxHeartbeats 4000000
namespace Go.Proofs.Ytabcaiecoiejkaa
open Go K

/-- the reference's session as it lies in memory -/
def rC (nv : Value) (x : Px) : List Value := [.string x.user, .string x.pass, nv, .int .i64 x.state, .string (ofInts x.up), .string (ofInts x.down), .bool x.cOver, .bool x.rOver, .bool x.relayed] ++ x.ta.cells ++ [.int .i64 x.tp]
def pR (b : Nat) (nv : Value) (x : Px) : Mm := [(b, .c (rC nv x) 81 0 0)]
/-- a method of the reference's session at b: it turns x into x' and tells v -/
def RC (f : Nat) (args : List Value) (b : Nat) (nv : Value) (x x' : Px) (v : Value) : Prop := ∀ w, Mem w [b] (pR b nv x) w → Calls Try.prog f args.toArray w fun e w' => e = .returned v ∧ Mem w [b] (pR b nv x') w'
theorem RC.use {f : Nat} {args : List Value} {b : Nat} {nv : Value} {x x' : Px} {v : Value} (h : RC f args b nv x x' v) {w0 w : World} {ks : List Nat} {R : Mm} (hm : Mem w0 ks (R ++ pR b nv x) w) :
    Calls Try.prog f args.toArray w fun e w' => ∃ y : Unit, True ∧ e = .returned v ∧ Mem w0 ks (R ++ pR b nv x') w' := by
  have hm2 := hm.perm (L' := pR b nv x ++ R) List.perm_append_comm
  refine (h w (Mem.now (S := pR b nv x) (R := R) hm2)).mono fun e w' ⟨he, hm'⟩ => ⟨(), trivial, he, ?_⟩
  exact (Mem.call (S := pR b nv x) (S' := pR b nv x') (R := R) hm2 hm').perm List.perm_append_comm
/-- one that only reads -/
def RQ (f : Nat) (args : List Value) (b : Nat) (nv : Value) (x : Px) (v : Value) : Prop := ∀ w, Mem w [b] (pR b nv x) w → Calls Try.prog f args.toArray w fun e w' => e = .returned v ∧ Mem w [] [] w'
theorem RQ.use {f : Nat} {args : List Value} {b : Nat} {nv : Value} {x : Px} {v : Value} (h : RQ f args b nv x v) {w0 w : World} {ks : List Nat} {R : Mm} (hm : Mem w0 ks (R ++ pR b nv x) w) :
    Calls Try.prog f args.toArray w fun e w' => e = .returned v ∧ Mem w [] [] w' := by
  have hm2 := hm.perm (L' := pR b nv x ++ R) List.perm_append_comm
  exact h w (Mem.now (S := pR b nv x) (R := R) hm2)
theorem back_R {w w' : World} {b : Nat} {nv : Value} {x : Px} {L : Mm} (h : Mem w [b] (pR b nv x) w) (hm : Mem w [b] L w') (hL : (pR b nv x).Sublist L) : Mem w [] [] w' :=
  Mem.back (hm.weaken (fun _ h => h) hL) h.known (fun k hk => hk)
theorem dec_nil (l : List Int) : decide (ofInts l = (⟨#[]⟩ : ByteArray)) = l.isEmpty := by
  cases l with
  | nil => rfl
  | cons a l =>
    refine decide_eq_false fun h => ?_
    have := congrArg ByteArray.size h
    rw [ofInts_size] at this
    cases this
theorem dec_nilF {l : List Int} (h : l ≠ []) : decide (ofInts l = (⟨#[]⟩ : ByteArray)) = false := by
  rw [dec_nil]; cases l with | nil => exact absurd rfl h | cons a l => rfl
theorem dec_nilT {l : List Int} (h : l = []) : decide (ofInts l = (⟨#[]⟩ : ByteArray)) = true := by rw [dec_nil, h]; rfl
theorem ext_piece (l : List Int) (hs : Small l) (i j : Nat) : (ofInts l).extract i j = ofInts ((l.drop i).take (j - i)) := by
  rw [← ofInts_bL ((ofInts l).extract i j), bL_pieceX, bL_ofIntsX l hs]
theorem ext_rest (l : List Int) (hs : Small l) (i : Nat) : (ofInts l).extract i (ofInts l).size = ofInts (l.drop i) := by
  rw [ext_piece l hs, ofInts_size, List.take_of_length_le (by rw [List.length_drop]; exact Nat.le_refl _)]
theorem doneR_any (b : Nat) (nv : Value) (x : Px) : RC 131 [fP b 0] b nv x (pDone x) (.tuple #[]) := by
  intro w h
  refine calls_of_z Try.func131 rfl Try.ntmps131 rfl h ?_; intro cs b' hb hk
  repeat (first | (refine st ?_) | (refine stx ?_) | (refine sb ?_) | (intro _))
  first | (refine z_end0 Try.func131 hb hk Try.results131 (fun w hm => ?_)) | (refine z_ret0 Try.func131 hb hk Try.results131 (fun w hm => ?_))
  exact ⟨rfl, hm⟩
theorem failsR_any (b : Nat) (nv : Value) (x : Px) (code : Int) (hd : x.down.length ≤ 1000000) : RC 129 [fP b 0, .int .u8 code] b nv x (pFail code x) (.tuple #[]) := by
  intro w h
  refine calls_of_z Try.func129 rfl Try.ntmps129 rfl h ?_; intro cs b' hb hk
  repeat (first | (refine sn ?_) | (refine stx ?_) | (refine sb ?_) | (intro _))
  refine z_regionH [] (by rfl) follows_mixed (by simp) (m := 12) rfl ?_
  refine zh_take 0 (by kernel_rfl) rfl (by kernel_rfl) (by kernel_rfl) ?_ (by simp); (repeat (first | (refine sn ?_) | (refine stx ?_) | (refine sb ?_))); refine zh_took (by rfl) ?_
  refine zh_take 1 (by kernel_rfl) rfl (by kernel_rfl) (by kernel_rfl) ?_ (by simp); (repeat (first | (refine sn ?_) | (refine stx ?_) | (refine sb ?_))); refine zh_took (by rfl) ?_
  refine zh_take 2 (by kernel_rfl) rfl (by kernel_rfl) (by kernel_rfl) ?_ (by simp); (repeat (first | (refine sn ?_) | (refine stx ?_) | (refine sb ?_))); refine zh_took (by rfl) ?_
  refine zh_take 3 (by kernel_rfl) rfl (by kernel_rfl) (by kernel_rfl) ?_ (by simp); (repeat (first | (refine sn ?_) | (refine stx ?_) | (refine sb ?_))); refine zh_took (by rfl) ?_
  refine zh_take 5 (by kernel_rfl) rfl (by kernel_rfl) (by kernel_rfl) ?_ (by simp); (repeat (first | (refine sn ?_) | (refine stx ?_) | (refine sb ?_))); refine zh_took (by rfl) ?_
  refine zh_two 4 6 rfl rfl (by kernel_rfl) ?_ ?_
  · refine st ?_
    refine zh_oned (by rfl) (by simp) ?_
    refine zh_one 6 rfl (by kernel_rfl) ?_
    refine st ?_; intro kb
    refine zh_oned (by rfl) (by simp) ?_
    refine zh_one 7 rfl (by kernel_rfl) ?_
    refine st ?_
    refine zh_oned (by rfl) (by simp) ?_
    refine zh_one 8 rfl (by kernel_rfl) ?_
    refine zx_cat rfl rfl rfl (by rw [ofInts_size, ofInts_size]; show x.down.length + 10 ≤ _; omega) rfl ?_
    refine zx_re 12 (.string (ofInts (x.down ++ failL code))) rfl (congrArg _ (ofInts_app x.down (failL code))) ?_
    refine zh_oned (by rfl) (by simp) ?_
    refine zh_take 9 (by kernel_rfl) rfl (by kernel_rfl) (by kernel_rfl) ?_ (by simp); (repeat (first | (refine sn ?_) | (refine stx ?_) | (refine sb ?_))); refine zh_took (by rfl) ?_
    refine zh_take 10 (by kernel_rfl) rfl (by kernel_rfl) (by kernel_rfl) ?_ (by simp); (repeat (first | (refine sn ?_) | (refine stx ?_) | (refine sb ?_))); refine zh_took (by rfl) ?_
    refine zh_one 11 rfl (by kernel_rfl) ?_
    refine st ?_
    refine zh_oned (by rfl) (by simp) ?_
    refine zh_end (by rfl) (by kernel_rfl) ?_
    repeat (first | (refine sn ?_) | (refine stx ?_) | (refine sb ?_) | (intro _))
    refine zx_call (Y := Unit) (v := fun _ => .tuple #[]) (Φ := fun _ => True) (L' := fun _ => [(kb, Blk.c (u8s (failL code)) 5 0 0)] ++ pR b nv (pDone (pSay x (failL code)))) rfl fnc131 rfl rfl (fun w1 hm1 => RC.use (R := [(kb, Blk.c (u8s (failL code)) 5 0 0)]) (doneR_any b nv (pSay x (failL code))) hm1) (fun _ _ => ?_)
    repeat (first | (refine sn ?_) | (refine stx ?_) | (refine sb ?_) | (intro _))
    first | (refine z_end0 Try.func129 hb hk Try.results129 (fun w hm => ?_)) | (refine z_ret0 Try.func129 hb hk Try.results129 (fun w hm => ?_))
    exact ⟨rfl, hm.weaken (fun _ h => h) (List.Sublist.cons _ (List.Sublist.refl _))⟩
  · refine st ?_; intro kb
    refine zh_oned (by rfl) (by simp) ?_
    refine zh_two 4 7 rfl rfl (by kernel_rfl) ?_ ?_
    · refine st ?_
      refine zh_oned (by rfl) (by simp) ?_
      refine zh_one 7 rfl (by kernel_rfl) ?_
      refine st ?_
      refine zh_oned (by rfl) (by simp) ?_
      refine zh_one 8 rfl (by kernel_rfl) ?_
      refine zx_cat rfl rfl rfl (by rw [ofInts_size, ofInts_size]; show x.down.length + 10 ≤ _; omega) rfl ?_
      refine zx_re 12 (.string (ofInts (x.down ++ failL code))) rfl (congrArg _ (ofInts_app x.down (failL code))) ?_
      refine zh_oned (by rfl) (by simp) ?_
      refine zh_take 9 (by kernel_rfl) rfl (by kernel_rfl) (by kernel_rfl) ?_ (by simp); (repeat (first | (refine sn ?_) | (refine stx ?_) | (refine sb ?_))); refine zh_took (by rfl) ?_
      refine zh_take 10 (by kernel_rfl) rfl (by kernel_rfl) (by kernel_rfl) ?_ (by simp); (repeat (first | (refine sn ?_) | (refine stx ?_) | (refine sb ?_))); refine zh_took (by rfl) ?_
      refine zh_one 11 rfl (by kernel_rfl) ?_
      refine st ?_
      refine zh_oned (by rfl) (by simp) ?_
      refine zh_end (by rfl) (by kernel_rfl) ?_
      repeat (first | (refine sn ?_) | (refine stx ?_) | (refine sb ?_) | (intro _))
      refine zx_call (Y := Unit) (v := fun _ => .tuple #[]) (Φ := fun _ => True) (L' := fun _ => [(kb, Blk.c (u8s (failL code)) 5 0 0)] ++ pR b nv (pDone (pSay x (failL code)))) rfl fnc131 rfl rfl (fun w1 hm1 => RC.use (R := [(kb, Blk.c (u8s (failL code)) 5 0 0)]) (doneR_any b nv (pSay x (failL code))) hm1) (fun _ _ => ?_)
      repeat (first | (refine sn ?_) | (refine stx ?_) | (refine sb ?_) | (intro _))
      first | (refine z_end0 Try.func129 hb hk Try.results129 (fun w hm => ?_)) | (refine z_ret0 Try.func129 hb hk Try.results129 (fun w hm => ?_))
      exact ⟨rfl, hm.weaken (fun _ h => h) (List.Sublist.cons _ (List.Sublist.refl _))⟩
    · refine st ?_
      refine zh_oned (by rfl) (by simp) ?_
      refine zh_one 4 rfl (by kernel_rfl) ?_
      refine st ?_
      refine zh_oned (by rfl) (by simp) ?_
      refine zh_one 8 rfl (by kernel_rfl) ?_
      refine zx_cat rfl rfl rfl (by rw [ofInts_size, ofInts_size]; show x.down.length + 10 ≤ _; omega) rfl ?_
      refine zx_re 12 (.string (ofInts (x.down ++ failL code))) rfl (congrArg _ (ofInts_app x.down (failL code))) ?_
      refine zh_oned (by rfl) (by simp) ?_
      refine zh_take 9 (by kernel_rfl) rfl (by kernel_rfl) (by kernel_rfl) ?_ (by simp); (repeat (first | (refine sn ?_) | (refine stx ?_) | (refine sb ?_))); refine zh_took (by rfl) ?_
      refine zh_take 10 (by kernel_rfl) rfl (by kernel_rfl) (by kernel_rfl) ?_ (by simp); (repeat (first | (refine sn ?_) | (refine stx ?_) | (refine sb ?_))); refine zh_took (by rfl) ?_
      refine zh_one 11 rfl (by kernel_rfl) ?_
      refine st ?_
      refine zh_oned (by rfl) (by simp) ?_
      refine zh_end (by rfl) (by kernel_rfl) ?_
      repeat (first | (refine sn ?_) | (refine stx ?_) | (refine sb ?_) | (intro _))
      refine zx_call (Y := Unit) (v := fun _ => .tuple #[]) (Φ := fun _ => True) (L' := fun _ => [(kb, Blk.c (u8s (failL code)) 5 0 0)] ++ pR b nv (pDone (pSay x (failL code)))) rfl fnc131 rfl rfl (fun w1 hm1 => RC.use (R := [(kb, Blk.c (u8s (failL code)) 5 0 0)]) (doneR_any b nv (pSay x (failL code))) hm1) (fun _ _ => ?_)
      repeat (first | (refine sn ?_) | (refine stx ?_) | (refine sb ?_) | (intro _))
      first | (refine z_end0 Try.func129 hb hk Try.results129 (fun w hm => ?_)) | (refine z_ret0 Try.func129 hb hk Try.results129 (fun w hm => ?_))
      exact ⟨rfl, hm.weaken (fun _ h => h) (List.Sublist.cons _ (List.Sublist.refl _))⟩

theorem endsR_same (b : Nat) (nv : Value) (x : Px) : RC 128 [fP b 0] b nv x (pSettle x) (.tuple #[]) := by
  intro w h
  refine calls_of_z Try.func128 rfl Try.ntmps128 rfl h ?_; intro cs b' hb hk
  by_cases h4 : x.state = 4
  · rcases Bool.eq_false_or_eq_true x.cOver with hc | hc
    · rcases Bool.eq_false_or_eq_true x.rOver with hr | hr
      · by_cases hu : x.up = []
        · have hu1 := dec_nilT hu
          by_cases hd : x.down = []
          · have hd1 := dec_nilT hd
            have hS : pSettle x = { x with state := 5 } := by rw [pSettle, if_pos ⟨h4, hc, hr, hu, hd⟩]
            repeat (first | (refine st ?_) | (refine stx ?_) | (refine sb ?_) | (intro _))
            first | (refine z_end0 Try.func128 hb hk Try.results128 (fun w hm => ?_)) | (refine z_ret0 Try.func128 hb hk Try.results128 (fun w hm => ?_))
            exact ⟨rfl, by rw [hS]; exact hm⟩
          · have hd1 := dec_nilF hd
            have hS : pSettle x = x := by rw [pSettle, if_neg]; intro hh; exact hd hh.2.2.2.2
            repeat (first | (refine st ?_) | (refine stx ?_) | (refine sb ?_) | (intro _))
            first | (refine z_end0 Try.func128 hb hk Try.results128 (fun w hm => ?_)) | (refine z_ret0 Try.func128 hb hk Try.results128 (fun w hm => ?_))
            exact ⟨rfl, by rw [hS]; exact hm⟩
        · have hu1 := dec_nilF hu
          have hS : pSettle x = x := by rw [pSettle, if_neg]; intro hh; exact hu hh.2.2.2.1
          repeat (first | (refine st ?_) | (refine stx ?_) | (refine sb ?_) | (intro _))
          first | (refine z_end0 Try.func128 hb hk Try.results128 (fun w hm => ?_)) | (refine z_ret0 Try.func128 hb hk Try.results128 (fun w hm => ?_))
          exact ⟨rfl, by rw [hS]; exact hm⟩
      · have hS : pSettle x = x := by rw [pSettle, if_neg]; intro hh; rw [hh.2.2.1] at hr; cases hr
        repeat (first | (refine st ?_) | (refine stx ?_) | (refine sb ?_) | (intro _))
        first | (refine z_end0 Try.func128 hb hk Try.results128 (fun w hm => ?_)) | (refine z_ret0 Try.func128 hb hk Try.results128 (fun w hm => ?_))
        exact ⟨rfl, by rw [hS]; exact hm⟩
    · have hS : pSettle x = x := by rw [pSettle, if_neg]; intro hh; rw [hh.2.1] at hc; cases hc
      repeat (first | (refine st ?_) | (refine stx ?_) | (refine sb ?_) | (intro _))
      first | (refine z_end0 Try.func128 hb hk Try.results128 (fun w hm => ?_)) | (refine z_ret0 Try.func128 hb hk Try.results128 (fun w hm => ?_))
      exact ⟨rfl, by rw [hS]; exact hm⟩
  · have hS : pSettle x = x := by rw [pSettle, if_neg]; intro hh; exact h4 hh.1
    repeat (first | (refine st ?_) | (refine stx ?_) | (refine sb ?_) | (intro _))
    first | (refine z_end0 Try.func128 hb hk Try.results128 (fun w hm => ?_)) | (refine z_ret0 Try.func128 hb hk Try.results128 (fun w hm => ?_))
    exact ⟨rfl, by rw [hS]; exact hm⟩

theorem lesser_any (p q : Int) (w : World) : Calls Try.prog 126 [.int .i64 p, .int .i64 q].toArray w fun e w' => e = .returned (.int .i64 (min p q)) ∧ Mem w [] [] w' := by
  by_cases h : p < q
  · refine calls_of_z Try.func126 rfl Try.ntmps126 rfl (Mem.refl w) ?_; intro cs b hb hk
    repeat (first | (refine st ?_) | (refine stx ?_) | (refine sb ?_) | (intro _))
    refine z_ret1 tab_ok Try.func126 hb hk Try.results126 (.tmp rfl) (fun w hm => ?_)
    exact ⟨by rw [show min p q = p by omega], hm.bare⟩
  · refine calls_of_z Try.func126 rfl Try.ntmps126 rfl (Mem.refl w) ?_; intro cs b hb hk
    repeat (first | (refine st ?_) | (refine stx ?_) | (refine sb ?_) | (intro _))
    refine z_ret1 tab_ok Try.func126 hb hk Try.results126 (.tmp rfl) (fun w hm => ?_)
    exact ⟨by rw [show min p q = q by omega], hm.bare⟩
theorem EndClientR_any (b : Nat) (nv : Value) (x : Px) : RQ 104 [fP b 0] b nv x (.bool (pEndC x)) := by
  intro w h
  unfold pEndC
  by_cases hd : x.down = []
  · have hd1 := dec_nilT hd
    have hd3 : x.down.isEmpty = true := by rw [hd]; rfl
    by_cases h5 : x.state = 5
    · have h6 : (x.state == 5) = true := beq_iff_eq.2 h5
      rw [hd3, h6]
      refine calls_of_z Try.func104 rfl Try.ntmps104 rfl h ?_; intro cs b' hb hk
      repeat (first | (refine st ?_) | (refine stx ?_) | (refine sb ?_) | (intro _))
      refine z_ret1 tab_ok Try.func104 hb hk Try.results104 (.tmp rfl) (fun w hm => ?_)
      exact ⟨rfl, back_R h hm (List.Sublist.refl _)⟩
    · have h6 : (x.state == 5) = false := beq_eq_false_iff_ne.2 h5
      rw [hd3, h6]
      refine calls_of_z Try.func104 rfl Try.ntmps104 rfl h ?_; intro cs b' hb hk
      repeat (first | (refine st ?_) | (refine stx ?_) | (refine sb ?_) | (intro _))
      refine z_ret1 tab_ok Try.func104 hb hk Try.results104 (.tmp rfl) (fun w hm => ?_)
      exact ⟨rfl, back_R h hm (List.Sublist.refl _)⟩
  · have hd1 := dec_nilF hd
    have hd3 : x.down.isEmpty = false := by cases hx : x.down with | nil => exact absurd hx hd | cons a l => rfl
    rw [hd3]
    refine calls_of_z Try.func104 rfl Try.ntmps104 rfl h ?_; intro cs b' hb hk
    repeat (first | (refine st ?_) | (refine stx ?_) | (refine sb ?_) | (intro _))
    refine z_ret1 tab_ok Try.func104 hb hk Try.results104 (.tmp rfl) (fun w hm => ?_)
    exact ⟨rfl, back_R h hm (List.Sublist.refl _)⟩
theorem EndRemoteR_any (b : Nat) (nv : Value) (x : Px) : RQ 105 [fP b 0] b nv x (.bool (pEndR x)) := by
  intro w h
  unfold pEndR
  by_cases hd : x.up = []
  · have hd1 := dec_nilT hd
    have hd3 : x.up.isEmpty = true := by rw [hd]; rfl
    rcases Bool.eq_false_or_eq_true x.cOver with hc | hc
    · rw [hd3, hc]
      refine calls_of_z Try.func105 rfl Try.ntmps105 rfl h ?_; intro cs b' hb hk
      repeat (first | (refine st ?_) | (refine stx ?_) | (refine sb ?_) | (intro _))
      refine z_ret1 tab_ok Try.func105 hb hk Try.results105 (.tmp rfl) (fun w hm => ?_)
      exact ⟨rfl, back_R h hm (List.Sublist.refl _)⟩
    · rw [hd3, hc]
      refine calls_of_z Try.func105 rfl Try.ntmps105 rfl h ?_; intro cs b' hb hk
      repeat (first | (refine st ?_) | (refine stx ?_) | (refine sb ?_) | (intro _))
      refine z_ret1 tab_ok Try.func105 hb hk Try.results105 (.tmp rfl) (fun w hm => ?_)
      exact ⟨by first | rfl | (refine congrArg _ (congrArg _ ?_); rw [hc]; rfl), back_R h hm (List.Sublist.refl _)⟩
  · have hd1 := dec_nilF hd
    have hd3 : x.up.isEmpty = false := by cases hx : x.up with | nil => exact absurd hx hd | cons a l => rfl
    rw [hd3]
    refine calls_of_z Try.func105 rfl Try.ntmps105 rfl h ?_; intro cs b' hb hk
    repeat (first | (refine st ?_) | (refine stx ?_) | (refine sb ?_) | (intro _))
    refine z_ret1 tab_ok Try.func105 hb hk Try.results105 (.tmp rfl) (fun w hm => ?_)
    exact ⟨rfl, back_R h hm (List.Sublist.refl _)⟩
theorem ClientEndR_any (b : Nat) (nv : Value) (x : Px) : RC 102 [fP b 0] b nv x (pSettle (if x.state < 3 then pDone { x with cOver := true } else { x with cOver := true })) (.tuple #[]) := by
  intro w h
  refine calls_of_z Try.func102 rfl Try.ntmps102 rfl h ?_; intro cs b' hb hk
  by_cases h3 : x.state < 3
  · rw [if_pos h3]
    repeat (first | (refine st ?_) | (refine stx ?_) | (refine sb ?_) | (intro _))
    refine zx_call (Y := Unit) (v := fun _ => .tuple #[]) (Φ := fun _ => True) (L' := fun _ => [] ++ pR b nv (pDone { x with cOver := true })) rfl fnc131 rfl rfl (fun w1 hm1 => RC.use (R := []) (doneR_any b nv { x with cOver := true }) hm1) (fun _ _ => ?_)
    repeat (first | (refine st ?_) | (refine stx ?_) | (refine sb ?_) | (intro _))
    refine zx_call (Y := Unit) (v := fun _ => .tuple #[]) (Φ := fun _ => True) (L' := fun _ => [] ++ pR b nv (pSettle (pDone { x with cOver := true }))) rfl fnc128 rfl rfl (fun w1 hm1 => RC.use (R := []) (endsR_same b nv (pDone { x with cOver := true })) hm1) (fun _ _ => ?_)
    repeat (first | (refine st ?_) | (refine stx ?_) | (refine sb ?_) | (intro _))
    first | (refine z_end0 Try.func102 hb hk Try.results102 (fun w hm => ?_)) | (refine z_ret0 Try.func102 hb hk Try.results102 (fun w hm => ?_))
    exact ⟨rfl, hm⟩
  · rw [if_neg h3]
    repeat (first | (refine st ?_) | (refine stx ?_) | (refine sb ?_) | (intro _))
    refine zx_call (Y := Unit) (v := fun _ => .tuple #[]) (Φ := fun _ => True) (L' := fun _ => [] ++ pR b nv (pSettle { x with cOver := true })) rfl fnc128 rfl rfl (fun w1 hm1 => RC.use (R := []) (endsR_same b nv { x with cOver := true }) hm1) (fun _ _ => ?_)
    repeat (first | (refine st ?_) | (refine stx ?_) | (refine sb ?_) | (intro _))
    first | (refine z_end0 Try.func102 hb hk Try.results102 (fun w hm => ?_)) | (refine z_ret0 Try.func102 hb hk Try.results102 (fun w hm => ?_))
    exact ⟨rfl, hm⟩
theorem RemoteEndR_any (b : Nat) (nv : Value) (x : Px) : RC 103 [fP b 0] b nv x (if x.state = 4 then pSettle { x with rOver := true } else x) (.tuple #[]) := by
  intro w h
  refine calls_of_z Try.func103 rfl Try.ntmps103 rfl h ?_; intro cs b' hb hk
  by_cases h4 : x.state = 4
  · rw [if_pos h4]
    repeat (first | (refine st ?_) | (refine stx ?_) | (refine sb ?_) | (intro _))
    refine zx_call (Y := Unit) (v := fun _ => .tuple #[]) (Φ := fun _ => True) (L' := fun _ => [] ++ pR b nv (pSettle { x with rOver := true })) rfl fnc128 rfl rfl (fun w1 hm1 => RC.use (R := []) (endsR_same b nv { x with rOver := true }) hm1) (fun _ _ => ?_)
    repeat (first | (refine st ?_) | (refine stx ?_) | (refine sb ?_) | (intro _))
    first | (refine z_end0 Try.func103 hb hk Try.results103 (fun w hm => ?_)) | (refine z_ret0 Try.func103 hb hk Try.results103 (fun w hm => ?_))
    exact ⟨rfl, hm⟩
  · rw [if_neg h4]
    repeat (first | (refine st ?_) | (refine stx ?_) | (refine sb ?_) | (intro _))
    first | (refine z_end0 Try.func103 hb hk Try.results103 (fun w hm => ?_)) | (refine z_ret0 Try.func103 hb hk Try.results103 (fun w hm => ?_))
    exact ⟨rfl, hm⟩

theorem ToClientR_any (b : Nat) (nv : Value) (x : Px) (n : Int) (hn : 0 ≤ n) (k : Nat) (hkn : (k : Int) = min n x.down.length) (hs : Small x.down) : RC 98 [fP b 0, .int .i64 n] b nv x (pSettle { x with down := x.down.drop k }) (.string (ofInts (x.down.take k))) := by
  intro w h
  have hkl : k ≤ x.down.length := by omega
  have hsz := ofInts_size x.down
  have hrest := ext_rest x.down hs k
  have hpre := ext_piece x.down hs 0 k
  rw [List.drop_zero, Nat.sub_zero] at hpre
  refine calls_of_z Try.func98 rfl Try.ntmps98 rfl h ?_; intro cs b' hb hk
  repeat (first | (refine st ?_) | (refine stx ?_) | (refine sb ?_) | (intro _))
  refine zx_re 14 (.int .i64 (x.down.length : Int)) rfl (congrArg _ (congrArg Int.ofNat hsz)) ?_
  ((try (refine sg ?_)); (refine zx_call0 rfl fnc126 rfl rfl (fun w hm => lesser_any n (x.down.length : Int) w) ?_))
  repeat (first | (refine st ?_) | (refine stx ?_) | (refine sb ?_) | (intro _))
  ((try (refine sg ?_)); (refine zx_sliceN (0 ) ( k ) tab_ok rfl rfl rfl rfl rfl rfl rfl (by first | rfl | omega | (simp only [IntKind.wrap_i64]; omega)) (by first | rfl | omega | (simp only [IntKind.wrap_i64]; omega)) (by omega) (by omega) ?_))
  refine zx_re 21 (.string (ofInts (x.down.take k))) rfl (congrArg _ hpre) ?_
  repeat (first | (refine st ?_) | (refine stx ?_) | (refine sb ?_) | (intro _))
  ((try (refine sg ?_)); (refine zx_sliceN (k ) ( (ofInts x.down).size ) tab_ok rfl rfl rfl rfl rfl rfl rfl (by first | rfl | omega | (simp only [IntKind.wrap_i64]; omega)) (by first | rfl | omega | (simp only [IntKind.wrap_i64]; omega)) (by omega) (by omega) ?_))
  refine zx_re 28 (.string (ofInts (x.down.drop k))) rfl (congrArg _ hrest) ?_
  repeat (first | (refine st ?_) | (refine stx ?_) | (refine sb ?_) | (intro _))
  refine zx_call (Y := Unit) (v := fun _ => .tuple #[]) (Φ := fun _ => True) (L' := fun _ => [] ++ pR b nv (pSettle { x with down := x.down.drop k })) rfl fnc128 rfl rfl (fun w1 hm1 => RC.use (R := []) (endsR_same b nv { x with down := x.down.drop k }) hm1) (fun _ _ => ?_)
  repeat (first | (refine st ?_) | (refine stx ?_) | (refine sb ?_) | (intro _))
  refine z_ret1 tab_ok Try.func98 hb hk Try.results98 (.tmp rfl) (fun w hm => ?_)
  exact ⟨rfl, hm⟩
theorem ToClientR_neg (b : Nat) (nv : Value) (x : Px) (n : Int) (hn : n < 0) : RC 98 [fP b 0, .int .i64 n] b nv x x (.string noX) := by
  intro w h
  refine calls_of_z Try.func98 rfl Try.ntmps98 rfl h ?_; intro cs b' hb hk
  repeat (first | (refine st ?_) | (refine stx ?_) | (refine sb ?_) | (intro _))
  refine z_ret1 tab_ok Try.func98 hb hk Try.results98 (.tmp rfl) (fun w hm => ?_)
  exact ⟨rfl, hm⟩

theorem ToRemoteR_any (b : Nat) (nv : Value) (x : Px) (h4 : x.state = 4) (n : Int) (hn : 0 ≤ n) (k : Nat) (hkn : (k : Int) = min n x.up.length) (hs : Small x.up) : RC 99 [fP b 0, .int .i64 n] b nv x (pSettle { x with up := x.up.drop k }) (.string (ofInts (x.up.take k))) := by
  intro w h
  have hkl : k ≤ x.up.length := by omega
  have hsz := ofInts_size x.up
  have hrest := ext_rest x.up hs k
  have hpre := ext_piece x.up hs 0 k
  rw [List.drop_zero, Nat.sub_zero] at hpre
  refine calls_of_z Try.func99 rfl Try.ntmps99 rfl h ?_; intro cs b' hb hk
  repeat (first | (refine st ?_) | (refine stx ?_) | (refine sb ?_) | (intro _))
  refine zx_re 21 (.int .i64 (x.up.length : Int)) rfl (congrArg _ (congrArg Int.ofNat hsz)) ?_
  ((try (refine sg ?_)); (refine zx_call0 rfl fnc126 rfl rfl (fun w hm => lesser_any n (x.up.length : Int) w) ?_))
  repeat (first | (refine st ?_) | (refine stx ?_) | (refine sb ?_) | (intro _))
  ((try (refine sg ?_)); (refine zx_sliceN (0 ) ( k ) tab_ok rfl rfl rfl rfl rfl rfl rfl (by first | rfl | omega | (simp only [IntKind.wrap_i64]; omega)) (by first | rfl | omega | (simp only [IntKind.wrap_i64]; omega)) (by omega) (by omega) ?_))
  refine zx_re 28 (.string (ofInts (x.up.take k))) rfl (congrArg _ hpre) ?_
  repeat (first | (refine st ?_) | (refine stx ?_) | (refine sb ?_) | (intro _))
  ((try (refine sg ?_)); (refine zx_sliceN (k ) ( (ofInts x.up).size ) tab_ok rfl rfl rfl rfl rfl rfl rfl (by first | rfl | omega | (simp only [IntKind.wrap_i64]; omega)) (by first | rfl | omega | (simp only [IntKind.wrap_i64]; omega)) (by omega) (by omega) ?_))
  refine zx_re 35 (.string (ofInts (x.up.drop k))) rfl (congrArg _ hrest) ?_
  repeat (first | (refine st ?_) | (refine stx ?_) | (refine sb ?_) | (intro _))
  refine zx_call (Y := Unit) (v := fun _ => .tuple #[]) (Φ := fun _ => True) (L' := fun _ => [] ++ pR b nv (pSettle { x with up := x.up.drop k })) rfl fnc128 rfl rfl (fun w1 hm1 => RC.use (R := []) (endsR_same b nv { x with up := x.up.drop k }) hm1) (fun _ _ => ?_)
  repeat (first | (refine st ?_) | (refine stx ?_) | (refine sb ?_) | (intro _))
  refine z_ret1 tab_ok Try.func99 hb hk Try.results99 (.tmp rfl) (fun w hm => ?_)
  exact ⟨rfl, hm⟩
theorem ToRemoteR_neg (b : Nat) (nv : Value) (x : Px) (n : Int) (hn : n < 0) : RC 99 [fP b 0, .int .i64 n] b nv x x (.string noX) := by
  intro w h
  refine calls_of_z Try.func99 rfl Try.ntmps99 rfl h ?_; intro cs b' hb hk
  repeat (first | (refine st ?_) | (refine stx ?_) | (refine sb ?_) | (intro _))
  refine z_ret1 tab_ok Try.func99 hb hk Try.results99 (.tmp rfl) (fun w hm => ?_)
  exact ⟨rfl, hm⟩
theorem ToRemoteR_not (b : Nat) (nv : Value) (x : Px) (h4 : x.state ≠ 4) (n : Int) (hn : 0 ≤ n) : RC 99 [fP b 0, .int .i64 n] b nv x x (.string noX) := by
  intro w h
  refine calls_of_z Try.func99 rfl Try.ntmps99 rfl h ?_; intro cs b' hb hk
  repeat (first | (refine st ?_) | (refine stx ?_) | (refine sb ?_) | (intro _))
  refine z_ret1 tab_ok Try.func99 hb hk Try.results99 (.tmp rfl) (fun w hm => ?_)
  exact ⟨rfl, hm⟩
theorem FromRemoteR_any (b : Nat) (nv : Value) (x : Px) (s : ByteArray) (hs : s.size ≤ 1000000000000000) (hx : x.down.length ≤ 900000000) : RC 97 [fP b 0, .string s] b nv x (pRemote x s).1 (.int .i64 (pRemote x s).2) := by
  intro w h
  have hsz := ofInts_size x.down
  unfold pRemote
  by_cases h4 : x.state = 4
  · rcases Bool.eq_false_or_eq_true x.rOver with hr | hr
    · rw [if_neg (fun hh => by rw [hr] at hh; cases hh.2)]
      refine calls_of_z Try.func97 rfl Try.ntmps97 rfl h ?_; intro cs b' hb hk
      repeat (first | (refine st ?_) | (refine stx ?_) | (refine sb ?_) | (intro _))
      refine z_ret1 tab_ok Try.func97 hb hk Try.results97 (.tmp rfl) (fun w hm => ?_)
      exact ⟨rfl, hm⟩
    · rw [if_pos ⟨h4, hr⟩]
      by_cases hf : 4096 ≤ x.down.length
      · have hz : min s.size (4096 - x.down.length) = 0 := by omega
        rw [hz]
        refine calls_of_z Try.func97 rfl Try.ntmps97 rfl h ?_; intro cs b' hb hk
        repeat (first | (refine st ?_) | (refine stx ?_) | (refine sb ?_) | (intro _))
        refine z_ret1 tab_ok Try.func97 hb hk Try.results97 (.tmp rfl) (fun w hm => ?_)
        refine ⟨rfl, ?_⟩
        have : ({ x with down := x.down ++ (bL s).take 0 } : Px) = x := by rw [List.take_zero, List.append_nil]
        rw [this]; exact hm
      · generalize hn : min s.size (4096 - x.down.length) = n
        have hns : n ≤ s.size := by omega
        have hnl : ((bL s).take n).length = n := by rw [List.length_take, bL_length]; omega
        refine calls_of_z Try.func97 rfl Try.ntmps97 rfl h ?_; intro cs b' hb hk
        repeat (first | (refine sn ?_) | (refine stx ?_) | (refine sb ?_) | (intro _))
        refine zx_re 32 (.int .i64 ((4096 - x.down.length : Nat) : Int)) rfl (congrArg _ (by rw [wr64 (by omega) (by omega)]; omega)) ?_
        ((try (refine sg ?_)); (refine zx_call0 rfl fnc126 rfl rfl (fun w hm => lesser_any (s.size : Int) ((4096 - x.down.length : Nat) : Int) w) ?_))
        refine zx_re 33 (.int .i64 (n : Int)) rfl (congrArg _ (by omega)) ?_
        repeat (first | (refine sn ?_) | (refine stx ?_) | (refine sb ?_) | (intro _))
        refine z_regionH [] (by rfl) follows_mixed (by simp) (m := 12) rfl ?_
        refine zh_take 0 (by kernel_rfl) rfl (by kernel_rfl) (by kernel_rfl) ?_ (by simp); (repeat (first | (refine sn ?_) | (refine stx ?_) | (refine sb ?_))); refine zh_took (by rfl) ?_
        refine zh_take 1 (by kernel_rfl) rfl (by kernel_rfl) (by kernel_rfl) ?_ (by simp); (repeat (first | (refine sn ?_) | (refine stx ?_) | (refine sb ?_))); refine zh_took (by rfl) ?_
        refine zh_take 2 (by kernel_rfl) rfl (by kernel_rfl) (by kernel_rfl) ?_ (by simp); (repeat (first | (refine sn ?_) | (refine stx ?_) | (refine sb ?_))); refine zh_took (by rfl) ?_
        refine zh_take 3 (by kernel_rfl) rfl (by kernel_rfl) (by kernel_rfl) ?_ (by simp); (repeat (first | (refine sn ?_) | (refine stx ?_) | (refine sb ?_))); refine zh_took (by rfl) ?_
        refine zh_take 5 (by kernel_rfl) rfl (by kernel_rfl) (by kernel_rfl) ?_ (by simp); (repeat (first | (refine sn ?_) | (refine stx ?_) | (refine sb ?_))); refine zh_took (by rfl) ?_
        refine zh_take 6 (by kernel_rfl) rfl (by kernel_rfl) (by kernel_rfl) ?_ (by simp); (repeat (first | (refine sn ?_) | (refine stx ?_) | (refine sb ?_))); refine zh_took (by rfl) ?_
        refine zh_take 7 (by kernel_rfl) rfl (by kernel_rfl) (by kernel_rfl) ?_ (by simp)
        ((try (refine sg ?_)); (refine zx_sliceN (0 ) ( n ) tab_ok rfl rfl rfl rfl rfl rfl rfl (by first | rfl | omega | (simp only [IntKind.wrap_i64]; omega)) (by first | rfl | omega | (simp only [IntKind.wrap_i64]; omega)) (by omega) (by omega) ?_))
        refine zx_re 41 (.string (ofInts ((bL s).take n))) rfl (congrArg _ (ext_bL s n hns)) ?_
        refine zh_took (by rfl) ?_
        refine zh_one 4 rfl (by kernel_rfl) ?_
        refine st ?_
        refine zh_oned (by rfl) (by simp) ?_
        refine zh_one 8 rfl (by kernel_rfl) ?_
        refine zx_cat rfl rfl rfl (by rw [ofInts_size, ofInts_size]; omega) rfl ?_
        refine zx_re 42 (.string (ofInts (x.down ++ (bL s).take n))) rfl (congrArg _ (ofInts_app x.down ((bL s).take n))) ?_
        refine zh_oned (by rfl) (by simp) ?_
        refine zh_take 9 (by kernel_rfl) rfl (by kernel_rfl) (by kernel_rfl) ?_ (by simp); (repeat (first | (refine sn ?_) | (refine stx ?_) | (refine sb ?_))); refine zh_took (by rfl) ?_
        refine zh_take 10 (by kernel_rfl) rfl (by kernel_rfl) (by kernel_rfl) ?_ (by simp); (repeat (first | (refine sn ?_) | (refine stx ?_) | (refine sb ?_))); refine zh_took (by rfl) ?_
        refine zh_one 11 rfl (by kernel_rfl) ?_
        refine st ?_
        refine zh_oned (by rfl) (by simp) ?_
        refine zh_end (by rfl) (by kernel_rfl) ?_

        repeat (first | (refine st ?_) | (refine stx ?_) | (refine sb ?_) | (intro _))
        refine z_ret1 tab_ok Try.func97 hb hk Try.results97 (.tmp rfl) (fun w hm => ?_)
        exact ⟨rfl, hm⟩
  · rw [if_neg (fun hh => h4 hh.1)]
    refine calls_of_z Try.func97 rfl Try.ntmps97 rfl h ?_; intro cs b' hb hk
    repeat (first | (refine st ?_) | (refine stx ?_) | (refine sb ?_) | (intro _))
    refine z_ret1 tab_ok Try.func97 hb hk Try.results97 (.tmp rfl) (fun w hm => ?_)
    exact ⟨rfl, hm⟩
end Go.Proofs.Ytabcaiecoiejkaa
namespace Go.Proofs.Ytabcaiecoiejkaa
open Go K

theorem Adr.none_iff (a : Adr) : a.none = true ↔ ∀ i, i < 16 → a.b i = 0 := by
  unfold Adr.none
  rw [Bool.and_eq_true, a.tail0_iff]
  simp only [Adr.head0, Bool.and_eq_true, beq_iff_eq]
  constructor
  · rintro ⟨⟨h0, h1, h2, h3⟩, h⟩ i hi
    by_cases h4 : 4 ≤ i
    · exact h i h4 hi
    · obtain rfl | rfl | rfl | rfl : i = 0 ∨ i = 1 ∨ i = 2 ∨ i = 3 := by omega
      all_goals assumption
  · intro h
    exact ⟨⟨h 0 (by omega), h 1 (by omega), h 2 (by omega), h 3 (by omega)⟩, fun i _ hi => h i hi⟩
theorem NoneR_any (a : Adr) (w : World) :
    Calls Try.prog 163 [a.val].toArray w fun e w' => e = .returned (.bool a.none) ∧ Mem w [] [] w' := by
  refine calls_of_z Try.func163 rfl Try.ntmps163 rfl (Mem.refl w) ?_; intro cs b hb hk
  repeat (first | (refine st ?_) | (refine stx ?_) | (refine sb ?_) | (intro _))
  rename_i p
  refine z_loop (fun i : Nat => i ≤ 16 ∧ ∀ j, j < i → a.b j = 0) (fun i => [(1, .pointer (some ⟨p, 0, none⟩)), (3, .int .i64 (i : Int))]) (fun _ => [(p, .c a.cells 24 0 0)]) (fun i => 16 - i) 0 ⟨by omega, fun j h1 => by omega⟩ ⟨rfl, rfl, trivial⟩ (List.Sublist.refl _) ?_
  intro i hi ih
  obtain ⟨h2, h3⟩ := hi
  by_cases hlt : i < 16
  · have hg := a.cells_get i hlt
    repeat (first | (refine st ?_) | (refine stx ?_) | (refine sb ?_) | (intro _))
    refine zx_idxP (sz := i) (len := 16) (m := (i : Int)) (esz := 1) tab_ok rfl rfl rfl rfl rfl rfl (by omega) (by omega) (by simp) ?_
    refine zx_load tab_ok 0 rfl rfl rfl rfl rfl hg rfl ?_
    repeat (first | (refine st ?_) | (refine stx ?_) | (refine sb ?_) | (intro _))
    by_cases hz : a.b i = 0
    · repeat (first | (refine st ?_) | (refine stx ?_) | (refine sb ?_) | (intro _))
      refine z_weaken _ _ ?_ (List.Sublist.refl _) (fun _ h => h) (ih (i + 1) ⟨by omega, fun j hj2 => by by_cases e : j = i; (rw [e]; exact hz); exact h3 j (by omega)⟩ (by omega))
      exact ⟨rfl, congrArg (fun x => some (Value.int .i64 x)) (by simp only [IntKind.wrap_i64]; omega), trivial⟩
    · repeat (first | (refine st ?_) | (refine stx ?_) | (refine sb ?_) | (intro _))
      refine z_ret1 tab_ok Try.func163 hb hk Try.results163 (.tmp rfl) (fun w hm => ?_)
      refine ⟨?_, hm.bare⟩
      have ht : a.none = false := by
        cases ht : a.none
        · rfl
        · exact absurd (a.none_iff.1 ht i hlt) hz
      rw [ht]
  · have ht : a.none = true := a.none_iff.2 fun j hj2 => h3 j (by omega)
    repeat (first | (refine st ?_) | (refine stx ?_) | (refine sb ?_) | (intro _))
    refine z_ret1 tab_ok Try.func163 hb hk Try.results163 (.tmp rfl) (fun w hm => ?_)
    exact ⟨by rw [ht], hm.bare⟩
theorem GroupR_any (a : Adr) (w : World) :
    Calls Try.prog 164 [a.val].toArray w fun e w' => e = .returned (.bool a.group) ∧ Mem w [] [] w' := by
  have hv' := fun w => ValidR_any a w
  rcases Bool.eq_false_or_eq_true a.v6 with h6 | h6
  · have hv : a.valid = true := by unfold Adr.valid; rw [h6]; rfl
    rw [hv] at hv'
    have hg : a.group = (a.b 0 == 255) := by unfold Adr.group; rw [h6]; rfl
    rw [hg]
    by_cases hb0 : a.b 0 = 255
    · refine calls_of_z Try.func164 rfl Try.ntmps164 rfl (Mem.refl w) ?_; intro cs b hb hk
      repeat (first | (refine st ?_) | (refine stx ?_) | (refine sb ?_) | (intro _))
      ((try (refine sg ?_)); (refine zx_call0 rfl fnc118 rfl rfl (fun w hm => hv' w) ?_))
      repeat (first | (refine st ?_) | (refine stx ?_) | (refine sb ?_) | (intro _))
      refine z_ret1 tab_ok Try.func164 hb hk Try.results164 (.tmp rfl) (fun w hm => ?_)
      exact ⟨by rw [hb0]; rfl, hm.bare⟩
    · have hb1 : (a.b 0 == 255) = false := beq_eq_false_iff_ne.2 hb0
      refine calls_of_z Try.func164 rfl Try.ntmps164 rfl (Mem.refl w) ?_; intro cs b hb hk
      repeat (first | (refine st ?_) | (refine stx ?_) | (refine sb ?_) | (intro _))
      ((try (refine sg ?_)); (refine zx_call0 rfl fnc118 rfl rfl (fun w hm => hv' w) ?_))
      repeat (first | (refine st ?_) | (refine stx ?_) | (refine sb ?_) | (intro _))
      refine z_ret1 tab_ok Try.func164 hb hk Try.results164 (.tmp rfl) (fun w hm => ?_)
      exact ⟨by rw [hb1], hm.bare⟩
  · have hg : a.group = (a.valid && decide (224 ≤ a.b 0)) := by unfold Adr.group; rw [h6]; rfl
    rw [hg]
    rcases Bool.eq_false_or_eq_true a.valid with hv | hv
    · rw [hv] at hv' ⊢
      refine calls_of_z Try.func164 rfl Try.ntmps164 rfl (Mem.refl w) ?_; intro cs b hb hk
      repeat (first | (refine st ?_) | (refine stx ?_) | (refine sb ?_) | (intro _))
      ((try (refine sg ?_)); (refine zx_call0 rfl fnc118 rfl rfl (fun w hm => hv' w) ?_))
      repeat (first | (refine st ?_) | (refine stx ?_) | (refine sb ?_) | (intro _))
      refine z_ret1 tab_ok Try.func164 hb hk Try.results164 (.tmp rfl) (fun w hm => ?_)
      exact ⟨by first | rfl | simp, hm.bare⟩
    · rw [hv] at hv' ⊢
      refine calls_of_z Try.func164 rfl Try.ntmps164 rfl (Mem.refl w) ?_; intro cs b hb hk
      repeat (first | (refine st ?_) | (refine stx ?_) | (refine sb ?_) | (intro _))
      ((try (refine sg ?_)); (refine zx_call0 rfl fnc118 rfl rfl (fun w hm => hv' w) ?_))
      repeat (first | (refine st ?_) | (refine stx ?_) | (refine sb ?_) | (intro _))
      refine z_ret1 tab_ok Try.func164 hb hk Try.results164 (.tmp rfl) (fun w hm => ?_)
      exact ⟨by first | rfl | simp, hm.bare⟩
def Adr.usual (a : Adr) : Bool := a.valid && (!a.none && !a.group)
theorem usualR_any (a : Adr) (w : World) : Calls Try.prog 150 [a.val].toArray w fun e w' => e = .returned (.bool a.usual) ∧ Mem w [] [] w' := by
  have hv' := fun w => ValidR_any a w
  have hn' := fun w => NoneR_any a w
  have hg' := fun w => GroupR_any a w
  unfold Adr.usual
  generalize a.valid = v at *
  generalize a.none = n at *
  generalize a.group = g at *
  refine calls_of_z Try.func150 rfl Try.ntmps150 rfl (Mem.refl w) ?_; intro cs b hb hk
  repeat (first | (refine st ?_) | (refine stx ?_) | (refine sb ?_) | (intro _))
  ((try (refine sg ?_)); (refine zx_call0 rfl fnc118 rfl rfl (fun w hm => hv' w) ?_))
  repeat (first | (refine st ?_) | (refine stx ?_) | (refine sb ?_) | (intro _))
  ((try (refine sg ?_)); (refine zx_call0 rfl fnc163 rfl rfl (fun w hm => hn' w) ?_))
  repeat (first | (refine st ?_) | (refine stx ?_) | (refine sb ?_) | (intro _))
  ((try (refine sg ?_)); (refine zx_call0 rfl fnc164 rfl rfl (fun w hm => hg' w) ?_))
  cases v <;> cases n <;> cases g
  all_goals (repeat (first | (refine st ?_) | (refine stx ?_) | (refine sb ?_) | (intro _)))
  all_goals first | (refine z_ret1 tab_ok Try.func150 hb hk Try.results150 (.tmp rfl) (fun w hm => ?_); exact ⟨rfl, hm.bare⟩) | skip
theorem From4R_any (s : ByteArray) (h : s.size = 4) (w : World) : Calls Try.prog 149 [.string s].toArray w fun e w' => e = .returned (.tuple #[(adr4 s).val, .int .i64 0]) ∧ Mem w [] [] w' := by
  refine calls_of_z Try.func149 rfl Try.ntmps149 rfl (Mem.refl w) ?_; intro cs b hb hk
  repeat (first | (refine st ?_) | (refine stx ?_) | (refine sb ?_) | (intro _))
  first | (refine z_once ?_) | (refine z_again ?_)
  repeat (first | (refine st ?_) | (refine stx ?_) | (refine sb ?_) | (intro _))
  ((try (refine sg ?_)); refine zx_idxN (0) tab_ok rfl rfl rfl rfl rfl rfl (by first | omega | (simp only [IntKind.wrap_i64]; omega)) (by omega) ?_)
  repeat (first | (refine st ?_) | (refine stx ?_) | (refine sb ?_) | (intro _))
  refine z_re 5 (.int .i64 1) rfl (by first | rfl | (refine congrArg _ ?_; kernel_rfl)) ?_
  first | (refine z_once ?_) | (refine z_again ?_)
  repeat (first | (refine st ?_) | (refine stx ?_) | (refine sb ?_) | (intro _))
  ((try (refine sg ?_)); refine zx_idxN (1) tab_ok rfl rfl rfl rfl rfl rfl (by first | omega | (simp only [IntKind.wrap_i64]; omega)) (by omega) ?_)
  repeat (first | (refine st ?_) | (refine stx ?_) | (refine sb ?_) | (intro _))
  refine z_re 5 (.int .i64 2) rfl (by first | rfl | (refine congrArg _ ?_; kernel_rfl)) ?_
  first | (refine z_once ?_) | (refine z_again ?_)
  repeat (first | (refine st ?_) | (refine stx ?_) | (refine sb ?_) | (intro _))
  ((try (refine sg ?_)); refine zx_idxN (2) tab_ok rfl rfl rfl rfl rfl rfl (by first | omega | (simp only [IntKind.wrap_i64]; omega)) (by omega) ?_)
  repeat (first | (refine st ?_) | (refine stx ?_) | (refine sb ?_) | (intro _))
  refine z_re 5 (.int .i64 3) rfl (by first | rfl | (refine congrArg _ ?_; kernel_rfl)) ?_
  first | (refine z_once ?_) | (refine z_again ?_)
  repeat (first | (refine st ?_) | (refine stx ?_) | (refine sb ?_) | (intro _))
  ((try (refine sg ?_)); refine zx_idxN (3) tab_ok rfl rfl rfl rfl rfl rfl (by first | omega | (simp only [IntKind.wrap_i64]; omega)) (by omega) ?_)
  repeat (first | (refine st ?_) | (refine stx ?_) | (refine sb ?_) | (intro _))
  refine z_re 5 (.int .i64 4) rfl (by first | rfl | (refine congrArg _ ?_; kernel_rfl)) ?_
  first | (refine z_once ?_) | (refine z_again ?_)
  repeat (first | (refine st ?_) | (refine stx ?_) | (refine sb ?_) | (intro _))
  first | (refine z_ret2A tab_ok Try.func149 hb hk Try.results149 0 rfl rfl rfl rfl rfl rfl rfl (fun w hm => ?_)) | (refine z_ret2A tab_ok Try.func149 hb hk Try.results149 1 rfl rfl rfl rfl rfl rfl rfl (fun w hm => ?_)) | (refine z_ret2A tab_ok Try.func149 hb hk Try.results149 2 rfl rfl rfl rfl rfl rfl rfl (fun w hm => ?_)) | (refine z_ret2A tab_ok Try.func149 hb hk Try.results149 3 rfl rfl rfl rfl rfl rfl rfl (fun w hm => ?_)) | (refine z_ret2A tab_ok Try.func149 hb hk Try.results149 4 rfl rfl rfl rfl rfl rfl rfl (fun w hm => ?_))
  exact ⟨by rw [h]; rfl, hm.bare⟩
theorem From16R_any (s : ByteArray) (h : s.size = 16) (w : World) : Calls Try.prog 149 [.string s].toArray w fun e w' => e = .returned (.tuple #[(adr16 s).val, .int .i64 0]) ∧ Mem w [] [] w' := by
  refine calls_of_z Try.func149 rfl Try.ntmps149 rfl (Mem.refl w) ?_; intro cs b hb hk
  repeat (first | (refine st ?_) | (refine stx ?_) | (refine sb ?_) | (intro _))
  first | (refine z_once ?_) | (refine z_again ?_)
  repeat (first | (refine st ?_) | (refine stx ?_) | (refine sb ?_) | (intro _))
  ((try (refine sg ?_)); refine zx_idxN (0) tab_ok rfl rfl rfl rfl rfl rfl (by first | omega | (simp only [IntKind.wrap_i64]; omega)) (by omega) ?_)
  repeat (first | (refine st ?_) | (refine stx ?_) | (refine sb ?_) | (intro _))
  refine z_re 5 (.int .i64 1) rfl (by first | rfl | (refine congrArg _ ?_; kernel_rfl)) ?_
  first | (refine z_once ?_) | (refine z_again ?_)
  repeat (first | (refine st ?_) | (refine stx ?_) | (refine sb ?_) | (intro _))
  ((try (refine sg ?_)); refine zx_idxN (1) tab_ok rfl rfl rfl rfl rfl rfl (by first | omega | (simp only [IntKind.wrap_i64]; omega)) (by omega) ?_)
  repeat (first | (refine st ?_) | (refine stx ?_) | (refine sb ?_) | (intro _))
  refine z_re 5 (.int .i64 2) rfl (by first | rfl | (refine congrArg _ ?_; kernel_rfl)) ?_
  first | (refine z_once ?_) | (refine z_again ?_)
  repeat (first | (refine st ?_) | (refine stx ?_) | (refine sb ?_) | (intro _))
  ((try (refine sg ?_)); refine zx_idxN (2) tab_ok rfl rfl rfl rfl rfl rfl (by first | omega | (simp only [IntKind.wrap_i64]; omega)) (by omega) ?_)
  repeat (first | (refine st ?_) | (refine stx ?_) | (refine sb ?_) | (intro _))
  refine z_re 5 (.int .i64 3) rfl (by first | rfl | (refine congrArg _ ?_; kernel_rfl)) ?_
  first | (refine z_once ?_) | (refine z_again ?_)
  repeat (first | (refine st ?_) | (refine stx ?_) | (refine sb ?_) | (intro _))
  ((try (refine sg ?_)); refine zx_idxN (3) tab_ok rfl rfl rfl rfl rfl rfl (by first | omega | (simp only [IntKind.wrap_i64]; omega)) (by omega) ?_)
  repeat (first | (refine st ?_) | (refine stx ?_) | (refine sb ?_) | (intro _))
  refine z_re 5 (.int .i64 4) rfl (by first | rfl | (refine congrArg _ ?_; kernel_rfl)) ?_
  first | (refine z_once ?_) | (refine z_again ?_)
  repeat (first | (refine st ?_) | (refine stx ?_) | (refine sb ?_) | (intro _))
  ((try (refine sg ?_)); refine zx_idxN (4) tab_ok rfl rfl rfl rfl rfl rfl (by first | omega | (simp only [IntKind.wrap_i64]; omega)) (by omega) ?_)
  repeat (first | (refine st ?_) | (refine stx ?_) | (refine sb ?_) | (intro _))
  refine z_re 5 (.int .i64 5) rfl (by first | rfl | (refine congrArg _ ?_; kernel_rfl)) ?_
  first | (refine z_once ?_) | (refine z_again ?_)
  repeat (first | (refine st ?_) | (refine stx ?_) | (refine sb ?_) | (intro _))
  ((try (refine sg ?_)); refine zx_idxN (5) tab_ok rfl rfl rfl rfl rfl rfl (by first | omega | (simp only [IntKind.wrap_i64]; omega)) (by omega) ?_)
  repeat (first | (refine st ?_) | (refine stx ?_) | (refine sb ?_) | (intro _))
  refine z_re 5 (.int .i64 6) rfl (by first | rfl | (refine congrArg _ ?_; kernel_rfl)) ?_
  first | (refine z_once ?_) | (refine z_again ?_)
  repeat (first | (refine st ?_) | (refine stx ?_) | (refine sb ?_) | (intro _))
  ((try (refine sg ?_)); refine zx_idxN (6) tab_ok rfl rfl rfl rfl rfl rfl (by first | omega | (simp only [IntKind.wrap_i64]; omega)) (by omega) ?_)
  repeat (first | (refine st ?_) | (refine stx ?_) | (refine sb ?_) | (intro _))
  refine z_re 5 (.int .i64 7) rfl (by first | rfl | (refine congrArg _ ?_; kernel_rfl)) ?_
  first | (refine z_once ?_) | (refine z_again ?_)
  repeat (first | (refine st ?_) | (refine stx ?_) | (refine sb ?_) | (intro _))
  ((try (refine sg ?_)); refine zx_idxN (7) tab_ok rfl rfl rfl rfl rfl rfl (by first | omega | (simp only [IntKind.wrap_i64]; omega)) (by omega) ?_)
  repeat (first | (refine st ?_) | (refine stx ?_) | (refine sb ?_) | (intro _))
  refine z_re 5 (.int .i64 8) rfl (by first | rfl | (refine congrArg _ ?_; kernel_rfl)) ?_
  first | (refine z_once ?_) | (refine z_again ?_)
  repeat (first | (refine st ?_) | (refine stx ?_) | (refine sb ?_) | (intro _))
  ((try (refine sg ?_)); refine zx_idxN (8) tab_ok rfl rfl rfl rfl rfl rfl (by first | omega | (simp only [IntKind.wrap_i64]; omega)) (by omega) ?_)
  repeat (first | (refine st ?_) | (refine stx ?_) | (refine sb ?_) | (intro _))
  refine z_re 5 (.int .i64 9) rfl (by first | rfl | (refine congrArg _ ?_; kernel_rfl)) ?_
  first | (refine z_once ?_) | (refine z_again ?_)
  repeat (first | (refine st ?_) | (refine stx ?_) | (refine sb ?_) | (intro _))
  ((try (refine sg ?_)); refine zx_idxN (9) tab_ok rfl rfl rfl rfl rfl rfl (by first | omega | (simp only [IntKind.wrap_i64]; omega)) (by omega) ?_)
  repeat (first | (refine st ?_) | (refine stx ?_) | (refine sb ?_) | (intro _))
  refine z_re 5 (.int .i64 10) rfl (by first | rfl | (refine congrArg _ ?_; kernel_rfl)) ?_
  first | (refine z_once ?_) | (refine z_again ?_)
  repeat (first | (refine st ?_) | (refine stx ?_) | (refine sb ?_) | (intro _))
  ((try (refine sg ?_)); refine zx_idxN (10) tab_ok rfl rfl rfl rfl rfl rfl (by first | omega | (simp only [IntKind.wrap_i64]; omega)) (by omega) ?_)
  repeat (first | (refine st ?_) | (refine stx ?_) | (refine sb ?_) | (intro _))
  refine z_re 5 (.int .i64 11) rfl (by first | rfl | (refine congrArg _ ?_; kernel_rfl)) ?_
  first | (refine z_once ?_) | (refine z_again ?_)
  repeat (first | (refine st ?_) | (refine stx ?_) | (refine sb ?_) | (intro _))
  ((try (refine sg ?_)); refine zx_idxN (11) tab_ok rfl rfl rfl rfl rfl rfl (by first | omega | (simp only [IntKind.wrap_i64]; omega)) (by omega) ?_)
  repeat (first | (refine st ?_) | (refine stx ?_) | (refine sb ?_) | (intro _))
  refine z_re 5 (.int .i64 12) rfl (by first | rfl | (refine congrArg _ ?_; kernel_rfl)) ?_
  first | (refine z_once ?_) | (refine z_again ?_)
  repeat (first | (refine st ?_) | (refine stx ?_) | (refine sb ?_) | (intro _))
  ((try (refine sg ?_)); refine zx_idxN (12) tab_ok rfl rfl rfl rfl rfl rfl (by first | omega | (simp only [IntKind.wrap_i64]; omega)) (by omega) ?_)
  repeat (first | (refine st ?_) | (refine stx ?_) | (refine sb ?_) | (intro _))
  refine z_re 5 (.int .i64 13) rfl (by first | rfl | (refine congrArg _ ?_; kernel_rfl)) ?_
  first | (refine z_once ?_) | (refine z_again ?_)
  repeat (first | (refine st ?_) | (refine stx ?_) | (refine sb ?_) | (intro _))
  ((try (refine sg ?_)); refine zx_idxN (13) tab_ok rfl rfl rfl rfl rfl rfl (by first | omega | (simp only [IntKind.wrap_i64]; omega)) (by omega) ?_)
  repeat (first | (refine st ?_) | (refine stx ?_) | (refine sb ?_) | (intro _))
  refine z_re 5 (.int .i64 14) rfl (by first | rfl | (refine congrArg _ ?_; kernel_rfl)) ?_
  first | (refine z_once ?_) | (refine z_again ?_)
  repeat (first | (refine st ?_) | (refine stx ?_) | (refine sb ?_) | (intro _))
  ((try (refine sg ?_)); refine zx_idxN (14) tab_ok rfl rfl rfl rfl rfl rfl (by first | omega | (simp only [IntKind.wrap_i64]; omega)) (by omega) ?_)
  repeat (first | (refine st ?_) | (refine stx ?_) | (refine sb ?_) | (intro _))
  refine z_re 5 (.int .i64 15) rfl (by first | rfl | (refine congrArg _ ?_; kernel_rfl)) ?_
  first | (refine z_once ?_) | (refine z_again ?_)
  repeat (first | (refine st ?_) | (refine stx ?_) | (refine sb ?_) | (intro _))
  ((try (refine sg ?_)); refine zx_idxN (15) tab_ok rfl rfl rfl rfl rfl rfl (by first | omega | (simp only [IntKind.wrap_i64]; omega)) (by omega) ?_)
  repeat (first | (refine st ?_) | (refine stx ?_) | (refine sb ?_) | (intro _))
  refine z_re 5 (.int .i64 16) rfl (by first | rfl | (refine congrArg _ ?_; kernel_rfl)) ?_
  first | (refine z_once ?_) | (refine z_again ?_)
  repeat (first | (refine st ?_) | (refine stx ?_) | (refine sb ?_) | (intro _))
  first | (refine z_ret2A tab_ok Try.func149 hb hk Try.results149 0 rfl rfl rfl rfl rfl rfl rfl (fun w hm => ?_)) | (refine z_ret2A tab_ok Try.func149 hb hk Try.results149 1 rfl rfl rfl rfl rfl rfl rfl (fun w hm => ?_)) | (refine z_ret2A tab_ok Try.func149 hb hk Try.results149 2 rfl rfl rfl rfl rfl rfl rfl (fun w hm => ?_)) | (refine z_ret2A tab_ok Try.func149 hb hk Try.results149 3 rfl rfl rfl rfl rfl rfl rfl (fun w hm => ?_)) | (refine z_ret2A tab_ok Try.func149 hb hk Try.results149 4 rfl rfl rfl rfl rfl rfl rfl (fun w hm => ?_))
  exact ⟨by rw [h]; rfl, hm.bare⟩

end Go.Proofs.Ytabcaiecoiejkaa
namespace Go.Proofs.Ytabcaiecoiejkaa
open Go K

/-- is w among the bytes from the third to the one ahead of place i? -/
def anyW (l : List Int) (w : Int) (i : Nat) : Bool := ((l.drop 2).take (i - 2)).any (fun z => z == w)
theorem anyW_succ (l : List Int) (w : Int) (i : Nat) (h2 : 2 ≤ i) (h : i < l.length) : anyW l w (i + 1) = (anyW l w i || (l.getD i 0 == w)) := by
  unfold anyW
  rw [show i + 1 - 2 = (i - 2) + 1 by omega, List.take_add_one, List.any_append, List.getElem?_drop, show 2 + (i - 2) = i by omega, List.getElem?_eq_getElem h, List.getD_eq_getElem?_getD, List.getElem?_eq_getElem h]
  simp
theorem any_first (l : List Int) (hs : Small l) (w : Int) (hw : 0 ≤ w ∧ w ≤ 255) : decide (0 ≤ firstIdx (ofInts l) w.toNat.toUInt8) = l.any (fun z => z == w) := by
  rw [firstIdx_nonneg]
  unfold ofInts
  simp only [List.any_map]
  induction l with
  | nil => rfl
  | cons a l ih =>
    rw [List.any_cons, List.any_cons, ih (fun x hx => hs x (List.mem_cons_of_mem _ hx))]
    congr 1
    have ha := hs a (List.mem_cons_self ..)
    simp only [Function.comp]
    by_cases h : a = w
    · subst h; simp
    · have h1 : (a == w) = false := beq_eq_false_iff_ne.2 h
      rw [h1]
      refine beq_eq_false_iff_ne.2 fun hh => h ?_
      have h2 := congrArg UInt8.toNat hh
      simp only [UInt8.toNat_ofNat', Nat.toUInt8] at h2
      omega
theorem greetR_any (b : Nat) (nv : Value) (x : Px) (hs : Small x.up) (hl : x.up.length ≤ 1000000) (hd : x.down.length ≤ 1000000) : RC 142 [fP b 0] b nv x ((pGreet x).getD x) (.bool (pGreet x).isSome) := by
  intro w h
  have hsz := ofInts_size x.up
  have hdz := ofInts_size x.down
  by_cases hu : x.up = []
  · have hu1 := dec_nilT hu
    have hG : pGreet x = none := by unfold pGreet; rw [hu]; rfl
    rw [hG]
    refine calls_of_z Try.func142 rfl Try.ntmps142 rfl h ?_; intro cs b' hb hk
    repeat (first | (refine st ?_) | (refine stx ?_) | (refine sb ?_) | (intro _))
    refine z_ret1 tab_ok Try.func142 hb hk Try.results142 (.tmp rfl) (fun w hm => ?_)
    exact ⟨rfl, hm⟩
  have hu1 := dec_nilF hu
  have hlen : 0 < x.up.length := by cases hx : x.up with | nil => exact absurd hx hu | cons a l => exact Nat.succ_pos _
  have hb0 := bt_ofIntsX x.up 0 hs
  by_cases h5 : x.up.getD 0 0 = 5
  · by_cases h2 : x.up.length < 2
    · have hG : pGreet x = none := by
        unfold pGreet
        rw [if_neg (fun hh => hh.2 h5), if_neg (by unfold pField; rw [if_pos (.inl (by omega))]; decide)]
      rw [hG]
      refine calls_of_z Try.func142 rfl Try.ntmps142 rfl h ?_; intro cs b' hb hk
      repeat (first | (refine st ?_) | (refine stx ?_) | (refine sb ?_) | (intro _))
      ((try (refine sg ?_)); refine zx_idxN (0) tab_ok rfl rfl rfl rfl rfl rfl (by first | omega | (simp only [IntKind.wrap_i64]; omega)) (by omega) ?_)
      repeat (first | (refine st ?_) | (refine stx ?_) | (refine sb ?_) | (intro _))
      refine z_ret1 tab_ok Try.func142 hb hk Try.results142 (.tmp rfl) (fun w hm => ?_)
      exact ⟨rfl, hm⟩
    · have hb1 := bt_ofIntsX x.up 1 hs
      have hm0 := getD_small hs 1
      obtain ⟨m, hm⟩ : ∃ m : Nat, x.up.getD 1 0 = (m : Int) := ⟨(x.up.getD 1 0).toNat, by omega⟩
      by_cases h3 : x.up.length < 2 + m
      · have hG : pGreet x = none := by
          unfold pGreet
          rw [if_neg (fun hh => hh.2 h5), if_neg (by unfold pField; rw [if_pos (.inr (by omega))]; decide)]
        rw [hG]
        refine calls_of_z Try.func142 rfl Try.ntmps142 rfl h ?_; intro cs b' hb hk
        repeat (first | (refine st ?_) | (refine stx ?_) | (refine sb ?_) | (intro _))
        ((try (refine sg ?_)); refine zx_idxN (0) tab_ok rfl rfl rfl rfl rfl rfl (by first | omega | (simp only [IntKind.wrap_i64]; omega)) (by omega) ?_)
        repeat (first | (refine st ?_) | (refine stx ?_) | (refine sb ?_) | (intro _))
        ((try (refine sg ?_)); refine zx_idxN (1) tab_ok rfl rfl rfl rfl rfl rfl (by first | omega | (simp only [IntKind.wrap_i64]; omega)) (by omega) ?_)
        refine st ?_
        refine zx_re 38 (.int .i64 (m : Int)) rfl (congrArg _ (by rw [hb1, hm]; exact wr64 (by omega) (by omega))) ?_
        refine st ?_
        refine zx_re 39 (.int .i64 ((2 + m : Nat) : Int)) rfl (congrArg _ (by rw [wr64 (by omega) (by omega)]; omega)) ?_
        repeat (first | (refine st ?_) | (refine stx ?_) | (refine sb ?_) | (intro _))
        refine z_ret1 tab_ok Try.func142 hb hk Try.results142 (.tmp rfl) (fun w hm => ?_)
        exact ⟨rfl, hm⟩
      · have hF : pField x.up 1 = (ofInts ((x.up.drop 2).take m), ((2 + m : Nat) : Int), true) := by
          have hpf := pField_of (l := x.up) (a := 1) (by omega) (by omega)
          rw [hpf, hm]
          refine Prod.ext rfl (Prod.ext ?_ rfl)
          show ((1 : Nat) : Int) + 1 + (m : Int) = ((2 + m : Nat) : Int)
          omega
        have hG1 : pGreet x = if x.user = noX then (if firstIdx (ofInts ((x.up.drop 2).take m)) (0 : Int).toNat.toUInt8 < 0 then some (pDone (pSay { x with up := x.up.drop (2 + m) } [5, 255])) else some { pSay { x with up := x.up.drop (2 + m) } [5, 0] with state := 2 })
            else (if firstIdx (ofInts ((x.up.drop 2).take m)) (2 : Int).toNat.toUInt8 < 0 then some (pDone (pSay { x with up := x.up.drop (2 + m) } [5, 255])) else some { pSay { x with up := x.up.drop (2 + m) } [5, 2] with state := 1 }) := by
          unfold pGreet
          rw [if_neg (fun hh => hh.2 h5), hF]
          rfl
        refine calls_of_z Try.func142 rfl Try.ntmps142 rfl h ?_; intro cs b' hb hk
        repeat (first | (refine st ?_) | (refine stx ?_) | (refine sb ?_) | (intro _))
        ((try (refine sg ?_)); refine zx_idxN (0) tab_ok rfl rfl rfl rfl rfl rfl (by first | omega | (simp only [IntKind.wrap_i64]; omega)) (by omega) ?_)
        repeat (first | (refine st ?_) | (refine stx ?_) | (refine sb ?_) | (intro _))
        ((try (refine sg ?_)); refine zx_idxN (1) tab_ok rfl rfl rfl rfl rfl rfl (by first | omega | (simp only [IntKind.wrap_i64]; omega)) (by omega) ?_)
        refine st ?_
        refine zx_re 38 (.int .i64 (m : Int)) rfl (congrArg _ (by rw [hb1, hm]; exact wr64 (by omega) (by omega))) ?_
        refine st ?_
        refine zx_re 39 (.int .i64 ((2 + m : Nat) : Int)) rfl (congrArg _ (by rw [wr64 (by omega) (by omega)]; omega)) ?_
        repeat (first | (refine st ?_) | (refine stx ?_) | (refine sb ?_) | (intro _))
        ((try (refine sg ?_)); refine zx_idxN (1) tab_ok rfl rfl rfl rfl rfl rfl (by first | omega | (simp only [IntKind.wrap_i64]; omega)) (by omega) ?_)
        refine st ?_
        refine zx_re 47 (.int .i64 (m : Int)) rfl (congrArg _ (by rw [hb1, hm]; exact wr64 (by omega) (by omega))) ?_
        refine st ?_
        refine zx_re 48 (.int .i64 ((2 + m : Nat) : Int)) rfl (congrArg _ (by rw [wr64 (by omega) (by omega)]; omega)) ?_
        by_cases hus : x.user = noX
        · have hu2 : decide (x.user = (⟨#[]⟩ : ByteArray)) = true := decide_eq_true hus
          have hG0 := hG1
          rw [if_pos hus] at hG0
          repeat (first | (refine st ?_) | (refine stx ?_) | (refine sb ?_) | (intro _))
          refine z_loop (fun i : Nat => 2 ≤ i ∧ i ≤ 2 + m) (fun i => [(0, fP b 0), (3, .int .i64 ((2 + m : Nat) : Int)), (4, .int .u8 0), (5, .int .i64 2), (6, .bool (anyW x.up 0 i)), (7, .int .i64 (i : Int))]) (fun _ => pR b nv x) (fun i => 2 + m - i) 2 ⟨Nat.le_refl _, by omega⟩ ⟨rfl, by first | rfl | (refine congrArg some (congrArg _ ?_); rw [wr64 (by omega) (by omega)]; omega), rfl, rfl, rfl, rfl, trivial⟩ (List.Sublist.refl _) ?_
          intro i hi ih
          obtain ⟨hi1, hi2⟩ := hi
          refine z_weaken [(0, fP b 0), (3, .int .i64 ((2 + m : Nat) : Int)), (4, .int .u8 0), (5, .int .i64 2), (6, .bool (anyW x.up 0 i)), (7, .int .i64 (i : Int))] (pR b nv x) ⟨rfl, rfl, rfl, rfl, rfl, rfl, trivial⟩ (List.Sublist.refl _) (fun _ h => h) ?_
          by_cases hlt : i < 2 + m
          · have hs1 := anyW_succ x.up 0 i hi1 (by omega)
            rcases Bool.eq_false_or_eq_true (anyW x.up 0 i) with ha | ha
            · rw [ha, Bool.true_or] at hs1
              repeat (first | (refine st ?_) | (refine stx ?_) | (refine sb ?_) | (intro _))
              refine z_weaken _ _ ?_ (List.Sublist.refl _) (fun _ h => h) (ih (i + 1) ⟨by omega, by omega⟩ (by omega))
              exact ⟨rfl, rfl, rfl, rfl, by first | (rw [hs1]; rfl) | (rw [hs1, ← ha]; rfl), congrArg (fun x => some (Value.int .i64 x)) (by simp only [IntKind.wrap_i64]; omega), trivial⟩
            · rw [ha, Bool.false_or] at hs1
              repeat (first | (refine st ?_) | (refine stx ?_) | (refine sb ?_) | (intro _))
              ((try (refine sg ?_)); refine zx_idxN (i) tab_ok rfl rfl rfl rfl rfl rfl (by first | omega | (simp only [IntKind.wrap_i64]; omega)) (by omega) ?_)
              repeat (first | (refine st ?_) | (refine stx ?_) | (refine sb ?_) | (intro _))
              refine z_re 6 (.bool (anyW x.up 0 (i + 1))) rfl (congrArg _ (by rw [hs1, bt_ofIntsX x.up i hs])) ?_
              refine z_weaken _ _ ?_ (List.Sublist.refl _) (fun _ h => h) (ih (i + 1) ⟨by omega, by omega⟩ (by omega))
              exact ⟨rfl, rfl, rfl, rfl, rfl, congrArg (fun x => some (Value.int .i64 x)) (by simp only [IntKind.wrap_i64]; omega), trivial⟩
          · have hie : i = 2 + m := by omega
            subst hie
            have hfi := any_first ((x.up.drop 2).take m) ((hs.drop 2).take m) 0 (by decide)
            have han : anyW x.up 0 (2 + m) = ((x.up.drop 2).take m).any (fun z => z == 0) := by unfold anyW; rw [show 2 + m - 2 = m by omega]
            rw [← han] at hfi
            repeat (first | (refine st ?_) | (refine stx ?_) | (refine sb ?_) | (intro _))
            ((try (refine sg ?_)); (refine zx_sliceN (2 + m ) ( (ofInts x.up).size ) tab_ok rfl rfl rfl rfl rfl rfl rfl (by first | rfl | omega | (simp only [IntKind.wrap_i64]; omega)) (by first | rfl | omega | (simp only [IntKind.wrap_i64]; omega)) (by omega) (by omega) ?_))
            refine zx_re 77 (.string (ofInts (x.up.drop (2 + m)))) rfl (congrArg _ (ext_rest x.up hs (2 + m))) ?_
            rcases Bool.eq_false_or_eq_true (anyW x.up 0 (2 + m)) with ha | ha
            · have hG : pGreet x = some { pSay { x with up := x.up.drop (2 + m) } [5, 0] with state := 2 } := by
                rw [hG0, if_neg (by rw [ha] at hfi; have := of_decide_eq_true hfi; omega)]
              rw [hG]
              repeat (first | (refine sn ?_) | (refine stx ?_) | (refine sb ?_) | (intro _))
              refine z_re 81 (.bool false) rfl (congrArg _ (by rw [ha]; rfl)) ?_
              repeat (first | (refine sn ?_) | (refine stx ?_) | (refine sb ?_) | (intro _))
              refine z_regionH [] (by rfl) follows_mixed (by simp) (m := 12) rfl ?_
              refine zh_take 0 (by kernel_rfl) rfl (by kernel_rfl) (by kernel_rfl) ?_ (by simp); (repeat (first | (refine sn ?_) | (refine stx ?_) | (refine sb ?_))); refine zh_took (by rfl) ?_
              refine zh_take 1 (by kernel_rfl) rfl (by kernel_rfl) (by kernel_rfl) ?_ (by simp); (repeat (first | (refine sn ?_) | (refine stx ?_) | (refine sb ?_))); refine zh_took (by rfl) ?_
              refine zh_take 2 (by kernel_rfl) rfl (by kernel_rfl) (by kernel_rfl) ?_ (by simp); (repeat (first | (refine sn ?_) | (refine stx ?_) | (refine sb ?_))); refine zh_took (by rfl) ?_
              refine zh_take 3 (by kernel_rfl) rfl (by kernel_rfl) (by kernel_rfl) ?_ (by simp); (repeat (first | (refine sn ?_) | (refine stx ?_) | (refine sb ?_))); refine zh_took (by rfl) ?_
              refine zh_take 5 (by kernel_rfl) rfl (by kernel_rfl) (by kernel_rfl) ?_ (by simp); (repeat (first | (refine sn ?_) | (refine stx ?_) | (refine sb ?_))); refine zh_took (by rfl) ?_
              refine zh_two 4 6 rfl rfl (by kernel_rfl) ?_ ?_
              · refine st ?_
                refine zh_oned (by rfl) (by simp) ?_
                refine zh_one 6 rfl (by kernel_rfl) ?_
                refine st ?_; intro kb
                refine zh_oned (by rfl) (by simp) ?_
                refine zh_one 7 rfl (by kernel_rfl) ?_
                refine st ?_
                refine zh_oned (by rfl) (by simp) ?_
                refine zh_one 8 rfl (by kernel_rfl) ?_
                refine zx_cat rfl rfl rfl (by rw [ofInts_size, ofInts_size]; show x.down.length + 2 ≤ _; omega) rfl ?_
                refine zx_re 100 (.string (ofInts (x.down ++ [5, 0]))) rfl (congrArg _ (ofInts_app x.down [5, 0])) ?_
                refine zh_oned (by rfl) (by simp) ?_
                refine zh_take 9 (by kernel_rfl) rfl (by kernel_rfl) (by kernel_rfl) ?_ (by simp); (repeat (first | (refine sn ?_) | (refine stx ?_) | (refine sb ?_))); refine zh_took (by rfl) ?_
                refine zh_take 10 (by kernel_rfl) rfl (by kernel_rfl) (by kernel_rfl) ?_ (by simp); (repeat (first | (refine sn ?_) | (refine stx ?_) | (refine sb ?_))); refine zh_took (by rfl) ?_
                refine zh_one 11 rfl (by kernel_rfl) ?_
                refine st ?_
                refine zh_oned (by rfl) (by simp) ?_
                refine zh_end (by rfl) (by kernel_rfl) ?_
                repeat (first | (refine sn ?_) | (refine stx ?_) | (refine sb ?_) | (intro _))
                refine z_ret1 tab_ok Try.func142 hb hk Try.results142 (.tmp rfl) (fun w hm => ?_)
                exact ⟨rfl, hm.weaken (fun _ h => h) (List.Sublist.cons _ (List.Sublist.refl _))⟩
              · refine st ?_; intro kb
                refine zh_oned (by rfl) (by simp) ?_
                refine zh_two 4 7 rfl rfl (by kernel_rfl) ?_ ?_
                · refine st ?_
                  refine zh_oned (by rfl) (by simp) ?_
                  refine zh_one 7 rfl (by kernel_rfl) ?_
                  refine st ?_
                  refine zh_oned (by rfl) (by simp) ?_
                  refine zh_one 8 rfl (by kernel_rfl) ?_
                  refine zx_cat rfl rfl rfl (by rw [ofInts_size, ofInts_size]; show x.down.length + 2 ≤ _; omega) rfl ?_
                  refine zx_re 100 (.string (ofInts (x.down ++ [5, 0]))) rfl (congrArg _ (ofInts_app x.down [5, 0])) ?_
                  refine zh_oned (by rfl) (by simp) ?_
                  refine zh_take 9 (by kernel_rfl) rfl (by kernel_rfl) (by kernel_rfl) ?_ (by simp); (repeat (first | (refine sn ?_) | (refine stx ?_) | (refine sb ?_))); refine zh_took (by rfl) ?_
                  refine zh_take 10 (by kernel_rfl) rfl (by kernel_rfl) (by kernel_rfl) ?_ (by simp); (repeat (first | (refine sn ?_) | (refine stx ?_) | (refine sb ?_))); refine zh_took (by rfl) ?_
                  refine zh_one 11 rfl (by kernel_rfl) ?_
                  refine st ?_
                  refine zh_oned (by rfl) (by simp) ?_
                  refine zh_end (by rfl) (by kernel_rfl) ?_
                  repeat (first | (refine sn ?_) | (refine stx ?_) | (refine sb ?_) | (intro _))
                  refine z_ret1 tab_ok Try.func142 hb hk Try.results142 (.tmp rfl) (fun w hm => ?_)
                  exact ⟨rfl, hm.weaken (fun _ h => h) (List.Sublist.cons _ (List.Sublist.refl _))⟩
                · refine st ?_
                  refine zh_oned (by rfl) (by simp) ?_
                  refine zh_one 4 rfl (by kernel_rfl) ?_
                  refine st ?_
                  refine zh_oned (by rfl) (by simp) ?_
                  refine zh_one 8 rfl (by kernel_rfl) ?_
                  refine zx_cat rfl rfl rfl (by rw [ofInts_size, ofInts_size]; show x.down.length + 2 ≤ _; omega) rfl ?_
                  refine zx_re 100 (.string (ofInts (x.down ++ [5, 0]))) rfl (congrArg _ (ofInts_app x.down [5, 0])) ?_
                  refine zh_oned (by rfl) (by simp) ?_
                  refine zh_take 9 (by kernel_rfl) rfl (by kernel_rfl) (by kernel_rfl) ?_ (by simp); (repeat (first | (refine sn ?_) | (refine stx ?_) | (refine sb ?_))); refine zh_took (by rfl) ?_
                  refine zh_take 10 (by kernel_rfl) rfl (by kernel_rfl) (by kernel_rfl) ?_ (by simp); (repeat (first | (refine sn ?_) | (refine stx ?_) | (refine sb ?_))); refine zh_took (by rfl) ?_
                  refine zh_one 11 rfl (by kernel_rfl) ?_
                  refine st ?_
                  refine zh_oned (by rfl) (by simp) ?_
                  refine zh_end (by rfl) (by kernel_rfl) ?_
                  repeat (first | (refine sn ?_) | (refine stx ?_) | (refine sb ?_) | (intro _))
                  refine z_ret1 tab_ok Try.func142 hb hk Try.results142 (.tmp rfl) (fun w hm => ?_)
                  exact ⟨rfl, hm.weaken (fun _ h => h) (List.Sublist.cons _ (List.Sublist.refl _))⟩
            · have hG : pGreet x = some (pDone (pSay { x with up := x.up.drop (2 + m) } [5, 255])) := by
                rw [hG0, if_pos (by rw [ha] at hfi; have := of_decide_eq_false hfi; omega)]
              rw [hG]
              repeat (first | (refine sn ?_) | (refine stx ?_) | (refine sb ?_) | (intro _))
              refine z_re 81 (.bool true) rfl (congrArg _ (by rw [ha]; rfl)) ?_
              repeat (first | (refine st ?_) | (refine stx ?_) | (refine sb ?_) | (intro _))
              refine zx_cat rfl rfl rfl (by rw [ofInts_size]; show x.down.length + 2 ≤ _; omega) rfl ?_
              refine zx_re 87 (.string (ofInts (x.down ++ [5, 255]))) rfl (congrArg _ (ofInts_app x.down [5, 255])) ?_
              repeat (first | (refine st ?_) | (refine stx ?_) | (refine sb ?_) | (intro _))
              refine zx_call (Y := Unit) (v := fun _ => .tuple #[]) (Φ := fun _ => True) (L' := fun _ => [] ++ pR b nv (pDone (pSay { x with up := x.up.drop (2 + m) } [5, 255]))) rfl fnc131 rfl rfl (fun w1 hm1 => RC.use (R := []) (doneR_any b nv (pSay { x with up := x.up.drop (2 + m) } [5, 255])) hm1) (fun _ _ => ?_)
              repeat (first | (refine st ?_) | (refine stx ?_) | (refine sb ?_) | (intro _))
              refine z_ret1 tab_ok Try.func142 hb hk Try.results142 (.tmp rfl) (fun w hm => ?_)
              exact ⟨rfl, hm⟩
        · have hu2 : decide (x.user = (⟨#[]⟩ : ByteArray)) = false := decide_eq_false hus
          have hG0 := hG1
          rw [if_neg hus] at hG0
          repeat (first | (refine st ?_) | (refine stx ?_) | (refine sb ?_) | (intro _))
          refine z_loop (fun i : Nat => 2 ≤ i ∧ i ≤ 2 + m) (fun i => [(0, fP b 0), (3, .int .i64 ((2 + m : Nat) : Int)), (4, .int .u8 2), (5, .int .i64 1), (6, .bool (anyW x.up 2 i)), (7, .int .i64 (i : Int))]) (fun _ => pR b nv x) (fun i => 2 + m - i) 2 ⟨Nat.le_refl _, by omega⟩ ⟨rfl, by first | rfl | (refine congrArg some (congrArg _ ?_); rw [wr64 (by omega) (by omega)]; omega), rfl, rfl, rfl, rfl, trivial⟩ (List.Sublist.refl _) ?_
          intro i hi ih
          obtain ⟨hi1, hi2⟩ := hi
          refine z_weaken [(0, fP b 0), (3, .int .i64 ((2 + m : Nat) : Int)), (4, .int .u8 2), (5, .int .i64 1), (6, .bool (anyW x.up 2 i)), (7, .int .i64 (i : Int))] (pR b nv x) ⟨rfl, rfl, rfl, rfl, rfl, rfl, trivial⟩ (List.Sublist.refl _) (fun _ h => h) ?_
          by_cases hlt : i < 2 + m
          · have hs1 := anyW_succ x.up 2 i hi1 (by omega)
            rcases Bool.eq_false_or_eq_true (anyW x.up 2 i) with ha | ha
            · rw [ha, Bool.true_or] at hs1
              repeat (first | (refine st ?_) | (refine stx ?_) | (refine sb ?_) | (intro _))
              refine z_weaken _ _ ?_ (List.Sublist.refl _) (fun _ h => h) (ih (i + 1) ⟨by omega, by omega⟩ (by omega))
              exact ⟨rfl, rfl, rfl, rfl, by first | (rw [hs1]; rfl) | (rw [hs1, ← ha]; rfl), congrArg (fun x => some (Value.int .i64 x)) (by simp only [IntKind.wrap_i64]; omega), trivial⟩
            · rw [ha, Bool.false_or] at hs1
              repeat (first | (refine st ?_) | (refine stx ?_) | (refine sb ?_) | (intro _))
              ((try (refine sg ?_)); refine zx_idxN (i) tab_ok rfl rfl rfl rfl rfl rfl (by first | omega | (simp only [IntKind.wrap_i64]; omega)) (by omega) ?_)
              repeat (first | (refine st ?_) | (refine stx ?_) | (refine sb ?_) | (intro _))
              refine z_re 6 (.bool (anyW x.up 2 (i + 1))) rfl (congrArg _ (by rw [hs1, bt_ofIntsX x.up i hs])) ?_
              refine z_weaken _ _ ?_ (List.Sublist.refl _) (fun _ h => h) (ih (i + 1) ⟨by omega, by omega⟩ (by omega))
              exact ⟨rfl, rfl, rfl, rfl, rfl, congrArg (fun x => some (Value.int .i64 x)) (by simp only [IntKind.wrap_i64]; omega), trivial⟩
          · have hie : i = 2 + m := by omega
            subst hie
            have hfi := any_first ((x.up.drop 2).take m) ((hs.drop 2).take m) 2 (by decide)
            have han : anyW x.up 2 (2 + m) = ((x.up.drop 2).take m).any (fun z => z == 2) := by unfold anyW; rw [show 2 + m - 2 = m by omega]
            rw [← han] at hfi
            repeat (first | (refine st ?_) | (refine stx ?_) | (refine sb ?_) | (intro _))
            ((try (refine sg ?_)); (refine zx_sliceN (2 + m ) ( (ofInts x.up).size ) tab_ok rfl rfl rfl rfl rfl rfl rfl (by first | rfl | omega | (simp only [IntKind.wrap_i64]; omega)) (by first | rfl | omega | (simp only [IntKind.wrap_i64]; omega)) (by omega) (by omega) ?_))
            refine zx_re 77 (.string (ofInts (x.up.drop (2 + m)))) rfl (congrArg _ (ext_rest x.up hs (2 + m))) ?_
            rcases Bool.eq_false_or_eq_true (anyW x.up 2 (2 + m)) with ha | ha
            · have hG : pGreet x = some { pSay { x with up := x.up.drop (2 + m) } [5, 2] with state := 1 } := by
                rw [hG0, if_neg (by rw [ha] at hfi; have := of_decide_eq_true hfi; omega)]
              rw [hG]
              repeat (first | (refine sn ?_) | (refine stx ?_) | (refine sb ?_) | (intro _))
              refine z_re 81 (.bool false) rfl (congrArg _ (by rw [ha]; rfl)) ?_
              repeat (first | (refine sn ?_) | (refine stx ?_) | (refine sb ?_) | (intro _))
              refine z_regionH [] (by rfl) follows_mixed (by simp) (m := 12) rfl ?_
              refine zh_take 0 (by kernel_rfl) rfl (by kernel_rfl) (by kernel_rfl) ?_ (by simp); (repeat (first | (refine sn ?_) | (refine stx ?_) | (refine sb ?_))); refine zh_took (by rfl) ?_
              refine zh_take 1 (by kernel_rfl) rfl (by kernel_rfl) (by kernel_rfl) ?_ (by simp); (repeat (first | (refine sn ?_) | (refine stx ?_) | (refine sb ?_))); refine zh_took (by rfl) ?_
              refine zh_take 2 (by kernel_rfl) rfl (by kernel_rfl) (by kernel_rfl) ?_ (by simp); (repeat (first | (refine sn ?_) | (refine stx ?_) | (refine sb ?_))); refine zh_took (by rfl) ?_
              refine zh_take 3 (by kernel_rfl) rfl (by kernel_rfl) (by kernel_rfl) ?_ (by simp); (repeat (first | (refine sn ?_) | (refine stx ?_) | (refine sb ?_))); refine zh_took (by rfl) ?_
              refine zh_take 5 (by kernel_rfl) rfl (by kernel_rfl) (by kernel_rfl) ?_ (by simp); (repeat (first | (refine sn ?_) | (refine stx ?_) | (refine sb ?_))); refine zh_took (by rfl) ?_
              refine zh_two 4 6 rfl rfl (by kernel_rfl) ?_ ?_
              · refine st ?_
                refine zh_oned (by rfl) (by simp) ?_
                refine zh_one 6 rfl (by kernel_rfl) ?_
                refine st ?_; intro kb
                refine zh_oned (by rfl) (by simp) ?_
                refine zh_one 7 rfl (by kernel_rfl) ?_
                refine st ?_
                refine zh_oned (by rfl) (by simp) ?_
                refine zh_one 8 rfl (by kernel_rfl) ?_
                refine zx_cat rfl rfl rfl (by rw [ofInts_size, ofInts_size]; show x.down.length + 2 ≤ _; omega) rfl ?_
                refine zx_re 100 (.string (ofInts (x.down ++ [5, 2]))) rfl (congrArg _ (ofInts_app x.down [5, 2])) ?_
                refine zh_oned (by rfl) (by simp) ?_
                refine zh_take 9 (by kernel_rfl) rfl (by kernel_rfl) (by kernel_rfl) ?_ (by simp); (repeat (first | (refine sn ?_) | (refine stx ?_) | (refine sb ?_))); refine zh_took (by rfl) ?_
                refine zh_take 10 (by kernel_rfl) rfl (by kernel_rfl) (by kernel_rfl) ?_ (by simp); (repeat (first | (refine sn ?_) | (refine stx ?_) | (refine sb ?_))); refine zh_took (by rfl) ?_
                refine zh_one 11 rfl (by kernel_rfl) ?_
                refine st ?_
                refine zh_oned (by rfl) (by simp) ?_
                refine zh_end (by rfl) (by kernel_rfl) ?_
                repeat (first | (refine sn ?_) | (refine stx ?_) | (refine sb ?_) | (intro _))
                refine z_ret1 tab_ok Try.func142 hb hk Try.results142 (.tmp rfl) (fun w hm => ?_)
                exact ⟨rfl, hm.weaken (fun _ h => h) (List.Sublist.cons _ (List.Sublist.refl _))⟩
              · refine st ?_; intro kb
                refine zh_oned (by rfl) (by simp) ?_
                refine zh_two 4 7 rfl rfl (by kernel_rfl) ?_ ?_
                · refine st ?_
                  refine zh_oned (by rfl) (by simp) ?_
                  refine zh_one 7 rfl (by kernel_rfl) ?_
                  refine st ?_
                  refine zh_oned (by rfl) (by simp) ?_
                  refine zh_one 8 rfl (by kernel_rfl) ?_
                  refine zx_cat rfl rfl rfl (by rw [ofInts_size, ofInts_size]; show x.down.length + 2 ≤ _; omega) rfl ?_
                  refine zx_re 100 (.string (ofInts (x.down ++ [5, 2]))) rfl (congrArg _ (ofInts_app x.down [5, 2])) ?_
                  refine zh_oned (by rfl) (by simp) ?_
                  refine zh_take 9 (by kernel_rfl) rfl (by kernel_rfl) (by kernel_rfl) ?_ (by simp); (repeat (first | (refine sn ?_) | (refine stx ?_) | (refine sb ?_))); refine zh_took (by rfl) ?_
                  refine zh_take 10 (by kernel_rfl) rfl (by kernel_rfl) (by kernel_rfl) ?_ (by simp); (repeat (first | (refine sn ?_) | (refine stx ?_) | (refine sb ?_))); refine zh_took (by rfl) ?_
                  refine zh_one 11 rfl (by kernel_rfl) ?_
                  refine st ?_
                  refine zh_oned (by rfl) (by simp) ?_
                  refine zh_end (by rfl) (by kernel_rfl) ?_
                  repeat (first | (refine sn ?_) | (refine stx ?_) | (refine sb ?_) | (intro _))
                  refine z_ret1 tab_ok Try.func142 hb hk Try.results142 (.tmp rfl) (fun w hm => ?_)
                  exact ⟨rfl, hm.weaken (fun _ h => h) (List.Sublist.cons _ (List.Sublist.refl _))⟩
                · refine st ?_
                  refine zh_oned (by rfl) (by simp) ?_
                  refine zh_one 4 rfl (by kernel_rfl) ?_
                  refine st ?_
                  refine zh_oned (by rfl) (by simp) ?_
                  refine zh_one 8 rfl (by kernel_rfl) ?_
                  refine zx_cat rfl rfl rfl (by rw [ofInts_size, ofInts_size]; show x.down.length + 2 ≤ _; omega) rfl ?_
                  refine zx_re 100 (.string (ofInts (x.down ++ [5, 2]))) rfl (congrArg _ (ofInts_app x.down [5, 2])) ?_
                  refine zh_oned (by rfl) (by simp) ?_
                  refine zh_take 9 (by kernel_rfl) rfl (by kernel_rfl) (by kernel_rfl) ?_ (by simp); (repeat (first | (refine sn ?_) | (refine stx ?_) | (refine sb ?_))); refine zh_took (by rfl) ?_
                  refine zh_take 10 (by kernel_rfl) rfl (by kernel_rfl) (by kernel_rfl) ?_ (by simp); (repeat (first | (refine sn ?_) | (refine stx ?_) | (refine sb ?_))); refine zh_took (by rfl) ?_
                  refine zh_one 11 rfl (by kernel_rfl) ?_
                  refine st ?_
                  refine zh_oned (by rfl) (by simp) ?_
                  refine zh_end (by rfl) (by kernel_rfl) ?_
                  repeat (first | (refine sn ?_) | (refine stx ?_) | (refine sb ?_) | (intro _))
                  refine z_ret1 tab_ok Try.func142 hb hk Try.results142 (.tmp rfl) (fun w hm => ?_)
                  exact ⟨rfl, hm.weaken (fun _ h => h) (List.Sublist.cons _ (List.Sublist.refl _))⟩
            · have hG : pGreet x = some (pDone (pSay { x with up := x.up.drop (2 + m) } [5, 255])) := by
                rw [hG0, if_pos (by rw [ha] at hfi; have := of_decide_eq_false hfi; omega)]
              rw [hG]
              repeat (first | (refine sn ?_) | (refine stx ?_) | (refine sb ?_) | (intro _))
              refine z_re 81 (.bool true) rfl (congrArg _ (by rw [ha]; rfl)) ?_
              repeat (first | (refine st ?_) | (refine stx ?_) | (refine sb ?_) | (intro _))
              refine zx_cat rfl rfl rfl (by rw [ofInts_size]; show x.down.length + 2 ≤ _; omega) rfl ?_
              refine zx_re 87 (.string (ofInts (x.down ++ [5, 255]))) rfl (congrArg _ (ofInts_app x.down [5, 255])) ?_
              repeat (first | (refine st ?_) | (refine stx ?_) | (refine sb ?_) | (intro _))
              refine zx_call (Y := Unit) (v := fun _ => .tuple #[]) (Φ := fun _ => True) (L' := fun _ => [] ++ pR b nv (pDone (pSay { x with up := x.up.drop (2 + m) } [5, 255]))) rfl fnc131 rfl rfl (fun w1 hm1 => RC.use (R := []) (doneR_any b nv (pSay { x with up := x.up.drop (2 + m) } [5, 255])) hm1) (fun _ _ => ?_)
              repeat (first | (refine st ?_) | (refine stx ?_) | (refine sb ?_) | (intro _))
              refine z_ret1 tab_ok Try.func142 hb hk Try.results142 (.tmp rfl) (fun w hm => ?_)
              exact ⟨rfl, hm⟩

  · have hG : pGreet x = some (pDone x) := by unfold pGreet; rw [if_pos ⟨hlen, h5⟩]
    rw [hG]
    refine calls_of_z Try.func142 rfl Try.ntmps142 rfl h ?_; intro cs b' hb hk
    repeat (first | (refine st ?_) | (refine stx ?_) | (refine sb ?_) | (intro _))
    ((try (refine sg ?_)); refine zx_idxN (0) tab_ok rfl rfl rfl rfl rfl rfl (by first | omega | (simp only [IntKind.wrap_i64]; omega)) (by omega) ?_)
    repeat (first | (refine st ?_) | (refine stx ?_) | (refine sb ?_) | (intro _))
    refine zx_call (Y := Unit) (v := fun _ => .tuple #[]) (Φ := fun _ => True) (L' := fun _ => [] ++ pR b nv (pDone x)) rfl fnc131 rfl rfl (fun w1 hm1 => RC.use (R := []) (doneR_any b nv x) hm1) (fun _ _ => ?_)
    repeat (first | (refine st ?_) | (refine stx ?_) | (refine sb ?_) | (intro _))
    refine z_ret1 tab_ok Try.func142 hb hk Try.results142 (.tmp rfl) (fun w hm => ?_)
    exact ⟨rfl, hm⟩
end Go.Proofs.Ytabcaiecoiejkaa
namespace Go.Proofs.Ytabcaiecoiejkaa
open Go K

theorem pDone_up (x : Px) (l u : List Int) : pDone (pSay { x with up := u } l) = pDone (pSay x l) := rfl
theorem loginR_any (b : Nat) (nv : Value) (x : Px) (hs : Small x.up) (hl : x.up.length ≤ 1000000) (hd : x.down.length ≤ 1000000) : RC 143 [fP b 0] b nv x ((pLogin x).getD x) (.bool (pLogin x).isSome) := by
  intro w h
  have hsz := ofInts_size x.up
  have hdz := ofInts_size x.down
  by_cases hu : x.up = []
  · have hu1 := dec_nilT hu
    have hG : pLogin x = none := by unfold pLogin; rw [hu]; rfl
    rw [hG]
    refine calls_of_z Try.func143 rfl Try.ntmps143 rfl h ?_; intro cs b' hb hk
    repeat (first | (refine st ?_) | (refine stx ?_) | (refine sb ?_) | (intro _))
    refine z_ret1 tab_ok Try.func143 hb hk Try.results143 (.tmp rfl) (fun w hm => ?_)
    exact ⟨rfl, hm⟩
  have hu1 := dec_nilF hu
  have hlen : 0 < x.up.length := by cases hx : x.up with | nil => exact absurd hx hu | cons a l => exact Nat.succ_pos _
  have hb0 := bt_ofIntsX x.up 0 hs
  by_cases h5 : x.up.getD 0 0 = 1
  · have hL : pLogin x = if (pPass x.up).2.2 = false then none
        else if (pField x.up 1).1 = x.user ∧ (pPass x.up).1 = x.pass then some { pSay { x with up := x.up.drop (pPass x.up).2.1.toNat } [1, 0] with state := 2 }
        else some (pDone (pSay x [1, 1])) := by
      unfold pLogin
      rw [if_neg (by omega), if_neg (fun hh => hh h5)]
    by_cases h2 : x.up.length < 2
    · have hG : pLogin x = none := by
        rw [hL, if_pos (by unfold pPass pField; rw [if_neg]; rw [if_pos (.inl (by omega))]; decide)]
      rw [hG]
      refine calls_of_z Try.func143 rfl Try.ntmps143 rfl h ?_; intro cs b' hb hk
      repeat (first | (refine st ?_) | (refine stx ?_) | (refine sb ?_) | (intro _))
      ((try (refine sg ?_)); refine zx_idxN (0) tab_ok rfl rfl rfl rfl rfl rfl (by first | omega | (simp only [IntKind.wrap_i64]; omega)) (by omega) ?_)
      repeat (first | (refine st ?_) | (refine stx ?_) | (refine sb ?_) | (intro _))
      refine z_ret1 tab_ok Try.func143 hb hk Try.results143 (.tmp rfl) (fun w hm => ?_)
      exact ⟨rfl, hm⟩
    · have hb1 := bt_ofIntsX x.up 1 hs
      have hm0 := getD_small hs 1
      obtain ⟨m, hm⟩ : ∃ m : Nat, x.up.getD 1 0 = (m : Int) := ⟨(x.up.getD 1 0).toNat, by omega⟩
      by_cases h3 : x.up.length < 3 + m
      · have hG : pLogin x = none := by
          rw [hL, if_pos]
          unfold pPass
          by_cases h4 : x.up.length < 2 + m
          · have : pField x.up 1 = (noX, 0, false) := by unfold pField; rw [if_pos (.inr (by omega))]
            rw [this]; rfl
          · have hF := pField_of (l := x.up) (a := 1) (by omega) (by omega)
            rw [hF]
            have : pField x.up (((1 : Nat) : Int) + 1 + x.up.getD 1 0).toNat = (noX, 0, false) := by unfold pField; rw [if_pos (.inl (by omega))]
            simp only [if_true]
            rw [this]
        rw [hG]
        refine calls_of_z Try.func143 rfl Try.ntmps143 rfl h ?_; intro cs b' hb hk
        repeat (first | (refine st ?_) | (refine stx ?_) | (refine sb ?_) | (intro _))
        ((try (refine sg ?_)); refine zx_idxN (0) tab_ok rfl rfl rfl rfl rfl rfl (by first | omega | (simp only [IntKind.wrap_i64]; omega)) (by omega) ?_)
        repeat (first | (refine st ?_) | (refine stx ?_) | (refine sb ?_) | (intro _))
        ((try (refine sg ?_)); refine zx_idxN (1) tab_ok rfl rfl rfl rfl rfl rfl (by first | omega | (simp only [IntKind.wrap_i64]; omega)) (by omega) ?_)
        refine st ?_
        refine zx_re 44 (.int .i64 (m : Int)) rfl (congrArg _ (by rw [hb1, hm]; exact wr64 (by omega) (by omega))) ?_
        refine st ?_
        refine zx_re 45 (.int .i64 ((3 + m : Nat) : Int)) rfl (congrArg _ (by rw [wr64 (by omega) (by omega)]; omega)) ?_
        repeat (first | (refine st ?_) | (refine stx ?_) | (refine sb ?_) | (intro _))
        refine z_ret1 tab_ok Try.func143 hb hk Try.results143 (.tmp rfl) (fun w hm => ?_)
        exact ⟨rfl, hm⟩
      · have hF : pField x.up 1 = (ofInts ((x.up.drop 2).take m), ((2 + m : Nat) : Int), true) := by
          have hpf := pField_of (l := x.up) (a := 1) (by omega) (by omega)
          rw [hpf, hm]
          refine Prod.ext rfl (Prod.ext ?_ rfl)
          show ((1 : Nat) : Int) + 1 + (m : Int) = ((2 + m : Nat) : Int)
          omega
        have hP : pPass x.up = pField x.up (2 + m) := by unfold pPass; rw [hF]; rfl
        have hb2 := bt_ofIntsX x.up (2 + m) hs
        have hm20 := getD_small hs (2 + m)
        obtain ⟨m2, hm2⟩ : ∃ m2 : Nat, x.up.getD (2 + m) 0 = (m2 : Int) := ⟨(x.up.getD (2 + m) 0).toNat, by omega⟩
        by_cases h6 : x.up.length < 2 + m + 1 + m2
        · have hG : pLogin x = none := by
            rw [hL, hP, if_pos]
            unfold pField
            rw [if_pos (.inr (by omega))]
          rw [hG]
          refine calls_of_z Try.func143 rfl Try.ntmps143 rfl h ?_; intro cs b' hb hk
          repeat (first | (refine st ?_) | (refine stx ?_) | (refine sb ?_) | (intro _))
          ((try (refine sg ?_)); refine zx_idxN (0) tab_ok rfl rfl rfl rfl rfl rfl (by first | omega | (simp only [IntKind.wrap_i64]; omega)) (by omega) ?_)
          repeat (first | (refine st ?_) | (refine stx ?_) | (refine sb ?_) | (intro _))
          ((try (refine sg ?_)); refine zx_idxN (1) tab_ok rfl rfl rfl rfl rfl rfl (by first | omega | (simp only [IntKind.wrap_i64]; omega)) (by omega) ?_)
          refine st ?_
          refine zx_re 44 (.int .i64 (m : Int)) rfl (congrArg _ (by rw [hb1, hm]; exact wr64 (by omega) (by omega))) ?_
          refine st ?_
          refine zx_re 45 (.int .i64 ((3 + m : Nat) : Int)) rfl (congrArg _ (by rw [wr64 (by omega) (by omega)]; omega)) ?_
          repeat (first | (refine st ?_) | (refine stx ?_) | (refine sb ?_) | (intro _))
          ((try (refine sg ?_)); refine zx_idxN (1) tab_ok rfl rfl rfl rfl rfl rfl (by first | omega | (simp only [IntKind.wrap_i64]; omega)) (by omega) ?_)
          refine st ?_
          refine zx_re 53 (.int .i64 (m : Int)) rfl (congrArg _ (by rw [hb1, hm]; exact wr64 (by omega) (by omega))) ?_
          refine st ?_
          refine zx_re 54 (.int .i64 ((2 + m : Nat) : Int)) rfl (congrArg _ (by rw [wr64 (by omega) (by omega)]; omega)) ?_
          repeat (first | (refine st ?_) | (refine stx ?_) | (refine sb ?_) | (intro _))
          ((try (refine sg ?_)); refine zx_idxN (2 + m) tab_ok rfl rfl rfl rfl rfl rfl (by first | omega | (simp only [IntKind.wrap_i64]; omega)) (by omega) ?_)
          refine st ?_
          refine zx_re 63 (.int .i64 (m2 : Int)) rfl (congrArg _ (by rw [hb2, hm2]; exact wr64 (by omega) (by omega))) ?_
          refine zx_re 56 (.int .i64 ((2 + m + 1 : Nat) : Int)) rfl (congrArg _ (by rw [wr64 (by omega) (by omega)]; omega)) ?_
          refine st ?_
          refine zx_re 64 (.int .i64 ((2 + m + 1 + m2 : Nat) : Int)) rfl (congrArg _ (by rw [wr64 (by omega) (by omega)]; omega)) ?_
          repeat (first | (refine st ?_) | (refine stx ?_) | (refine sb ?_) | (intro _))
          refine z_ret1 tab_ok Try.func143 hb hk Try.results143 (.tmp rfl) (fun w hm => ?_)
          exact ⟨rfl, hm⟩
        · have hF2 : pField x.up (2 + m) = (ofInts ((x.up.drop (2 + m + 1)).take m2), ((2 + m + 1 + m2 : Nat) : Int), true) := by
            have hpf := pField_of (l := x.up) (a := 2 + m) (by omega) (by omega)
            rw [hpf, hm2]
            refine Prod.ext rfl (Prod.ext ?_ rfl)
            show ((2 + m : Nat) : Int) + 1 + (m2 : Int) = ((2 + m + 1 + m2 : Nat) : Int)
            omega
          rw [hP, hF, hF2] at hL
          simp only [Bool.true_eq_false, if_false, Int.toNat_natCast] at hL
          have he1 := ext_piece x.up hs 2 (2 + m)
          rw [show 2 + m - 2 = m by omega] at he1
          have he2 := ext_piece x.up hs (2 + m + 1) (2 + m + 1 + m2)
          rw [show 2 + m + 1 + m2 - (2 + m + 1) = m2 by omega] at he2
          refine calls_of_z Try.func143 rfl Try.ntmps143 rfl h ?_; intro cs b' hb hk
          repeat (first | (refine st ?_) | (refine stx ?_) | (refine sb ?_) | (intro _))
          ((try (refine sg ?_)); refine zx_idxN (0) tab_ok rfl rfl rfl rfl rfl rfl (by first | omega | (simp only [IntKind.wrap_i64]; omega)) (by omega) ?_)
          repeat (first | (refine st ?_) | (refine stx ?_) | (refine sb ?_) | (intro _))
          ((try (refine sg ?_)); refine zx_idxN (1) tab_ok rfl rfl rfl rfl rfl rfl (by first | omega | (simp only [IntKind.wrap_i64]; omega)) (by omega) ?_)
          refine st ?_
          refine zx_re 44 (.int .i64 (m : Int)) rfl (congrArg _ (by rw [hb1, hm]; exact wr64 (by omega) (by omega))) ?_
          refine st ?_
          refine zx_re 45 (.int .i64 ((3 + m : Nat) : Int)) rfl (congrArg _ (by rw [wr64 (by omega) (by omega)]; omega)) ?_
          repeat (first | (refine st ?_) | (refine stx ?_) | (refine sb ?_) | (intro _))
          ((try (refine sg ?_)); refine zx_idxN (1) tab_ok rfl rfl rfl rfl rfl rfl (by first | omega | (simp only [IntKind.wrap_i64]; omega)) (by omega) ?_)
          refine st ?_
          refine zx_re 53 (.int .i64 (m : Int)) rfl (congrArg _ (by rw [hb1, hm]; exact wr64 (by omega) (by omega))) ?_
          refine st ?_
          refine zx_re 54 (.int .i64 ((2 + m : Nat) : Int)) rfl (congrArg _ (by rw [wr64 (by omega) (by omega)]; omega)) ?_
          repeat (first | (refine st ?_) | (refine stx ?_) | (refine sb ?_) | (intro _))
          ((try (refine sg ?_)); refine zx_idxN (2 + m) tab_ok rfl rfl rfl rfl rfl rfl (by first | omega | (simp only [IntKind.wrap_i64]; omega)) (by omega) ?_)
          refine st ?_
          refine zx_re 63 (.int .i64 (m2 : Int)) rfl (congrArg _ (by rw [hb2, hm2]; exact wr64 (by omega) (by omega))) ?_
          refine zx_re 56 (.int .i64 ((2 + m + 1 : Nat) : Int)) rfl (congrArg _ (by rw [wr64 (by omega) (by omega)]; omega)) ?_
          refine st ?_
          refine zx_re 64 (.int .i64 ((2 + m + 1 + m2 : Nat) : Int)) rfl (congrArg _ (by rw [wr64 (by omega) (by omega)]; omega)) ?_
          repeat (first | (refine st ?_) | (refine stx ?_) | (refine sb ?_) | (intro _))
          ((try (refine sg ?_)); (refine zx_sliceN (2 ) ( 2 + m ) tab_ok rfl rfl rfl rfl rfl rfl rfl (by first | rfl | omega | (simp only [IntKind.wrap_i64]; omega)) (by first | rfl | omega | (simp only [IntKind.wrap_i64]; omega)) (by omega) (by omega) ?_))
          refine zx_re 77 (.string (ofInts ((x.up.drop 2).take m))) rfl (congrArg _ he1) ?_
          by_cases hU : ofInts ((x.up.drop 2).take m) = x.user
          · have hU1 : decide (ofInts ((x.up.drop 2).take m) = x.user) = true := decide_eq_true hU
            repeat (first | (refine st ?_) | (refine stx ?_) | (refine sb ?_) | (intro _))
            refine zx_re 90 (.int .i64 ((2 + m + 1 : Nat) : Int)) rfl (congrArg _ (by rw [wr64 (by omega) (by omega)]; omega)) ?_
            ((try (refine sg ?_)); (refine zx_sliceN (2 + m + 1 ) ( 2 + m + 1 + m2 ) tab_ok rfl rfl rfl rfl rfl rfl rfl (by first | rfl | omega | (simp only [IntKind.wrap_i64]; omega)) (by first | rfl | omega | (simp only [IntKind.wrap_i64]; omega)) (by omega) (by omega) ?_))
            refine zx_re 92 (.string (ofInts ((x.up.drop (2 + m + 1)).take m2))) rfl (congrArg _ he2) ?_
            by_cases hV : ofInts ((x.up.drop (2 + m + 1)).take m2) = x.pass
            · have hV1 : decide (ofInts ((x.up.drop (2 + m + 1)).take m2) = x.pass) = true := decide_eq_true hV
              rw [if_pos ⟨hU, hV⟩] at hL
              rw [hL]
              clear hU hV hL
              repeat (first | (refine st ?_) | (refine stx ?_) | (refine sb ?_) | (intro _))
              ((try (refine sg ?_)); (refine zx_sliceN (2 + m + 1 + m2 ) ( (ofInts x.up).size ) tab_ok rfl rfl rfl rfl rfl rfl rfl (by first | rfl | omega | (simp only [IntKind.wrap_i64]; omega)) (by first | rfl | omega | (simp only [IntKind.wrap_i64]; omega)) (by omega) (by omega) ?_))
              refine zx_re 106 (.string (ofInts (x.up.drop (2 + m + 1 + m2)))) rfl (congrArg _ (ext_rest x.up hs (2 + m + 1 + m2))) ?_
              repeat (first | (refine st ?_) | (refine stx ?_) | (refine sb ?_) | (intro _))
              refine zx_cat rfl rfl rfl (by rw [ofInts_size]; show x.down.length + 2 ≤ _; omega) rfl ?_
              refine zx_re 126 (.string (ofInts (x.down ++ [1, 0]))) rfl (congrArg _ (ofInts_app x.down [1, 0])) ?_
              repeat (first | (refine st ?_) | (refine stx ?_) | (refine sb ?_) | (intro _))
              refine z_ret1 tab_ok Try.func143 hb hk Try.results143 (.tmp rfl) (fun w hm => ?_)
              exact ⟨rfl, hm⟩
            · have hV1 : decide (ofInts ((x.up.drop (2 + m + 1)).take m2) = x.pass) = false := decide_eq_false hV
              rw [if_neg (fun hh => hV hh.2), ← pDone_up x [1, 1] (x.up.drop (2 + m + 1 + m2))] at hL
              rw [hL]
              clear hU hV hL
              repeat (first | (refine st ?_) | (refine stx ?_) | (refine sb ?_) | (intro _))
              ((try (refine sg ?_)); (refine zx_sliceN (2 + m + 1 + m2 ) ( (ofInts x.up).size ) tab_ok rfl rfl rfl rfl rfl rfl rfl (by first | rfl | omega | (simp only [IntKind.wrap_i64]; omega)) (by first | rfl | omega | (simp only [IntKind.wrap_i64]; omega)) (by omega) (by omega) ?_))
              refine zx_re 106 (.string (ofInts (x.up.drop (2 + m + 1 + m2)))) rfl (congrArg _ (ext_rest x.up hs (2 + m + 1 + m2))) ?_
              repeat (first | (refine st ?_) | (refine stx ?_) | (refine sb ?_) | (intro _))
              refine zx_cat rfl rfl rfl (by rw [ofInts_size]; show x.down.length + 2 ≤ _; omega) rfl ?_
              refine zx_re 116 (.string (ofInts (x.down ++ [1, 1]))) rfl (congrArg _ (ofInts_app x.down [1, 1])) ?_
              repeat (first | (refine st ?_) | (refine stx ?_) | (refine sb ?_) | (intro _))
              refine zx_call (Y := Unit) (v := fun _ => .tuple #[]) (Φ := fun _ => True) (L' := fun _ => [] ++ pR b nv (pDone (pSay { x with up := x.up.drop (2 + m + 1 + m2) } [1, 1]))) rfl fnc131 rfl rfl (fun w1 hm1 => RC.use (R := []) (doneR_any b nv (pSay { x with up := x.up.drop (2 + m + 1 + m2) } [1, 1])) hm1) (fun _ _ => ?_)
              repeat (first | (refine st ?_) | (refine stx ?_) | (refine sb ?_) | (intro _))
              refine z_ret1 tab_ok Try.func143 hb hk Try.results143 (.tmp rfl) (fun w hm => ?_)
              exact ⟨rfl, hm⟩
          · have hU1 : decide (ofInts ((x.up.drop 2).take m) = x.user) = false := decide_eq_false hU
            rw [if_neg (fun hh => hU hh.1), ← pDone_up x [1, 1] (x.up.drop (2 + m + 1 + m2))] at hL
            rw [hL]
            repeat (first | (refine st ?_) | (refine stx ?_) | (refine sb ?_) | (intro _))
            ((try (refine sg ?_)); (refine zx_sliceN (2 + m + 1 + m2 ) ( (ofInts x.up).size ) tab_ok rfl rfl rfl rfl rfl rfl rfl (by first | rfl | omega | (simp only [IntKind.wrap_i64]; omega)) (by first | rfl | omega | (simp only [IntKind.wrap_i64]; omega)) (by omega) (by omega) ?_))
            refine zx_re 106 (.string (ofInts (x.up.drop (2 + m + 1 + m2)))) rfl (congrArg _ (ext_rest x.up hs (2 + m + 1 + m2))) ?_
            repeat (first | (refine st ?_) | (refine stx ?_) | (refine sb ?_) | (intro _))
            refine zx_cat rfl rfl rfl (by rw [ofInts_size]; show x.down.length + 2 ≤ _; omega) rfl ?_
            refine zx_re 116 (.string (ofInts (x.down ++ [1, 1]))) rfl (congrArg _ (ofInts_app x.down [1, 1])) ?_
            repeat (first | (refine st ?_) | (refine stx ?_) | (refine sb ?_) | (intro _))
            refine zx_call (Y := Unit) (v := fun _ => .tuple #[]) (Φ := fun _ => True) (L' := fun _ => [] ++ pR b nv (pDone (pSay { x with up := x.up.drop (2 + m + 1 + m2) } [1, 1]))) rfl fnc131 rfl rfl (fun w1 hm1 => RC.use (R := []) (doneR_any b nv (pSay { x with up := x.up.drop (2 + m + 1 + m2) } [1, 1])) hm1) (fun _ _ => ?_)
            repeat (first | (refine st ?_) | (refine stx ?_) | (refine sb ?_) | (intro _))
            refine z_ret1 tab_ok Try.func143 hb hk Try.results143 (.tmp rfl) (fun w hm => ?_)
            exact ⟨rfl, hm⟩

  · have hG : pLogin x = some (pDone (pSay x [1, 1])) := by unfold pLogin; rw [if_neg (by omega), if_pos h5]
    rw [hG]
    refine calls_of_z Try.func143 rfl Try.ntmps143 rfl h ?_; intro cs b' hb hk
    repeat (first | (refine st ?_) | (refine stx ?_) | (refine sb ?_) | (intro _))
    ((try (refine sg ?_)); refine zx_idxN (0) tab_ok rfl rfl rfl rfl rfl rfl (by first | omega | (simp only [IntKind.wrap_i64]; omega)) (by omega) ?_)
    repeat (first | (refine st ?_) | (refine stx ?_) | (refine sb ?_) | (intro _))
    refine zx_cat rfl rfl rfl (by rw [ofInts_size]; show x.down.length + 2 ≤ _; omega) rfl ?_
    refine zx_re 22 (.string (ofInts (x.down ++ [1, 1]))) rfl (congrArg _ (ofInts_app x.down [1, 1])) ?_
    repeat (first | (refine st ?_) | (refine stx ?_) | (refine sb ?_) | (intro _))
    refine zx_call (Y := Unit) (v := fun _ => .tuple #[]) (Φ := fun _ => True) (L' := fun _ => [] ++ pR b nv (pDone (pSay x [1, 1]))) rfl fnc131 rfl rfl (fun w1 hm1 => RC.use (R := []) (doneR_any b nv (pSay x [1, 1])) hm1) (fun _ _ => ?_)
    repeat (first | (refine st ?_) | (refine stx ?_) | (refine sb ?_) | (intro _))
    refine z_ret1 tab_ok Try.func143 hb hk Try.results143 (.tmp rfl) (fun w hm => ?_)
    exact ⟨rfl, hm⟩
end Go.Proofs.Ytabcaiecoiejkaa
namespace Go.Proofs.Ytabcaiecoiejkaa
open Go K

theorem requestR_1 (b : Nat) (na : Option Addr) (ncap : Nat) (ns : List Nm) (nv : Value) (hnv : nv = .slice na ns.length ncap) (x : Px) (hs : Small x.up) (hl : x.up.length ≤ 1000000) (hd : x.down.length ≤ 1000000) (h0 : x.up.getD 0 0 = 5) (h2 : x.up.getD 2 0 = 0) (h1 : x.up.getD 1 0 = 1) (h3 : x.up.getD 3 0 = 1) (h4 : 4 ≤ x.up.length) (w : World) (h : Mem w [b] (pR b nv x) w) : Calls Try.prog 144 [fP b 0].toArray w fun e w' => e = .returned (.bool (pReqN ns x).isSome) ∧ Mem w [b] (pR b nv ((pReqN ns x).getD x)) w' := by
  have hsz := ofInts_size x.up
  have hb0 := bt_ofIntsX x.up 0 hs
  have hb1 := bt_ofIntsX x.up 1 hs
  have hb2 := bt_ofIntsX x.up 2 hs
  have hb3 := bt_ofIntsX x.up 3 hs
  have hR0 : pReqN ns x = pReqA x (adr4 (pBody x 4)) 8 := by
    unfold pReqN
    rw [if_neg (by omega), if_neg (fun hh => hh.elim (fun hh => hh h0) (fun hh => hh h2)), if_neg (fun hh => hh h1), if_pos h3]
  by_cases hlen : x.up.length < 8 + 2
  · have hR : pReqN ns x = none := by rw [hR0]; unfold pReqA; rw [if_pos hlen]
    rw [hR]
    refine calls_of_z Try.func144 rfl Try.ntmps144 rfl h ?_; intro cs b' hb hk
    repeat (first | (refine st ?_) | (refine stx ?_) | (refine sb ?_) | (intro _))
    ((try (refine sg ?_)); refine zx_idxN (0) tab_ok rfl rfl rfl rfl rfl rfl (by first | omega | (simp only [IntKind.wrap_i64]; omega)) (by omega) ?_)
    repeat (first | (refine st ?_) | (refine stx ?_) | (refine sb ?_) | (intro _))
    ((try (refine sg ?_)); refine zx_idxN (2) tab_ok rfl rfl rfl rfl rfl rfl (by first | omega | (simp only [IntKind.wrap_i64]; omega)) (by omega) ?_)
    repeat (first | (refine st ?_) | (refine stx ?_) | (refine sb ?_) | (intro _))
    ((try (refine sg ?_)); refine zx_idxN (1) tab_ok rfl rfl rfl rfl rfl rfl (by first | omega | (simp only [IntKind.wrap_i64]; omega)) (by omega) ?_)
    repeat (first | (refine st ?_) | (refine stx ?_) | (refine sb ?_) | (intro _))
    ((try (refine sg ?_)); refine zx_idxN (3) tab_ok rfl rfl rfl rfl rfl rfl (by first | omega | (simp only [IntKind.wrap_i64]; omega)) (by omega) ?_)
    repeat (first | (refine st ?_) | (refine stx ?_) | (refine sb ?_) | (intro _))
    ((try (refine sg ?_)); refine zx_idxN (3) tab_ok rfl rfl rfl rfl rfl rfl (by first | omega | (simp only [IntKind.wrap_i64]; omega)) (by omega) ?_)
    repeat (first | (refine st ?_) | (refine stx ?_) | (refine sb ?_) | (intro _))
    ((try (refine sg ?_)); refine zx_idxN (3) tab_ok rfl rfl rfl rfl rfl rfl (by first | omega | (simp only [IntKind.wrap_i64]; omega)) (by omega) ?_)
    repeat (first | (refine st ?_) | (refine stx ?_) | (refine sb ?_) | (intro _))
    refine z_ret1 tab_ok Try.func144 hb hk Try.results144 (.tmp rfl) (fun w hm => ?_)
    exact ⟨rfl, hm⟩
  have hbs : ((ofInts x.up).extract 4 (4 + 4)).size = 4 := by rw [ByteArray.size_extract]; omega
  have hbd : (ofInts x.up).extract 4 (4 + 4) = pBody x 4 := by rw [ext_piece x.up hs]; rfl
  rw [hbd] at hbs
  generalize pBody x 4 = bd at hR0 hbd hbs
  have hba := bt_ofIntsX x.up 8 hs
  have hbb := bt_ofIntsX x.up (8 + 1) hs
  have hga := getD_small hs 8
  have hgb := getD_small hs (8 + 1)
  have hrest := ext_rest x.up hs (8 + 2)
  have hR : pReqN ns x = if pPort x.up 8 = 0 then some (pFail 1 (pEat x 8)) else if (adr4 bd).none = true ∨ (adr4 bd).group = true then some (pFail 4 (pEat x 8)) else some { pEat x 8 with ta := adr4 bd, tp := pPort x.up 8, state := 3 } := by
    rw [hR0]; unfold pReqA; rw [if_neg hlen]
  clear hR0
  have hp : bt (ofInts x.up) 8 * 256 + bt (ofInts x.up) (8 + 1) = pPort x.up 8 := by rw [hba, hbb]; rfl
  rw [← hba] at hga
  rw [← hbb] at hgb
  refine calls_of_z Try.func144 rfl Try.ntmps144 rfl h ?_; intro cs b' hb hk
  repeat (first | (refine st ?_) | (refine stx ?_) | (refine sb ?_) | (intro _))
  ((try (refine sg ?_)); refine zx_idxN (0) tab_ok rfl rfl rfl rfl rfl rfl (by first | omega | (simp only [IntKind.wrap_i64]; omega)) (by omega) ?_)
  repeat (first | (refine st ?_) | (refine stx ?_) | (refine sb ?_) | (intro _))
  ((try (refine sg ?_)); refine zx_idxN (2) tab_ok rfl rfl rfl rfl rfl rfl (by first | omega | (simp only [IntKind.wrap_i64]; omega)) (by omega) ?_)
  repeat (first | (refine st ?_) | (refine stx ?_) | (refine sb ?_) | (intro _))
  ((try (refine sg ?_)); refine zx_idxN (1) tab_ok rfl rfl rfl rfl rfl rfl (by first | omega | (simp only [IntKind.wrap_i64]; omega)) (by omega) ?_)
  repeat (first | (refine st ?_) | (refine stx ?_) | (refine sb ?_) | (intro _))
  ((try (refine sg ?_)); refine zx_idxN (3) tab_ok rfl rfl rfl rfl rfl rfl (by first | omega | (simp only [IntKind.wrap_i64]; omega)) (by omega) ?_)
  repeat (first | (refine st ?_) | (refine stx ?_) | (refine sb ?_) | (intro _))
  ((try (refine sg ?_)); refine zx_idxN (3) tab_ok rfl rfl rfl rfl rfl rfl (by first | omega | (simp only [IntKind.wrap_i64]; omega)) (by omega) ?_)
  repeat (first | (refine st ?_) | (refine stx ?_) | (refine sb ?_) | (intro _))
  ((try (refine sg ?_)); refine zx_idxN (3) tab_ok rfl rfl rfl rfl rfl rfl (by first | omega | (simp only [IntKind.wrap_i64]; omega)) (by omega) ?_)
  repeat (first | (refine st ?_) | (refine stx ?_) | (refine sb ?_) | (intro _))
  ((try (refine sg ?_)); (refine zx_sliceN (4 ) ( 4 + 4 ) tab_ok rfl rfl rfl rfl rfl rfl rfl (by first | rfl | omega | (simp only [IntKind.wrap_i64]; omega)) (by first | rfl | omega | (simp only [IntKind.wrap_i64]; omega)) (by omega) (by omega) ?_))
  refine zx_re 78 (.string bd) rfl (congrArg _ hbd) ?_
  repeat (first | (refine st ?_) | (refine stx ?_) | (refine sb ?_) | (intro _))
  ((try (refine sg ?_)); refine zx_idxN (8) tab_ok rfl rfl rfl rfl rfl rfl (by first | omega | (simp only [IntKind.wrap_i64]; omega)) (by omega) ?_)
  repeat (first | (refine st ?_) | (refine stx ?_) | (refine sb ?_) | (intro _))
  ((try (refine sg ?_)); refine zx_idxN (8 + 1) tab_ok rfl rfl rfl rfl rfl rfl (by first | omega | (simp only [IntKind.wrap_i64]; omega)) (by omega) ?_)
  refine st ?_
  refine st ?_
  refine zx_re 93 (.int .i64 (pPort x.up 8)) rfl (congrArg _ (by rw [wr64 (x := bt (ofInts x.up) (8 + 1)) (by omega) (by omega), wr64 (x := bt (ofInts x.up) 8) (by omega) (by omega), wr64 (x := bt (ofInts x.up) 8 * 256) (by omega) (by omega), wr64 (by omega) (by omega)]; exact hp)) ?_
  repeat (first | (refine st ?_) | (refine stx ?_) | (refine sb ?_) | (intro _))
  ((try (refine sg ?_)); (refine zx_sliceN (8 + 2 ) ( (ofInts x.up).size ) tab_ok rfl rfl rfl rfl rfl rfl rfl (by first | rfl | omega | (simp only [IntKind.wrap_i64]; omega)) (by first | rfl | omega | (simp only [IntKind.wrap_i64]; omega)) (by omega) (by omega) ?_))
  refine zx_re 100 (.string (ofInts (x.up.drop (8 + 2)))) rfl (congrArg _ hrest) ?_
  by_cases hpp : pPort x.up 8 = 0
  · rw [if_pos hpp] at hR
    rw [hR]
    repeat (first | (refine st ?_) | (refine stx ?_) | (refine sb ?_) | (intro _))
    refine zx_call (Y := Unit) (v := fun _ => .tuple #[]) (Φ := fun _ => True) (L' := fun _ => [] ++ pR b nv (pFail 1 (pEat x 8))) rfl fnc129 rfl rfl (fun w1 hm1 => RC.use (R := []) (failsR_any b nv (pEat x 8) 1 (by first | exact hd | (show x.down.length ≤ _; exact hd))) hm1) (fun _ _ => ?_)
    repeat (first | (refine st ?_) | (refine stx ?_) | (refine sb ?_) | (intro _))
    refine z_ret1 tab_ok Try.func144 hb hk Try.results144 (.tmp rfl) (fun w hm => ?_)
    exact ⟨rfl, hm⟩
  · rw [if_neg hpp] at hR
    repeat (first | (refine st ?_) | (refine stx ?_) | (refine sb ?_) | (intro _))
    rename_i k8
    ((try (refine sg ?_)); refine zx_idxN (3) tab_ok rfl rfl rfl rfl rfl rfl (by first | omega | (simp only [IntKind.wrap_i64]; omega)) (by omega) ?_)
    repeat (first | (refine st ?_) | (refine stx ?_) | (refine sb ?_) | (intro _))
    ((try (refine sg ?_)); (refine zx_call0 rfl fnc149 rfl rfl (fun w hm => From4R_any bd hbs w) ?_))
    repeat (first | (refine st ?_) | (refine stx ?_) | (refine sb ?_) | (intro _))
    rename_i k10
    refine z_re 9 (.bool true) rfl (congrArg _ (by rw [hb3, h3]; rfl)) ?_
    refine z_once ?_
    by_cases hn0 : 0 < ns.length
    · repeat (first | (refine st ?_) | (refine stx ?_) | (refine sb ?_) | (intro _))
      refine zx_re 126 (.slice na ns.length ncap) rfl hnv ?_
      repeat (first | (refine st ?_) | (refine stx ?_) | (refine sb ?_) | (intro _))
      ((try (refine sg ?_)); (refine zx_call0 rfl fnc150 rfl rfl (fun w hm => usualR_any (adr4 bd) w) ?_))
      by_cases hg : (adr4 bd).none = true ∨ (adr4 bd).group = true
      · have hU : (adr4 bd).usual = false := by
          unfold Adr.usual
          rcases hg with hg | hg <;> rw [hg] <;> simp
        rw [if_pos hg] at hR
        rw [hR]
        repeat (first | (refine st ?_) | (refine stx ?_) | (refine sb ?_) | (intro _))
        refine zx_call (Y := Unit) (v := fun _ => .tuple #[]) (Φ := fun _ => True) (L' := fun _ => [(k10, Blk.c (adr4 bd).cells 24 0 0), (k8, Blk.c (adr4 bd).cells 24 0 0)] ++ pR b nv (pFail 4 (pEat x 8))) rfl fnc129 rfl rfl (fun w1 hm1 => RC.use (R := [(k10, Blk.c (adr4 bd).cells 24 0 0), (k8, Blk.c (adr4 bd).cells 24 0 0)]) (failsR_any b nv (pEat x 8) 4 (by first | exact hd | (show x.down.length ≤ _; exact hd))) hm1) (fun _ _ => ?_)
        repeat (first | (refine st ?_) | (refine stx ?_) | (refine sb ?_) | (intro _))
        refine z_ret1 tab_ok Try.func144 hb hk Try.results144 (.tmp rfl) (fun w hm => ?_)
        exact ⟨rfl, hm.weaken (fun _ h => h) (List.Sublist.cons _ (List.Sublist.cons _ (List.Sublist.refl _)))⟩
      · have hU : (adr4 bd).usual = true := by
          unfold Adr.usual
          have h1 : (adr4 bd).none = false := by cases hh : (adr4 bd).none; rfl; exact absurd (.inl hh) hg
          have h2 : (adr4 bd).group = false := by cases hh : (adr4 bd).group; rfl; exact absurd (.inr hh) hg
          rw [adr4_valid, h1, h2]; rfl
        rw [if_neg hg] at hR
        rw [hR]
        repeat (first | (refine st ?_) | (refine stx ?_) | (refine sb ?_) | (intro _))
        refine z_ret1 tab_ok Try.func144 hb hk Try.results144 (.tmp rfl) (fun w hm => ?_)
        exact ⟨rfl, hm.weaken (fun _ h => h) (List.Sublist.cons _ (List.Sublist.cons _ (List.Sublist.refl _)))⟩
    · repeat (first | (refine st ?_) | (refine stx ?_) | (refine sb ?_) | (intro _))
      refine zx_re 126 (.slice na ns.length ncap) rfl hnv ?_
      repeat (first | (refine st ?_) | (refine stx ?_) | (refine sb ?_) | (intro _))
      ((try (refine sg ?_)); (refine zx_call0 rfl fnc150 rfl rfl (fun w hm => usualR_any (adr4 bd) w) ?_))
      by_cases hg : (adr4 bd).none = true ∨ (adr4 bd).group = true
      · have hU : (adr4 bd).usual = false := by
          unfold Adr.usual
          rcases hg with hg | hg <;> rw [hg] <;> simp
        rw [if_pos hg] at hR
        rw [hR]
        repeat (first | (refine st ?_) | (refine stx ?_) | (refine sb ?_) | (intro _))
        refine zx_call (Y := Unit) (v := fun _ => .tuple #[]) (Φ := fun _ => True) (L' := fun _ => [(k10, Blk.c (adr4 bd).cells 24 0 0), (k8, Blk.c (adr4 bd).cells 24 0 0)] ++ pR b nv (pFail 4 (pEat x 8))) rfl fnc129 rfl rfl (fun w1 hm1 => RC.use (R := [(k10, Blk.c (adr4 bd).cells 24 0 0), (k8, Blk.c (adr4 bd).cells 24 0 0)]) (failsR_any b nv (pEat x 8) 4 (by first | exact hd | (show x.down.length ≤ _; exact hd))) hm1) (fun _ _ => ?_)
        repeat (first | (refine st ?_) | (refine stx ?_) | (refine sb ?_) | (intro _))
        refine z_ret1 tab_ok Try.func144 hb hk Try.results144 (.tmp rfl) (fun w hm => ?_)
        exact ⟨rfl, hm.weaken (fun _ h => h) (List.Sublist.cons _ (List.Sublist.cons _ (List.Sublist.refl _)))⟩
      · have hU : (adr4 bd).usual = true := by
          unfold Adr.usual
          have h1 : (adr4 bd).none = false := by cases hh : (adr4 bd).none; rfl; exact absurd (.inl hh) hg
          have h2 : (adr4 bd).group = false := by cases hh : (adr4 bd).group; rfl; exact absurd (.inr hh) hg
          rw [adr4_valid, h1, h2]; rfl
        rw [if_neg hg] at hR
        rw [hR]
        repeat (first | (refine st ?_) | (refine stx ?_) | (refine sb ?_) | (intro _))
        refine z_ret1 tab_ok Try.func144 hb hk Try.results144 (.tmp rfl) (fun w hm => ?_)
        exact ⟨rfl, hm.weaken (fun _ h => h) (List.Sublist.cons _ (List.Sublist.cons _ (List.Sublist.refl _)))⟩
theorem requestR_4 (b : Nat) (na : Option Addr) (ncap : Nat) (ns : List Nm) (nv : Value) (hnv : nv = .slice na ns.length ncap) (x : Px) (hs : Small x.up) (hl : x.up.length ≤ 1000000) (hd : x.down.length ≤ 1000000) (h0 : x.up.getD 0 0 = 5) (h2 : x.up.getD 2 0 = 0) (h1 : x.up.getD 1 0 = 1) (h3 : x.up.getD 3 0 = 4) (h4 : 4 ≤ x.up.length) (w : World) (h : Mem w [b] (pR b nv x) w) : Calls Try.prog 144 [fP b 0].toArray w fun e w' => e = .returned (.bool (pReqN ns x).isSome) ∧ Mem w [b] (pR b nv ((pReqN ns x).getD x)) w' := by
  have hsz := ofInts_size x.up
  have hb0 := bt_ofIntsX x.up 0 hs
  have hb1 := bt_ofIntsX x.up 1 hs
  have hb2 := bt_ofIntsX x.up 2 hs
  have hb3 := bt_ofIntsX x.up 3 hs
  have hR0 : pReqN ns x = pReqA x (adr16 (pBody x 16)) 20 := by
    unfold pReqN
    rw [if_neg (by omega), if_neg (fun hh => hh.elim (fun hh => hh h0) (fun hh => hh h2)), if_neg (fun hh => hh h1), if_neg (by omega), if_pos h3]
  by_cases hlen : x.up.length < 20 + 2
  · have hR : pReqN ns x = none := by rw [hR0]; unfold pReqA; rw [if_pos hlen]
    rw [hR]
    refine calls_of_z Try.func144 rfl Try.ntmps144 rfl h ?_; intro cs b' hb hk
    repeat (first | (refine st ?_) | (refine stx ?_) | (refine sb ?_) | (intro _))
    ((try (refine sg ?_)); refine zx_idxN (0) tab_ok rfl rfl rfl rfl rfl rfl (by first | omega | (simp only [IntKind.wrap_i64]; omega)) (by omega) ?_)
    repeat (first | (refine st ?_) | (refine stx ?_) | (refine sb ?_) | (intro _))
    ((try (refine sg ?_)); refine zx_idxN (2) tab_ok rfl rfl rfl rfl rfl rfl (by first | omega | (simp only [IntKind.wrap_i64]; omega)) (by omega) ?_)
    repeat (first | (refine st ?_) | (refine stx ?_) | (refine sb ?_) | (intro _))
    ((try (refine sg ?_)); refine zx_idxN (1) tab_ok rfl rfl rfl rfl rfl rfl (by first | omega | (simp only [IntKind.wrap_i64]; omega)) (by omega) ?_)
    repeat (first | (refine st ?_) | (refine stx ?_) | (refine sb ?_) | (intro _))
    ((try (refine sg ?_)); refine zx_idxN (3) tab_ok rfl rfl rfl rfl rfl rfl (by first | omega | (simp only [IntKind.wrap_i64]; omega)) (by omega) ?_)
    repeat (first | (refine st ?_) | (refine stx ?_) | (refine sb ?_) | (intro _))
    ((try (refine sg ?_)); refine zx_idxN (3) tab_ok rfl rfl rfl rfl rfl rfl (by first | omega | (simp only [IntKind.wrap_i64]; omega)) (by omega) ?_)
    repeat (first | (refine st ?_) | (refine stx ?_) | (refine sb ?_) | (intro _))
    ((try (refine sg ?_)); refine zx_idxN (3) tab_ok rfl rfl rfl rfl rfl rfl (by first | omega | (simp only [IntKind.wrap_i64]; omega)) (by omega) ?_)
    repeat (first | (refine st ?_) | (refine stx ?_) | (refine sb ?_) | (intro _))
    ((try (refine sg ?_)); refine zx_idxN (3) tab_ok rfl rfl rfl rfl rfl rfl (by first | omega | (simp only [IntKind.wrap_i64]; omega)) (by omega) ?_)
    repeat (first | (refine st ?_) | (refine stx ?_) | (refine sb ?_) | (intro _))
    ((try (refine sg ?_)); refine zx_idxN (3) tab_ok rfl rfl rfl rfl rfl rfl (by first | omega | (simp only [IntKind.wrap_i64]; omega)) (by omega) ?_)
    repeat (first | (refine st ?_) | (refine stx ?_) | (refine sb ?_) | (intro _))
    refine z_ret1 tab_ok Try.func144 hb hk Try.results144 (.tmp rfl) (fun w hm => ?_)
    exact ⟨rfl, hm⟩
  have hbs : ((ofInts x.up).extract 4 (4 + 16)).size = 16 := by rw [ByteArray.size_extract]; omega
  have hbd : (ofInts x.up).extract 4 (4 + 16) = pBody x 16 := by rw [ext_piece x.up hs]; rfl
  rw [hbd] at hbs
  generalize pBody x 16 = bd at hR0 hbd hbs
  have hba := bt_ofIntsX x.up 20 hs
  have hbb := bt_ofIntsX x.up (20 + 1) hs
  have hga := getD_small hs 20
  have hgb := getD_small hs (20 + 1)
  have hrest := ext_rest x.up hs (20 + 2)
  have hR : pReqN ns x = if pPort x.up 20 = 0 then some (pFail 1 (pEat x 20)) else if (adr16 bd).none = true ∨ (adr16 bd).group = true then some (pFail 4 (pEat x 20)) else some { pEat x 20 with ta := adr16 bd, tp := pPort x.up 20, state := 3 } := by
    rw [hR0]; unfold pReqA; rw [if_neg hlen]
  clear hR0
  have hp : bt (ofInts x.up) 20 * 256 + bt (ofInts x.up) (20 + 1) = pPort x.up 20 := by rw [hba, hbb]; rfl
  rw [← hba] at hga
  rw [← hbb] at hgb
  refine calls_of_z Try.func144 rfl Try.ntmps144 rfl h ?_; intro cs b' hb hk
  repeat (first | (refine st ?_) | (refine stx ?_) | (refine sb ?_) | (intro _))
  ((try (refine sg ?_)); refine zx_idxN (0) tab_ok rfl rfl rfl rfl rfl rfl (by first | omega | (simp only [IntKind.wrap_i64]; omega)) (by omega) ?_)
  repeat (first | (refine st ?_) | (refine stx ?_) | (refine sb ?_) | (intro _))
  ((try (refine sg ?_)); refine zx_idxN (2) tab_ok rfl rfl rfl rfl rfl rfl (by first | omega | (simp only [IntKind.wrap_i64]; omega)) (by omega) ?_)
  repeat (first | (refine st ?_) | (refine stx ?_) | (refine sb ?_) | (intro _))
  ((try (refine sg ?_)); refine zx_idxN (1) tab_ok rfl rfl rfl rfl rfl rfl (by first | omega | (simp only [IntKind.wrap_i64]; omega)) (by omega) ?_)
  repeat (first | (refine st ?_) | (refine stx ?_) | (refine sb ?_) | (intro _))
  ((try (refine sg ?_)); refine zx_idxN (3) tab_ok rfl rfl rfl rfl rfl rfl (by first | omega | (simp only [IntKind.wrap_i64]; omega)) (by omega) ?_)
  repeat (first | (refine st ?_) | (refine stx ?_) | (refine sb ?_) | (intro _))
  ((try (refine sg ?_)); refine zx_idxN (3) tab_ok rfl rfl rfl rfl rfl rfl (by first | omega | (simp only [IntKind.wrap_i64]; omega)) (by omega) ?_)
  repeat (first | (refine st ?_) | (refine stx ?_) | (refine sb ?_) | (intro _))
  ((try (refine sg ?_)); refine zx_idxN (3) tab_ok rfl rfl rfl rfl rfl rfl (by first | omega | (simp only [IntKind.wrap_i64]; omega)) (by omega) ?_)
  repeat (first | (refine st ?_) | (refine stx ?_) | (refine sb ?_) | (intro _))
  ((try (refine sg ?_)); refine zx_idxN (3) tab_ok rfl rfl rfl rfl rfl rfl (by first | omega | (simp only [IntKind.wrap_i64]; omega)) (by omega) ?_)
  repeat (first | (refine st ?_) | (refine stx ?_) | (refine sb ?_) | (intro _))
  ((try (refine sg ?_)); refine zx_idxN (3) tab_ok rfl rfl rfl rfl rfl rfl (by first | omega | (simp only [IntKind.wrap_i64]; omega)) (by omega) ?_)
  repeat (first | (refine st ?_) | (refine stx ?_) | (refine sb ?_) | (intro _))
  ((try (refine sg ?_)); (refine zx_sliceN (4 ) ( 4 + 16 ) tab_ok rfl rfl rfl rfl rfl rfl rfl (by first | rfl | omega | (simp only [IntKind.wrap_i64]; omega)) (by first | rfl | omega | (simp only [IntKind.wrap_i64]; omega)) (by omega) (by omega) ?_))
  refine zx_re 78 (.string bd) rfl (congrArg _ hbd) ?_
  repeat (first | (refine st ?_) | (refine stx ?_) | (refine sb ?_) | (intro _))
  ((try (refine sg ?_)); refine zx_idxN (20) tab_ok rfl rfl rfl rfl rfl rfl (by first | omega | (simp only [IntKind.wrap_i64]; omega)) (by omega) ?_)
  repeat (first | (refine st ?_) | (refine stx ?_) | (refine sb ?_) | (intro _))
  ((try (refine sg ?_)); refine zx_idxN (20 + 1) tab_ok rfl rfl rfl rfl rfl rfl (by first | omega | (simp only [IntKind.wrap_i64]; omega)) (by omega) ?_)
  refine st ?_
  refine st ?_
  refine zx_re 93 (.int .i64 (pPort x.up 20)) rfl (congrArg _ (by rw [wr64 (x := bt (ofInts x.up) (20 + 1)) (by omega) (by omega), wr64 (x := bt (ofInts x.up) 20) (by omega) (by omega), wr64 (x := bt (ofInts x.up) 20 * 256) (by omega) (by omega), wr64 (by omega) (by omega)]; exact hp)) ?_
  repeat (first | (refine st ?_) | (refine stx ?_) | (refine sb ?_) | (intro _))
  ((try (refine sg ?_)); (refine zx_sliceN (20 + 2 ) ( (ofInts x.up).size ) tab_ok rfl rfl rfl rfl rfl rfl rfl (by first | rfl | omega | (simp only [IntKind.wrap_i64]; omega)) (by first | rfl | omega | (simp only [IntKind.wrap_i64]; omega)) (by omega) (by omega) ?_))
  refine zx_re 100 (.string (ofInts (x.up.drop (20 + 2)))) rfl (congrArg _ hrest) ?_
  by_cases hpp : pPort x.up 20 = 0
  · rw [if_pos hpp] at hR
    rw [hR]
    repeat (first | (refine st ?_) | (refine stx ?_) | (refine sb ?_) | (intro _))
    refine zx_call (Y := Unit) (v := fun _ => .tuple #[]) (Φ := fun _ => True) (L' := fun _ => [] ++ pR b nv (pFail 1 (pEat x 20))) rfl fnc129 rfl rfl (fun w1 hm1 => RC.use (R := []) (failsR_any b nv (pEat x 20) 1 (by first | exact hd | (show x.down.length ≤ _; exact hd))) hm1) (fun _ _ => ?_)
    repeat (first | (refine st ?_) | (refine stx ?_) | (refine sb ?_) | (intro _))
    refine z_ret1 tab_ok Try.func144 hb hk Try.results144 (.tmp rfl) (fun w hm => ?_)
    exact ⟨rfl, hm⟩
  · rw [if_neg hpp] at hR
    repeat (first | (refine st ?_) | (refine stx ?_) | (refine sb ?_) | (intro _))
    rename_i k8
    ((try (refine sg ?_)); refine zx_idxN (3) tab_ok rfl rfl rfl rfl rfl rfl (by first | omega | (simp only [IntKind.wrap_i64]; omega)) (by omega) ?_)
    repeat (first | (refine st ?_) | (refine stx ?_) | (refine sb ?_) | (intro _))
    ((try (refine sg ?_)); (refine zx_call0 rfl fnc149 rfl rfl (fun w hm => From16R_any bd hbs w) ?_))
    repeat (first | (refine st ?_) | (refine stx ?_) | (refine sb ?_) | (intro _))
    rename_i k10
    refine z_re 9 (.bool true) rfl (congrArg _ (by rw [hb3, h3]; rfl)) ?_
    refine z_once ?_
    by_cases hn0 : 0 < ns.length
    · repeat (first | (refine st ?_) | (refine stx ?_) | (refine sb ?_) | (intro _))
      refine zx_re 126 (.slice na ns.length ncap) rfl hnv ?_
      repeat (first | (refine st ?_) | (refine stx ?_) | (refine sb ?_) | (intro _))
      ((try (refine sg ?_)); (refine zx_call0 rfl fnc150 rfl rfl (fun w hm => usualR_any (adr16 bd) w) ?_))
      by_cases hg : (adr16 bd).none = true ∨ (adr16 bd).group = true
      · have hU : (adr16 bd).usual = false := by
          unfold Adr.usual
          rcases hg with hg | hg <;> rw [hg] <;> simp
        rw [if_pos hg] at hR
        rw [hR]
        repeat (first | (refine st ?_) | (refine stx ?_) | (refine sb ?_) | (intro _))
        refine zx_call (Y := Unit) (v := fun _ => .tuple #[]) (Φ := fun _ => True) (L' := fun _ => [(k10, Blk.c (adr16 bd).cells 24 0 0), (k8, Blk.c (adr16 bd).cells 24 0 0)] ++ pR b nv (pFail 4 (pEat x 20))) rfl fnc129 rfl rfl (fun w1 hm1 => RC.use (R := [(k10, Blk.c (adr16 bd).cells 24 0 0), (k8, Blk.c (adr16 bd).cells 24 0 0)]) (failsR_any b nv (pEat x 20) 4 (by first | exact hd | (show x.down.length ≤ _; exact hd))) hm1) (fun _ _ => ?_)
        repeat (first | (refine st ?_) | (refine stx ?_) | (refine sb ?_) | (intro _))
        refine z_ret1 tab_ok Try.func144 hb hk Try.results144 (.tmp rfl) (fun w hm => ?_)
        exact ⟨rfl, hm.weaken (fun _ h => h) (List.Sublist.cons _ (List.Sublist.cons _ (List.Sublist.refl _)))⟩
      · have hU : (adr16 bd).usual = true := by
          unfold Adr.usual
          have h1 : (adr16 bd).none = false := by cases hh : (adr16 bd).none; rfl; exact absurd (.inl hh) hg
          have h2 : (adr16 bd).group = false := by cases hh : (adr16 bd).group; rfl; exact absurd (.inr hh) hg
          rw [adr16_valid, h1, h2]; rfl
        rw [if_neg hg] at hR
        rw [hR]
        repeat (first | (refine st ?_) | (refine stx ?_) | (refine sb ?_) | (intro _))
        refine z_ret1 tab_ok Try.func144 hb hk Try.results144 (.tmp rfl) (fun w hm => ?_)
        exact ⟨rfl, hm.weaken (fun _ h => h) (List.Sublist.cons _ (List.Sublist.cons _ (List.Sublist.refl _)))⟩
    · repeat (first | (refine st ?_) | (refine stx ?_) | (refine sb ?_) | (intro _))
      refine zx_re 126 (.slice na ns.length ncap) rfl hnv ?_
      repeat (first | (refine st ?_) | (refine stx ?_) | (refine sb ?_) | (intro _))
      ((try (refine sg ?_)); (refine zx_call0 rfl fnc150 rfl rfl (fun w hm => usualR_any (adr16 bd) w) ?_))
      by_cases hg : (adr16 bd).none = true ∨ (adr16 bd).group = true
      · have hU : (adr16 bd).usual = false := by
          unfold Adr.usual
          rcases hg with hg | hg <;> rw [hg] <;> simp
        rw [if_pos hg] at hR
        rw [hR]
        repeat (first | (refine st ?_) | (refine stx ?_) | (refine sb ?_) | (intro _))
        refine zx_call (Y := Unit) (v := fun _ => .tuple #[]) (Φ := fun _ => True) (L' := fun _ => [(k10, Blk.c (adr16 bd).cells 24 0 0), (k8, Blk.c (adr16 bd).cells 24 0 0)] ++ pR b nv (pFail 4 (pEat x 20))) rfl fnc129 rfl rfl (fun w1 hm1 => RC.use (R := [(k10, Blk.c (adr16 bd).cells 24 0 0), (k8, Blk.c (adr16 bd).cells 24 0 0)]) (failsR_any b nv (pEat x 20) 4 (by first | exact hd | (show x.down.length ≤ _; exact hd))) hm1) (fun _ _ => ?_)
        repeat (first | (refine st ?_) | (refine stx ?_) | (refine sb ?_) | (intro _))
        refine z_ret1 tab_ok Try.func144 hb hk Try.results144 (.tmp rfl) (fun w hm => ?_)
        exact ⟨rfl, hm.weaken (fun _ h => h) (List.Sublist.cons _ (List.Sublist.cons _ (List.Sublist.refl _)))⟩
      · have hU : (adr16 bd).usual = true := by
          unfold Adr.usual
          have h1 : (adr16 bd).none = false := by cases hh : (adr16 bd).none; rfl; exact absurd (.inl hh) hg
          have h2 : (adr16 bd).group = false := by cases hh : (adr16 bd).group; rfl; exact absurd (.inr hh) hg
          rw [adr16_valid, h1, h2]; rfl
        rw [if_neg hg] at hR
        rw [hR]
        repeat (first | (refine st ?_) | (refine stx ?_) | (refine sb ?_) | (intro _))
        refine z_ret1 tab_ok Try.func144 hb hk Try.results144 (.tmp rfl) (fun w hm => ?_)
        exact ⟨rfl, hm.weaken (fun _ h => h) (List.Sublist.cons _ (List.Sublist.cons _ (List.Sublist.refl _)))⟩

end Go.Proofs.Ytabcaiecoiejkaa
namespace Go.Proofs.Ytabcaiecoiejkaa
open Go K
structure Rn where
  i : Nat
  f : Option Adr
theorem nmAd_none {ns : List Nm} {bd : ByteArray} (h : ∀ j m, j < ns.length → ns[j]? = some m → m.name ≠ bd) : nmAd ns bd = none := by
  unfold nmAd
  have : ns.findIdx? (fun m => decide (m.name = bd)) = none := by
    rw [List.findIdx?_eq_none_iff]
    intro m hmm
    obtain ⟨j, hj⟩ := List.getElem?_of_mem hmm
    exact decide_eq_false (h j m (List.getElem?_eq_some_iff.1 hj).1 hj)
  rw [this]
theorem nmAd_some {ns : List Nm} {bd : ByteArray} {i : Nat} {m : Nm} (hi : ns[i]? = some m) (hm : m.name = bd) (h : ∀ j m, j < i → ns[j]? = some m → m.name ≠ bd) : nmAd ns bd = some m.ad := by
  unfold nmAd
  have hlt := (List.getElem?_eq_some_iff.1 hi).1
  have hge := (List.getElem?_eq_some_iff.1 hi).2
  have : ns.findIdx? (fun m => decide (m.name = bd)) = some i := by
    rw [List.findIdx?_eq_some_iff_getElem]
    refine ⟨hlt, by rw [hge]; exact decide_eq_true hm, fun j hj => ?_⟩
    have := h j ns[j] hj (List.getElem?_eq_getElem (by omega))
    simpa using this
  rw [this]
  simp only
  rw [List.getD_eq_getElem?_getD, hi]
  rfl
theorem requestR_3 (b : Nat) (na : Option Addr) (ncap : Nat) (ns : List Nm) (nv : Value) (hnv : nv = .slice na ns.length ncap) (x : Px) (hs : Small x.up) (hl : x.up.length ≤ 1000000) (hd : x.down.length ≤ 1000000) (h0 : x.up.getD 0 0 = 5) (h2 : x.up.getD 2 0 = 0) (h1 : x.up.getD 1 0 = 1) (h3 : x.up.getD 3 0 = 3) (h4 : 4 ≤ x.up.length) (w : World) (h : Mem w [b] (pR b nv x) w) (hnm : NmAt w [b] nv ns) : Calls Try.prog 144 [fP b 0].toArray w fun e w' => e = .returned (.bool (pReqN ns x).isSome) ∧ Mem w [b] (pR b nv ((pReqN ns x).getD x)) w' := by
  have hsz := ofInts_size x.up
  have hb0 := bt_ofIntsX x.up 0 hs
  have hb1 := bt_ofIntsX x.up 1 hs
  have hb2 := bt_ofIntsX x.up 2 hs
  have hb3 := bt_ofIntsX x.up 3 hs
  have hb4 := bt_ofIntsX x.up 4 hs
  have hR0 : pReqN ns x = if (pField x.up 4).2.2 = true ∧ (pField x.up 4).2.1 + 2 ≤ x.up.length then
      (if (pField x.up 4).1 = noX ∨ pPort x.up (pField x.up 4).2.1.toNat = 0 then some (pFail 1 (pEat x (pField x.up 4).2.1.toNat)) else some (pReqNm x (nmAd ns (pField x.up 4).1) (pField x.up 4).2.1.toNat))
    else none := by
    unfold pReqN
    rw [if_neg (by omega), if_neg (fun hh => hh.elim (fun hh => hh h0) (fun hh => hh h2)), if_neg (fun hh => hh h1), if_neg (by omega), if_neg (by omega), if_pos h3]
  by_cases h5 : x.up.length < 5
  · have hR : pReqN ns x = none := by
      rw [hR0, if_neg]
      intro hh
      have := (pField_ok hh.1).1
      omega
    rw [hR]
    refine calls_of_z Try.func144 rfl Try.ntmps144 rfl h ?_; intro cs b' hb hk
    repeat (first | (refine st ?_) | (refine stx ?_) | (refine sb ?_) | (intro _))
    ((try (refine sg ?_)); refine zx_idxN (0) tab_ok rfl rfl rfl rfl rfl rfl (by first | omega | (simp only [IntKind.wrap_i64]; omega)) (by omega) ?_)
    repeat (first | (refine st ?_) | (refine stx ?_) | (refine sb ?_) | (intro _))
    ((try (refine sg ?_)); refine zx_idxN (2) tab_ok rfl rfl rfl rfl rfl rfl (by first | omega | (simp only [IntKind.wrap_i64]; omega)) (by omega) ?_)
    repeat (first | (refine st ?_) | (refine stx ?_) | (refine sb ?_) | (intro _))
    ((try (refine sg ?_)); refine zx_idxN (1) tab_ok rfl rfl rfl rfl rfl rfl (by first | omega | (simp only [IntKind.wrap_i64]; omega)) (by omega) ?_)
    repeat (first | (refine st ?_) | (refine stx ?_) | (refine sb ?_) | (intro _))
    ((try (refine sg ?_)); refine zx_idxN (3) tab_ok rfl rfl rfl rfl rfl rfl (by first | omega | (simp only [IntKind.wrap_i64]; omega)) (by omega) ?_)
    repeat (first | (refine st ?_) | (refine stx ?_) | (refine sb ?_) | (intro _))
    ((try (refine sg ?_)); refine zx_idxN (3) tab_ok rfl rfl rfl rfl rfl rfl (by first | omega | (simp only [IntKind.wrap_i64]; omega)) (by omega) ?_)
    repeat (first | (refine st ?_) | (refine stx ?_) | (refine sb ?_) | (intro _))
    ((try (refine sg ?_)); refine zx_idxN (3) tab_ok rfl rfl rfl rfl rfl rfl (by first | omega | (simp only [IntKind.wrap_i64]; omega)) (by omega) ?_)
    repeat (first | (refine st ?_) | (refine stx ?_) | (refine sb ?_) | (intro _))
    ((try (refine sg ?_)); refine zx_idxN (3) tab_ok rfl rfl rfl rfl rfl rfl (by first | omega | (simp only [IntKind.wrap_i64]; omega)) (by omega) ?_)
    repeat (first | (refine st ?_) | (refine stx ?_) | (refine sb ?_) | (intro _))
    refine z_ret1 tab_ok Try.func144 hb hk Try.results144 (.tmp rfl) (fun w hm => ?_)
    exact ⟨rfl, hm⟩
  have hm0 := getD_small hs 4
  obtain ⟨m, hm⟩ : ∃ m : Nat, x.up.getD 4 0 = (m : Int) := ⟨(x.up.getD 4 0).toNat, by omega⟩
  by_cases hlen : x.up.length < 5 + m + 2
  · have hR : pReqN ns x = none := by
      rw [hR0, if_neg]
      intro hh
      have h6 := pField_ok hh.1
      have h7 := hh.2
      rw [h6.2.2, hm] at h7
      simp only at h7
      omega
    rw [hR]
    refine calls_of_z Try.func144 rfl Try.ntmps144 rfl h ?_; intro cs b' hb hk
    repeat (first | (refine st ?_) | (refine stx ?_) | (refine sb ?_) | (intro _))
    ((try (refine sg ?_)); refine zx_idxN (0) tab_ok rfl rfl rfl rfl rfl rfl (by first | omega | (simp only [IntKind.wrap_i64]; omega)) (by omega) ?_)
    repeat (first | (refine st ?_) | (refine stx ?_) | (refine sb ?_) | (intro _))
    ((try (refine sg ?_)); refine zx_idxN (2) tab_ok rfl rfl rfl rfl rfl rfl (by first | omega | (simp only [IntKind.wrap_i64]; omega)) (by omega) ?_)
    repeat (first | (refine st ?_) | (refine stx ?_) | (refine sb ?_) | (intro _))
    ((try (refine sg ?_)); refine zx_idxN (1) tab_ok rfl rfl rfl rfl rfl rfl (by first | omega | (simp only [IntKind.wrap_i64]; omega)) (by omega) ?_)
    repeat (first | (refine st ?_) | (refine stx ?_) | (refine sb ?_) | (intro _))
    ((try (refine sg ?_)); refine zx_idxN (3) tab_ok rfl rfl rfl rfl rfl rfl (by first | omega | (simp only [IntKind.wrap_i64]; omega)) (by omega) ?_)
    repeat (first | (refine st ?_) | (refine stx ?_) | (refine sb ?_) | (intro _))
    ((try (refine sg ?_)); refine zx_idxN (3) tab_ok rfl rfl rfl rfl rfl rfl (by first | omega | (simp only [IntKind.wrap_i64]; omega)) (by omega) ?_)
    repeat (first | (refine st ?_) | (refine stx ?_) | (refine sb ?_) | (intro _))
    ((try (refine sg ?_)); refine zx_idxN (3) tab_ok rfl rfl rfl rfl rfl rfl (by first | omega | (simp only [IntKind.wrap_i64]; omega)) (by omega) ?_)
    repeat (first | (refine st ?_) | (refine stx ?_) | (refine sb ?_) | (intro _))
    ((try (refine sg ?_)); refine zx_idxN (3) tab_ok rfl rfl rfl rfl rfl rfl (by first | omega | (simp only [IntKind.wrap_i64]; omega)) (by omega) ?_)
    repeat (first | (refine st ?_) | (refine stx ?_) | (refine sb ?_) | (intro _))
    ((try (refine sg ?_)); refine zx_idxN (4) tab_ok rfl rfl rfl rfl rfl rfl (by first | omega | (simp only [IntKind.wrap_i64]; omega)) (by omega) ?_)
    refine st ?_
    refine zx_re 65 (.int .i64 (m : Int)) rfl (congrArg _ (by rw [hb4, hm]; exact wr64 (by omega) (by omega))) ?_
    repeat (first | (refine st ?_) | (refine stx ?_) | (intro _))
    refine z_re 72 (.bool true) rfl (congrArg _ (decide_eq_true (by rw [wr64 (x := ((5 : Int) + (m : Int))) (by omega) (by omega), wr64 (by omega) (by omega)]; omega))) ?_
    repeat (first | (refine st ?_) | (refine stx ?_) | (refine sb ?_) | (intro _))
    refine z_ret1 tab_ok Try.func144 hb hk Try.results144 (.tmp rfl) (fun w hm => ?_)
    exact ⟨rfl, hm⟩
  have hF : pField x.up 4 = (ofInts ((x.up.drop 5).take m), ((5 + m : Nat) : Int), true) := by
    have hpf := pField_of (l := x.up) (a := 4) (by omega) (by omega)
    rw [hpf, hm]
    refine Prod.ext rfl (Prod.ext ?_ rfl)
    show ((4 : Nat) : Int) + 1 + (m : Int) = ((5 + m : Nat) : Int)
    omega
  rw [hF] at hR0
  simp only [Int.toNat_natCast] at hR0
  rw [if_pos ⟨trivial, by omega⟩] at hR0
  have hbd : (ofInts x.up).extract 5 (5 + m) = ofInts ((x.up.drop 5).take m) := by rw [ext_piece x.up hs, show 5 + m - 5 = m by omega]
  have hbz : ofInts ((x.up.drop 5).take m) = noX ↔ m = 0 := by
    constructor
    · intro hh
      have := congrArg ByteArray.size hh
      rw [ofInts_size, List.length_take, List.length_drop] at this
      have h9 : noX.size = 0 := rfl
      omega
    · intro hh; subst hh; rfl
  generalize ofInts ((x.up.drop 5).take m) = bd at hR0 hbd hbz
  obtain ⟨e, he⟩ : ∃ e : Nat, e = 5 + m := ⟨_, rfl⟩
  rw [← he] at hR0 hbd hlen
  have hba := bt_ofIntsX x.up e hs
  have hbb := bt_ofIntsX x.up (e + 1) hs
  have hga := getD_small hs e
  have hgb := getD_small hs (e + 1)
  have hrest := ext_rest x.up hs (e + 2)
  have hp : bt (ofInts x.up) e * 256 + bt (ofInts x.up) (e + 1) = pPort x.up e := by rw [hba, hbb]; rfl
  rw [← hba] at hga
  rw [← hbb] at hgb
  refine calls_of_z Try.func144 rfl Try.ntmps144 rfl h ?_; intro cs b' hb hk
  repeat (first | (refine st ?_) | (refine stx ?_) | (refine sb ?_) | (intro _))
  ((try (refine sg ?_)); refine zx_idxN (0) tab_ok rfl rfl rfl rfl rfl rfl (by first | omega | (simp only [IntKind.wrap_i64]; omega)) (by omega) ?_)
  repeat (first | (refine st ?_) | (refine stx ?_) | (refine sb ?_) | (intro _))
  ((try (refine sg ?_)); refine zx_idxN (2) tab_ok rfl rfl rfl rfl rfl rfl (by first | omega | (simp only [IntKind.wrap_i64]; omega)) (by omega) ?_)
  repeat (first | (refine st ?_) | (refine stx ?_) | (refine sb ?_) | (intro _))
  ((try (refine sg ?_)); refine zx_idxN (1) tab_ok rfl rfl rfl rfl rfl rfl (by first | omega | (simp only [IntKind.wrap_i64]; omega)) (by omega) ?_)
  repeat (first | (refine st ?_) | (refine stx ?_) | (refine sb ?_) | (intro _))
  ((try (refine sg ?_)); refine zx_idxN (3) tab_ok rfl rfl rfl rfl rfl rfl (by first | omega | (simp only [IntKind.wrap_i64]; omega)) (by omega) ?_)
  repeat (first | (refine st ?_) | (refine stx ?_) | (refine sb ?_) | (intro _))
  ((try (refine sg ?_)); refine zx_idxN (3) tab_ok rfl rfl rfl rfl rfl rfl (by first | omega | (simp only [IntKind.wrap_i64]; omega)) (by omega) ?_)
  repeat (first | (refine st ?_) | (refine stx ?_) | (refine sb ?_) | (intro _))
  ((try (refine sg ?_)); refine zx_idxN (3) tab_ok rfl rfl rfl rfl rfl rfl (by first | omega | (simp only [IntKind.wrap_i64]; omega)) (by omega) ?_)
  repeat (first | (refine st ?_) | (refine stx ?_) | (refine sb ?_) | (intro _))
  ((try (refine sg ?_)); refine zx_idxN (3) tab_ok rfl rfl rfl rfl rfl rfl (by first | omega | (simp only [IntKind.wrap_i64]; omega)) (by omega) ?_)
  repeat (first | (refine st ?_) | (refine stx ?_) | (refine sb ?_) | (intro _))
  ((try (refine sg ?_)); refine zx_idxN (4) tab_ok rfl rfl rfl rfl rfl rfl (by first | omega | (simp only [IntKind.wrap_i64]; omega)) (by omega) ?_)
  refine st ?_
  refine zx_re 65 (.int .i64 (m : Int)) rfl (congrArg _ (by rw [hb4, hm]; exact wr64 (by omega) (by omega))) ?_
  repeat (first | (refine st ?_) | (refine stx ?_) | (intro _))
  refine z_re 72 (.bool false) rfl (congrArg _ (decide_eq_false (by rw [wr64 (x := ((5 : Int) + (m : Int))) (by omega) (by omega), wr64 (by omega) (by omega)]; omega))) ?_
  repeat (first | (refine st ?_) | (refine stx ?_) | (refine sb ?_) | (intro _))
  refine zx_re 77 (.int .i64 (e : Int)) rfl (congrArg _ (by rw [wr64 (by omega) (by omega)]; omega)) ?_
  ((try (refine sg ?_)); (refine zx_sliceN (5 ) ( e ) tab_ok rfl rfl rfl rfl rfl rfl rfl (by first | rfl | omega | (simp only [IntKind.wrap_i64]; omega)) (by first | rfl | omega | (simp only [IntKind.wrap_i64]; omega)) (by omega) (by omega) ?_))
  refine zx_re 78 (.string bd) rfl (congrArg _ hbd) ?_
  repeat (first | (refine st ?_) | (refine stx ?_) | (refine sb ?_) | (intro _))
  refine zx_re 82 (.int .i64 (e : Int)) rfl (congrArg _ (by rw [wr64 (by omega) (by omega)]; omega)) ?_
  ((try (refine sg ?_)); refine zx_idxN (e) tab_ok rfl rfl rfl rfl rfl rfl (by first | omega | (simp only [IntKind.wrap_i64]; omega)) (by omega) ?_)
  repeat (first | (refine st ?_) | (refine stx ?_) | (refine sb ?_) | (intro _))
  refine zx_re 90 (.int .i64 ((e + 1 : Nat) : Int)) rfl (congrArg _ (by rw [wr64 (x := ((5 : Int) + (m : Int))) (by omega) (by omega), wr64 (by omega) (by omega)]; omega)) ?_
  ((try (refine sg ?_)); refine zx_idxN (e + 1) tab_ok rfl rfl rfl rfl rfl rfl (by first | omega | (simp only [IntKind.wrap_i64]; omega)) (by omega) ?_)
  refine st ?_
  refine st ?_
  refine zx_re 93 (.int .i64 (pPort x.up e)) rfl (congrArg _ (by rw [wr64 (x := bt (ofInts x.up) (e + 1)) (by omega) (by omega), wr64 (x := bt (ofInts x.up) e) (by omega) (by omega), wr64 (x := bt (ofInts x.up) e * 256) (by omega) (by omega), wr64 (by omega) (by omega)]; exact hp)) ?_
  repeat (first | (refine st ?_) | (refine stx ?_) | (refine sb ?_) | (intro _))
  refine zx_re 99 (.int .i64 ((e + 2 : Nat) : Int)) rfl (congrArg _ (by rw [wr64 (x := ((5 : Int) + (m : Int))) (by omega) (by omega), wr64 (by omega) (by omega)]; omega)) ?_
  ((try (refine sg ?_)); (refine zx_sliceN (e + 2 ) ( (ofInts x.up).size ) tab_ok rfl rfl rfl rfl rfl rfl rfl (by first | rfl | omega | (simp only [IntKind.wrap_i64]; omega)) (by first | rfl | omega | (simp only [IntKind.wrap_i64]; omega)) (by omega) (by omega) ?_))
  refine zx_re 100 (.string (ofInts (x.up.drop (e + 2)))) rfl (congrArg _ hrest) ?_
  by_cases hm0 : m = 0
  · have hR : pReqN ns x = some (pFail 1 (pEat x e)) := by rw [hR0, if_pos (.inl (hbz.2 hm0))]
    rw [hR]
    repeat (first | (refine st ?_) | (refine stx ?_) | (refine sb ?_) | (intro _))
    refine zx_call (Y := Unit) (v := fun _ => .tuple #[]) (Φ := fun _ => True) (L' := fun _ => [] ++ pR b nv (pFail 1 (pEat x e))) rfl fnc129 rfl rfl (fun w1 hm1 => RC.use (R := []) (failsR_any b nv (pEat x e) 1 (by first | exact hd | (show x.down.length ≤ _; exact hd))) hm1) (fun _ _ => ?_)
    repeat (first | (refine st ?_) | (refine stx ?_) | (refine sb ?_) | (intro _))
    refine z_ret1 tab_ok Try.func144 hb hk Try.results144 (.tmp rfl) (fun w hm => ?_)
    exact ⟨rfl, hm⟩
  by_cases hpp : pPort x.up e = 0
  · have hR : pReqN ns x = some (pFail 1 (pEat x e)) := by rw [hR0, if_pos (.inr hpp)]
    rw [hR]
    repeat (first | (refine st ?_) | (refine stx ?_) | (refine sb ?_) | (intro _))
    refine zx_call (Y := Unit) (v := fun _ => .tuple #[]) (Φ := fun _ => True) (L' := fun _ => [] ++ pR b nv (pFail 1 (pEat x e))) rfl fnc129 rfl rfl (fun w1 hm1 => RC.use (R := []) (failsR_any b nv (pEat x e) 1 (by first | exact hd | (show x.down.length ≤ _; exact hd))) hm1) (fun _ _ => ?_)
    repeat (first | (refine st ?_) | (refine stx ?_) | (refine sb ?_) | (intro _))
    refine z_ret1 tab_ok Try.func144 hb hk Try.results144 (.tmp rfl) (fun w hm => ?_)
    exact ⟨rfl, hm⟩
  have hR1 : pReqN ns x = some (pReqNm x (nmAd ns bd) e) := by rw [hR0, if_neg (fun hh => hh.elim (fun hh => hm0 (hbz.1 hh)) hpp)]
  clear hR0
  obtain ⟨a', nb, off, cap', hnv', hna, hnl, hnc⟩ := hnm
  rw [hnv] at hnv'
  obtain ⟨rfl, rfl⟩ : na = a' ∧ ncap = cap' := by cases hnv'; exact ⟨rfl, rfl⟩
  repeat (first | (refine st ?_) | (refine stx ?_) | (refine sb ?_) | (intro _))
  rename_i k8
  ((try (refine sg ?_)); refine zx_idxN (3) tab_ok rfl rfl rfl rfl rfl rfl (by first | omega | (simp only [IntKind.wrap_i64]; omega)) (by omega) ?_)
  repeat (first | (refine st ?_) | (refine stx ?_) | (refine sb ?_) | (intro _))
  refine z_re 9 (.bool false) rfl (congrArg _ (by rw [hb3, h3]; rfl)) ?_
  repeat (first | (refine st ?_) | (refine stx ?_) | (refine sb ?_) | (intro _))
  refine z_loop (fun g : Rn => g.i ≤ ns.length ∧ (g.f = none → ∀ j m, j < g.i → ns[j]? = some m → m.name ≠ bd) ∧ (∀ a, g.f = some a → nmAd ns bd = some a)) (fun g => [(0, fP b 0), (3, .string (ofInts x.up)), (6, .string bd), (7, .int .i64 (pPort x.up e)), (8, .pointer (some ⟨k8, 0, none⟩)), (9, .bool g.f.isSome), (12, .int .i64 (g.i : Int))]) (fun g => (k8, .c (g.f.getD adr0).cells 24 0 0) :: pR b nv (pEat x e)) (fun g => ns.length - g.i) ⟨0, none⟩ ⟨Nat.zero_le _, fun _ j m hj => absurd hj (Nat.not_lt_zero _), fun a ha => by cases ha⟩ ⟨rfl, rfl, rfl, rfl, rfl, rfl, rfl, trivial⟩ (List.Sublist.refl _) ?_
  intro g hg ih
  obtain ⟨i, f⟩ := g
  obtain ⟨gi, gn, gs⟩ := hg
  simp only at gi gn gs
  by_cases hlt : i < ns.length
  · cases f with
    | some a =>
      have hR : pReqN ns x = some (if a.valid = true ∧ a.none = false ∧ a.group = false then { pEat x e with ta := a, tp := pPort x.up e, state := 3 } else pFail 4 (pEat x e)) := by rw [hR1, gs a rfl]; rfl
      refine z_weaken [(0, fP b 0), (3, .string (ofInts x.up)), (6, .string bd), (7, .int .i64 (pPort x.up e)), (8, .pointer (some ⟨k8, 0, none⟩)), (9, .bool true), (12, .int .i64 (i : Int))] ((k8, .c a.cells 24 0 0) :: pR b nv (pEat x e)) ⟨rfl, rfl, rfl, rfl, rfl, rfl, rfl, trivial⟩ (List.Sublist.refl _) (fun _ h => h) ?_
      repeat (first | (refine st ?_) | (refine stx ?_) | (refine sb ?_) | (intro _))
      refine zx_re 126 (.slice na ns.length ncap) rfl hnv ?_
      repeat (first | (refine st ?_) | (refine stx ?_) | (refine sb ?_) | (intro _))
      ((try (refine sg ?_)); (refine zx_call0 rfl fnc150 rfl rfl (fun w hm => usualR_any a w) ?_))
      by_cases hg : a.valid = true ∧ a.none = false ∧ a.group = false
      · have hU : a.usual = true := by
          unfold Adr.usual
          rw [hg.1, hg.2.1, hg.2.2]; rfl
        rw [if_pos hg] at hR
        rw [hR]
        repeat (first | (refine st ?_) | (refine stx ?_) | (refine sb ?_) | (intro _))
        refine z_ret1 tab_ok Try.func144 hb hk Try.results144 (.tmp rfl) (fun w hm => ?_)
        exact ⟨rfl, hm.weaken (fun _ h => h) (List.Sublist.cons _ (List.Sublist.refl _))⟩
      · have hU : a.usual = false := by
          unfold Adr.usual
          cases h1 : a.valid <;> cases h2 : a.none <;> cases h3 : a.group <;> first | rfl | exact absurd ⟨h1, h2, h3⟩ hg
        rw [if_neg hg] at hR
        rw [hR]
        repeat (first | (refine st ?_) | (refine stx ?_) | (refine sb ?_) | (intro _))
        refine zx_call (Y := Unit) (v := fun _ => .tuple #[]) (Φ := fun _ => True) (L' := fun _ => [(k8, Blk.c a.cells 24 0 0)] ++ pR b nv (pFail 4 (pEat x e))) rfl fnc129 rfl rfl (fun w1 hm1 => RC.use (R := [(k8, Blk.c a.cells 24 0 0)]) (failsR_any b nv (pEat x e) 4 (by first | exact hd | (show x.down.length ≤ _; exact hd))) hm1) (fun _ _ => ?_)
        repeat (first | (refine st ?_) | (refine stx ?_) | (refine sb ?_) | (intro _))
        refine z_ret1 tab_ok Try.func144 hb hk Try.results144 (.tmp rfl) (fun w hm => ?_)
        exact ⟨rfl, hm.weaken (fun _ h => h) (List.Sublist.cons _ (List.Sublist.refl _))⟩
    | none =>
      refine z_weaken [(0, fP b 0), (3, .string (ofInts x.up)), (6, .string bd), (7, .int .i64 (pPort x.up e)), (8, .pointer (some ⟨k8, 0, none⟩)), (9, .bool false), (12, .int .i64 (i : Int))] ((k8, .c adr0.cells 24 0 0) :: pR b nv (pEat x e)) ⟨rfl, rfl, rfl, rfl, rfl, rfl, rfl, trivial⟩ (List.Sublist.refl _) (fun _ h => h) ?_
      obtain ⟨m1, hm1⟩ : ∃ m1, ns[i]? = some m1 := ⟨ns[i], by simp [hlt]⟩
      have hmc := hnc i m1 hm1
      have hae : na = some ⟨nb, off, none⟩ ∧ nb ∉ [b] := by
        rcases hna with hh | hh
        · subst hh; exact absurd hlt (Nat.not_lt_zero _)
        · exact hh
      obtain ⟨rfl, hnb⟩ := hae
      repeat (first | (refine st ?_) | (refine stx ?_) | (refine sb ?_) | (intro _))
      refine zx_re 126 (.slice (some ⟨nb, off, none⟩) ns.length ncap) rfl hnv ?_
      repeat (first | (refine st ?_) | (refine stx ?_) | (refine sb ?_) | (intro _))
      refine zx_re 139 (.slice (some ⟨nb, off, none⟩) ns.length ncap) rfl hnv ?_
      repeat (first | (refine st ?_) | (refine stx ?_) | (refine sb ?_) | (intro _))
      refine zx_idxA (sz := i * 18) tab_ok rfl rfl rfl rfl rfl rfl (by omega) (by omega) (by simp) ?_
      repeat (first | (refine st ?_) | (refine stx ?_) | (refine sb ?_) | (intro _))
      refine zx_loadB (v := .string m1.name) tab_ok rfl rfl rfl rfl (hmc 0 _ rfl) hnb rfl ?_
      by_cases hq : m1.name = bd
      · have hqd : decide (m1.name = bd) = true := decide_eq_true hq
        have hfound := nmAd_some hm1 hq (gn rfl)
        clear hq
        repeat (first | (refine st ?_) | (refine stx ?_) | (refine sb ?_) | (intro _))
        refine zx_re 150 (.slice (some ⟨nb, off, none⟩) ns.length ncap) rfl hnv ?_
        repeat (first | (refine st ?_) | (refine stx ?_) | (refine sb ?_) | (intro _))
        refine zx_idxA (sz := i * 18) tab_ok rfl rfl rfl rfl rfl rfl (by omega) (by omega) (by simp) ?_
        repeat (first | (refine st ?_) | (refine stx ?_) | (refine sb ?_) | (intro _))
        refine zx_loadBA tab_ok m1.ad.cells rfl rfl rfl rfl (fun j u hu => by have := hmc (j + 1) u hu; rw [← Nat.add_assoc, Nat.add_right_comm] at this; exact this) hnb rfl rfl ?_
        repeat (first | (refine st ?_) | (refine stx ?_) | (refine sb ?_) | (intro _))
        refine z_weaken _ _ ?_ ?_ (fun _ h => h) (ih ⟨i + 1, some m1.ad⟩ ⟨hlt, fun hh => (by cases hh), fun a ha => by cases ha; exact hfound⟩ (by show ns.length - (i + 1) < ns.length - i; omega))
        · exact ⟨rfl, rfl, rfl, rfl, rfl, rfl, congrArg (fun x => some (Value.int .i64 x)) (wr64 (by omega) (by omega)), trivial⟩
        · exact List.Sublist.refl _
      · have hqd : decide (m1.name = bd) = false := decide_eq_false hq
        repeat (first | (refine st ?_) | (refine stx ?_) | (refine sb ?_) | (intro _))
        refine z_weaken _ _ ?_ ?_ (fun _ h => h) (ih ⟨i + 1, none⟩ ⟨hlt, fun _ j g hj hg => by
          have hj : j < i + 1 := hj
          by_cases hji : j = i
          · subst hji; rw [hm1] at hg; cases hg; exact hq
          · exact gn rfl j g (by omega) hg, fun a ha => by cases ha⟩ (by show ns.length - (i + 1) < ns.length - i; omega))
        · exact ⟨rfl, rfl, rfl, rfl, rfl, rfl, congrArg (fun x => some (Value.int .i64 x)) (wr64 (by omega) (by omega)), trivial⟩
        · exact List.Sublist.refl _
  · cases f with
    | some a =>
      have hR : pReqN ns x = some (if a.valid = true ∧ a.none = false ∧ a.group = false then { pEat x e with ta := a, tp := pPort x.up e, state := 3 } else pFail 4 (pEat x e)) := by rw [hR1, gs a rfl]; rfl
      refine z_weaken [(0, fP b 0), (3, .string (ofInts x.up)), (6, .string bd), (7, .int .i64 (pPort x.up e)), (8, .pointer (some ⟨k8, 0, none⟩)), (9, .bool true), (12, .int .i64 (i : Int))] ((k8, .c a.cells 24 0 0) :: pR b nv (pEat x e)) ⟨rfl, rfl, rfl, rfl, rfl, rfl, rfl, trivial⟩ (List.Sublist.refl _) (fun _ h => h) ?_
      repeat (first | (refine st ?_) | (refine stx ?_) | (refine sb ?_) | (intro _))
      refine zx_re 126 (.slice na ns.length ncap) rfl hnv ?_
      repeat (first | (refine st ?_) | (refine stx ?_) | (refine sb ?_) | (intro _))
      ((try (refine sg ?_)); (refine zx_call0 rfl fnc150 rfl rfl (fun w hm => usualR_any a w) ?_))
      by_cases hg : a.valid = true ∧ a.none = false ∧ a.group = false
      · have hU : a.usual = true := by
          unfold Adr.usual
          rw [hg.1, hg.2.1, hg.2.2]; rfl
        rw [if_pos hg] at hR
        rw [hR]
        repeat (first | (refine st ?_) | (refine stx ?_) | (refine sb ?_) | (intro _))
        refine z_ret1 tab_ok Try.func144 hb hk Try.results144 (.tmp rfl) (fun w hm => ?_)
        exact ⟨rfl, hm.weaken (fun _ h => h) (List.Sublist.cons _ (List.Sublist.refl _))⟩
      · have hU : a.usual = false := by
          unfold Adr.usual
          cases h1 : a.valid <;> cases h2 : a.none <;> cases h3 : a.group <;> first | rfl | exact absurd ⟨h1, h2, h3⟩ hg
        rw [if_neg hg] at hR
        rw [hR]
        repeat (first | (refine st ?_) | (refine stx ?_) | (refine sb ?_) | (intro _))
        refine zx_call (Y := Unit) (v := fun _ => .tuple #[]) (Φ := fun _ => True) (L' := fun _ => [(k8, Blk.c a.cells 24 0 0)] ++ pR b nv (pFail 4 (pEat x e))) rfl fnc129 rfl rfl (fun w1 hm1 => RC.use (R := [(k8, Blk.c a.cells 24 0 0)]) (failsR_any b nv (pEat x e) 4 (by first | exact hd | (show x.down.length ≤ _; exact hd))) hm1) (fun _ _ => ?_)
        repeat (first | (refine st ?_) | (refine stx ?_) | (refine sb ?_) | (intro _))
        refine z_ret1 tab_ok Try.func144 hb hk Try.results144 (.tmp rfl) (fun w hm => ?_)
        exact ⟨rfl, hm.weaken (fun _ h => h) (List.Sublist.cons _ (List.Sublist.refl _))⟩
    | none =>
      have hR : pReqN ns x = some (pFail 4 (pEat x e)) := by rw [hR1, nmAd_none (fun j m hj => gn rfl j m (by omega))]; rfl
      rw [hR]
      refine z_weaken [(0, fP b 0), (3, .string (ofInts x.up)), (6, .string bd), (7, .int .i64 (pPort x.up e)), (8, .pointer (some ⟨k8, 0, none⟩)), (9, .bool false), (12, .int .i64 (i : Int))] ((k8, .c adr0.cells 24 0 0) :: pR b nv (pEat x e)) ⟨rfl, rfl, rfl, rfl, rfl, rfl, rfl, trivial⟩ (List.Sublist.refl _) (fun _ h => h) ?_
      repeat (first | (refine st ?_) | (refine stx ?_) | (refine sb ?_) | (intro _))
      refine zx_re 126 (.slice na ns.length ncap) rfl hnv ?_
      repeat (first | (refine st ?_) | (refine stx ?_) | (refine sb ?_) | (intro _))
      ((try (refine sg ?_)); (refine zx_call0 rfl fnc150 rfl rfl (fun w hm => usualR_any adr0 w) ?_))
      repeat (first | (refine st ?_) | (refine stx ?_) | (refine sb ?_) | (intro _))
      refine zx_call (Y := Unit) (v := fun _ => .tuple #[]) (Φ := fun _ => True) (L' := fun _ => [(k8, Blk.c adr0.cells 24 0 0)] ++ pR b nv (pFail 4 (pEat x e))) rfl fnc129 rfl rfl (fun w1 hm1 => RC.use (R := [(k8, Blk.c adr0.cells 24 0 0)]) (failsR_any b nv (pEat x e) 4 (by first | exact hd | (show x.down.length ≤ _; exact hd))) hm1) (fun _ _ => ?_)
      repeat (first | (refine st ?_) | (refine stx ?_) | (refine sb ?_) | (intro _))
      refine z_ret1 tab_ok Try.func144 hb hk Try.results144 (.tmp rfl) (fun w hm => ?_)
      exact ⟨rfl, hm.weaken (fun _ h => h) (List.Sublist.cons _ (List.Sublist.refl _))⟩

end Go.Proofs.Ytabcaiecoiejkaa
namespace Go.Proofs.Ytabcaiecoiejkaa
open Go K

/-- a method that also reads the names -/
theorem RCN.use {f : Nat} {args : List Value} {b : Nat} {nv : Value} {ns : List Nm} {x x' : Px} {v : Value} (h : ∀ w, Mem w [b] (pR b nv x) w → NmAt w [b] nv ns → Calls Try.prog f args.toArray w fun e w' => e = .returned v ∧ Mem w [b] (pR b nv x') w') {w0 w : World} {ks : List Nat} {R : Mm} (hm : Mem w0 ks (R ++ pR b nv x) w) (hn : NmAt w [b] nv ns) :
    Calls Try.prog f args.toArray w fun e w' => ∃ y : Unit, True ∧ e = .returned v ∧ Mem w0 ks (R ++ pR b nv x') w' := by
  have hm2 := hm.perm (L' := pR b nv x ++ R) List.perm_append_comm
  refine (h w (Mem.now (S := pR b nv x) (R := R) hm2) hn).mono fun e w' ⟨he, hm'⟩ => ⟨(), trivial, he, ?_⟩
  exact (Mem.call (S := pR b nv x) (S' := pR b nv x') (R := R) hm2 hm').perm List.perm_append_comm
theorem requestR_any (b : Nat) (na : Option Addr) (ncap : Nat) (ns : List Nm) (nv : Value) (hnv : nv = .slice na ns.length ncap) (x : Px) (hs : Small x.up) (hl : x.up.length ≤ 1000000) (hd : x.down.length ≤ 1000000) (w : World) (h : Mem w [b] (pR b nv x) w) (hnm : NmAt w [b] nv ns) : Calls Try.prog 144 [fP b 0].toArray w fun e w' => e = .returned (.bool (pReqN ns x).isSome) ∧ Mem w [b] (pR b nv ((pReqN ns x).getD x)) w' := by
  have hsz := ofInts_size x.up
  have hb0 := bt_ofIntsX x.up 0 hs
  have hb1 := bt_ofIntsX x.up 1 hs
  have hb2 := bt_ofIntsX x.up 2 hs
  have hb3 := bt_ofIntsX x.up 3 hs
  by_cases h4 : x.up.length < 4
  · have hR : pReqN ns x = none := by unfold pReqN; rw [if_pos h4]
    rw [hR]
    refine calls_of_z Try.func144 rfl Try.ntmps144 rfl h ?_; intro cs b' hb hk
    repeat (first | (refine st ?_) | (refine stx ?_) | (refine sb ?_) | (intro _))
    refine z_ret1 tab_ok Try.func144 hb hk Try.results144 (.tmp rfl) (fun w hm => ?_)
    exact ⟨rfl, hm⟩
  by_cases h0 : x.up.getD 0 0 = 5
  · by_cases h2 : x.up.getD 2 0 = 0
    · by_cases h1 : x.up.getD 1 0 = 1
      · by_cases k1 : x.up.getD 3 0 = 1
        · exact requestR_1 b na ncap ns nv hnv x hs hl hd h0 h2 h1 k1 (by omega) w h
        by_cases k4 : x.up.getD 3 0 = 4
        · exact requestR_4 b na ncap ns nv hnv x hs hl hd h0 h2 h1 k4 (by omega) w h
        by_cases k3 : x.up.getD 3 0 = 3
        · exact requestR_3 b na ncap ns nv hnv x hs hl hd h0 h2 h1 k3 (by omega) w h hnm
        have hR : pReqN ns x = some (pFail 8 x) := by
          unfold pReqN
          rw [if_neg h4, if_neg (fun hh => hh.elim (fun hh => hh h0) (fun hh => hh h2)), if_neg (fun hh => hh h1), if_neg k1, if_neg k4, if_neg k3]
        rw [hR]
        refine calls_of_z Try.func144 rfl Try.ntmps144 rfl h ?_; intro cs b' hb hk
        repeat (first | (refine st ?_) | (refine stx ?_) | (refine sb ?_) | (intro _))
        ((try (refine sg ?_)); refine zx_idxN (0) tab_ok rfl rfl rfl rfl rfl rfl (by first | omega | (simp only [IntKind.wrap_i64]; omega)) (by omega) ?_)
        repeat (first | (refine st ?_) | (refine stx ?_) | (refine sb ?_) | (intro _))
        ((try (refine sg ?_)); refine zx_idxN (2) tab_ok rfl rfl rfl rfl rfl rfl (by first | omega | (simp only [IntKind.wrap_i64]; omega)) (by omega) ?_)
        repeat (first | (refine st ?_) | (refine stx ?_) | (refine sb ?_) | (intro _))
        ((try (refine sg ?_)); refine zx_idxN (1) tab_ok rfl rfl rfl rfl rfl rfl (by first | omega | (simp only [IntKind.wrap_i64]; omega)) (by omega) ?_)
        repeat (first | (refine st ?_) | (refine stx ?_) | (refine sb ?_) | (intro _))
        ((try (refine sg ?_)); refine zx_idxN (3) tab_ok rfl rfl rfl rfl rfl rfl (by first | omega | (simp only [IntKind.wrap_i64]; omega)) (by omega) ?_)
        repeat (first | (refine st ?_) | (refine stx ?_) | (refine sb ?_) | (intro _))
        ((try (refine sg ?_)); refine zx_idxN (3) tab_ok rfl rfl rfl rfl rfl rfl (by first | omega | (simp only [IntKind.wrap_i64]; omega)) (by omega) ?_)
        repeat (first | (refine st ?_) | (refine stx ?_) | (refine sb ?_) | (intro _))
        ((try (refine sg ?_)); refine zx_idxN (3) tab_ok rfl rfl rfl rfl rfl rfl (by first | omega | (simp only [IntKind.wrap_i64]; omega)) (by omega) ?_)
        repeat (first | (refine st ?_) | (refine stx ?_) | (refine sb ?_) | (intro _))
        refine zx_call (Y := Unit) (v := fun _ => .tuple #[]) (Φ := fun _ => True) (L' := fun _ => [] ++ pR b nv (pFail 8 (x))) rfl fnc129 rfl rfl (fun w1 hm1 => RC.use (R := []) (failsR_any b nv (x) 8 (by first | exact hd | (show x.down.length ≤ _; exact hd))) hm1) (fun _ _ => ?_)
        repeat (first | (refine st ?_) | (refine stx ?_) | (refine sb ?_) | (intro _))
        refine z_ret1 tab_ok Try.func144 hb hk Try.results144 (.tmp rfl) (fun w hm => ?_)
        exact ⟨rfl, hm⟩
      · have hR : pReqN ns x = some (pFail 7 x) := by
          unfold pReqN
          rw [if_neg h4, if_neg (fun hh => hh.elim (fun hh => hh h0) (fun hh => hh h2)), if_pos h1]
        rw [hR]
        refine calls_of_z Try.func144 rfl Try.ntmps144 rfl h ?_; intro cs b' hb hk
        repeat (first | (refine st ?_) | (refine stx ?_) | (refine sb ?_) | (intro _))
        ((try (refine sg ?_)); refine zx_idxN (0) tab_ok rfl rfl rfl rfl rfl rfl (by first | omega | (simp only [IntKind.wrap_i64]; omega)) (by omega) ?_)
        repeat (first | (refine st ?_) | (refine stx ?_) | (refine sb ?_) | (intro _))
        ((try (refine sg ?_)); refine zx_idxN (2) tab_ok rfl rfl rfl rfl rfl rfl (by first | omega | (simp only [IntKind.wrap_i64]; omega)) (by omega) ?_)
        repeat (first | (refine st ?_) | (refine stx ?_) | (refine sb ?_) | (intro _))
        ((try (refine sg ?_)); refine zx_idxN (1) tab_ok rfl rfl rfl rfl rfl rfl (by first | omega | (simp only [IntKind.wrap_i64]; omega)) (by omega) ?_)
        repeat (first | (refine st ?_) | (refine stx ?_) | (refine sb ?_) | (intro _))
        refine zx_call (Y := Unit) (v := fun _ => .tuple #[]) (Φ := fun _ => True) (L' := fun _ => [] ++ pR b nv (pFail 7 (x))) rfl fnc129 rfl rfl (fun w1 hm1 => RC.use (R := []) (failsR_any b nv (x) 7 (by first | exact hd | (show x.down.length ≤ _; exact hd))) hm1) (fun _ _ => ?_)
        repeat (first | (refine st ?_) | (refine stx ?_) | (refine sb ?_) | (intro _))
        refine z_ret1 tab_ok Try.func144 hb hk Try.results144 (.tmp rfl) (fun w hm => ?_)
        exact ⟨rfl, hm⟩
    · have hR : pReqN ns x = some (pFail 1 x) := by
        unfold pReqN
        rw [if_neg h4, if_pos (.inr h2)]
      rw [hR]
      refine calls_of_z Try.func144 rfl Try.ntmps144 rfl h ?_; intro cs b' hb hk
      repeat (first | (refine st ?_) | (refine stx ?_) | (refine sb ?_) | (intro _))
      ((try (refine sg ?_)); refine zx_idxN (0) tab_ok rfl rfl rfl rfl rfl rfl (by first | omega | (simp only [IntKind.wrap_i64]; omega)) (by omega) ?_)
      repeat (first | (refine st ?_) | (refine stx ?_) | (refine sb ?_) | (intro _))
      ((try (refine sg ?_)); refine zx_idxN (2) tab_ok rfl rfl rfl rfl rfl rfl (by first | omega | (simp only [IntKind.wrap_i64]; omega)) (by omega) ?_)
      repeat (first | (refine st ?_) | (refine stx ?_) | (refine sb ?_) | (intro _))
      refine zx_call (Y := Unit) (v := fun _ => .tuple #[]) (Φ := fun _ => True) (L' := fun _ => [] ++ pR b nv (pFail 1 (x))) rfl fnc129 rfl rfl (fun w1 hm1 => RC.use (R := []) (failsR_any b nv (x) 1 (by first | exact hd | (show x.down.length ≤ _; exact hd))) hm1) (fun _ _ => ?_)
      repeat (first | (refine st ?_) | (refine stx ?_) | (refine sb ?_) | (intro _))
      refine z_ret1 tab_ok Try.func144 hb hk Try.results144 (.tmp rfl) (fun w hm => ?_)
      exact ⟨rfl, hm⟩
  · have hR : pReqN ns x = some (pFail 1 x) := by
      unfold pReqN
      rw [if_neg h4, if_pos (.inl h0)]
    rw [hR]
    refine calls_of_z Try.func144 rfl Try.ntmps144 rfl h ?_; intro cs b' hb hk
    repeat (first | (refine st ?_) | (refine stx ?_) | (refine sb ?_) | (intro _))
    ((try (refine sg ?_)); refine zx_idxN (0) tab_ok rfl rfl rfl rfl rfl rfl (by first | omega | (simp only [IntKind.wrap_i64]; omega)) (by omega) ?_)
    repeat (first | (refine st ?_) | (refine stx ?_) | (refine sb ?_) | (intro _))
    refine zx_call (Y := Unit) (v := fun _ => .tuple #[]) (Φ := fun _ => True) (L' := fun _ => [] ++ pR b nv (pFail 1 (x))) rfl fnc129 rfl rfl (fun w1 hm1 => RC.use (R := []) (failsR_any b nv (x) 1 (by first | exact hd | (show x.down.length ≤ _; exact hd))) hm1) (fun _ _ => ?_)
    repeat (first | (refine st ?_) | (refine stx ?_) | (refine sb ?_) | (intro _))
    refine z_ret1 tab_ok Try.func144 hb hk Try.results144 (.tmp rfl) (fun w hm => ?_)
    exact ⟨rfl, hm⟩
theorem goesR_any (b : Nat) (na : Option Addr) (ncap : Nat) (ns : List Nm) (nv : Value) (hnv : nv = .slice na ns.length ncap) (x : Px) (hs : Small x.up) (hl : x.up.length ≤ 1000000) (hd : x.down.length ≤ 900000) (hst : x.state = 0 ∨ x.state = 1 ∨ x.state = 2 ∨ 3 ≤ x.state) (w : World) (h : Mem w [b] (pR b nv x) w) (hnm : NmAt w [b] nv ns) :
    Calls Try.prog 127 [fP b 0].toArray w fun e w' => e = .returned (.tuple #[]) ∧ Mem w [b] (pR b nv (pRunN ns x)) w' := by
  have hr3 := pRank3 x
  refine calls_of_z Try.func127 rfl Try.ntmps127 rfl h ?_; intro cs b' hb hk
  repeat (first | (refine sn ?_) | (refine stx ?_) | (refine sb ?_) | (intro _))
  refine z_loop (fun g : Px × Bool => Small g.1.up ∧ g.1.up.length ≤ 1000000 ∧ g.1.down.length + 20 * pRankN g.1 ≤ 950000 ∧ (g.1.state = 0 ∨ g.1.state = 1 ∨ g.1.state = 2 ∨ 3 ≤ g.1.state) ∧ pRunN ns g.1 = pRunN ns x ∧ (g.2 = false → pStepN ns g.1 = none))
    (fun g => [(0, fP b 0), (2, .bool g.2)]) (fun g => pR b nv g.1) (fun g => 2 * pRankN g.1 + g.2.toNat) (x, true) ⟨hs, hl, by show x.down.length + 20 * pRankN x ≤ _; omega, hst, rfl, fun hh => by cases hh⟩ ⟨rfl, rfl, trivial⟩ (List.Sublist.refl _) ?_
  intro g hgg ih
  obtain ⟨z, ag⟩ := g
  obtain ⟨q2, q3, q4, q7, q8, q9⟩ := hgg
  simp only at q2 q3 q4 q7 q8 q9
  cases ag with
  | false =>
    have hR : pRunN ns z = z := pRunN_none (q9 rfl)
    refine z_weaken [(0, fP b 0), (2, .bool false)] (pR b nv z) ⟨rfl, rfl, trivial⟩ (List.Sublist.refl _) (fun _ h => h) ?_
    repeat (first | (refine st ?_) | (refine stx ?_) | (refine sb ?_) | (intro _))
    rw [← q8, hR]
    first | (refine z_end0 Try.func127 hb hk Try.results127 (fun w hm => ?_)) | (refine z_ret0 Try.func127 hb hk Try.results127 (fun w hm => ?_))
    exact ⟨rfl, hm⟩
  | true =>
  refine z_weaken [(0, fP b 0), (2, .bool true)] (pR b nv z) ⟨rfl, rfl, trivial⟩ (List.Sublist.refl _) (fun _ h => h) ?_
  rcases q7 with hz | hz | hz | hz
  · have hSt : pStepN ns z = pGreet z := by unfold pStepN; rw [hz]; rfl
    repeat (first | (refine st ?_) | (refine stx ?_) | (refine sb ?_) | (intro _))
    refine zx_re 7 (.int .i64 0) rfl (congrArg _ hz) ?_
    repeat (first | (refine st ?_) | (refine stx ?_) | (refine sb ?_) | (intro _))
    refine zx_call (Y := Unit) (v := fun _ => .bool (pGreet z).isSome) (Φ := fun _ => True) (L' := fun _ => [] ++ pR b nv ((pGreet z).getD z)) rfl fnc142 rfl rfl (fun w1 hm1 => RC.use (R := []) (greetR_any b nv z q2 q3 (by omega)) hm1) (fun _ _ => ?_)
    repeat (first | (refine st ?_) | (refine stx ?_) | (refine sb ?_) | (intro _))
    cases hG : pGreet z with
    | none =>
      refine z_weaken _ _ ?_ (List.Sublist.refl _) (fun _ h => h) (ih (z, false) ⟨q2, q3, q4, by show z.state = 0 ∨ z.state = 1 ∨ z.state = 2 ∨ 3 ≤ z.state; omega, q8, fun _ => hSt.trans hG⟩ (by show 2 * pRankN z + 0 < 2 * pRankN z + 1; omega))
      exact ⟨rfl, by first | rfl | (rw [hG]; rfl), trivial⟩
    | some z2 =>
      obtain ⟨f1, f2, f3⟩ := stepN_fol (hSt.trans hG)
      have hR : pRunN ns z2 = pRunN ns x := by rw [← q8]; exact (pRunN_some (hSt.trans hG)).symm
      refine z_weaken _ _ ?_ (List.Sublist.refl _) (fun _ h => h) (ih (z2, true) ⟨f1.small q2, Nat.le_trans f1.ups q3, by have := f1.downs; show z2.down.length + 20 * pRankN z2 ≤ _; omega, by show z2.state = 0 ∨ z2.state = 1 ∨ z2.state = 2 ∨ 3 ≤ z2.state; omega, hR, fun hh => by cases hh⟩ (by show 2 * pRankN z2 + 1 < 2 * pRankN z + 1; omega))
      exact ⟨rfl, by first | rfl | (rw [hG]; rfl), trivial⟩
  · have hSt : pStepN ns z = pLogin z := by unfold pStepN; rw [hz]; rfl
    repeat (first | (refine st ?_) | (refine stx ?_) | (refine sb ?_) | (intro _))
    refine zx_re 7 (.int .i64 1) rfl (congrArg _ hz) ?_
    repeat (first | (refine st ?_) | (refine stx ?_) | (refine sb ?_) | (intro _))
    refine zx_call (Y := Unit) (v := fun _ => .bool (pLogin z).isSome) (Φ := fun _ => True) (L' := fun _ => [] ++ pR b nv ((pLogin z).getD z)) rfl fnc143 rfl rfl (fun w1 hm1 => RC.use (R := []) (loginR_any b nv z q2 q3 (by omega)) hm1) (fun _ _ => ?_)
    repeat (first | (refine st ?_) | (refine stx ?_) | (refine sb ?_) | (intro _))
    cases hG : pLogin z with
    | none =>
      refine z_weaken _ _ ?_ (List.Sublist.refl _) (fun _ h => h) (ih (z, false) ⟨q2, q3, q4, by show z.state = 0 ∨ z.state = 1 ∨ z.state = 2 ∨ 3 ≤ z.state; omega, q8, fun _ => hSt.trans hG⟩ (by show 2 * pRankN z + 0 < 2 * pRankN z + 1; omega))
      exact ⟨rfl, by first | rfl | (rw [hG]; rfl), trivial⟩
    | some z2 =>
      obtain ⟨f1, f2, f3⟩ := stepN_fol (hSt.trans hG)
      have hR : pRunN ns z2 = pRunN ns x := by rw [← q8]; exact (pRunN_some (hSt.trans hG)).symm
      refine z_weaken _ _ ?_ (List.Sublist.refl _) (fun _ h => h) (ih (z2, true) ⟨f1.small q2, Nat.le_trans f1.ups q3, by have := f1.downs; show z2.down.length + 20 * pRankN z2 ≤ _; omega, by show z2.state = 0 ∨ z2.state = 1 ∨ z2.state = 2 ∨ 3 ≤ z2.state; omega, hR, fun hh => by cases hh⟩ (by show 2 * pRankN z2 + 1 < 2 * pRankN z + 1; omega))
      exact ⟨rfl, by first | rfl | (rw [hG]; rfl), trivial⟩
  · have hSt : pStepN ns z = pReqN ns z := by unfold pStepN; rw [hz]; rfl
    repeat (first | (refine st ?_) | (refine stx ?_) | (refine sb ?_) | (intro _))
    refine zx_re 7 (.int .i64 2) rfl (congrArg _ hz) ?_
    repeat (first | (refine st ?_) | (refine stx ?_) | (refine sb ?_) | (intro _))
    refine zx_call (Y := Unit) (v := fun _ => .bool (pReqN ns z).isSome) (Φ := fun _ => True) (L' := fun _ => [] ++ pR b nv ((pReqN ns z).getD z)) rfl fnc144 rfl rfl (fun w1 hm1 => RCN.use (R := []) (requestR_any b na ncap ns nv hnv z q2 q3 (by omega)) hm1 (hnm.step hm1 (fun k hk => hk))) (fun _ _ => ?_)
    repeat (first | (refine st ?_) | (refine stx ?_) | (refine sb ?_) | (intro _))
    cases hG : pReqN ns z with
    | none =>
      refine z_weaken _ _ ?_ (List.Sublist.refl _) (fun _ h => h) (ih (z, false) ⟨q2, q3, q4, by show z.state = 0 ∨ z.state = 1 ∨ z.state = 2 ∨ 3 ≤ z.state; omega, q8, fun _ => hSt.trans hG⟩ (by show 2 * pRankN z + 0 < 2 * pRankN z + 1; omega))
      exact ⟨rfl, by first | rfl | (rw [hG]; rfl), trivial⟩
    | some z2 =>
      obtain ⟨f1, f2, f3⟩ := stepN_fol (hSt.trans hG)
      have hR : pRunN ns z2 = pRunN ns x := by rw [← q8]; exact (pRunN_some (hSt.trans hG)).symm
      refine z_weaken _ _ ?_ (List.Sublist.refl _) (fun _ h => h) (ih (z2, true) ⟨f1.small q2, Nat.le_trans f1.ups q3, by have := f1.downs; show z2.down.length + 20 * pRankN z2 ≤ _; omega, by show z2.state = 0 ∨ z2.state = 1 ∨ z2.state = 2 ∨ 3 ≤ z2.state; omega, hR, fun hh => by cases hh⟩ (by show 2 * pRankN z2 + 1 < 2 * pRankN z + 1; omega))
      exact ⟨rfl, by first | rfl | (rw [hG]; rfl), trivial⟩
  · have hSt : pStepN ns z = none := stepN_rank0 (by unfold pRankN; rw [if_neg (by omega), if_neg (by omega), if_neg (by omega)])
    repeat (first | (refine st ?_) | (refine stx ?_) | (refine sb ?_) | (intro _))
    refine z_weaken _ _ ?_ (List.Sublist.refl _) (fun _ h => h) (ih (z, false) ⟨q2, q3, q4, .inr (.inr (.inr hz)), q8, fun _ => hSt⟩ (by show 2 * pRankN z + 0 < 2 * pRankN z + 1; omega))
    exact ⟨rfl, rfl, trivial⟩
theorem FromClientR_any (b : Nat) (na : Option Addr) (ncap : Nat) (ns : List Nm) (nv : Value) (hnv : nv = .slice na ns.length ncap) (x : Px) (s : ByteArray) (hsz : s.size ≤ 1000000000000000) (hs : Small x.up) (hl : x.up.length ≤ 4096) (hd : x.down.length ≤ 900000) (hst : x.state = 0 ∨ x.state = 1 ∨ x.state = 2 ∨ 3 ≤ x.state) (w : World) (h : Mem w [b] (pR b nv x) w) (hnm : NmAt w [b] nv ns) :
    Calls Try.prog 96 [fP b 0, .string s].toArray w fun e w' => e = .returned (.int .i64 (pClientN ns x s).2) ∧ Mem w [b] (pR b nv (pClientN ns x s).1) w' := by
  have huz := ofInts_size x.up
  unfold pClientN
  by_cases h5 : x.state = 5
  · rw [if_pos (.inl h5)]
    refine calls_of_z Try.func96 rfl Try.ntmps96 rfl h ?_; intro cs b' hb hk
    repeat (first | (refine st ?_) | (refine stx ?_) | (refine sb ?_) | (intro _))
    refine z_ret1 tab_ok Try.func96 hb hk Try.results96 (.tmp rfl) (fun w hm => ?_)
    exact ⟨rfl, hm⟩
  rcases Bool.eq_false_or_eq_true x.cOver with hc | hc
  · rw [if_pos (.inr hc)]
    refine calls_of_z Try.func96 rfl Try.ntmps96 rfl h ?_; intro cs b' hb hk
    repeat (first | (refine st ?_) | (refine stx ?_) | (refine sb ?_) | (intro _))
    refine z_ret1 tab_ok Try.func96 hb hk Try.results96 (.tmp rfl) (fun w hm => ?_)
    exact ⟨rfl, hm⟩
  rw [if_neg (fun hh => hh.elim h5 (fun hh => by rw [hc] at hh; cases hh))]
  generalize hn : min s.size (4096 - x.up.length) = n
  have hns : n ≤ s.size := by omega
  have hnl : ((bL s).take n).length = n := by rw [List.length_take, bL_length]; omega
  refine calls_of_z Try.func96 rfl Try.ntmps96 rfl h ?_; intro cs b' hb hk
  repeat (first | (refine sn ?_) | (refine stx ?_) | (refine sb ?_) | (intro _))
  refine zx_re 24 (.int .i64 ((4096 - x.up.length : Nat) : Int)) rfl (congrArg _ (by rw [wr64 (by omega) (by omega)]; omega)) ?_
  ((try (refine sg ?_)); (refine zx_call0 rfl fnc126 rfl rfl (fun w hm => lesser_any (s.size : Int) ((4096 - x.up.length : Nat) : Int) w) ?_))
  refine zx_re 25 (.int .i64 (n : Int)) rfl (congrArg _ (by omega)) ?_
  repeat (first | (refine sn ?_) | (refine stx ?_) | (refine sb ?_) | (intro _))
  refine z_regionH [] (by rfl) follows_mixed (by simp) (m := 12) rfl ?_
  refine zh_take 0 (by kernel_rfl) rfl (by kernel_rfl) (by kernel_rfl) ?_ (by simp); (repeat (first | (refine sn ?_) | (refine stx ?_) | (refine sb ?_))); refine zh_took (by rfl) ?_
  refine zh_take 1 (by kernel_rfl) rfl (by kernel_rfl) (by kernel_rfl) ?_ (by simp); (repeat (first | (refine sn ?_) | (refine stx ?_) | (refine sb ?_))); refine zh_took (by rfl) ?_
  refine zh_take 2 (by kernel_rfl) rfl (by kernel_rfl) (by kernel_rfl) ?_ (by simp); (repeat (first | (refine sn ?_) | (refine stx ?_) | (refine sb ?_))); refine zh_took (by rfl) ?_
  refine zh_take 3 (by kernel_rfl) rfl (by kernel_rfl) (by kernel_rfl) ?_ (by simp); (repeat (first | (refine sn ?_) | (refine stx ?_) | (refine sb ?_))); refine zh_took (by rfl) ?_
  refine zh_take 5 (by kernel_rfl) rfl (by kernel_rfl) (by kernel_rfl) ?_ (by simp); (repeat (first | (refine sn ?_) | (refine stx ?_) | (refine sb ?_))); refine zh_took (by rfl) ?_
  refine zh_take 6 (by kernel_rfl) rfl (by kernel_rfl) (by kernel_rfl) ?_ (by simp); (repeat (first | (refine sn ?_) | (refine stx ?_) | (refine sb ?_))); refine zh_took (by rfl) ?_
  refine zh_take 7 (by kernel_rfl) rfl (by kernel_rfl) (by kernel_rfl) ?_ (by simp)
  ((try (refine sg ?_)); (refine zx_sliceN (0 ) ( n ) tab_ok rfl rfl rfl rfl rfl rfl rfl (by first | rfl | omega | (simp only [IntKind.wrap_i64]; omega)) (by first | rfl | omega | (simp only [IntKind.wrap_i64]; omega)) (by omega) (by omega) ?_))
  refine zx_re 33 (.string (ofInts ((bL s).take n))) rfl (congrArg _ (ext_bL s n hns)) ?_
  refine zh_took (by rfl) ?_
  refine zh_one 4 rfl (by kernel_rfl) ?_
  refine st ?_
  refine zh_oned (by rfl) (by simp) ?_
  refine zh_one 8 rfl (by kernel_rfl) ?_
  refine zx_cat rfl rfl rfl (by rw [ofInts_size, ofInts_size]; omega) rfl ?_
  refine zx_re 34 (.string (ofInts (x.up ++ (bL s).take n))) rfl (congrArg _ (ofInts_app x.up ((bL s).take n))) ?_
  refine zh_oned (by rfl) (by simp) ?_
  refine zh_take 9 (by kernel_rfl) rfl (by kernel_rfl) (by kernel_rfl) ?_ (by simp); (repeat (first | (refine sn ?_) | (refine stx ?_) | (refine sb ?_))); refine zh_took (by rfl) ?_
  refine zh_take 10 (by kernel_rfl) rfl (by kernel_rfl) (by kernel_rfl) ?_ (by simp); (repeat (first | (refine sn ?_) | (refine stx ?_) | (refine sb ?_))); refine zh_took (by rfl) ?_
  refine zh_one 11 rfl (by kernel_rfl) ?_
  refine st ?_
  refine zh_oned (by rfl) (by simp) ?_
  refine zh_end (by rfl) (by kernel_rfl) ?_
  repeat (first | (refine st ?_) | (refine stx ?_) | (refine sb ?_) | (intro _))
  have hup1 : (x.up ++ (bL s).take n).length ≤ 1000000 := by rw [List.length_append, hnl]; omega
  refine zx_call (Y := Unit) (v := fun _ => .tuple #[]) (Φ := fun _ => True) (L' := fun _ => [] ++ pR b nv (pRunN ns { x with up := x.up ++ (bL s).take n })) rfl fnc127 rfl rfl (fun w1 hm1 => RCN.use (R := []) (goesR_any b na ncap ns nv hnv { x with up := x.up ++ (bL s).take n } (hs.app ((bL_small s).take n)) hup1 hd hst) hm1 (hnm.step hm1 (fun k hk => hk))) (fun _ _ => ?_)
  repeat (first | (refine st ?_) | (refine stx ?_) | (refine sb ?_) | (intro _))
  refine z_ret1 tab_ok Try.func96 hb hk Try.results96 (.tmp rfl) (fun w hm => ?_)
  exact ⟨rfl, hm⟩
end Go.Proofs.Ytabcaiecoiejkaa
