/- Walk of the law SocksFails, an address of four bytes. -/
import Derived.Test.YtabcaiecoiejkaaS12
set_option maxRecDepth 100000
set_option linter.unusedSimpArgs false
set_option linter.unusedVariables false
set_option maxHeartbeats 8000000
namespace Go.Proofs.Ytabcaiecoiejkaa
open Go K

theorem SocksFails_a (h0 h1 h2 h3 : Int) (l : List Int) (port : Int) (hh : Small [h0, h1, h2, h3]) (hlen : l.length = 16) (hl : Small l) (w : World) (g1 : h3 = 1) :
    Calls Try.prog 9 [.agg (u8s [h0, h1, h2, h3]).toArray, .int .i64 port, .agg (u8s l).toArray].toArray w fun e w' => e = .returned (.bool true) ∧ Mem w [] [] w' := by
  have htm := tm_range port
  match l, hlen, hl with
  | [c0, c1, c2, c3, c4, c5, c6, c7, c8, c9, c10, c11, c12, c13, c14, c15], _, hl =>
    generalize hL : [c0, c1, c2, c3, c4, c5, c6, c7, c8, c9, c10, c11, c12, c13, c14, c15] = l at hl
    subst hL
    refine calls_of_z Try.func9 rfl Try.ntmps9 rfl (Mem.refl w) ?_; intro cs b hb hk
    repeat (first | (refine st ?_) | (refine stx ?_) | (refine sb ?_) | (intro _))
    rename_i k3 k5
    ((try (refine sg ?_)); (refine zx_call0 rfl fnc33 rfl rfl (fun w hm => awake22_any w) ?_))
    repeat (first | (refine st ?_) | (refine stx ?_) | (refine sb ?_) | (intro _))
    refine zx_call (Y := Nat) (v := fun p => fP p 0) (Φ := fun _ => True) (L' := fun p => rR k3 k5 [h0, h1, h2, h3] [c0, c1, c2, c3, c4, c5, c6, c7, c8, c9, c10, c11, c12, c13, c14, c15] ++ pX p px0 (none, none)) rfl fnc34 rfl rfl
      (fun w hm => (New_zero w).mono fun e w' ⟨p, _, he, hm'⟩ => ⟨p, trivial, he, (hm.trans0 hm').perm List.perm_append_comm⟩) (fun p _ => ?_)
    repeat (first | (refine st ?_) | (refine stx ?_) | (refine sb ?_) | (intro _))
    refine zx_call (Y := Own × Own) (v := fun _ => .int .i64 3) (Φ := fun y => okX pxB y) (L' := fun y => rR k3 k5 [h0, h1, h2, h3] [c0, c1, c2, c3, c4, c5, c6, c7, c8, c9, c10, c11, c12, c13, c14, c15] ++ pX p pxB y) rfl fnc38 rfl rfl (fun w1 hm1 => PC.use (FC_3 p) okX_px0 hm1) (fun y1 hy1 => ?_)
    repeat (first | (refine st ?_) | (refine stx ?_) | (refine sb ?_) | (intro _))
    refine zx_call (Y := Own × Own) (v := fun _ => .string ⟨#[5, 0]⟩) (Φ := fun y => okX pxA y) (L' := fun y => rR k3 k5 [h0, h1, h2, h3] [c0, c1, c2, c3, c4, c5, c6, c7, c8, c9, c10, c11, c12, c13, c14, c15] ++ pX p pxA y) rfl fnc39 rfl rfl (fun w1 hm1 => PC.use (TC_B p) hy1 hm1) (fun y2 hy2 => ?_)
    repeat (first | (refine st ?_) | (refine stx ?_) | (refine sb ?_) | (intro _))
    refine z_join1 (fun n : Int => 0 ≤ n ∧ n ≤ 65535) (fun n => [(3, fP k3 0), (5, fP k5 0), (7, .bool true), (8, fP p 0), (9, .int .i64 n)]) (fun _ => rR k3 k5 [h0, h1, h2, h3] [c0, c1, c2, c3, c4, c5, c6, c7, c8, c9, c10, c11, c12, c13, c14, c15] ++ pX p pxA y2) (fun n hn => ?_) (fun k' J => ?_)
    rotate_left
    · by_cases hneg : port.tmod 65536 < 0
      · repeat (first | (refine st ?_) | (refine stx ?_) | (refine sb ?_) | (intro _))
        refine z_weaken _ _ ?_ (List.Sublist.refl _) (fun _ h => h) (J (-(port.tmod 65536)) (by omega))
        exact ⟨rfl, rfl, rfl, rfl, congrArg (fun z => some (Value.int .i64 z)) (by show IntKind.i64.wrap (0 - port.tmod 65536) = _; rw [wr64 (by omega) (by omega)]; omega), trivial⟩
      · repeat (first | (refine st ?_) | (refine stx ?_) | (refine sb ?_) | (intro _))
        refine z_weaken _ _ ?_ (List.Sublist.refl _) (fun _ h => h) (J (port.tmod 65536) (by omega))
        exact ⟨rfl, rfl, rfl, rfl, rfl, trivial⟩
    obtain ⟨hn0, hn1⟩ := hn
    repeat (first | (refine st ?_) | (refine stx ?_) | (refine sb ?_) | (intro _))
    ((try (refine sg ?_)); (refine zx_call0 rfl fnc40 rfl rfl (fun w hm => V4_any c0 c1 c2 c3 w) ?_))
    repeat (first | (refine st ?_) | (refine stx ?_) | (refine sb ?_) | (intro _))
    rename_i k11 k12 k13
    subst g1
    repeat (first | (refine st ?_) | (refine stx ?_) | (refine sb ?_) | (intro _))
    ((try (refine sg ?_)); (refine zx_call0 rfl fnc41 rfl rfl (fun w hm => Bytes_any (v4 c0 c1 c2 c3) w) ?_))
    have z41 : (ofInts [h0, h1, h2, 1]).size = 4 := by rw [ofInts_size]; rfl
    have z42 : (v4 c0 c1 c2 c3).bytes.size = 4 := by show (ofInts [c0, c1, c2, c3]).size = 4; rw [ofInts_size]; rfl
    have z43 : (ofInts [h0, h1, h2, 1, c0, c1, c2, c3]).size = 8 := by rw [ofInts_size]; rfl
    refine zx_cat rfl rfl rfl (by omega) rfl ?_
    refine zx_re 58 (.string (ofInts [h0, h1, h2, 1, c0, c1, c2, c3])) rfl (congrArg _ (by show ofInts [h0, h1, h2, 1] ++ ofInts [c0, c1, c2, c3] = _; rw [ofInts_app]; rfl)) ?_
    repeat (first | (refine st ?_) | (refine stx ?_) | (refine sb ?_) | (intro _))
    refine zx_re 72 (.int .u64 n) rfl (congrArg _ (wru64 hn0 (by omega))) ?_
    ((try (refine sg ?_)); (refine zx_call0 rfl fnc32 rfl rfl (fun w hm => Put2_any n w) ?_))
    refine zx_cat rfl rfl rfl (by rw [putB_size]; omega) rfl ?_
    refine zx_re 74 (.string (ofInts (req4 h0 h1 h2 n c0 c1 c2 c3))) rfl (congrArg _ (by show ofInts [h0, h1, h2, 1, c0, c1, c2, c3] ++ ofInts [byt n 1, byt n 0] = _; rw [ofInts_app]; rfl)) ?_
    repeat (first | (refine st ?_) | (refine stx ?_) | (refine sb ?_) | (intro _))
    have hsm : Small (req4 h0 h1 h2 n c0 c1 c2 c3) := by intro z hz; simp only [req4, List.mem_cons, List.cons_append, List.nil_append, List.not_mem_nil, or_false] at hz; have q1 := byt_range n 1; have q0 := byt_range n 0; have hh0 := hh h0 (by simp); have hh1 := hh h1 (by simp); have hh2 := hh h2 (by simp); have hh3 := hh 1 (by simp); have hl0 := hl c0 (by simp); have hl1 := hl c1 (by simp); have hl2 := hl c2 (by simp); have hl3 := hl c3 (by simp); have hl4 := hl c4 (by simp); have hl5 := hl c5 (by simp); have hl6 := hl c6 (by simp); have hl7 := hl c7 (by simp); have hl8 := hl c8 (by simp); have hl9 := hl c9 (by simp); have hl10 := hl c10 (by simp); have hl11 := hl c11 (by simp); have hl12 := hl c12 (by simp); have hl13 := hl c13 (by simp); have hl14 := hl c14 (by simp); have hl15 := hl c15 (by simp); rcases hz with rfl | rfl | rfl | rfl | rfl | rfl | rfl | rfl | rfl | rfl <;> omega
    have hll : ((req4 h0 h1 h2 n c0 c1 c2 c3)).length ≤ 4096 := Nat.le_of_ble_eq_true rfl
    have hsm4 : Small [c0, c1, c2, c3] := hl.take 4
    refine zx_join2 (fun code : Int => (0 < code ∧ code ≤ 8 ∧ pReq (pxU (req4 h0 h1 h2 n c0 c1 c2 c3)) = some (pFailed code)) ∨ (code = 0 ∧ pReq (pxU (req4 h0 h1 h2 n c0 c1 c2 c3)) = some (pWant (v4 c0 c1 c2 c3) n))) (fun code => [(8, fP p 0), (9, .int .i64 n), (10, .string (ofInts (req4 h0 h1 h2 n c0 c1 c2 c3))), (13, fP k13 0), (14, .int .i64 code)]) (fun _ => [(k13, Blk.c (Adr.cells (v4 c0 c1 c2 c3)) 24 0 0)] ++ pX p pxA y2) (fun code hcode => ?_) (fun k' J => ?_)
    · rcases hcode with ⟨hp0, hp8, hreq⟩ | ⟨hp0, hreq⟩
      · skip
        have hFC := FC_req p (req4 h0 h1 h2 n c0 c1 c2 c3) (pFailed code) hsm hll hreq
        have hTC := TC_fail p code
        have hTA := Target_any p (pFailed code)
        have hwr : IntKind.u8.wrap code = code := by rw [IntKind.wrap_u8]; omega
        repeat (first | (refine st ?_) | (refine stx ?_) | (refine sb ?_) | (intro _))
        refine zx_call (Y := Own × Own) (v := fun _ => .int .i64 (((req4 h0 h1 h2 n c0 c1 c2 c3).length : Nat) : Int)) (Φ := fun y => okX (pFailed code) y) (L' := fun y => [(k13, Blk.c (Adr.cells (v4 c0 c1 c2 c3)) 24 0 0)] ++ pX p (pFailed code) y) rfl fnc38 rfl rfl (fun w1 hm1 => PC.use (R := [(k13, Blk.c (Adr.cells (v4 c0 c1 c2 c3)) 24 0 0)]) hFC hy2 hm1) (fun y3 hy3 => ?_)
        repeat (first | (refine st ?_) | (refine stx ?_) | (refine sb ?_) | (intro _))
        ((try (refine sg ?_)); (refine zx_call0 rfl fnc36 rfl rfl (fun w hm => QC.use (R := [(k13, Blk.c (Adr.cells (v4 c0 c1 c2 c3)) 24 0 0)]) hTA hy3 hm) ?_))
        repeat (first | (refine st ?_) | (refine stx ?_) | (refine sb ?_) | (intro _))
        rename_i kt
        refine zx_call (Y := Own × Own) (v := fun _ => .string (ofInts (failL code))) (Φ := fun y => okX pFailedE y) (L' := fun y => [(kt, Blk.c ((Adr.cells adr0) ++ [Value.int .i64 0]) 65 0 0), (k13, Blk.c (Adr.cells (v4 c0 c1 c2 c3)) 24 0 0)] ++ pX p pFailedE y) rfl fnc39 rfl rfl (fun w1 hm1 => PC.use (R := [(kt, Blk.c ((Adr.cells adr0) ++ [Value.int .i64 0]) 65 0 0), (k13, Blk.c (Adr.cells (v4 c0 c1 c2 c3)) 24 0 0)]) hTC hy3 hm1) (fun y4 hy4 => ?_)
        repeat (first | (refine st ?_) | (refine stx ?_) | (refine sb ?_) | (intro _))
        rename_i kb
        have u1 : (ByteArray.mk #[5]).size = 1 := rfl
        have u2 : (ByteArray.mk #[0, 1, 0, 0, 0, 0, 0, 0]).size = 8 := rfl
        have u3 : (ofInts [IntKind.u8.wrap code]).size = 1 := by rw [ofInts_size]; rfl
        refine zx_cat rfl rfl rfl (by omega) rfl ?_
        refine zx_cat rfl rfl rfl (by rw [ByteArray.size_append]; omega) rfl ?_
        refine zx_re 155 (.string (ofInts (failL code))) rfl (congrArg _ (fail_str code hwr)) ?_
        have e1 : decide (ofInts (failL code) = ofInts (failL code)) = true := decide_eq_true rfl
        repeat (first | (refine st ?_) | (refine stx ?_) | (refine sb ?_) | (intro _))
        ((try (refine sg ?_)); (refine zx_call0 rfl fnc37 rfl rfl (fun w hm => QC.use (R := [(kb, Blk.c (u8s [IntKind.u8.wrap code]) 5 0 0), (kt, Blk.c ((Adr.cells adr0) ++ [Value.int .i64 0]) 65 0 0), (k13, Blk.c (Adr.cells (v4 c0 c1 c2 c3)) 24 0 0)]) (State_any p pFailedE) hy4 hm) ?_))
        repeat (first | (refine st ?_) | (refine stx ?_) | (refine sb ?_) | (intro _))
        ((try (refine sg ?_)); (refine zx_call0 rfl fnc44 rfl rfl (fun w hm => QC.use (R := [(kb, Blk.c (u8s [IntKind.u8.wrap code]) 5 0 0), (kt, Blk.c ((Adr.cells adr0) ++ [Value.int .i64 0]) 65 0 0), (k13, Blk.c (Adr.cells (v4 c0 c1 c2 c3)) 24 0 0)]) (EndClient_any p pFailedE) hy4 hm) ?_))
        repeat (first | (refine st ?_) | (refine stx ?_) | (refine sb ?_) | (intro _))
        refine z_ret1 tab_ok Try.func9 hb hk Try.results9 (.tmp rfl) (fun w hm => ?_)
        exact ⟨rfl, hm.bare⟩
      · subst hp0
        have hFC := FC_req p (req4 h0 h1 h2 n c0 c1 c2 c3) (pWant (v4 c0 c1 c2 c3) n) hsm hll hreq
        have hTC := TC_want p (v4 c0 c1 c2 c3) n
        have hTA := Target_any p (pWant (v4 c0 c1 c2 c3) n)
        repeat (first | (refine st ?_) | (refine stx ?_) | (refine sb ?_) | (intro _))
        refine zx_call (Y := Own × Own) (v := fun _ => .int .i64 (((req4 h0 h1 h2 n c0 c1 c2 c3).length : Nat) : Int)) (Φ := fun y => okX (pWant (v4 c0 c1 c2 c3) n) y) (L' := fun y => [(k13, Blk.c (Adr.cells (v4 c0 c1 c2 c3)) 24 0 0)] ++ pX p (pWant (v4 c0 c1 c2 c3) n) y) rfl fnc38 rfl rfl (fun w1 hm1 => PC.use (R := [(k13, Blk.c (Adr.cells (v4 c0 c1 c2 c3)) 24 0 0)]) hFC hy2 hm1) (fun y3 hy3 => ?_)
        repeat (first | (refine st ?_) | (refine stx ?_) | (refine sb ?_) | (intro _))
        ((try (refine sg ?_)); (refine zx_call0 rfl fnc36 rfl rfl (fun w hm => QC.use (R := [(k13, Blk.c (Adr.cells (v4 c0 c1 c2 c3)) 24 0 0)]) hTA hy3 hm) ?_))
        repeat (first | (refine st ?_) | (refine stx ?_) | (refine sb ?_) | (intro _))
        rename_i kt
        refine zx_call (Y := Own × Own) (v := fun _ => .string noX) (Φ := fun y => okX (pWant (v4 c0 c1 c2 c3) n) y) (L' := fun y => [(kt, Blk.c ((Adr.cells (v4 c0 c1 c2 c3)) ++ [Value.int .i64 n]) 65 0 0), (k13, Blk.c (Adr.cells (v4 c0 c1 c2 c3)) 24 0 0)] ++ pX p (pWant (v4 c0 c1 c2 c3) n) y) rfl fnc39 rfl rfl (fun w1 hm1 => PC.use (R := [(kt, Blk.c ((Adr.cells (v4 c0 c1 c2 c3)) ++ [Value.int .i64 n]) 65 0 0), (k13, Blk.c (Adr.cells (v4 c0 c1 c2 c3)) 24 0 0)]) hTC hy3 hm1) (fun y4 hy4 => ?_)
        have e0 : decide (noX = ByteArray.mk #[]) = true := rfl
        repeat (first | (refine st ?_) | (refine stx ?_) | (refine sb ?_) | (intro _))
        refine zx_re 137 (.bool true) rfl (by simp) ?_
        repeat (first | (refine st ?_) | (refine stx ?_) | (refine sb ?_) | (intro _))
        ((try (refine sg ?_)); (refine zx_call0 rfl fnc37 rfl rfl (fun w hm => QC.use (R := [(kt, Blk.c ((Adr.cells (v4 c0 c1 c2 c3)) ++ [Value.int .i64 n]) 65 0 0), (k13, Blk.c (Adr.cells (v4 c0 c1 c2 c3)) 24 0 0)]) (State_any p (pWant (v4 c0 c1 c2 c3) n)) hy4 hm) ?_))
        repeat (first | (refine st ?_) | (refine stx ?_) | (refine sb ?_) | (intro _))
        refine z_ret1 tab_ok Try.func9 hb hk Try.results9 (.tmp rfl) (fun w hm => ?_)
        exact ⟨by first | rfl | simp, hm.bare⟩
    by_cases g0 : h0 = 5
    · subst g0
      repeat (first | (refine st ?_) | (refine stx ?_) | (refine sb ?_) | (intro _))
      by_cases g2 : h2 = 0
      · subst g2
        repeat (first | (refine st ?_) | (refine stx ?_) | (refine sb ?_) | (intro _))
        by_cases g1 : h1 = 1
        · subst g1
          repeat (first | (refine st ?_) | (refine stx ?_) | (refine sb ?_) | (intro _))
          by_cases gn : n = 0
          · skip
            repeat (first | (refine st ?_) | (refine stx ?_) | (refine sb ?_) | (intro _))
            refine z_weaken _ _ ?_ (List.Sublist.cons_cons _ (List.Sublist.cons _ (List.Sublist.cons _ (List.Sublist.cons _ (List.Sublist.cons _ (List.Sublist.refl _)))))) (fun _ h => h) (J 1 (.inl ⟨by decide, by decide, by rw [Rq4 n c0 c1 c2 c3 hn0 hn1 hsm4, if_pos gn]⟩))
            exact ⟨rfl, rfl, rfl, rfl, rfl, trivial⟩
          · repeat (first | (refine st ?_) | (refine stx ?_) | (refine sb ?_) | (intro _))
            ((try (refine sg ?_)); (refine zx_call0 rfl fnc42 rfl rfl (fun w hm => None_any (v4 c0 c1 c2 c3) w) ?_))
            by_cases hno : (Adr.none (v4 c0 c1 c2 c3)) = true
            · skip
              repeat (first | (refine st ?_) | (refine stx ?_) | (refine sb ?_) | (intro _))
              refine z_weaken _ _ ?_ (List.Sublist.cons_cons _ (List.Sublist.cons _ (List.Sublist.cons _ (List.Sublist.cons _ (List.Sublist.cons _ (List.Sublist.refl _)))))) (fun _ h => h) (J 4 (.inl ⟨by decide, by decide, by rw [Rq4 n c0 c1 c2 c3 hn0 hn1 hsm4, if_neg gn, if_pos (.inl hno)]⟩))
              exact ⟨rfl, rfl, rfl, rfl, rfl, trivial⟩
            · have hno2 : (Adr.none (v4 c0 c1 c2 c3)) = false := by simpa using hno
              repeat (first | (refine st ?_) | (refine stx ?_) | (refine sb ?_) | (intro _))
              ((try (refine sg ?_)); (refine zx_call0 rfl fnc43 rfl rfl (fun w hm => Group_any (v4 c0 c1 c2 c3) w) ?_))
              by_cases hgr : (Adr.group (v4 c0 c1 c2 c3)) = true
              · skip
                repeat (first | (refine st ?_) | (refine stx ?_) | (refine sb ?_) | (intro _))
                refine z_weaken _ _ ?_ (List.Sublist.cons_cons _ (List.Sublist.cons _ (List.Sublist.cons _ (List.Sublist.cons _ (List.Sublist.cons _ (List.Sublist.refl _)))))) (fun _ h => h) (J 4 (.inl ⟨by decide, by decide, by rw [Rq4 n c0 c1 c2 c3 hn0 hn1 hsm4, if_neg gn, if_pos (.inr hgr)]⟩))
                exact ⟨rfl, rfl, rfl, rfl, rfl, trivial⟩
              · have hgr2 : (Adr.group (v4 c0 c1 c2 c3)) = false := by simpa using hgr
                repeat (first | (refine st ?_) | (refine stx ?_) | (refine sb ?_) | (intro _))
                refine z_weaken _ _ ?_ (List.Sublist.cons_cons _ (List.Sublist.cons _ (List.Sublist.cons _ (List.Sublist.cons _ (List.Sublist.cons _ (List.Sublist.refl _)))))) (fun _ h => h) (J 0 (.inr ⟨rfl, by rw [Rq4 n c0 c1 c2 c3 hn0 hn1 hsm4, if_neg gn, if_neg (fun hh => hh.elim hno hgr)]⟩))
                exact ⟨rfl, rfl, rfl, rfl, rfl, trivial⟩
        · skip
          repeat (first | (refine st ?_) | (refine stx ?_) | (refine sb ?_) | (intro _))
          refine z_weaken _ _ ?_ (List.Sublist.cons_cons _ (List.Sublist.cons _ (List.Sublist.cons _ (List.Sublist.cons _ (List.Sublist.cons _ (List.Sublist.refl _)))))) (fun _ h => h) (J 7 (.inl ⟨by decide, by decide, Rq7 g1⟩))
          exact ⟨rfl, rfl, rfl, rfl, rfl, trivial⟩
      · skip
        repeat (first | (refine st ?_) | (refine stx ?_) | (refine sb ?_) | (intro _))
        refine z_weaken _ _ ?_ (List.Sublist.cons_cons _ (List.Sublist.cons _ (List.Sublist.cons _ (List.Sublist.cons _ (List.Sublist.cons _ (List.Sublist.refl _)))))) (fun _ h => h) (J 1 (.inl ⟨by decide, by decide, Rq1 (.inr g2)⟩))
        exact ⟨rfl, rfl, rfl, rfl, rfl, trivial⟩
    · skip
      repeat (first | (refine st ?_) | (refine stx ?_) | (refine sb ?_) | (intro _))
      refine z_weaken _ _ ?_ (List.Sublist.cons_cons _ (List.Sublist.cons _ (List.Sublist.cons _ (List.Sublist.cons _ (List.Sublist.cons _ (List.Sublist.refl _)))))) (fun _ h => h) (J 1 (.inl ⟨by decide, by decide, Rq1 (.inl g0)⟩))
      exact ⟨rfl, rfl, rfl, rfl, rfl, trivial⟩

end Go.Proofs.Ytabcaiecoiejkaa
