/- Walks of Connected, of the program's session and the reference's, in every case. -/
import Derived.Test.YtabcaiecoiejkaaQ4
set_option maxRecDepth 100000
set_option linter.unusedSimpArgs false
set_option linter.unusedVariables false
set_option maxHeartbeats 16000000
namespace Go.Proofs.Ytabcaiecoiejkaa
open Go K

/-- what Connected does -/
def pConnE (x : Px) (a : Adr) (n e : Int) : Px × Bool :=
  if x.state ≠ 3 then (x, false) else if e = 91 then (pFail 5 x, true) else if e = 93 then (pFail 3 x, true) else if e = 92 then (pFail 4 x, true) else if e ≠ 0 ∨ a.valid = false then (pFail 1 x, true) else (pConn x a n, true)
theorem ConnectedE_any (p : Nat) (x : Px) (a : Adr) (n e : Int) (hd : x.down.length ≤ 1000000) : PC 51 [fP p 0, epV a n, .int .i64 e] p x (pConnE x a n e).1 (.bool (pConnE x a n e).2) := by
  by_cases h3 : x.state = 3
  · by_cases e1 : e = 91
    · have hE : pConnE x a n e = (pFail 5 x, true) := by unfold pConnE; rw [if_neg (fun hh => hh h3), if_pos e1]
      rw [hE]
      intro o w hok h
      refine calls_of_z Try.func51 rfl Try.ntmps51 rfl h ?_; intro cs b' hb hk
      repeat (first | (refine st ?_) | (refine stx ?_) | (refine sb ?_) | (intro _))
      rename_i k1
      refine zx_call (Y := Own × Own) (v := fun _ => .bool true) (Φ := fun y => okX (pFail 5 x) y) (L' := fun y => [(k1, Blk.c (a.cells ++ [Value.int .i64 n]) 65 0 0)] ++ pX p (pFail 5 x) y) rfl fnc106 rfl rfl (fun w1 hm1 => PC.use (R := [(k1, Blk.c (a.cells ++ [Value.int .i64 n]) 65 0 0)]) (fail_any p x 5 hd) hok hm1) (fun y hy => ?_)
      repeat (first | (refine st ?_) | (refine stx ?_) | (refine sb ?_) | (intro _))
      refine z_ret1 tab_ok Try.func51 hb hk Try.results51 (.tmp rfl) (fun w hm => ?_)
      exact ⟨y, hy, rfl, hm.weaken (fun _ h => h) (List.Sublist.cons _ (List.Sublist.refl _))⟩
    by_cases e2 : e = 93
    · have hE : pConnE x a n e = (pFail 3 x, true) := by unfold pConnE; rw [if_neg (fun hh => hh h3), if_neg e1, if_pos e2]
      rw [hE]
      intro o w hok h
      refine calls_of_z Try.func51 rfl Try.ntmps51 rfl h ?_; intro cs b' hb hk
      repeat (first | (refine st ?_) | (refine stx ?_) | (refine sb ?_) | (intro _))
      rename_i k1
      refine zx_call (Y := Own × Own) (v := fun _ => .bool true) (Φ := fun y => okX (pFail 3 x) y) (L' := fun y => [(k1, Blk.c (a.cells ++ [Value.int .i64 n]) 65 0 0)] ++ pX p (pFail 3 x) y) rfl fnc106 rfl rfl (fun w1 hm1 => PC.use (R := [(k1, Blk.c (a.cells ++ [Value.int .i64 n]) 65 0 0)]) (fail_any p x 3 hd) hok hm1) (fun y hy => ?_)
      repeat (first | (refine st ?_) | (refine stx ?_) | (refine sb ?_) | (intro _))
      refine z_ret1 tab_ok Try.func51 hb hk Try.results51 (.tmp rfl) (fun w hm => ?_)
      exact ⟨y, hy, rfl, hm.weaken (fun _ h => h) (List.Sublist.cons _ (List.Sublist.refl _))⟩
    by_cases e3 : e = 92
    · have hE : pConnE x a n e = (pFail 4 x, true) := by unfold pConnE; rw [if_neg (fun hh => hh h3), if_neg e1, if_neg e2, if_pos e3]
      rw [hE]
      intro o w hok h
      refine calls_of_z Try.func51 rfl Try.ntmps51 rfl h ?_; intro cs b' hb hk
      repeat (first | (refine st ?_) | (refine stx ?_) | (refine sb ?_) | (intro _))
      rename_i k1
      refine zx_call (Y := Own × Own) (v := fun _ => .bool true) (Φ := fun y => okX (pFail 4 x) y) (L' := fun y => [(k1, Blk.c (a.cells ++ [Value.int .i64 n]) 65 0 0)] ++ pX p (pFail 4 x) y) rfl fnc106 rfl rfl (fun w1 hm1 => PC.use (R := [(k1, Blk.c (a.cells ++ [Value.int .i64 n]) 65 0 0)]) (fail_any p x 4 hd) hok hm1) (fun y hy => ?_)
      repeat (first | (refine st ?_) | (refine stx ?_) | (refine sb ?_) | (intro _))
      refine z_ret1 tab_ok Try.func51 hb hk Try.results51 (.tmp rfl) (fun w hm => ?_)
      exact ⟨y, hy, rfl, hm.weaken (fun _ h => h) (List.Sublist.cons _ (List.Sublist.refl _))⟩
    by_cases e0 : e = 0
    · rcases Bool.eq_false_or_eq_true a.valid with hv | hv
      · have hE : pConnE x a n e = (pConn x a n, true) := by unfold pConnE; rw [if_neg (fun hh => hh h3), if_neg e1, if_neg e2, if_neg e3, if_neg (fun hh => hh.elim (fun hh => hh e0) (fun hh => by rw [hv] at hh; cases hh))]
        rw [hE, e0]
        exact Connected_ok p x a n h3 hv hd
      · have hE : pConnE x a n e = (pFail 1 x, true) := by unfold pConnE; rw [if_neg (fun hh => hh h3), if_neg e1, if_neg e2, if_neg e3, if_pos (.inr hv)]
        rw [hE]
        intro o w hok h
        refine calls_of_z Try.func51 rfl Try.ntmps51 rfl h ?_; intro cs b' hb hk
        repeat (first | (refine st ?_) | (refine stx ?_) | (refine sb ?_) | (intro _))
        rename_i k1
        ((try (refine sg ?_)); (refine zx_call0 rfl fnc48 rfl rfl (fun w hm => Valid_any a w) ?_))
        repeat (first | (refine st ?_) | (refine stx ?_) | (refine sb ?_) | (intro _))
        refine zx_call (Y := Own × Own) (v := fun _ => .bool true) (Φ := fun y => okX (pFail 1 x) y) (L' := fun y => [(k1, Blk.c (a.cells ++ [Value.int .i64 n]) 65 0 0)] ++ pX p (pFail 1 x) y) rfl fnc106 rfl rfl (fun w1 hm1 => PC.use (R := [(k1, Blk.c (a.cells ++ [Value.int .i64 n]) 65 0 0)]) (fail_any p x 1 hd) hok hm1) (fun y hy => ?_)
        repeat (first | (refine st ?_) | (refine stx ?_) | (refine sb ?_) | (intro _))
        refine z_ret1 tab_ok Try.func51 hb hk Try.results51 (.tmp rfl) (fun w hm => ?_)
        exact ⟨y, hy, rfl, hm.weaken (fun _ h => h) (List.Sublist.cons _ (List.Sublist.refl _))⟩
    · have hE : pConnE x a n e = (pFail 1 x, true) := by unfold pConnE; rw [if_neg (fun hh => hh h3), if_neg e1, if_neg e2, if_neg e3, if_pos (.inl e0)]
      rw [hE]
      intro o w hok h
      refine calls_of_z Try.func51 rfl Try.ntmps51 rfl h ?_; intro cs b' hb hk
      repeat (first | (refine st ?_) | (refine stx ?_) | (refine sb ?_) | (intro _))
      rename_i k1
      refine zx_call (Y := Own × Own) (v := fun _ => .bool true) (Φ := fun y => okX (pFail 1 x) y) (L' := fun y => [(k1, Blk.c (a.cells ++ [Value.int .i64 n]) 65 0 0)] ++ pX p (pFail 1 x) y) rfl fnc106 rfl rfl (fun w1 hm1 => PC.use (R := [(k1, Blk.c (a.cells ++ [Value.int .i64 n]) 65 0 0)]) (fail_any p x 1 hd) hok hm1) (fun y hy => ?_)
      repeat (first | (refine st ?_) | (refine stx ?_) | (refine sb ?_) | (intro _))
      refine z_ret1 tab_ok Try.func51 hb hk Try.results51 (.tmp rfl) (fun w hm => ?_)
      exact ⟨y, hy, rfl, hm.weaken (fun _ h => h) (List.Sublist.cons _ (List.Sublist.refl _))⟩
  · have hE : pConnE x a n e = (x, false) := by unfold pConnE; rw [if_pos h3]
    rw [hE]
    intro o w hok h
    refine calls_of_z Try.func51 rfl Try.ntmps51 rfl h ?_; intro cs b' hb hk
    repeat (first | (refine st ?_) | (refine stx ?_) | (refine sb ?_) | (intro _))
    refine z_ret1 tab_ok Try.func51 hb hk Try.results51 (.tmp rfl) (fun w hm => ?_)
    exact ⟨o, hok, rfl, hm.weaken (fun _ h => h) (List.Sublist.cons _ (List.Sublist.refl _))⟩
theorem ConnectedR_ok6 (b : Nat) (nv : Value) (x : Px) (a : Adr) (n : Int) (hd : x.down.length ≤ 1000000) (h3 : x.state = 3) (hv : a.valid = true) (h6 : a.v6 = true) : RC 101 [fP b 0, epV a n, .int .i64 0] b nv x (pConn x a n) (.bool true) := by
  intro w h
  have hbs := a.bytes_size
  have hbl := bL_length a.bytes
  have hkb : kindB a = 4 := by unfold kindB; rw [h6]; rfl
  unfold pConn
  rw [hkb]
  refine calls_of_z Try.func101 rfl Try.ntmps101 rfl h ?_; intro cs b' hb hk
  repeat (first | (refine st ?_) | (refine stx ?_) | (refine sb ?_) | (intro _))
  rename_i k1
  ((try (refine sg ?_)); (refine zx_call0 rfl fnc118 rfl rfl (fun w hm => ValidR_any a w) ?_))
  repeat (first | (refine sn ?_) | (refine stx ?_) | (refine sb ?_) | (intro _))
  refine z_regionH [(k1, .c [.bool a.v6, .int .u8 (a.b 0), .int .u8 (a.b 1), .int .u8 (a.b 2), .int .u8 (a.b 3), .int .u8 (a.b 4), .int .u8 (a.b 5), .int .u8 (a.b 6), .int .u8 (a.b 7), .int .u8 (a.b 8), .int .u8 (a.b 9), .int .u8 (a.b 10), .int .u8 (a.b 11), .int .u8 (a.b 12), .int .u8 (a.b 13), .int .u8 (a.b 14), .int .u8 (a.b 15), .int .i64 n] 65 0 0)] (by rfl) follows_mixed (List.sublist_append_left [_] _) (m := 26) rfl ?_
  refine zh_take 0 (by kernel_rfl) rfl (by kernel_rfl) (by kernel_rfl) ?_ (by simp); (repeat (first | (refine sn ?_) | (refine stx ?_) | (refine sb ?_))); refine zh_took (by rfl) ?_
  refine zh_take 1 (by kernel_rfl) rfl (by kernel_rfl) (by kernel_rfl) ?_ (by simp); (repeat (first | (refine sn ?_) | (refine stx ?_) | (refine sb ?_))); refine zh_took (by rfl) ?_
  refine zh_take 2 (by kernel_rfl) rfl (by kernel_rfl) (by kernel_rfl) ?_ (by simp); (repeat (first | (refine sn ?_) | (refine stx ?_) | (refine sb ?_))); refine zh_took (by rfl) ?_
  refine zh_take 3 (by kernel_rfl) rfl (by kernel_rfl) (by kernel_rfl) ?_ (by simp); (repeat (first | (refine sn ?_) | (refine stx ?_) | (refine sb ?_))); refine zh_took (by rfl) ?_
  refine zh_take 5 (by kernel_rfl) rfl (by kernel_rfl) (by kernel_rfl) ?_ (by simp); (repeat (first | (refine sn ?_) | (refine stx ?_) | (refine sb ?_))); refine zh_took (by rfl) ?_
  refine zh_take 9 (by kernel_rfl) rfl (by kernel_rfl) (by kernel_rfl) ?_ (by simp); (repeat (first | (refine sn ?_) | (refine stx ?_) | (refine sb ?_))); refine zh_took (by rfl) ?_
  refine zh_take 10 (by kernel_rfl) rfl (by kernel_rfl) (by kernel_rfl) ?_ (by simp); (repeat (first | (refine sn ?_) | (refine stx ?_) | (refine sb ?_))); refine zh_took (by rfl) ?_
  refine zh_take 11 (by kernel_rfl) rfl (by kernel_rfl) (by kernel_rfl) ?_ (by simp)
  ((try (refine sg ?_)); (refine zx_call0 rfl fnc130 rfl rfl (fun w hm => BytesR_any a w) ?_))
  refine zh_took (by rfl) ?_
  refine zh_take 13 (by kernel_rfl) rfl (by kernel_rfl) (by kernel_rfl) ?_ (by simp); (repeat (first | (refine sn ?_) | (refine stx ?_) | (refine sb ?_))); refine zh_took (by rfl) ?_
  refine zh_take 14 (by kernel_rfl) rfl (by kernel_rfl) (by kernel_rfl) ?_ (by simp); (repeat (first | (refine sn ?_) | (refine stx ?_) | (refine sb ?_))); refine zh_took (by rfl) ?_
  refine zh_take 15 (by kernel_rfl) rfl (by kernel_rfl) (by kernel_rfl) ?_ (by simp); (repeat (first | (refine sn ?_) | (refine stx ?_) | (refine sb ?_))); refine zh_took (by rfl) ?_
  refine zh_take 16 (by kernel_rfl) rfl (by kernel_rfl) (by kernel_rfl) ?_ (by simp); (repeat (first | (refine sn ?_) | (refine stx ?_) | (refine sb ?_))); refine zh_took (by rfl) ?_
  refine zh_take 17 (by kernel_rfl) rfl (by kernel_rfl) (by kernel_rfl) ?_ (by simp); (repeat (first | (refine sn ?_) | (refine stx ?_) | (refine sb ?_))); refine zh_took (by rfl) ?_
  refine zh_take 18 (by kernel_rfl) rfl (by kernel_rfl) (by kernel_rfl) ?_ (by simp); (repeat (first | (refine sn ?_) | (refine stx ?_) | (refine sb ?_))); refine zh_took (by rfl) ?_
  refine zh_take 19 (by kernel_rfl) rfl (by kernel_rfl) (by kernel_rfl) ?_ (by simp); (repeat (first | (refine sn ?_) | (refine stx ?_) | (refine sb ?_))); refine zh_took (by rfl) ?_
  refine zh_three 4 6 20 rfl rfl rfl (by kernel_rfl) ?_ ?_ ?_
  · refine st ?_
    refine zh_oned (by rfl) (by simp) ?_
    refine zh_two 6 20 rfl rfl (by kernel_rfl) ?_ ?_
    · refine st ?_; intro ka
      refine zh_oned (by rfl) (by simp) ?_
      refine zh_two 7 20 rfl rfl (by kernel_rfl) ?_ ?_
      · refine st ?_
        refine zh_oned (by rfl) (by simp) ?_
        refine zh_take 8 (by kernel_rfl) rfl (by kernel_rfl) (by kernel_rfl) ?_ (by simp)
        refine zx_cat rfl rfl rfl (by rw [ofInts_size, ofInts_size]; show x.down.length + 4 ≤ _; omega) rfl ?_
        refine zx_re 28 (.string (ofInts (x.down ++ [5, 0, 0, 4]))) rfl (congrArg _ (ofInts_app x.down [5, 0, 0, 4])) ?_
        refine zh_took (by rfl) ?_
        refine zh_take 12 (by kernel_rfl) rfl (by kernel_rfl) (by kernel_rfl) ?_ (by simp)
        refine zx_cat rfl rfl rfl (by rw [ofInts_size, List.length_append]; show x.down.length + 4 + _ ≤ _; omega) rfl ?_
        refine zx_re 32 (.string (ofInts ((x.down ++ [5, 0, 0, 4]) ++ bL a.bytes))) rfl (congrArg _ (by rw [← ofInts_app _ (bL a.bytes), ofInts_bL])) ?_
        refine zh_took (by rfl) ?_
        refine zh_one 20 rfl (by kernel_rfl) ?_
        refine st ?_; intro kb
        refine zh_oned (by rfl) (by simp) ?_
        refine zh_one 21 rfl (by kernel_rfl) ?_
        refine st ?_
        refine zh_oned (by rfl) (by simp) ?_
        refine zh_take 22 (by kernel_rfl) rfl (by kernel_rfl) (by kernel_rfl) ?_ (by simp)
        refine zx_cat rfl rfl rfl (by rw [ofInts_size, ofInts_size, List.length_append, List.length_append, bL_length]; show x.down.length + 4 + _ + 2 ≤ _; omega) rfl ?_
        refine zx_re 42 (.string (ofInts (((x.down ++ [5, 0, 0, 4]) ++ bL a.bytes) ++ [hiB n, loB n]))) rfl (congrArg _ (ofInts_app _ [hiB n, loB n])) ?_
        refine zh_took (by rfl) ?_
        refine zh_take 23 (by kernel_rfl) rfl (by kernel_rfl) (by kernel_rfl) ?_ (by simp); (repeat (first | (refine sn ?_) | (refine stx ?_) | (refine sb ?_))); refine zh_took (by rfl) ?_
        refine zh_take 24 (by kernel_rfl) rfl (by kernel_rfl) (by kernel_rfl) ?_ (by simp); (repeat (first | (refine sn ?_) | (refine stx ?_) | (refine sb ?_))); refine zh_took (by rfl) ?_
        refine zh_one 25 rfl (by kernel_rfl) ?_
        refine st ?_
        refine zh_oned (by rfl) (by simp) ?_
        refine zh_end (by rfl) (by kernel_rfl) ?_
        repeat (first | (refine st ?_) | (refine stx ?_) | (refine sb ?_) | (intro _))
        refine z_ret1 tab_ok Try.func101 hb hk Try.results101 (.tmp rfl) (fun w hm => ?_)
        exact ⟨rfl, hm.weaken (fun _ h => h) (List.Sublist.cons _ (List.Sublist.cons _ (List.Sublist.cons _ (List.Sublist.refl _))))⟩
      · refine st ?_; intro kb
        refine zh_oned (by rfl) (by simp) ?_
        refine zh_two 7 21 rfl rfl (by kernel_rfl) ?_ ?_
        · refine st ?_
          refine zh_oned (by rfl) (by simp) ?_
          refine zh_take 8 (by kernel_rfl) rfl (by kernel_rfl) (by kernel_rfl) ?_ (by simp)
          refine zx_cat rfl rfl rfl (by rw [ofInts_size, ofInts_size]; show x.down.length + 4 ≤ _; omega) rfl ?_
          refine zx_re 28 (.string (ofInts (x.down ++ [5, 0, 0, 4]))) rfl (congrArg _ (ofInts_app x.down [5, 0, 0, 4])) ?_
          refine zh_took (by rfl) ?_
          refine zh_take 12 (by kernel_rfl) rfl (by kernel_rfl) (by kernel_rfl) ?_ (by simp)
          refine zx_cat rfl rfl rfl (by rw [ofInts_size, List.length_append]; show x.down.length + 4 + _ ≤ _; omega) rfl ?_
          refine zx_re 32 (.string (ofInts ((x.down ++ [5, 0, 0, 4]) ++ bL a.bytes))) rfl (congrArg _ (by rw [← ofInts_app _ (bL a.bytes), ofInts_bL])) ?_
          refine zh_took (by rfl) ?_
          refine zh_one 21 rfl (by kernel_rfl) ?_
          refine st ?_
          refine zh_oned (by rfl) (by simp) ?_
          refine zh_take 22 (by kernel_rfl) rfl (by kernel_rfl) (by kernel_rfl) ?_ (by simp)
          refine zx_cat rfl rfl rfl (by rw [ofInts_size, ofInts_size, List.length_append, List.length_append, bL_length]; show x.down.length + 4 + _ + 2 ≤ _; omega) rfl ?_
          refine zx_re 42 (.string (ofInts (((x.down ++ [5, 0, 0, 4]) ++ bL a.bytes) ++ [hiB n, loB n]))) rfl (congrArg _ (ofInts_app _ [hiB n, loB n])) ?_
          refine zh_took (by rfl) ?_
          refine zh_take 23 (by kernel_rfl) rfl (by kernel_rfl) (by kernel_rfl) ?_ (by simp); (repeat (first | (refine sn ?_) | (refine stx ?_) | (refine sb ?_))); refine zh_took (by rfl) ?_
          refine zh_take 24 (by kernel_rfl) rfl (by kernel_rfl) (by kernel_rfl) ?_ (by simp); (repeat (first | (refine sn ?_) | (refine stx ?_) | (refine sb ?_))); refine zh_took (by rfl) ?_
          refine zh_one 25 rfl (by kernel_rfl) ?_
          refine st ?_
          refine zh_oned (by rfl) (by simp) ?_
          refine zh_end (by rfl) (by kernel_rfl) ?_
          repeat (first | (refine st ?_) | (refine stx ?_) | (refine sb ?_) | (intro _))
          refine z_ret1 tab_ok Try.func101 hb hk Try.results101 (.tmp rfl) (fun w hm => ?_)
          exact ⟨rfl, hm.weaken (fun _ h => h) (List.Sublist.cons _ (List.Sublist.cons _ (List.Sublist.cons _ (List.Sublist.refl _))))⟩
        · refine st ?_
          refine zh_oned (by rfl) (by simp) ?_
          refine zh_one 7 rfl (by kernel_rfl) ?_
          refine st ?_
          refine zh_oned (by rfl) (by simp) ?_
          refine zh_take 8 (by kernel_rfl) rfl (by kernel_rfl) (by kernel_rfl) ?_ (by simp)
          refine zx_cat rfl rfl rfl (by rw [ofInts_size, ofInts_size]; show x.down.length + 4 ≤ _; omega) rfl ?_
          refine zx_re 28 (.string (ofInts (x.down ++ [5, 0, 0, 4]))) rfl (congrArg _ (ofInts_app x.down [5, 0, 0, 4])) ?_
          refine zh_took (by rfl) ?_
          refine zh_take 12 (by kernel_rfl) rfl (by kernel_rfl) (by kernel_rfl) ?_ (by simp)
          refine zx_cat rfl rfl rfl (by rw [ofInts_size, List.length_append]; show x.down.length + 4 + _ ≤ _; omega) rfl ?_
          refine zx_re 32 (.string (ofInts ((x.down ++ [5, 0, 0, 4]) ++ bL a.bytes))) rfl (congrArg _ (by rw [← ofInts_app _ (bL a.bytes), ofInts_bL])) ?_
          refine zh_took (by rfl) ?_
          refine zh_take 22 (by kernel_rfl) rfl (by kernel_rfl) (by kernel_rfl) ?_ (by simp)
          refine zx_cat rfl rfl rfl (by rw [ofInts_size, ofInts_size, List.length_append, List.length_append, bL_length]; show x.down.length + 4 + _ + 2 ≤ _; omega) rfl ?_
          refine zx_re 42 (.string (ofInts (((x.down ++ [5, 0, 0, 4]) ++ bL a.bytes) ++ [hiB n, loB n]))) rfl (congrArg _ (ofInts_app _ [hiB n, loB n])) ?_
          refine zh_took (by rfl) ?_
          refine zh_take 23 (by kernel_rfl) rfl (by kernel_rfl) (by kernel_rfl) ?_ (by simp); (repeat (first | (refine sn ?_) | (refine stx ?_) | (refine sb ?_))); refine zh_took (by rfl) ?_
          refine zh_take 24 (by kernel_rfl) rfl (by kernel_rfl) (by kernel_rfl) ?_ (by simp); (repeat (first | (refine sn ?_) | (refine stx ?_) | (refine sb ?_))); refine zh_took (by rfl) ?_
          refine zh_one 25 rfl (by kernel_rfl) ?_
          refine st ?_
          refine zh_oned (by rfl) (by simp) ?_
          refine zh_end (by rfl) (by kernel_rfl) ?_
          repeat (first | (refine st ?_) | (refine stx ?_) | (refine sb ?_) | (intro _))
          refine z_ret1 tab_ok Try.func101 hb hk Try.results101 (.tmp rfl) (fun w hm => ?_)
          exact ⟨rfl, hm.weaken (fun _ h => h) (List.Sublist.cons _ (List.Sublist.cons _ (List.Sublist.cons _ (List.Sublist.refl _))))⟩
    · refine st ?_; intro kb
      refine zh_oned (by rfl) (by simp) ?_
      refine zh_two 6 21 rfl rfl (by kernel_rfl) ?_ ?_
      · refine st ?_; intro ka
        refine zh_oned (by rfl) (by simp) ?_
        refine zh_two 7 21 rfl rfl (by kernel_rfl) ?_ ?_
        · refine st ?_
          refine zh_oned (by rfl) (by simp) ?_
          refine zh_take 8 (by kernel_rfl) rfl (by kernel_rfl) (by kernel_rfl) ?_ (by simp)
          refine zx_cat rfl rfl rfl (by rw [ofInts_size, ofInts_size]; show x.down.length + 4 ≤ _; omega) rfl ?_
          refine zx_re 28 (.string (ofInts (x.down ++ [5, 0, 0, 4]))) rfl (congrArg _ (ofInts_app x.down [5, 0, 0, 4])) ?_
          refine zh_took (by rfl) ?_
          refine zh_take 12 (by kernel_rfl) rfl (by kernel_rfl) (by kernel_rfl) ?_ (by simp)
          refine zx_cat rfl rfl rfl (by rw [ofInts_size, List.length_append]; show x.down.length + 4 + _ ≤ _; omega) rfl ?_
          refine zx_re 32 (.string (ofInts ((x.down ++ [5, 0, 0, 4]) ++ bL a.bytes))) rfl (congrArg _ (by rw [← ofInts_app _ (bL a.bytes), ofInts_bL])) ?_
          refine zh_took (by rfl) ?_
          refine zh_one 21 rfl (by kernel_rfl) ?_
          refine st ?_
          refine zh_oned (by rfl) (by simp) ?_
          refine zh_take 22 (by kernel_rfl) rfl (by kernel_rfl) (by kernel_rfl) ?_ (by simp)
          refine zx_cat rfl rfl rfl (by rw [ofInts_size, ofInts_size, List.length_append, List.length_append, bL_length]; show x.down.length + 4 + _ + 2 ≤ _; omega) rfl ?_
          refine zx_re 42 (.string (ofInts (((x.down ++ [5, 0, 0, 4]) ++ bL a.bytes) ++ [hiB n, loB n]))) rfl (congrArg _ (ofInts_app _ [hiB n, loB n])) ?_
          refine zh_took (by rfl) ?_
          refine zh_take 23 (by kernel_rfl) rfl (by kernel_rfl) (by kernel_rfl) ?_ (by simp); (repeat (first | (refine sn ?_) | (refine stx ?_) | (refine sb ?_))); refine zh_took (by rfl) ?_
          refine zh_take 24 (by kernel_rfl) rfl (by kernel_rfl) (by kernel_rfl) ?_ (by simp); (repeat (first | (refine sn ?_) | (refine stx ?_) | (refine sb ?_))); refine zh_took (by rfl) ?_
          refine zh_one 25 rfl (by kernel_rfl) ?_
          refine st ?_
          refine zh_oned (by rfl) (by simp) ?_
          refine zh_end (by rfl) (by kernel_rfl) ?_
          repeat (first | (refine st ?_) | (refine stx ?_) | (refine sb ?_) | (intro _))
          refine z_ret1 tab_ok Try.func101 hb hk Try.results101 (.tmp rfl) (fun w hm => ?_)
          exact ⟨rfl, hm.weaken (fun _ h => h) (List.Sublist.cons _ (List.Sublist.cons _ (List.Sublist.cons _ (List.Sublist.refl _))))⟩
        · refine st ?_
          refine zh_oned (by rfl) (by simp) ?_
          refine zh_one 7 rfl (by kernel_rfl) ?_
          refine st ?_
          refine zh_oned (by rfl) (by simp) ?_
          refine zh_take 8 (by kernel_rfl) rfl (by kernel_rfl) (by kernel_rfl) ?_ (by simp)
          refine zx_cat rfl rfl rfl (by rw [ofInts_size, ofInts_size]; show x.down.length + 4 ≤ _; omega) rfl ?_
          refine zx_re 28 (.string (ofInts (x.down ++ [5, 0, 0, 4]))) rfl (congrArg _ (ofInts_app x.down [5, 0, 0, 4])) ?_
          refine zh_took (by rfl) ?_
          refine zh_take 12 (by kernel_rfl) rfl (by kernel_rfl) (by kernel_rfl) ?_ (by simp)
          refine zx_cat rfl rfl rfl (by rw [ofInts_size, List.length_append]; show x.down.length + 4 + _ ≤ _; omega) rfl ?_
          refine zx_re 32 (.string (ofInts ((x.down ++ [5, 0, 0, 4]) ++ bL a.bytes))) rfl (congrArg _ (by rw [← ofInts_app _ (bL a.bytes), ofInts_bL])) ?_
          refine zh_took (by rfl) ?_
          refine zh_take 22 (by kernel_rfl) rfl (by kernel_rfl) (by kernel_rfl) ?_ (by simp)
          refine zx_cat rfl rfl rfl (by rw [ofInts_size, ofInts_size, List.length_append, List.length_append, bL_length]; show x.down.length + 4 + _ + 2 ≤ _; omega) rfl ?_
          refine zx_re 42 (.string (ofInts (((x.down ++ [5, 0, 0, 4]) ++ bL a.bytes) ++ [hiB n, loB n]))) rfl (congrArg _ (ofInts_app _ [hiB n, loB n])) ?_
          refine zh_took (by rfl) ?_
          refine zh_take 23 (by kernel_rfl) rfl (by kernel_rfl) (by kernel_rfl) ?_ (by simp); (repeat (first | (refine sn ?_) | (refine stx ?_) | (refine sb ?_))); refine zh_took (by rfl) ?_
          refine zh_take 24 (by kernel_rfl) rfl (by kernel_rfl) (by kernel_rfl) ?_ (by simp); (repeat (first | (refine sn ?_) | (refine stx ?_) | (refine sb ?_))); refine zh_took (by rfl) ?_
          refine zh_one 25 rfl (by kernel_rfl) ?_
          refine st ?_
          refine zh_oned (by rfl) (by simp) ?_
          refine zh_end (by rfl) (by kernel_rfl) ?_
          repeat (first | (refine st ?_) | (refine stx ?_) | (refine sb ?_) | (intro _))
          refine z_ret1 tab_ok Try.func101 hb hk Try.results101 (.tmp rfl) (fun w hm => ?_)
          exact ⟨rfl, hm.weaken (fun _ h => h) (List.Sublist.cons _ (List.Sublist.cons _ (List.Sublist.cons _ (List.Sublist.refl _))))⟩
      · refine st ?_
        refine zh_oned (by rfl) (by simp) ?_
        refine zh_one 6 rfl (by kernel_rfl) ?_
        refine st ?_; intro ka
        refine zh_oned (by rfl) (by simp) ?_
        refine zh_one 7 rfl (by kernel_rfl) ?_
        refine st ?_
        refine zh_oned (by rfl) (by simp) ?_
        refine zh_take 8 (by kernel_rfl) rfl (by kernel_rfl) (by kernel_rfl) ?_ (by simp)
        refine zx_cat rfl rfl rfl (by rw [ofInts_size, ofInts_size]; show x.down.length + 4 ≤ _; omega) rfl ?_
        refine zx_re 28 (.string (ofInts (x.down ++ [5, 0, 0, 4]))) rfl (congrArg _ (ofInts_app x.down [5, 0, 0, 4])) ?_
        refine zh_took (by rfl) ?_
        refine zh_take 12 (by kernel_rfl) rfl (by kernel_rfl) (by kernel_rfl) ?_ (by simp)
        refine zx_cat rfl rfl rfl (by rw [ofInts_size, List.length_append]; show x.down.length + 4 + _ ≤ _; omega) rfl ?_
        refine zx_re 32 (.string (ofInts ((x.down ++ [5, 0, 0, 4]) ++ bL a.bytes))) rfl (congrArg _ (by rw [← ofInts_app _ (bL a.bytes), ofInts_bL])) ?_
        refine zh_took (by rfl) ?_
        refine zh_take 22 (by kernel_rfl) rfl (by kernel_rfl) (by kernel_rfl) ?_ (by simp)
        refine zx_cat rfl rfl rfl (by rw [ofInts_size, ofInts_size, List.length_append, List.length_append, bL_length]; show x.down.length + 4 + _ + 2 ≤ _; omega) rfl ?_
        refine zx_re 42 (.string (ofInts (((x.down ++ [5, 0, 0, 4]) ++ bL a.bytes) ++ [hiB n, loB n]))) rfl (congrArg _ (ofInts_app _ [hiB n, loB n])) ?_
        refine zh_took (by rfl) ?_
        refine zh_take 23 (by kernel_rfl) rfl (by kernel_rfl) (by kernel_rfl) ?_ (by simp); (repeat (first | (refine sn ?_) | (refine stx ?_) | (refine sb ?_))); refine zh_took (by rfl) ?_
        refine zh_take 24 (by kernel_rfl) rfl (by kernel_rfl) (by kernel_rfl) ?_ (by simp); (repeat (first | (refine sn ?_) | (refine stx ?_) | (refine sb ?_))); refine zh_took (by rfl) ?_
        refine zh_one 25 rfl (by kernel_rfl) ?_
        refine st ?_
        refine zh_oned (by rfl) (by simp) ?_
        refine zh_end (by rfl) (by kernel_rfl) ?_
        repeat (first | (refine st ?_) | (refine stx ?_) | (refine sb ?_) | (intro _))
        refine z_ret1 tab_ok Try.func101 hb hk Try.results101 (.tmp rfl) (fun w hm => ?_)
        exact ⟨rfl, hm.weaken (fun _ h => h) (List.Sublist.cons _ (List.Sublist.cons _ (List.Sublist.cons _ (List.Sublist.refl _))))⟩
  · refine st ?_; intro ka
    refine zh_oned (by rfl) (by simp) ?_
    refine zh_three 4 7 20 rfl rfl rfl (by kernel_rfl) ?_ ?_ ?_
    · refine st ?_
      refine zh_oned (by rfl) (by simp) ?_
      refine zh_two 7 20 rfl rfl (by kernel_rfl) ?_ ?_
      · refine st ?_
        refine zh_oned (by rfl) (by simp) ?_
        refine zh_take 8 (by kernel_rfl) rfl (by kernel_rfl) (by kernel_rfl) ?_ (by simp)
        refine zx_cat rfl rfl rfl (by rw [ofInts_size, ofInts_size]; show x.down.length + 4 ≤ _; omega) rfl ?_
        refine zx_re 28 (.string (ofInts (x.down ++ [5, 0, 0, 4]))) rfl (congrArg _ (ofInts_app x.down [5, 0, 0, 4])) ?_
        refine zh_took (by rfl) ?_
        refine zh_take 12 (by kernel_rfl) rfl (by kernel_rfl) (by kernel_rfl) ?_ (by simp)
        refine zx_cat rfl rfl rfl (by rw [ofInts_size, List.length_append]; show x.down.length + 4 + _ ≤ _; omega) rfl ?_
        refine zx_re 32 (.string (ofInts ((x.down ++ [5, 0, 0, 4]) ++ bL a.bytes))) rfl (congrArg _ (by rw [← ofInts_app _ (bL a.bytes), ofInts_bL])) ?_
        refine zh_took (by rfl) ?_
        refine zh_one 20 rfl (by kernel_rfl) ?_
        refine st ?_; intro kb
        refine zh_oned (by rfl) (by simp) ?_
        refine zh_one 21 rfl (by kernel_rfl) ?_
        refine st ?_
        refine zh_oned (by rfl) (by simp) ?_
        refine zh_take 22 (by kernel_rfl) rfl (by kernel_rfl) (by kernel_rfl) ?_ (by simp)
        refine zx_cat rfl rfl rfl (by rw [ofInts_size, ofInts_size, List.length_append, List.length_append, bL_length]; show x.down.length + 4 + _ + 2 ≤ _; omega) rfl ?_
        refine zx_re 42 (.string (ofInts (((x.down ++ [5, 0, 0, 4]) ++ bL a.bytes) ++ [hiB n, loB n]))) rfl (congrArg _ (ofInts_app _ [hiB n, loB n])) ?_
        refine zh_took (by rfl) ?_
        refine zh_take 23 (by kernel_rfl) rfl (by kernel_rfl) (by kernel_rfl) ?_ (by simp); (repeat (first | (refine sn ?_) | (refine stx ?_) | (refine sb ?_))); refine zh_took (by rfl) ?_
        refine zh_take 24 (by kernel_rfl) rfl (by kernel_rfl) (by kernel_rfl) ?_ (by simp); (repeat (first | (refine sn ?_) | (refine stx ?_) | (refine sb ?_))); refine zh_took (by rfl) ?_
        refine zh_one 25 rfl (by kernel_rfl) ?_
        refine st ?_
        refine zh_oned (by rfl) (by simp) ?_
        refine zh_end (by rfl) (by kernel_rfl) ?_
        repeat (first | (refine st ?_) | (refine stx ?_) | (refine sb ?_) | (intro _))
        refine z_ret1 tab_ok Try.func101 hb hk Try.results101 (.tmp rfl) (fun w hm => ?_)
        exact ⟨rfl, hm.weaken (fun _ h => h) (List.Sublist.cons _ (List.Sublist.cons _ (List.Sublist.cons _ (List.Sublist.refl _))))⟩
      · refine st ?_; intro kb
        refine zh_oned (by rfl) (by simp) ?_
        refine zh_two 7 21 rfl rfl (by kernel_rfl) ?_ ?_
        · refine st ?_
          refine zh_oned (by rfl) (by simp) ?_
          refine zh_take 8 (by kernel_rfl) rfl (by kernel_rfl) (by kernel_rfl) ?_ (by simp)
          refine zx_cat rfl rfl rfl (by rw [ofInts_size, ofInts_size]; show x.down.length + 4 ≤ _; omega) rfl ?_
          refine zx_re 28 (.string (ofInts (x.down ++ [5, 0, 0, 4]))) rfl (congrArg _ (ofInts_app x.down [5, 0, 0, 4])) ?_
          refine zh_took (by rfl) ?_
          refine zh_take 12 (by kernel_rfl) rfl (by kernel_rfl) (by kernel_rfl) ?_ (by simp)
          refine zx_cat rfl rfl rfl (by rw [ofInts_size, List.length_append]; show x.down.length + 4 + _ ≤ _; omega) rfl ?_
          refine zx_re 32 (.string (ofInts ((x.down ++ [5, 0, 0, 4]) ++ bL a.bytes))) rfl (congrArg _ (by rw [← ofInts_app _ (bL a.bytes), ofInts_bL])) ?_
          refine zh_took (by rfl) ?_
          refine zh_one 21 rfl (by kernel_rfl) ?_
          refine st ?_
          refine zh_oned (by rfl) (by simp) ?_
          refine zh_take 22 (by kernel_rfl) rfl (by kernel_rfl) (by kernel_rfl) ?_ (by simp)
          refine zx_cat rfl rfl rfl (by rw [ofInts_size, ofInts_size, List.length_append, List.length_append, bL_length]; show x.down.length + 4 + _ + 2 ≤ _; omega) rfl ?_
          refine zx_re 42 (.string (ofInts (((x.down ++ [5, 0, 0, 4]) ++ bL a.bytes) ++ [hiB n, loB n]))) rfl (congrArg _ (ofInts_app _ [hiB n, loB n])) ?_
          refine zh_took (by rfl) ?_
          refine zh_take 23 (by kernel_rfl) rfl (by kernel_rfl) (by kernel_rfl) ?_ (by simp); (repeat (first | (refine sn ?_) | (refine stx ?_) | (refine sb ?_))); refine zh_took (by rfl) ?_
          refine zh_take 24 (by kernel_rfl) rfl (by kernel_rfl) (by kernel_rfl) ?_ (by simp); (repeat (first | (refine sn ?_) | (refine stx ?_) | (refine sb ?_))); refine zh_took (by rfl) ?_
          refine zh_one 25 rfl (by kernel_rfl) ?_
          refine st ?_
          refine zh_oned (by rfl) (by simp) ?_
          refine zh_end (by rfl) (by kernel_rfl) ?_
          repeat (first | (refine st ?_) | (refine stx ?_) | (refine sb ?_) | (intro _))
          refine z_ret1 tab_ok Try.func101 hb hk Try.results101 (.tmp rfl) (fun w hm => ?_)
          exact ⟨rfl, hm.weaken (fun _ h => h) (List.Sublist.cons _ (List.Sublist.cons _ (List.Sublist.cons _ (List.Sublist.refl _))))⟩
        · refine st ?_
          refine zh_oned (by rfl) (by simp) ?_
          refine zh_one 7 rfl (by kernel_rfl) ?_
          refine st ?_
          refine zh_oned (by rfl) (by simp) ?_
          refine zh_take 8 (by kernel_rfl) rfl (by kernel_rfl) (by kernel_rfl) ?_ (by simp)
          refine zx_cat rfl rfl rfl (by rw [ofInts_size, ofInts_size]; show x.down.length + 4 ≤ _; omega) rfl ?_
          refine zx_re 28 (.string (ofInts (x.down ++ [5, 0, 0, 4]))) rfl (congrArg _ (ofInts_app x.down [5, 0, 0, 4])) ?_
          refine zh_took (by rfl) ?_
          refine zh_take 12 (by kernel_rfl) rfl (by kernel_rfl) (by kernel_rfl) ?_ (by simp)
          refine zx_cat rfl rfl rfl (by rw [ofInts_size, List.length_append]; show x.down.length + 4 + _ ≤ _; omega) rfl ?_
          refine zx_re 32 (.string (ofInts ((x.down ++ [5, 0, 0, 4]) ++ bL a.bytes))) rfl (congrArg _ (by rw [← ofInts_app _ (bL a.bytes), ofInts_bL])) ?_
          refine zh_took (by rfl) ?_
          refine zh_take 22 (by kernel_rfl) rfl (by kernel_rfl) (by kernel_rfl) ?_ (by simp)
          refine zx_cat rfl rfl rfl (by rw [ofInts_size, ofInts_size, List.length_append, List.length_append, bL_length]; show x.down.length + 4 + _ + 2 ≤ _; omega) rfl ?_
          refine zx_re 42 (.string (ofInts (((x.down ++ [5, 0, 0, 4]) ++ bL a.bytes) ++ [hiB n, loB n]))) rfl (congrArg _ (ofInts_app _ [hiB n, loB n])) ?_
          refine zh_took (by rfl) ?_
          refine zh_take 23 (by kernel_rfl) rfl (by kernel_rfl) (by kernel_rfl) ?_ (by simp); (repeat (first | (refine sn ?_) | (refine stx ?_) | (refine sb ?_))); refine zh_took (by rfl) ?_
          refine zh_take 24 (by kernel_rfl) rfl (by kernel_rfl) (by kernel_rfl) ?_ (by simp); (repeat (first | (refine sn ?_) | (refine stx ?_) | (refine sb ?_))); refine zh_took (by rfl) ?_
          refine zh_one 25 rfl (by kernel_rfl) ?_
          refine st ?_
          refine zh_oned (by rfl) (by simp) ?_
          refine zh_end (by rfl) (by kernel_rfl) ?_
          repeat (first | (refine st ?_) | (refine stx ?_) | (refine sb ?_) | (intro _))
          refine z_ret1 tab_ok Try.func101 hb hk Try.results101 (.tmp rfl) (fun w hm => ?_)
          exact ⟨rfl, hm.weaken (fun _ h => h) (List.Sublist.cons _ (List.Sublist.cons _ (List.Sublist.cons _ (List.Sublist.refl _))))⟩
    · refine st ?_
      refine zh_oned (by rfl) (by simp) ?_
      refine zh_two 4 20 rfl rfl (by kernel_rfl) ?_ ?_
      · refine st ?_
        refine zh_oned (by rfl) (by simp) ?_
        refine zh_take 8 (by kernel_rfl) rfl (by kernel_rfl) (by kernel_rfl) ?_ (by simp)
        refine zx_cat rfl rfl rfl (by rw [ofInts_size, ofInts_size]; show x.down.length + 4 ≤ _; omega) rfl ?_
        refine zx_re 28 (.string (ofInts (x.down ++ [5, 0, 0, 4]))) rfl (congrArg _ (ofInts_app x.down [5, 0, 0, 4])) ?_
        refine zh_took (by rfl) ?_
        refine zh_take 12 (by kernel_rfl) rfl (by kernel_rfl) (by kernel_rfl) ?_ (by simp)
        refine zx_cat rfl rfl rfl (by rw [ofInts_size, List.length_append]; show x.down.length + 4 + _ ≤ _; omega) rfl ?_
        refine zx_re 32 (.string (ofInts ((x.down ++ [5, 0, 0, 4]) ++ bL a.bytes))) rfl (congrArg _ (by rw [← ofInts_app _ (bL a.bytes), ofInts_bL])) ?_
        refine zh_took (by rfl) ?_
        refine zh_one 20 rfl (by kernel_rfl) ?_
        refine st ?_; intro kb
        refine zh_oned (by rfl) (by simp) ?_
        refine zh_one 21 rfl (by kernel_rfl) ?_
        refine st ?_
        refine zh_oned (by rfl) (by simp) ?_
        refine zh_take 22 (by kernel_rfl) rfl (by kernel_rfl) (by kernel_rfl) ?_ (by simp)
        refine zx_cat rfl rfl rfl (by rw [ofInts_size, ofInts_size, List.length_append, List.length_append, bL_length]; show x.down.length + 4 + _ + 2 ≤ _; omega) rfl ?_
        refine zx_re 42 (.string (ofInts (((x.down ++ [5, 0, 0, 4]) ++ bL a.bytes) ++ [hiB n, loB n]))) rfl (congrArg _ (ofInts_app _ [hiB n, loB n])) ?_
        refine zh_took (by rfl) ?_
        refine zh_take 23 (by kernel_rfl) rfl (by kernel_rfl) (by kernel_rfl) ?_ (by simp); (repeat (first | (refine sn ?_) | (refine stx ?_) | (refine sb ?_))); refine zh_took (by rfl) ?_
        refine zh_take 24 (by kernel_rfl) rfl (by kernel_rfl) (by kernel_rfl) ?_ (by simp); (repeat (first | (refine sn ?_) | (refine stx ?_) | (refine sb ?_))); refine zh_took (by rfl) ?_
        refine zh_one 25 rfl (by kernel_rfl) ?_
        refine st ?_
        refine zh_oned (by rfl) (by simp) ?_
        refine zh_end (by rfl) (by kernel_rfl) ?_
        repeat (first | (refine st ?_) | (refine stx ?_) | (refine sb ?_) | (intro _))
        refine z_ret1 tab_ok Try.func101 hb hk Try.results101 (.tmp rfl) (fun w hm => ?_)
        exact ⟨rfl, hm.weaken (fun _ h => h) (List.Sublist.cons _ (List.Sublist.cons _ (List.Sublist.cons _ (List.Sublist.refl _))))⟩
      · refine st ?_; intro kb
        refine zh_oned (by rfl) (by simp) ?_
        refine zh_two 4 21 rfl rfl (by kernel_rfl) ?_ ?_
        · refine st ?_
          refine zh_oned (by rfl) (by simp) ?_
          refine zh_take 8 (by kernel_rfl) rfl (by kernel_rfl) (by kernel_rfl) ?_ (by simp)
          refine zx_cat rfl rfl rfl (by rw [ofInts_size, ofInts_size]; show x.down.length + 4 ≤ _; omega) rfl ?_
          refine zx_re 28 (.string (ofInts (x.down ++ [5, 0, 0, 4]))) rfl (congrArg _ (ofInts_app x.down [5, 0, 0, 4])) ?_
          refine zh_took (by rfl) ?_
          refine zh_take 12 (by kernel_rfl) rfl (by kernel_rfl) (by kernel_rfl) ?_ (by simp)
          refine zx_cat rfl rfl rfl (by rw [ofInts_size, List.length_append]; show x.down.length + 4 + _ ≤ _; omega) rfl ?_
          refine zx_re 32 (.string (ofInts ((x.down ++ [5, 0, 0, 4]) ++ bL a.bytes))) rfl (congrArg _ (by rw [← ofInts_app _ (bL a.bytes), ofInts_bL])) ?_
          refine zh_took (by rfl) ?_
          refine zh_one 21 rfl (by kernel_rfl) ?_
          refine st ?_
          refine zh_oned (by rfl) (by simp) ?_
          refine zh_take 22 (by kernel_rfl) rfl (by kernel_rfl) (by kernel_rfl) ?_ (by simp)
          refine zx_cat rfl rfl rfl (by rw [ofInts_size, ofInts_size, List.length_append, List.length_append, bL_length]; show x.down.length + 4 + _ + 2 ≤ _; omega) rfl ?_
          refine zx_re 42 (.string (ofInts (((x.down ++ [5, 0, 0, 4]) ++ bL a.bytes) ++ [hiB n, loB n]))) rfl (congrArg _ (ofInts_app _ [hiB n, loB n])) ?_
          refine zh_took (by rfl) ?_
          refine zh_take 23 (by kernel_rfl) rfl (by kernel_rfl) (by kernel_rfl) ?_ (by simp); (repeat (first | (refine sn ?_) | (refine stx ?_) | (refine sb ?_))); refine zh_took (by rfl) ?_
          refine zh_take 24 (by kernel_rfl) rfl (by kernel_rfl) (by kernel_rfl) ?_ (by simp); (repeat (first | (refine sn ?_) | (refine stx ?_) | (refine sb ?_))); refine zh_took (by rfl) ?_
          refine zh_one 25 rfl (by kernel_rfl) ?_
          refine st ?_
          refine zh_oned (by rfl) (by simp) ?_
          refine zh_end (by rfl) (by kernel_rfl) ?_
          repeat (first | (refine st ?_) | (refine stx ?_) | (refine sb ?_) | (intro _))
          refine z_ret1 tab_ok Try.func101 hb hk Try.results101 (.tmp rfl) (fun w hm => ?_)
          exact ⟨rfl, hm.weaken (fun _ h => h) (List.Sublist.cons _ (List.Sublist.cons _ (List.Sublist.cons _ (List.Sublist.refl _))))⟩
        · refine st ?_
          refine zh_oned (by rfl) (by simp) ?_
          refine zh_one 4 rfl (by kernel_rfl) ?_
          refine st ?_
          refine zh_oned (by rfl) (by simp) ?_
          refine zh_take 8 (by kernel_rfl) rfl (by kernel_rfl) (by kernel_rfl) ?_ (by simp)
          refine zx_cat rfl rfl rfl (by rw [ofInts_size, ofInts_size]; show x.down.length + 4 ≤ _; omega) rfl ?_
          refine zx_re 28 (.string (ofInts (x.down ++ [5, 0, 0, 4]))) rfl (congrArg _ (ofInts_app x.down [5, 0, 0, 4])) ?_
          refine zh_took (by rfl) ?_
          refine zh_take 12 (by kernel_rfl) rfl (by kernel_rfl) (by kernel_rfl) ?_ (by simp)
          refine zx_cat rfl rfl rfl (by rw [ofInts_size, List.length_append]; show x.down.length + 4 + _ ≤ _; omega) rfl ?_
          refine zx_re 32 (.string (ofInts ((x.down ++ [5, 0, 0, 4]) ++ bL a.bytes))) rfl (congrArg _ (by rw [← ofInts_app _ (bL a.bytes), ofInts_bL])) ?_
          refine zh_took (by rfl) ?_
          refine zh_take 22 (by kernel_rfl) rfl (by kernel_rfl) (by kernel_rfl) ?_ (by simp)
          refine zx_cat rfl rfl rfl (by rw [ofInts_size, ofInts_size, List.length_append, List.length_append, bL_length]; show x.down.length + 4 + _ + 2 ≤ _; omega) rfl ?_
          refine zx_re 42 (.string (ofInts (((x.down ++ [5, 0, 0, 4]) ++ bL a.bytes) ++ [hiB n, loB n]))) rfl (congrArg _ (ofInts_app _ [hiB n, loB n])) ?_
          refine zh_took (by rfl) ?_
          refine zh_take 23 (by kernel_rfl) rfl (by kernel_rfl) (by kernel_rfl) ?_ (by simp); (repeat (first | (refine sn ?_) | (refine stx ?_) | (refine sb ?_))); refine zh_took (by rfl) ?_
          refine zh_take 24 (by kernel_rfl) rfl (by kernel_rfl) (by kernel_rfl) ?_ (by simp); (repeat (first | (refine sn ?_) | (refine stx ?_) | (refine sb ?_))); refine zh_took (by rfl) ?_
          refine zh_one 25 rfl (by kernel_rfl) ?_
          refine st ?_
          refine zh_oned (by rfl) (by simp) ?_
          refine zh_end (by rfl) (by kernel_rfl) ?_
          repeat (first | (refine st ?_) | (refine stx ?_) | (refine sb ?_) | (intro _))
          refine z_ret1 tab_ok Try.func101 hb hk Try.results101 (.tmp rfl) (fun w hm => ?_)
          exact ⟨rfl, hm.weaken (fun _ h => h) (List.Sublist.cons _ (List.Sublist.cons _ (List.Sublist.cons _ (List.Sublist.refl _))))⟩
    · refine st ?_; intro kb
      refine zh_oned (by rfl) (by simp) ?_
      refine zh_three 4 7 21 rfl rfl rfl (by kernel_rfl) ?_ ?_ ?_
      · refine st ?_
        refine zh_oned (by rfl) (by simp) ?_
        refine zh_two 7 21 rfl rfl (by kernel_rfl) ?_ ?_
        · refine st ?_
          refine zh_oned (by rfl) (by simp) ?_
          refine zh_take 8 (by kernel_rfl) rfl (by kernel_rfl) (by kernel_rfl) ?_ (by simp)
          refine zx_cat rfl rfl rfl (by rw [ofInts_size, ofInts_size]; show x.down.length + 4 ≤ _; omega) rfl ?_
          refine zx_re 28 (.string (ofInts (x.down ++ [5, 0, 0, 4]))) rfl (congrArg _ (ofInts_app x.down [5, 0, 0, 4])) ?_
          refine zh_took (by rfl) ?_
          refine zh_take 12 (by kernel_rfl) rfl (by kernel_rfl) (by kernel_rfl) ?_ (by simp)
          refine zx_cat rfl rfl rfl (by rw [ofInts_size, List.length_append]; show x.down.length + 4 + _ ≤ _; omega) rfl ?_
          refine zx_re 32 (.string (ofInts ((x.down ++ [5, 0, 0, 4]) ++ bL a.bytes))) rfl (congrArg _ (by rw [← ofInts_app _ (bL a.bytes), ofInts_bL])) ?_
          refine zh_took (by rfl) ?_
          refine zh_one 21 rfl (by kernel_rfl) ?_
          refine st ?_
          refine zh_oned (by rfl) (by simp) ?_
          refine zh_take 22 (by kernel_rfl) rfl (by kernel_rfl) (by kernel_rfl) ?_ (by simp)
          refine zx_cat rfl rfl rfl (by rw [ofInts_size, ofInts_size, List.length_append, List.length_append, bL_length]; show x.down.length + 4 + _ + 2 ≤ _; omega) rfl ?_
          refine zx_re 42 (.string (ofInts (((x.down ++ [5, 0, 0, 4]) ++ bL a.bytes) ++ [hiB n, loB n]))) rfl (congrArg _ (ofInts_app _ [hiB n, loB n])) ?_
          refine zh_took (by rfl) ?_
          refine zh_take 23 (by kernel_rfl) rfl (by kernel_rfl) (by kernel_rfl) ?_ (by simp); (repeat (first | (refine sn ?_) | (refine stx ?_) | (refine sb ?_))); refine zh_took (by rfl) ?_
          refine zh_take 24 (by kernel_rfl) rfl (by kernel_rfl) (by kernel_rfl) ?_ (by simp); (repeat (first | (refine sn ?_) | (refine stx ?_) | (refine sb ?_))); refine zh_took (by rfl) ?_
          refine zh_one 25 rfl (by kernel_rfl) ?_
          refine st ?_
          refine zh_oned (by rfl) (by simp) ?_
          refine zh_end (by rfl) (by kernel_rfl) ?_
          repeat (first | (refine st ?_) | (refine stx ?_) | (refine sb ?_) | (intro _))
          refine z_ret1 tab_ok Try.func101 hb hk Try.results101 (.tmp rfl) (fun w hm => ?_)
          exact ⟨rfl, hm.weaken (fun _ h => h) (List.Sublist.cons _ (List.Sublist.cons _ (List.Sublist.cons _ (List.Sublist.refl _))))⟩
        · refine st ?_
          refine zh_oned (by rfl) (by simp) ?_
          refine zh_one 7 rfl (by kernel_rfl) ?_
          refine st ?_
          refine zh_oned (by rfl) (by simp) ?_
          refine zh_take 8 (by kernel_rfl) rfl (by kernel_rfl) (by kernel_rfl) ?_ (by simp)
          refine zx_cat rfl rfl rfl (by rw [ofInts_size, ofInts_size]; show x.down.length + 4 ≤ _; omega) rfl ?_
          refine zx_re 28 (.string (ofInts (x.down ++ [5, 0, 0, 4]))) rfl (congrArg _ (ofInts_app x.down [5, 0, 0, 4])) ?_
          refine zh_took (by rfl) ?_
          refine zh_take 12 (by kernel_rfl) rfl (by kernel_rfl) (by kernel_rfl) ?_ (by simp)
          refine zx_cat rfl rfl rfl (by rw [ofInts_size, List.length_append]; show x.down.length + 4 + _ ≤ _; omega) rfl ?_
          refine zx_re 32 (.string (ofInts ((x.down ++ [5, 0, 0, 4]) ++ bL a.bytes))) rfl (congrArg _ (by rw [← ofInts_app _ (bL a.bytes), ofInts_bL])) ?_
          refine zh_took (by rfl) ?_
          refine zh_take 22 (by kernel_rfl) rfl (by kernel_rfl) (by kernel_rfl) ?_ (by simp)
          refine zx_cat rfl rfl rfl (by rw [ofInts_size, ofInts_size, List.length_append, List.length_append, bL_length]; show x.down.length + 4 + _ + 2 ≤ _; omega) rfl ?_
          refine zx_re 42 (.string (ofInts (((x.down ++ [5, 0, 0, 4]) ++ bL a.bytes) ++ [hiB n, loB n]))) rfl (congrArg _ (ofInts_app _ [hiB n, loB n])) ?_
          refine zh_took (by rfl) ?_
          refine zh_take 23 (by kernel_rfl) rfl (by kernel_rfl) (by kernel_rfl) ?_ (by simp); (repeat (first | (refine sn ?_) | (refine stx ?_) | (refine sb ?_))); refine zh_took (by rfl) ?_
          refine zh_take 24 (by kernel_rfl) rfl (by kernel_rfl) (by kernel_rfl) ?_ (by simp); (repeat (first | (refine sn ?_) | (refine stx ?_) | (refine sb ?_))); refine zh_took (by rfl) ?_
          refine zh_one 25 rfl (by kernel_rfl) ?_
          refine st ?_
          refine zh_oned (by rfl) (by simp) ?_
          refine zh_end (by rfl) (by kernel_rfl) ?_
          repeat (first | (refine st ?_) | (refine stx ?_) | (refine sb ?_) | (intro _))
          refine z_ret1 tab_ok Try.func101 hb hk Try.results101 (.tmp rfl) (fun w hm => ?_)
          exact ⟨rfl, hm.weaken (fun _ h => h) (List.Sublist.cons _ (List.Sublist.cons _ (List.Sublist.cons _ (List.Sublist.refl _))))⟩
      · refine st ?_
        refine zh_oned (by rfl) (by simp) ?_
        refine zh_two 4 21 rfl rfl (by kernel_rfl) ?_ ?_
        · refine st ?_
          refine zh_oned (by rfl) (by simp) ?_
          refine zh_take 8 (by kernel_rfl) rfl (by kernel_rfl) (by kernel_rfl) ?_ (by simp)
          refine zx_cat rfl rfl rfl (by rw [ofInts_size, ofInts_size]; show x.down.length + 4 ≤ _; omega) rfl ?_
          refine zx_re 28 (.string (ofInts (x.down ++ [5, 0, 0, 4]))) rfl (congrArg _ (ofInts_app x.down [5, 0, 0, 4])) ?_
          refine zh_took (by rfl) ?_
          refine zh_take 12 (by kernel_rfl) rfl (by kernel_rfl) (by kernel_rfl) ?_ (by simp)
          refine zx_cat rfl rfl rfl (by rw [ofInts_size, List.length_append]; show x.down.length + 4 + _ ≤ _; omega) rfl ?_
          refine zx_re 32 (.string (ofInts ((x.down ++ [5, 0, 0, 4]) ++ bL a.bytes))) rfl (congrArg _ (by rw [← ofInts_app _ (bL a.bytes), ofInts_bL])) ?_
          refine zh_took (by rfl) ?_
          refine zh_one 21 rfl (by kernel_rfl) ?_
          refine st ?_
          refine zh_oned (by rfl) (by simp) ?_
          refine zh_take 22 (by kernel_rfl) rfl (by kernel_rfl) (by kernel_rfl) ?_ (by simp)
          refine zx_cat rfl rfl rfl (by rw [ofInts_size, ofInts_size, List.length_append, List.length_append, bL_length]; show x.down.length + 4 + _ + 2 ≤ _; omega) rfl ?_
          refine zx_re 42 (.string (ofInts (((x.down ++ [5, 0, 0, 4]) ++ bL a.bytes) ++ [hiB n, loB n]))) rfl (congrArg _ (ofInts_app _ [hiB n, loB n])) ?_
          refine zh_took (by rfl) ?_
          refine zh_take 23 (by kernel_rfl) rfl (by kernel_rfl) (by kernel_rfl) ?_ (by simp); (repeat (first | (refine sn ?_) | (refine stx ?_) | (refine sb ?_))); refine zh_took (by rfl) ?_
          refine zh_take 24 (by kernel_rfl) rfl (by kernel_rfl) (by kernel_rfl) ?_ (by simp); (repeat (first | (refine sn ?_) | (refine stx ?_) | (refine sb ?_))); refine zh_took (by rfl) ?_
          refine zh_one 25 rfl (by kernel_rfl) ?_
          refine st ?_
          refine zh_oned (by rfl) (by simp) ?_
          refine zh_end (by rfl) (by kernel_rfl) ?_
          repeat (first | (refine st ?_) | (refine stx ?_) | (refine sb ?_) | (intro _))
          refine z_ret1 tab_ok Try.func101 hb hk Try.results101 (.tmp rfl) (fun w hm => ?_)
          exact ⟨rfl, hm.weaken (fun _ h => h) (List.Sublist.cons _ (List.Sublist.cons _ (List.Sublist.cons _ (List.Sublist.refl _))))⟩
        · refine st ?_
          refine zh_oned (by rfl) (by simp) ?_
          refine zh_one 4 rfl (by kernel_rfl) ?_
          refine st ?_
          refine zh_oned (by rfl) (by simp) ?_
          refine zh_take 8 (by kernel_rfl) rfl (by kernel_rfl) (by kernel_rfl) ?_ (by simp)
          refine zx_cat rfl rfl rfl (by rw [ofInts_size, ofInts_size]; show x.down.length + 4 ≤ _; omega) rfl ?_
          refine zx_re 28 (.string (ofInts (x.down ++ [5, 0, 0, 4]))) rfl (congrArg _ (ofInts_app x.down [5, 0, 0, 4])) ?_
          refine zh_took (by rfl) ?_
          refine zh_take 12 (by kernel_rfl) rfl (by kernel_rfl) (by kernel_rfl) ?_ (by simp)
          refine zx_cat rfl rfl rfl (by rw [ofInts_size, List.length_append]; show x.down.length + 4 + _ ≤ _; omega) rfl ?_
          refine zx_re 32 (.string (ofInts ((x.down ++ [5, 0, 0, 4]) ++ bL a.bytes))) rfl (congrArg _ (by rw [← ofInts_app _ (bL a.bytes), ofInts_bL])) ?_
          refine zh_took (by rfl) ?_
          refine zh_take 22 (by kernel_rfl) rfl (by kernel_rfl) (by kernel_rfl) ?_ (by simp)
          refine zx_cat rfl rfl rfl (by rw [ofInts_size, ofInts_size, List.length_append, List.length_append, bL_length]; show x.down.length + 4 + _ + 2 ≤ _; omega) rfl ?_
          refine zx_re 42 (.string (ofInts (((x.down ++ [5, 0, 0, 4]) ++ bL a.bytes) ++ [hiB n, loB n]))) rfl (congrArg _ (ofInts_app _ [hiB n, loB n])) ?_
          refine zh_took (by rfl) ?_
          refine zh_take 23 (by kernel_rfl) rfl (by kernel_rfl) (by kernel_rfl) ?_ (by simp); (repeat (first | (refine sn ?_) | (refine stx ?_) | (refine sb ?_))); refine zh_took (by rfl) ?_
          refine zh_take 24 (by kernel_rfl) rfl (by kernel_rfl) (by kernel_rfl) ?_ (by simp); (repeat (first | (refine sn ?_) | (refine stx ?_) | (refine sb ?_))); refine zh_took (by rfl) ?_
          refine zh_one 25 rfl (by kernel_rfl) ?_
          refine st ?_
          refine zh_oned (by rfl) (by simp) ?_
          refine zh_end (by rfl) (by kernel_rfl) ?_
          repeat (first | (refine st ?_) | (refine stx ?_) | (refine sb ?_) | (intro _))
          refine z_ret1 tab_ok Try.func101 hb hk Try.results101 (.tmp rfl) (fun w hm => ?_)
          exact ⟨rfl, hm.weaken (fun _ h => h) (List.Sublist.cons _ (List.Sublist.cons _ (List.Sublist.cons _ (List.Sublist.refl _))))⟩
      · refine st ?_
        refine zh_oned (by rfl) (by simp) ?_
        refine zh_two 4 7 rfl rfl (by kernel_rfl) ?_ ?_
        · refine st ?_
          refine zh_oned (by rfl) (by simp) ?_
          refine zh_one 7 rfl (by kernel_rfl) ?_
          refine st ?_
          refine zh_oned (by rfl) (by simp) ?_
          refine zh_take 8 (by kernel_rfl) rfl (by kernel_rfl) (by kernel_rfl) ?_ (by simp)
          refine zx_cat rfl rfl rfl (by rw [ofInts_size, ofInts_size]; show x.down.length + 4 ≤ _; omega) rfl ?_
          refine zx_re 28 (.string (ofInts (x.down ++ [5, 0, 0, 4]))) rfl (congrArg _ (ofInts_app x.down [5, 0, 0, 4])) ?_
          refine zh_took (by rfl) ?_
          refine zh_take 12 (by kernel_rfl) rfl (by kernel_rfl) (by kernel_rfl) ?_ (by simp)
          refine zx_cat rfl rfl rfl (by rw [ofInts_size, List.length_append]; show x.down.length + 4 + _ ≤ _; omega) rfl ?_
          refine zx_re 32 (.string (ofInts ((x.down ++ [5, 0, 0, 4]) ++ bL a.bytes))) rfl (congrArg _ (by rw [← ofInts_app _ (bL a.bytes), ofInts_bL])) ?_
          refine zh_took (by rfl) ?_
          refine zh_take 22 (by kernel_rfl) rfl (by kernel_rfl) (by kernel_rfl) ?_ (by simp)
          refine zx_cat rfl rfl rfl (by rw [ofInts_size, ofInts_size, List.length_append, List.length_append, bL_length]; show x.down.length + 4 + _ + 2 ≤ _; omega) rfl ?_
          refine zx_re 42 (.string (ofInts (((x.down ++ [5, 0, 0, 4]) ++ bL a.bytes) ++ [hiB n, loB n]))) rfl (congrArg _ (ofInts_app _ [hiB n, loB n])) ?_
          refine zh_took (by rfl) ?_
          refine zh_take 23 (by kernel_rfl) rfl (by kernel_rfl) (by kernel_rfl) ?_ (by simp); (repeat (first | (refine sn ?_) | (refine stx ?_) | (refine sb ?_))); refine zh_took (by rfl) ?_
          refine zh_take 24 (by kernel_rfl) rfl (by kernel_rfl) (by kernel_rfl) ?_ (by simp); (repeat (first | (refine sn ?_) | (refine stx ?_) | (refine sb ?_))); refine zh_took (by rfl) ?_
          refine zh_one 25 rfl (by kernel_rfl) ?_
          refine st ?_
          refine zh_oned (by rfl) (by simp) ?_
          refine zh_end (by rfl) (by kernel_rfl) ?_
          repeat (first | (refine st ?_) | (refine stx ?_) | (refine sb ?_) | (intro _))
          refine z_ret1 tab_ok Try.func101 hb hk Try.results101 (.tmp rfl) (fun w hm => ?_)
          exact ⟨rfl, hm.weaken (fun _ h => h) (List.Sublist.cons _ (List.Sublist.cons _ (List.Sublist.cons _ (List.Sublist.refl _))))⟩
        · refine st ?_
          refine zh_oned (by rfl) (by simp) ?_
          refine zh_one 4 rfl (by kernel_rfl) ?_
          refine st ?_
          refine zh_oned (by rfl) (by simp) ?_
          refine zh_take 8 (by kernel_rfl) rfl (by kernel_rfl) (by kernel_rfl) ?_ (by simp)
          refine zx_cat rfl rfl rfl (by rw [ofInts_size, ofInts_size]; show x.down.length + 4 ≤ _; omega) rfl ?_
          refine zx_re 28 (.string (ofInts (x.down ++ [5, 0, 0, 4]))) rfl (congrArg _ (ofInts_app x.down [5, 0, 0, 4])) ?_
          refine zh_took (by rfl) ?_
          refine zh_take 12 (by kernel_rfl) rfl (by kernel_rfl) (by kernel_rfl) ?_ (by simp)
          refine zx_cat rfl rfl rfl (by rw [ofInts_size, List.length_append]; show x.down.length + 4 + _ ≤ _; omega) rfl ?_
          refine zx_re 32 (.string (ofInts ((x.down ++ [5, 0, 0, 4]) ++ bL a.bytes))) rfl (congrArg _ (by rw [← ofInts_app _ (bL a.bytes), ofInts_bL])) ?_
          refine zh_took (by rfl) ?_
          refine zh_take 22 (by kernel_rfl) rfl (by kernel_rfl) (by kernel_rfl) ?_ (by simp)
          refine zx_cat rfl rfl rfl (by rw [ofInts_size, ofInts_size, List.length_append, List.length_append, bL_length]; show x.down.length + 4 + _ + 2 ≤ _; omega) rfl ?_
          refine zx_re 42 (.string (ofInts (((x.down ++ [5, 0, 0, 4]) ++ bL a.bytes) ++ [hiB n, loB n]))) rfl (congrArg _ (ofInts_app _ [hiB n, loB n])) ?_
          refine zh_took (by rfl) ?_
          refine zh_take 23 (by kernel_rfl) rfl (by kernel_rfl) (by kernel_rfl) ?_ (by simp); (repeat (first | (refine sn ?_) | (refine stx ?_) | (refine sb ?_))); refine zh_took (by rfl) ?_
          refine zh_take 24 (by kernel_rfl) rfl (by kernel_rfl) (by kernel_rfl) ?_ (by simp); (repeat (first | (refine sn ?_) | (refine stx ?_) | (refine sb ?_))); refine zh_took (by rfl) ?_
          refine zh_one 25 rfl (by kernel_rfl) ?_
          refine st ?_
          refine zh_oned (by rfl) (by simp) ?_
          refine zh_end (by rfl) (by kernel_rfl) ?_
          repeat (first | (refine st ?_) | (refine stx ?_) | (refine sb ?_) | (intro _))
          refine z_ret1 tab_ok Try.func101 hb hk Try.results101 (.tmp rfl) (fun w hm => ?_)
          exact ⟨rfl, hm.weaken (fun _ h => h) (List.Sublist.cons _ (List.Sublist.cons _ (List.Sublist.cons _ (List.Sublist.refl _))))⟩
  · refine st ?_; intro kb
    refine zh_oned (by rfl) (by simp) ?_
    refine zh_three 4 6 21 rfl rfl rfl (by kernel_rfl) ?_ ?_ ?_
    · refine st ?_
      refine zh_oned (by rfl) (by simp) ?_
      refine zh_two 6 21 rfl rfl (by kernel_rfl) ?_ ?_
      · refine st ?_; intro ka
        refine zh_oned (by rfl) (by simp) ?_
        refine zh_two 7 21 rfl rfl (by kernel_rfl) ?_ ?_
        · refine st ?_
          refine zh_oned (by rfl) (by simp) ?_
          refine zh_take 8 (by kernel_rfl) rfl (by kernel_rfl) (by kernel_rfl) ?_ (by simp)
          refine zx_cat rfl rfl rfl (by rw [ofInts_size, ofInts_size]; show x.down.length + 4 ≤ _; omega) rfl ?_
          refine zx_re 28 (.string (ofInts (x.down ++ [5, 0, 0, 4]))) rfl (congrArg _ (ofInts_app x.down [5, 0, 0, 4])) ?_
          refine zh_took (by rfl) ?_
          refine zh_take 12 (by kernel_rfl) rfl (by kernel_rfl) (by kernel_rfl) ?_ (by simp)
          refine zx_cat rfl rfl rfl (by rw [ofInts_size, List.length_append]; show x.down.length + 4 + _ ≤ _; omega) rfl ?_
          refine zx_re 32 (.string (ofInts ((x.down ++ [5, 0, 0, 4]) ++ bL a.bytes))) rfl (congrArg _ (by rw [← ofInts_app _ (bL a.bytes), ofInts_bL])) ?_
          refine zh_took (by rfl) ?_
          refine zh_one 21 rfl (by kernel_rfl) ?_
          refine st ?_
          refine zh_oned (by rfl) (by simp) ?_
          refine zh_take 22 (by kernel_rfl) rfl (by kernel_rfl) (by kernel_rfl) ?_ (by simp)
          refine zx_cat rfl rfl rfl (by rw [ofInts_size, ofInts_size, List.length_append, List.length_append, bL_length]; show x.down.length + 4 + _ + 2 ≤ _; omega) rfl ?_
          refine zx_re 42 (.string (ofInts (((x.down ++ [5, 0, 0, 4]) ++ bL a.bytes) ++ [hiB n, loB n]))) rfl (congrArg _ (ofInts_app _ [hiB n, loB n])) ?_
          refine zh_took (by rfl) ?_
          refine zh_take 23 (by kernel_rfl) rfl (by kernel_rfl) (by kernel_rfl) ?_ (by simp); (repeat (first | (refine sn ?_) | (refine stx ?_) | (refine sb ?_))); refine zh_took (by rfl) ?_
          refine zh_take 24 (by kernel_rfl) rfl (by kernel_rfl) (by kernel_rfl) ?_ (by simp); (repeat (first | (refine sn ?_) | (refine stx ?_) | (refine sb ?_))); refine zh_took (by rfl) ?_
          refine zh_one 25 rfl (by kernel_rfl) ?_
          refine st ?_
          refine zh_oned (by rfl) (by simp) ?_
          refine zh_end (by rfl) (by kernel_rfl) ?_
          repeat (first | (refine st ?_) | (refine stx ?_) | (refine sb ?_) | (intro _))
          refine z_ret1 tab_ok Try.func101 hb hk Try.results101 (.tmp rfl) (fun w hm => ?_)
          exact ⟨rfl, hm.weaken (fun _ h => h) (List.Sublist.cons _ (List.Sublist.cons _ (List.Sublist.cons _ (List.Sublist.refl _))))⟩
        · refine st ?_
          refine zh_oned (by rfl) (by simp) ?_
          refine zh_one 7 rfl (by kernel_rfl) ?_
          refine st ?_
          refine zh_oned (by rfl) (by simp) ?_
          refine zh_take 8 (by kernel_rfl) rfl (by kernel_rfl) (by kernel_rfl) ?_ (by simp)
          refine zx_cat rfl rfl rfl (by rw [ofInts_size, ofInts_size]; show x.down.length + 4 ≤ _; omega) rfl ?_
          refine zx_re 28 (.string (ofInts (x.down ++ [5, 0, 0, 4]))) rfl (congrArg _ (ofInts_app x.down [5, 0, 0, 4])) ?_
          refine zh_took (by rfl) ?_
          refine zh_take 12 (by kernel_rfl) rfl (by kernel_rfl) (by kernel_rfl) ?_ (by simp)
          refine zx_cat rfl rfl rfl (by rw [ofInts_size, List.length_append]; show x.down.length + 4 + _ ≤ _; omega) rfl ?_
          refine zx_re 32 (.string (ofInts ((x.down ++ [5, 0, 0, 4]) ++ bL a.bytes))) rfl (congrArg _ (by rw [← ofInts_app _ (bL a.bytes), ofInts_bL])) ?_
          refine zh_took (by rfl) ?_
          refine zh_take 22 (by kernel_rfl) rfl (by kernel_rfl) (by kernel_rfl) ?_ (by simp)
          refine zx_cat rfl rfl rfl (by rw [ofInts_size, ofInts_size, List.length_append, List.length_append, bL_length]; show x.down.length + 4 + _ + 2 ≤ _; omega) rfl ?_
          refine zx_re 42 (.string (ofInts (((x.down ++ [5, 0, 0, 4]) ++ bL a.bytes) ++ [hiB n, loB n]))) rfl (congrArg _ (ofInts_app _ [hiB n, loB n])) ?_
          refine zh_took (by rfl) ?_
          refine zh_take 23 (by kernel_rfl) rfl (by kernel_rfl) (by kernel_rfl) ?_ (by simp); (repeat (first | (refine sn ?_) | (refine stx ?_) | (refine sb ?_))); refine zh_took (by rfl) ?_
          refine zh_take 24 (by kernel_rfl) rfl (by kernel_rfl) (by kernel_rfl) ?_ (by simp); (repeat (first | (refine sn ?_) | (refine stx ?_) | (refine sb ?_))); refine zh_took (by rfl) ?_
          refine zh_one 25 rfl (by kernel_rfl) ?_
          refine st ?_
          refine zh_oned (by rfl) (by simp) ?_
          refine zh_end (by rfl) (by kernel_rfl) ?_
          repeat (first | (refine st ?_) | (refine stx ?_) | (refine sb ?_) | (intro _))
          refine z_ret1 tab_ok Try.func101 hb hk Try.results101 (.tmp rfl) (fun w hm => ?_)
          exact ⟨rfl, hm.weaken (fun _ h => h) (List.Sublist.cons _ (List.Sublist.cons _ (List.Sublist.cons _ (List.Sublist.refl _))))⟩
      · refine st ?_
        refine zh_oned (by rfl) (by simp) ?_
        refine zh_one 6 rfl (by kernel_rfl) ?_
        refine st ?_; intro ka
        refine zh_oned (by rfl) (by simp) ?_
        refine zh_one 7 rfl (by kernel_rfl) ?_
        refine st ?_
        refine zh_oned (by rfl) (by simp) ?_
        refine zh_take 8 (by kernel_rfl) rfl (by kernel_rfl) (by kernel_rfl) ?_ (by simp)
        refine zx_cat rfl rfl rfl (by rw [ofInts_size, ofInts_size]; show x.down.length + 4 ≤ _; omega) rfl ?_
        refine zx_re 28 (.string (ofInts (x.down ++ [5, 0, 0, 4]))) rfl (congrArg _ (ofInts_app x.down [5, 0, 0, 4])) ?_
        refine zh_took (by rfl) ?_
        refine zh_take 12 (by kernel_rfl) rfl (by kernel_rfl) (by kernel_rfl) ?_ (by simp)
        refine zx_cat rfl rfl rfl (by rw [ofInts_size, List.length_append]; show x.down.length + 4 + _ ≤ _; omega) rfl ?_
        refine zx_re 32 (.string (ofInts ((x.down ++ [5, 0, 0, 4]) ++ bL a.bytes))) rfl (congrArg _ (by rw [← ofInts_app _ (bL a.bytes), ofInts_bL])) ?_
        refine zh_took (by rfl) ?_
        refine zh_take 22 (by kernel_rfl) rfl (by kernel_rfl) (by kernel_rfl) ?_ (by simp)
        refine zx_cat rfl rfl rfl (by rw [ofInts_size, ofInts_size, List.length_append, List.length_append, bL_length]; show x.down.length + 4 + _ + 2 ≤ _; omega) rfl ?_
        refine zx_re 42 (.string (ofInts (((x.down ++ [5, 0, 0, 4]) ++ bL a.bytes) ++ [hiB n, loB n]))) rfl (congrArg _ (ofInts_app _ [hiB n, loB n])) ?_
        refine zh_took (by rfl) ?_
        refine zh_take 23 (by kernel_rfl) rfl (by kernel_rfl) (by kernel_rfl) ?_ (by simp); (repeat (first | (refine sn ?_) | (refine stx ?_) | (refine sb ?_))); refine zh_took (by rfl) ?_
        refine zh_take 24 (by kernel_rfl) rfl (by kernel_rfl) (by kernel_rfl) ?_ (by simp); (repeat (first | (refine sn ?_) | (refine stx ?_) | (refine sb ?_))); refine zh_took (by rfl) ?_
        refine zh_one 25 rfl (by kernel_rfl) ?_
        refine st ?_
        refine zh_oned (by rfl) (by simp) ?_
        refine zh_end (by rfl) (by kernel_rfl) ?_
        repeat (first | (refine st ?_) | (refine stx ?_) | (refine sb ?_) | (intro _))
        refine z_ret1 tab_ok Try.func101 hb hk Try.results101 (.tmp rfl) (fun w hm => ?_)
        exact ⟨rfl, hm.weaken (fun _ h => h) (List.Sublist.cons _ (List.Sublist.cons _ (List.Sublist.cons _ (List.Sublist.refl _))))⟩
    · refine st ?_; intro ka
      refine zh_oned (by rfl) (by simp) ?_
      refine zh_three 4 7 21 rfl rfl rfl (by kernel_rfl) ?_ ?_ ?_
      · refine st ?_
        refine zh_oned (by rfl) (by simp) ?_
        refine zh_two 7 21 rfl rfl (by kernel_rfl) ?_ ?_
        · refine st ?_
          refine zh_oned (by rfl) (by simp) ?_
          refine zh_take 8 (by kernel_rfl) rfl (by kernel_rfl) (by kernel_rfl) ?_ (by simp)
          refine zx_cat rfl rfl rfl (by rw [ofInts_size, ofInts_size]; show x.down.length + 4 ≤ _; omega) rfl ?_
          refine zx_re 28 (.string (ofInts (x.down ++ [5, 0, 0, 4]))) rfl (congrArg _ (ofInts_app x.down [5, 0, 0, 4])) ?_
          refine zh_took (by rfl) ?_
          refine zh_take 12 (by kernel_rfl) rfl (by kernel_rfl) (by kernel_rfl) ?_ (by simp)
          refine zx_cat rfl rfl rfl (by rw [ofInts_size, List.length_append]; show x.down.length + 4 + _ ≤ _; omega) rfl ?_
          refine zx_re 32 (.string (ofInts ((x.down ++ [5, 0, 0, 4]) ++ bL a.bytes))) rfl (congrArg _ (by rw [← ofInts_app _ (bL a.bytes), ofInts_bL])) ?_
          refine zh_took (by rfl) ?_
          refine zh_one 21 rfl (by kernel_rfl) ?_
          refine st ?_
          refine zh_oned (by rfl) (by simp) ?_
          refine zh_take 22 (by kernel_rfl) rfl (by kernel_rfl) (by kernel_rfl) ?_ (by simp)
          refine zx_cat rfl rfl rfl (by rw [ofInts_size, ofInts_size, List.length_append, List.length_append, bL_length]; show x.down.length + 4 + _ + 2 ≤ _; omega) rfl ?_
          refine zx_re 42 (.string (ofInts (((x.down ++ [5, 0, 0, 4]) ++ bL a.bytes) ++ [hiB n, loB n]))) rfl (congrArg _ (ofInts_app _ [hiB n, loB n])) ?_
          refine zh_took (by rfl) ?_
          refine zh_take 23 (by kernel_rfl) rfl (by kernel_rfl) (by kernel_rfl) ?_ (by simp); (repeat (first | (refine sn ?_) | (refine stx ?_) | (refine sb ?_))); refine zh_took (by rfl) ?_
          refine zh_take 24 (by kernel_rfl) rfl (by kernel_rfl) (by kernel_rfl) ?_ (by simp); (repeat (first | (refine sn ?_) | (refine stx ?_) | (refine sb ?_))); refine zh_took (by rfl) ?_
          refine zh_one 25 rfl (by kernel_rfl) ?_
          refine st ?_
          refine zh_oned (by rfl) (by simp) ?_
          refine zh_end (by rfl) (by kernel_rfl) ?_
          repeat (first | (refine st ?_) | (refine stx ?_) | (refine sb ?_) | (intro _))
          refine z_ret1 tab_ok Try.func101 hb hk Try.results101 (.tmp rfl) (fun w hm => ?_)
          exact ⟨rfl, hm.weaken (fun _ h => h) (List.Sublist.cons _ (List.Sublist.cons _ (List.Sublist.cons _ (List.Sublist.refl _))))⟩
        · refine st ?_
          refine zh_oned (by rfl) (by simp) ?_
          refine zh_one 7 rfl (by kernel_rfl) ?_
          refine st ?_
          refine zh_oned (by rfl) (by simp) ?_
          refine zh_take 8 (by kernel_rfl) rfl (by kernel_rfl) (by kernel_rfl) ?_ (by simp)
          refine zx_cat rfl rfl rfl (by rw [ofInts_size, ofInts_size]; show x.down.length + 4 ≤ _; omega) rfl ?_
          refine zx_re 28 (.string (ofInts (x.down ++ [5, 0, 0, 4]))) rfl (congrArg _ (ofInts_app x.down [5, 0, 0, 4])) ?_
          refine zh_took (by rfl) ?_
          refine zh_take 12 (by kernel_rfl) rfl (by kernel_rfl) (by kernel_rfl) ?_ (by simp)
          refine zx_cat rfl rfl rfl (by rw [ofInts_size, List.length_append]; show x.down.length + 4 + _ ≤ _; omega) rfl ?_
          refine zx_re 32 (.string (ofInts ((x.down ++ [5, 0, 0, 4]) ++ bL a.bytes))) rfl (congrArg _ (by rw [← ofInts_app _ (bL a.bytes), ofInts_bL])) ?_
          refine zh_took (by rfl) ?_
          refine zh_take 22 (by kernel_rfl) rfl (by kernel_rfl) (by kernel_rfl) ?_ (by simp)
          refine zx_cat rfl rfl rfl (by rw [ofInts_size, ofInts_size, List.length_append, List.length_append, bL_length]; show x.down.length + 4 + _ + 2 ≤ _; omega) rfl ?_
          refine zx_re 42 (.string (ofInts (((x.down ++ [5, 0, 0, 4]) ++ bL a.bytes) ++ [hiB n, loB n]))) rfl (congrArg _ (ofInts_app _ [hiB n, loB n])) ?_
          refine zh_took (by rfl) ?_
          refine zh_take 23 (by kernel_rfl) rfl (by kernel_rfl) (by kernel_rfl) ?_ (by simp); (repeat (first | (refine sn ?_) | (refine stx ?_) | (refine sb ?_))); refine zh_took (by rfl) ?_
          refine zh_take 24 (by kernel_rfl) rfl (by kernel_rfl) (by kernel_rfl) ?_ (by simp); (repeat (first | (refine sn ?_) | (refine stx ?_) | (refine sb ?_))); refine zh_took (by rfl) ?_
          refine zh_one 25 rfl (by kernel_rfl) ?_
          refine st ?_
          refine zh_oned (by rfl) (by simp) ?_
          refine zh_end (by rfl) (by kernel_rfl) ?_
          repeat (first | (refine st ?_) | (refine stx ?_) | (refine sb ?_) | (intro _))
          refine z_ret1 tab_ok Try.func101 hb hk Try.results101 (.tmp rfl) (fun w hm => ?_)
          exact ⟨rfl, hm.weaken (fun _ h => h) (List.Sublist.cons _ (List.Sublist.cons _ (List.Sublist.cons _ (List.Sublist.refl _))))⟩
      · refine st ?_
        refine zh_oned (by rfl) (by simp) ?_
        refine zh_two 4 21 rfl rfl (by kernel_rfl) ?_ ?_
        · refine st ?_
          refine zh_oned (by rfl) (by simp) ?_
          refine zh_take 8 (by kernel_rfl) rfl (by kernel_rfl) (by kernel_rfl) ?_ (by simp)
          refine zx_cat rfl rfl rfl (by rw [ofInts_size, ofInts_size]; show x.down.length + 4 ≤ _; omega) rfl ?_
          refine zx_re 28 (.string (ofInts (x.down ++ [5, 0, 0, 4]))) rfl (congrArg _ (ofInts_app x.down [5, 0, 0, 4])) ?_
          refine zh_took (by rfl) ?_
          refine zh_take 12 (by kernel_rfl) rfl (by kernel_rfl) (by kernel_rfl) ?_ (by simp)
          refine zx_cat rfl rfl rfl (by rw [ofInts_size, List.length_append]; show x.down.length + 4 + _ ≤ _; omega) rfl ?_
          refine zx_re 32 (.string (ofInts ((x.down ++ [5, 0, 0, 4]) ++ bL a.bytes))) rfl (congrArg _ (by rw [← ofInts_app _ (bL a.bytes), ofInts_bL])) ?_
          refine zh_took (by rfl) ?_
          refine zh_one 21 rfl (by kernel_rfl) ?_
          refine st ?_
          refine zh_oned (by rfl) (by simp) ?_
          refine zh_take 22 (by kernel_rfl) rfl (by kernel_rfl) (by kernel_rfl) ?_ (by simp)
          refine zx_cat rfl rfl rfl (by rw [ofInts_size, ofInts_size, List.length_append, List.length_append, bL_length]; show x.down.length + 4 + _ + 2 ≤ _; omega) rfl ?_
          refine zx_re 42 (.string (ofInts (((x.down ++ [5, 0, 0, 4]) ++ bL a.bytes) ++ [hiB n, loB n]))) rfl (congrArg _ (ofInts_app _ [hiB n, loB n])) ?_
          refine zh_took (by rfl) ?_
          refine zh_take 23 (by kernel_rfl) rfl (by kernel_rfl) (by kernel_rfl) ?_ (by simp); (repeat (first | (refine sn ?_) | (refine stx ?_) | (refine sb ?_))); refine zh_took (by rfl) ?_
          refine zh_take 24 (by kernel_rfl) rfl (by kernel_rfl) (by kernel_rfl) ?_ (by simp); (repeat (first | (refine sn ?_) | (refine stx ?_) | (refine sb ?_))); refine zh_took (by rfl) ?_
          refine zh_one 25 rfl (by kernel_rfl) ?_
          refine st ?_
          refine zh_oned (by rfl) (by simp) ?_
          refine zh_end (by rfl) (by kernel_rfl) ?_
          repeat (first | (refine st ?_) | (refine stx ?_) | (refine sb ?_) | (intro _))
          refine z_ret1 tab_ok Try.func101 hb hk Try.results101 (.tmp rfl) (fun w hm => ?_)
          exact ⟨rfl, hm.weaken (fun _ h => h) (List.Sublist.cons _ (List.Sublist.cons _ (List.Sublist.cons _ (List.Sublist.refl _))))⟩
        · refine st ?_
          refine zh_oned (by rfl) (by simp) ?_
          refine zh_one 4 rfl (by kernel_rfl) ?_
          refine st ?_
          refine zh_oned (by rfl) (by simp) ?_
          refine zh_take 8 (by kernel_rfl) rfl (by kernel_rfl) (by kernel_rfl) ?_ (by simp)
          refine zx_cat rfl rfl rfl (by rw [ofInts_size, ofInts_size]; show x.down.length + 4 ≤ _; omega) rfl ?_
          refine zx_re 28 (.string (ofInts (x.down ++ [5, 0, 0, 4]))) rfl (congrArg _ (ofInts_app x.down [5, 0, 0, 4])) ?_
          refine zh_took (by rfl) ?_
          refine zh_take 12 (by kernel_rfl) rfl (by kernel_rfl) (by kernel_rfl) ?_ (by simp)
          refine zx_cat rfl rfl rfl (by rw [ofInts_size, List.length_append]; show x.down.length + 4 + _ ≤ _; omega) rfl ?_
          refine zx_re 32 (.string (ofInts ((x.down ++ [5, 0, 0, 4]) ++ bL a.bytes))) rfl (congrArg _ (by rw [← ofInts_app _ (bL a.bytes), ofInts_bL])) ?_
          refine zh_took (by rfl) ?_
          refine zh_take 22 (by kernel_rfl) rfl (by kernel_rfl) (by kernel_rfl) ?_ (by simp)
          refine zx_cat rfl rfl rfl (by rw [ofInts_size, ofInts_size, List.length_append, List.length_append, bL_length]; show x.down.length + 4 + _ + 2 ≤ _; omega) rfl ?_
          refine zx_re 42 (.string (ofInts (((x.down ++ [5, 0, 0, 4]) ++ bL a.bytes) ++ [hiB n, loB n]))) rfl (congrArg _ (ofInts_app _ [hiB n, loB n])) ?_
          refine zh_took (by rfl) ?_
          refine zh_take 23 (by kernel_rfl) rfl (by kernel_rfl) (by kernel_rfl) ?_ (by simp); (repeat (first | (refine sn ?_) | (refine stx ?_) | (refine sb ?_))); refine zh_took (by rfl) ?_
          refine zh_take 24 (by kernel_rfl) rfl (by kernel_rfl) (by kernel_rfl) ?_ (by simp); (repeat (first | (refine sn ?_) | (refine stx ?_) | (refine sb ?_))); refine zh_took (by rfl) ?_
          refine zh_one 25 rfl (by kernel_rfl) ?_
          refine st ?_
          refine zh_oned (by rfl) (by simp) ?_
          refine zh_end (by rfl) (by kernel_rfl) ?_
          repeat (first | (refine st ?_) | (refine stx ?_) | (refine sb ?_) | (intro _))
          refine z_ret1 tab_ok Try.func101 hb hk Try.results101 (.tmp rfl) (fun w hm => ?_)
          exact ⟨rfl, hm.weaken (fun _ h => h) (List.Sublist.cons _ (List.Sublist.cons _ (List.Sublist.cons _ (List.Sublist.refl _))))⟩
      · refine st ?_
        refine zh_oned (by rfl) (by simp) ?_
        refine zh_two 4 7 rfl rfl (by kernel_rfl) ?_ ?_
        · refine st ?_
          refine zh_oned (by rfl) (by simp) ?_
          refine zh_one 7 rfl (by kernel_rfl) ?_
          refine st ?_
          refine zh_oned (by rfl) (by simp) ?_
          refine zh_take 8 (by kernel_rfl) rfl (by kernel_rfl) (by kernel_rfl) ?_ (by simp)
          refine zx_cat rfl rfl rfl (by rw [ofInts_size, ofInts_size]; show x.down.length + 4 ≤ _; omega) rfl ?_
          refine zx_re 28 (.string (ofInts (x.down ++ [5, 0, 0, 4]))) rfl (congrArg _ (ofInts_app x.down [5, 0, 0, 4])) ?_
          refine zh_took (by rfl) ?_
          refine zh_take 12 (by kernel_rfl) rfl (by kernel_rfl) (by kernel_rfl) ?_ (by simp)
          refine zx_cat rfl rfl rfl (by rw [ofInts_size, List.length_append]; show x.down.length + 4 + _ ≤ _; omega) rfl ?_
          refine zx_re 32 (.string (ofInts ((x.down ++ [5, 0, 0, 4]) ++ bL a.bytes))) rfl (congrArg _ (by rw [← ofInts_app _ (bL a.bytes), ofInts_bL])) ?_
          refine zh_took (by rfl) ?_
          refine zh_take 22 (by kernel_rfl) rfl (by kernel_rfl) (by kernel_rfl) ?_ (by simp)
          refine zx_cat rfl rfl rfl (by rw [ofInts_size, ofInts_size, List.length_append, List.length_append, bL_length]; show x.down.length + 4 + _ + 2 ≤ _; omega) rfl ?_
          refine zx_re 42 (.string (ofInts (((x.down ++ [5, 0, 0, 4]) ++ bL a.bytes) ++ [hiB n, loB n]))) rfl (congrArg _ (ofInts_app _ [hiB n, loB n])) ?_
          refine zh_took (by rfl) ?_
          refine zh_take 23 (by kernel_rfl) rfl (by kernel_rfl) (by kernel_rfl) ?_ (by simp); (repeat (first | (refine sn ?_) | (refine stx ?_) | (refine sb ?_))); refine zh_took (by rfl) ?_
          refine zh_take 24 (by kernel_rfl) rfl (by kernel_rfl) (by kernel_rfl) ?_ (by simp); (repeat (first | (refine sn ?_) | (refine stx ?_) | (refine sb ?_))); refine zh_took (by rfl) ?_
          refine zh_one 25 rfl (by kernel_rfl) ?_
          refine st ?_
          refine zh_oned (by rfl) (by simp) ?_
          refine zh_end (by rfl) (by kernel_rfl) ?_
          repeat (first | (refine st ?_) | (refine stx ?_) | (refine sb ?_) | (intro _))
          refine z_ret1 tab_ok Try.func101 hb hk Try.results101 (.tmp rfl) (fun w hm => ?_)
          exact ⟨rfl, hm.weaken (fun _ h => h) (List.Sublist.cons _ (List.Sublist.cons _ (List.Sublist.cons _ (List.Sublist.refl _))))⟩
        · refine st ?_
          refine zh_oned (by rfl) (by simp) ?_
          refine zh_one 4 rfl (by kernel_rfl) ?_
          refine st ?_
          refine zh_oned (by rfl) (by simp) ?_
          refine zh_take 8 (by kernel_rfl) rfl (by kernel_rfl) (by kernel_rfl) ?_ (by simp)
          refine zx_cat rfl rfl rfl (by rw [ofInts_size, ofInts_size]; show x.down.length + 4 ≤ _; omega) rfl ?_
          refine zx_re 28 (.string (ofInts (x.down ++ [5, 0, 0, 4]))) rfl (congrArg _ (ofInts_app x.down [5, 0, 0, 4])) ?_
          refine zh_took (by rfl) ?_
          refine zh_take 12 (by kernel_rfl) rfl (by kernel_rfl) (by kernel_rfl) ?_ (by simp)
          refine zx_cat rfl rfl rfl (by rw [ofInts_size, List.length_append]; show x.down.length + 4 + _ ≤ _; omega) rfl ?_
          refine zx_re 32 (.string (ofInts ((x.down ++ [5, 0, 0, 4]) ++ bL a.bytes))) rfl (congrArg _ (by rw [← ofInts_app _ (bL a.bytes), ofInts_bL])) ?_
          refine zh_took (by rfl) ?_
          refine zh_take 22 (by kernel_rfl) rfl (by kernel_rfl) (by kernel_rfl) ?_ (by simp)
          refine zx_cat rfl rfl rfl (by rw [ofInts_size, ofInts_size, List.length_append, List.length_append, bL_length]; show x.down.length + 4 + _ + 2 ≤ _; omega) rfl ?_
          refine zx_re 42 (.string (ofInts (((x.down ++ [5, 0, 0, 4]) ++ bL a.bytes) ++ [hiB n, loB n]))) rfl (congrArg _ (ofInts_app _ [hiB n, loB n])) ?_
          refine zh_took (by rfl) ?_
          refine zh_take 23 (by kernel_rfl) rfl (by kernel_rfl) (by kernel_rfl) ?_ (by simp); (repeat (first | (refine sn ?_) | (refine stx ?_) | (refine sb ?_))); refine zh_took (by rfl) ?_
          refine zh_take 24 (by kernel_rfl) rfl (by kernel_rfl) (by kernel_rfl) ?_ (by simp); (repeat (first | (refine sn ?_) | (refine stx ?_) | (refine sb ?_))); refine zh_took (by rfl) ?_
          refine zh_one 25 rfl (by kernel_rfl) ?_
          refine st ?_
          refine zh_oned (by rfl) (by simp) ?_
          refine zh_end (by rfl) (by kernel_rfl) ?_
          repeat (first | (refine st ?_) | (refine stx ?_) | (refine sb ?_) | (intro _))
          refine z_ret1 tab_ok Try.func101 hb hk Try.results101 (.tmp rfl) (fun w hm => ?_)
          exact ⟨rfl, hm.weaken (fun _ h => h) (List.Sublist.cons _ (List.Sublist.cons _ (List.Sublist.cons _ (List.Sublist.refl _))))⟩
    · refine st ?_
      refine zh_oned (by rfl) (by simp) ?_
      refine zh_two 4 6 rfl rfl (by kernel_rfl) ?_ ?_
      · refine st ?_
        refine zh_oned (by rfl) (by simp) ?_
        refine zh_one 6 rfl (by kernel_rfl) ?_
        refine st ?_; intro ka
        refine zh_oned (by rfl) (by simp) ?_
        refine zh_one 7 rfl (by kernel_rfl) ?_
        refine st ?_
        refine zh_oned (by rfl) (by simp) ?_
        refine zh_take 8 (by kernel_rfl) rfl (by kernel_rfl) (by kernel_rfl) ?_ (by simp)
        refine zx_cat rfl rfl rfl (by rw [ofInts_size, ofInts_size]; show x.down.length + 4 ≤ _; omega) rfl ?_
        refine zx_re 28 (.string (ofInts (x.down ++ [5, 0, 0, 4]))) rfl (congrArg _ (ofInts_app x.down [5, 0, 0, 4])) ?_
        refine zh_took (by rfl) ?_
        refine zh_take 12 (by kernel_rfl) rfl (by kernel_rfl) (by kernel_rfl) ?_ (by simp)
        refine zx_cat rfl rfl rfl (by rw [ofInts_size, List.length_append]; show x.down.length + 4 + _ ≤ _; omega) rfl ?_
        refine zx_re 32 (.string (ofInts ((x.down ++ [5, 0, 0, 4]) ++ bL a.bytes))) rfl (congrArg _ (by rw [← ofInts_app _ (bL a.bytes), ofInts_bL])) ?_
        refine zh_took (by rfl) ?_
        refine zh_take 22 (by kernel_rfl) rfl (by kernel_rfl) (by kernel_rfl) ?_ (by simp)
        refine zx_cat rfl rfl rfl (by rw [ofInts_size, ofInts_size, List.length_append, List.length_append, bL_length]; show x.down.length + 4 + _ + 2 ≤ _; omega) rfl ?_
        refine zx_re 42 (.string (ofInts (((x.down ++ [5, 0, 0, 4]) ++ bL a.bytes) ++ [hiB n, loB n]))) rfl (congrArg _ (ofInts_app _ [hiB n, loB n])) ?_
        refine zh_took (by rfl) ?_
        refine zh_take 23 (by kernel_rfl) rfl (by kernel_rfl) (by kernel_rfl) ?_ (by simp); (repeat (first | (refine sn ?_) | (refine stx ?_) | (refine sb ?_))); refine zh_took (by rfl) ?_
        refine zh_take 24 (by kernel_rfl) rfl (by kernel_rfl) (by kernel_rfl) ?_ (by simp); (repeat (first | (refine sn ?_) | (refine stx ?_) | (refine sb ?_))); refine zh_took (by rfl) ?_
        refine zh_one 25 rfl (by kernel_rfl) ?_
        refine st ?_
        refine zh_oned (by rfl) (by simp) ?_
        refine zh_end (by rfl) (by kernel_rfl) ?_
        repeat (first | (refine st ?_) | (refine stx ?_) | (refine sb ?_) | (intro _))
        refine z_ret1 tab_ok Try.func101 hb hk Try.results101 (.tmp rfl) (fun w hm => ?_)
        exact ⟨rfl, hm.weaken (fun _ h => h) (List.Sublist.cons _ (List.Sublist.cons _ (List.Sublist.cons _ (List.Sublist.refl _))))⟩
      · refine st ?_; intro ka
        refine zh_oned (by rfl) (by simp) ?_
        refine zh_two 4 7 rfl rfl (by kernel_rfl) ?_ ?_
        · refine st ?_
          refine zh_oned (by rfl) (by simp) ?_
          refine zh_one 7 rfl (by kernel_rfl) ?_
          refine st ?_
          refine zh_oned (by rfl) (by simp) ?_
          refine zh_take 8 (by kernel_rfl) rfl (by kernel_rfl) (by kernel_rfl) ?_ (by simp)
          refine zx_cat rfl rfl rfl (by rw [ofInts_size, ofInts_size]; show x.down.length + 4 ≤ _; omega) rfl ?_
          refine zx_re 28 (.string (ofInts (x.down ++ [5, 0, 0, 4]))) rfl (congrArg _ (ofInts_app x.down [5, 0, 0, 4])) ?_
          refine zh_took (by rfl) ?_
          refine zh_take 12 (by kernel_rfl) rfl (by kernel_rfl) (by kernel_rfl) ?_ (by simp)
          refine zx_cat rfl rfl rfl (by rw [ofInts_size, List.length_append]; show x.down.length + 4 + _ ≤ _; omega) rfl ?_
          refine zx_re 32 (.string (ofInts ((x.down ++ [5, 0, 0, 4]) ++ bL a.bytes))) rfl (congrArg _ (by rw [← ofInts_app _ (bL a.bytes), ofInts_bL])) ?_
          refine zh_took (by rfl) ?_
          refine zh_take 22 (by kernel_rfl) rfl (by kernel_rfl) (by kernel_rfl) ?_ (by simp)
          refine zx_cat rfl rfl rfl (by rw [ofInts_size, ofInts_size, List.length_append, List.length_append, bL_length]; show x.down.length + 4 + _ + 2 ≤ _; omega) rfl ?_
          refine zx_re 42 (.string (ofInts (((x.down ++ [5, 0, 0, 4]) ++ bL a.bytes) ++ [hiB n, loB n]))) rfl (congrArg _ (ofInts_app _ [hiB n, loB n])) ?_
          refine zh_took (by rfl) ?_
          refine zh_take 23 (by kernel_rfl) rfl (by kernel_rfl) (by kernel_rfl) ?_ (by simp); (repeat (first | (refine sn ?_) | (refine stx ?_) | (refine sb ?_))); refine zh_took (by rfl) ?_
          refine zh_take 24 (by kernel_rfl) rfl (by kernel_rfl) (by kernel_rfl) ?_ (by simp); (repeat (first | (refine sn ?_) | (refine stx ?_) | (refine sb ?_))); refine zh_took (by rfl) ?_
          refine zh_one 25 rfl (by kernel_rfl) ?_
          refine st ?_
          refine zh_oned (by rfl) (by simp) ?_
          refine zh_end (by rfl) (by kernel_rfl) ?_
          repeat (first | (refine st ?_) | (refine stx ?_) | (refine sb ?_) | (intro _))
          refine z_ret1 tab_ok Try.func101 hb hk Try.results101 (.tmp rfl) (fun w hm => ?_)
          exact ⟨rfl, hm.weaken (fun _ h => h) (List.Sublist.cons _ (List.Sublist.cons _ (List.Sublist.cons _ (List.Sublist.refl _))))⟩
        · refine st ?_
          refine zh_oned (by rfl) (by simp) ?_
          refine zh_one 4 rfl (by kernel_rfl) ?_
          refine st ?_
          refine zh_oned (by rfl) (by simp) ?_
          refine zh_take 8 (by kernel_rfl) rfl (by kernel_rfl) (by kernel_rfl) ?_ (by simp)
          refine zx_cat rfl rfl rfl (by rw [ofInts_size, ofInts_size]; show x.down.length + 4 ≤ _; omega) rfl ?_
          refine zx_re 28 (.string (ofInts (x.down ++ [5, 0, 0, 4]))) rfl (congrArg _ (ofInts_app x.down [5, 0, 0, 4])) ?_
          refine zh_took (by rfl) ?_
          refine zh_take 12 (by kernel_rfl) rfl (by kernel_rfl) (by kernel_rfl) ?_ (by simp)
          refine zx_cat rfl rfl rfl (by rw [ofInts_size, List.length_append]; show x.down.length + 4 + _ ≤ _; omega) rfl ?_
          refine zx_re 32 (.string (ofInts ((x.down ++ [5, 0, 0, 4]) ++ bL a.bytes))) rfl (congrArg _ (by rw [← ofInts_app _ (bL a.bytes), ofInts_bL])) ?_
          refine zh_took (by rfl) ?_
          refine zh_take 22 (by kernel_rfl) rfl (by kernel_rfl) (by kernel_rfl) ?_ (by simp)
          refine zx_cat rfl rfl rfl (by rw [ofInts_size, ofInts_size, List.length_append, List.length_append, bL_length]; show x.down.length + 4 + _ + 2 ≤ _; omega) rfl ?_
          refine zx_re 42 (.string (ofInts (((x.down ++ [5, 0, 0, 4]) ++ bL a.bytes) ++ [hiB n, loB n]))) rfl (congrArg _ (ofInts_app _ [hiB n, loB n])) ?_
          refine zh_took (by rfl) ?_
          refine zh_take 23 (by kernel_rfl) rfl (by kernel_rfl) (by kernel_rfl) ?_ (by simp); (repeat (first | (refine sn ?_) | (refine stx ?_) | (refine sb ?_))); refine zh_took (by rfl) ?_
          refine zh_take 24 (by kernel_rfl) rfl (by kernel_rfl) (by kernel_rfl) ?_ (by simp); (repeat (first | (refine sn ?_) | (refine stx ?_) | (refine sb ?_))); refine zh_took (by rfl) ?_
          refine zh_one 25 rfl (by kernel_rfl) ?_
          refine st ?_
          refine zh_oned (by rfl) (by simp) ?_
          refine zh_end (by rfl) (by kernel_rfl) ?_
          repeat (first | (refine st ?_) | (refine stx ?_) | (refine sb ?_) | (intro _))
          refine z_ret1 tab_ok Try.func101 hb hk Try.results101 (.tmp rfl) (fun w hm => ?_)
          exact ⟨rfl, hm.weaken (fun _ h => h) (List.Sublist.cons _ (List.Sublist.cons _ (List.Sublist.cons _ (List.Sublist.refl _))))⟩

theorem ConnectedR_ok4 (b : Nat) (nv : Value) (x : Px) (a : Adr) (n : Int) (hd : x.down.length ≤ 1000000) (h3 : x.state = 3) (hv : a.valid = true) (h6 : a.v6 = false) : RC 101 [fP b 0, epV a n, .int .i64 0] b nv x (pConn x a n) (.bool true) := by
  intro w h
  have hbs := a.bytes_size
  have hbl := bL_length a.bytes
  have hkb : kindB a = 1 := by unfold kindB; rw [h6]; rfl
  unfold pConn
  rw [hkb]
  refine calls_of_z Try.func101 rfl Try.ntmps101 rfl h ?_; intro cs b' hb hk
  repeat (first | (refine st ?_) | (refine stx ?_) | (refine sb ?_) | (intro _))
  rename_i k1
  ((try (refine sg ?_)); (refine zx_call0 rfl fnc118 rfl rfl (fun w hm => ValidR_any a w) ?_))
  repeat (first | (refine sn ?_) | (refine stx ?_) | (refine sb ?_) | (intro _))
  refine z_regionH [(k1, .c [.bool a.v6, .int .u8 (a.b 0), .int .u8 (a.b 1), .int .u8 (a.b 2), .int .u8 (a.b 3), .int .u8 (a.b 4), .int .u8 (a.b 5), .int .u8 (a.b 6), .int .u8 (a.b 7), .int .u8 (a.b 8), .int .u8 (a.b 9), .int .u8 (a.b 10), .int .u8 (a.b 11), .int .u8 (a.b 12), .int .u8 (a.b 13), .int .u8 (a.b 14), .int .u8 (a.b 15), .int .i64 n] 65 0 0)] (by rfl) follows_mixed (List.sublist_append_left [_] _) (m := 26) rfl ?_
  refine zh_take 0 (by kernel_rfl) rfl (by kernel_rfl) (by kernel_rfl) ?_ (by simp); (repeat (first | (refine sn ?_) | (refine stx ?_) | (refine sb ?_))); refine zh_took (by rfl) ?_
  refine zh_take 1 (by kernel_rfl) rfl (by kernel_rfl) (by kernel_rfl) ?_ (by simp); (repeat (first | (refine sn ?_) | (refine stx ?_) | (refine sb ?_))); refine zh_took (by rfl) ?_
  refine zh_take 2 (by kernel_rfl) rfl (by kernel_rfl) (by kernel_rfl) ?_ (by simp); (repeat (first | (refine sn ?_) | (refine stx ?_) | (refine sb ?_))); refine zh_took (by rfl) ?_
  refine zh_take 3 (by kernel_rfl) rfl (by kernel_rfl) (by kernel_rfl) ?_ (by simp); (repeat (first | (refine sn ?_) | (refine stx ?_) | (refine sb ?_))); refine zh_took (by rfl) ?_
  refine zh_take 5 (by kernel_rfl) rfl (by kernel_rfl) (by kernel_rfl) ?_ (by simp); (repeat (first | (refine sn ?_) | (refine stx ?_) | (refine sb ?_))); refine zh_took (by rfl) ?_
  refine zh_take 9 (by kernel_rfl) rfl (by kernel_rfl) (by kernel_rfl) ?_ (by simp); (repeat (first | (refine sn ?_) | (refine stx ?_) | (refine sb ?_))); refine zh_took (by rfl) ?_
  refine zh_take 10 (by kernel_rfl) rfl (by kernel_rfl) (by kernel_rfl) ?_ (by simp); (repeat (first | (refine sn ?_) | (refine stx ?_) | (refine sb ?_))); refine zh_took (by rfl) ?_
  refine zh_take 11 (by kernel_rfl) rfl (by kernel_rfl) (by kernel_rfl) ?_ (by simp)
  ((try (refine sg ?_)); (refine zx_call0 rfl fnc130 rfl rfl (fun w hm => BytesR_any a w) ?_))
  refine zh_took (by rfl) ?_
  refine zh_take 13 (by kernel_rfl) rfl (by kernel_rfl) (by kernel_rfl) ?_ (by simp); (repeat (first | (refine sn ?_) | (refine stx ?_) | (refine sb ?_))); refine zh_took (by rfl) ?_
  refine zh_take 14 (by kernel_rfl) rfl (by kernel_rfl) (by kernel_rfl) ?_ (by simp); (repeat (first | (refine sn ?_) | (refine stx ?_) | (refine sb ?_))); refine zh_took (by rfl) ?_
  refine zh_take 15 (by kernel_rfl) rfl (by kernel_rfl) (by kernel_rfl) ?_ (by simp); (repeat (first | (refine sn ?_) | (refine stx ?_) | (refine sb ?_))); refine zh_took (by rfl) ?_
  refine zh_take 16 (by kernel_rfl) rfl (by kernel_rfl) (by kernel_rfl) ?_ (by simp); (repeat (first | (refine sn ?_) | (refine stx ?_) | (refine sb ?_))); refine zh_took (by rfl) ?_
  refine zh_take 17 (by kernel_rfl) rfl (by kernel_rfl) (by kernel_rfl) ?_ (by simp); (repeat (first | (refine sn ?_) | (refine stx ?_) | (refine sb ?_))); refine zh_took (by rfl) ?_
  refine zh_take 18 (by kernel_rfl) rfl (by kernel_rfl) (by kernel_rfl) ?_ (by simp); (repeat (first | (refine sn ?_) | (refine stx ?_) | (refine sb ?_))); refine zh_took (by rfl) ?_
  refine zh_take 19 (by kernel_rfl) rfl (by kernel_rfl) (by kernel_rfl) ?_ (by simp); (repeat (first | (refine sn ?_) | (refine stx ?_) | (refine sb ?_))); refine zh_took (by rfl) ?_
  refine zh_three 4 6 20 rfl rfl rfl (by kernel_rfl) ?_ ?_ ?_
  · refine st ?_
    refine zh_oned (by rfl) (by simp) ?_
    refine zh_two 6 20 rfl rfl (by kernel_rfl) ?_ ?_
    · refine st ?_; intro ka
      refine zh_oned (by rfl) (by simp) ?_
      refine zh_two 7 20 rfl rfl (by kernel_rfl) ?_ ?_
      · refine st ?_
        refine zh_oned (by rfl) (by simp) ?_
        refine zh_take 8 (by kernel_rfl) rfl (by kernel_rfl) (by kernel_rfl) ?_ (by simp)
        refine zx_cat rfl rfl rfl (by rw [ofInts_size, ofInts_size]; show x.down.length + 4 ≤ _; omega) rfl ?_
        refine zx_re 28 (.string (ofInts (x.down ++ [5, 0, 0, 1]))) rfl (congrArg _ (ofInts_app x.down [5, 0, 0, 1])) ?_
        refine zh_took (by rfl) ?_
        refine zh_take 12 (by kernel_rfl) rfl (by kernel_rfl) (by kernel_rfl) ?_ (by simp)
        refine zx_cat rfl rfl rfl (by rw [ofInts_size, List.length_append]; show x.down.length + 4 + _ ≤ _; omega) rfl ?_
        refine zx_re 32 (.string (ofInts ((x.down ++ [5, 0, 0, 1]) ++ bL a.bytes))) rfl (congrArg _ (by rw [← ofInts_app _ (bL a.bytes), ofInts_bL])) ?_
        refine zh_took (by rfl) ?_
        refine zh_one 20 rfl (by kernel_rfl) ?_
        refine st ?_; intro kb
        refine zh_oned (by rfl) (by simp) ?_
        refine zh_one 21 rfl (by kernel_rfl) ?_
        refine st ?_
        refine zh_oned (by rfl) (by simp) ?_
        refine zh_take 22 (by kernel_rfl) rfl (by kernel_rfl) (by kernel_rfl) ?_ (by simp)
        refine zx_cat rfl rfl rfl (by rw [ofInts_size, ofInts_size, List.length_append, List.length_append, bL_length]; show x.down.length + 4 + _ + 2 ≤ _; omega) rfl ?_
        refine zx_re 42 (.string (ofInts (((x.down ++ [5, 0, 0, 1]) ++ bL a.bytes) ++ [hiB n, loB n]))) rfl (congrArg _ (ofInts_app _ [hiB n, loB n])) ?_
        refine zh_took (by rfl) ?_
        refine zh_take 23 (by kernel_rfl) rfl (by kernel_rfl) (by kernel_rfl) ?_ (by simp); (repeat (first | (refine sn ?_) | (refine stx ?_) | (refine sb ?_))); refine zh_took (by rfl) ?_
        refine zh_take 24 (by kernel_rfl) rfl (by kernel_rfl) (by kernel_rfl) ?_ (by simp); (repeat (first | (refine sn ?_) | (refine stx ?_) | (refine sb ?_))); refine zh_took (by rfl) ?_
        refine zh_one 25 rfl (by kernel_rfl) ?_
        refine st ?_
        refine zh_oned (by rfl) (by simp) ?_
        refine zh_end (by rfl) (by kernel_rfl) ?_
        repeat (first | (refine st ?_) | (refine stx ?_) | (refine sb ?_) | (intro _))
        refine z_ret1 tab_ok Try.func101 hb hk Try.results101 (.tmp rfl) (fun w hm => ?_)
        exact ⟨rfl, hm.weaken (fun _ h => h) (List.Sublist.cons _ (List.Sublist.cons _ (List.Sublist.cons _ (List.Sublist.refl _))))⟩
      · refine st ?_; intro kb
        refine zh_oned (by rfl) (by simp) ?_
        refine zh_two 7 21 rfl rfl (by kernel_rfl) ?_ ?_
        · refine st ?_
          refine zh_oned (by rfl) (by simp) ?_
          refine zh_take 8 (by kernel_rfl) rfl (by kernel_rfl) (by kernel_rfl) ?_ (by simp)
          refine zx_cat rfl rfl rfl (by rw [ofInts_size, ofInts_size]; show x.down.length + 4 ≤ _; omega) rfl ?_
          refine zx_re 28 (.string (ofInts (x.down ++ [5, 0, 0, 1]))) rfl (congrArg _ (ofInts_app x.down [5, 0, 0, 1])) ?_
          refine zh_took (by rfl) ?_
          refine zh_take 12 (by kernel_rfl) rfl (by kernel_rfl) (by kernel_rfl) ?_ (by simp)
          refine zx_cat rfl rfl rfl (by rw [ofInts_size, List.length_append]; show x.down.length + 4 + _ ≤ _; omega) rfl ?_
          refine zx_re 32 (.string (ofInts ((x.down ++ [5, 0, 0, 1]) ++ bL a.bytes))) rfl (congrArg _ (by rw [← ofInts_app _ (bL a.bytes), ofInts_bL])) ?_
          refine zh_took (by rfl) ?_
          refine zh_one 21 rfl (by kernel_rfl) ?_
          refine st ?_
          refine zh_oned (by rfl) (by simp) ?_
          refine zh_take 22 (by kernel_rfl) rfl (by kernel_rfl) (by kernel_rfl) ?_ (by simp)
          refine zx_cat rfl rfl rfl (by rw [ofInts_size, ofInts_size, List.length_append, List.length_append, bL_length]; show x.down.length + 4 + _ + 2 ≤ _; omega) rfl ?_
          refine zx_re 42 (.string (ofInts (((x.down ++ [5, 0, 0, 1]) ++ bL a.bytes) ++ [hiB n, loB n]))) rfl (congrArg _ (ofInts_app _ [hiB n, loB n])) ?_
          refine zh_took (by rfl) ?_
          refine zh_take 23 (by kernel_rfl) rfl (by kernel_rfl) (by kernel_rfl) ?_ (by simp); (repeat (first | (refine sn ?_) | (refine stx ?_) | (refine sb ?_))); refine zh_took (by rfl) ?_
          refine zh_take 24 (by kernel_rfl) rfl (by kernel_rfl) (by kernel_rfl) ?_ (by simp); (repeat (first | (refine sn ?_) | (refine stx ?_) | (refine sb ?_))); refine zh_took (by rfl) ?_
          refine zh_one 25 rfl (by kernel_rfl) ?_
          refine st ?_
          refine zh_oned (by rfl) (by simp) ?_
          refine zh_end (by rfl) (by kernel_rfl) ?_
          repeat (first | (refine st ?_) | (refine stx ?_) | (refine sb ?_) | (intro _))
          refine z_ret1 tab_ok Try.func101 hb hk Try.results101 (.tmp rfl) (fun w hm => ?_)
          exact ⟨rfl, hm.weaken (fun _ h => h) (List.Sublist.cons _ (List.Sublist.cons _ (List.Sublist.cons _ (List.Sublist.refl _))))⟩
        · refine st ?_
          refine zh_oned (by rfl) (by simp) ?_
          refine zh_one 7 rfl (by kernel_rfl) ?_
          refine st ?_
          refine zh_oned (by rfl) (by simp) ?_
          refine zh_take 8 (by kernel_rfl) rfl (by kernel_rfl) (by kernel_rfl) ?_ (by simp)
          refine zx_cat rfl rfl rfl (by rw [ofInts_size, ofInts_size]; show x.down.length + 4 ≤ _; omega) rfl ?_
          refine zx_re 28 (.string (ofInts (x.down ++ [5, 0, 0, 1]))) rfl (congrArg _ (ofInts_app x.down [5, 0, 0, 1])) ?_
          refine zh_took (by rfl) ?_
          refine zh_take 12 (by kernel_rfl) rfl (by kernel_rfl) (by kernel_rfl) ?_ (by simp)
          refine zx_cat rfl rfl rfl (by rw [ofInts_size, List.length_append]; show x.down.length + 4 + _ ≤ _; omega) rfl ?_
          refine zx_re 32 (.string (ofInts ((x.down ++ [5, 0, 0, 1]) ++ bL a.bytes))) rfl (congrArg _ (by rw [← ofInts_app _ (bL a.bytes), ofInts_bL])) ?_
          refine zh_took (by rfl) ?_
          refine zh_take 22 (by kernel_rfl) rfl (by kernel_rfl) (by kernel_rfl) ?_ (by simp)
          refine zx_cat rfl rfl rfl (by rw [ofInts_size, ofInts_size, List.length_append, List.length_append, bL_length]; show x.down.length + 4 + _ + 2 ≤ _; omega) rfl ?_
          refine zx_re 42 (.string (ofInts (((x.down ++ [5, 0, 0, 1]) ++ bL a.bytes) ++ [hiB n, loB n]))) rfl (congrArg _ (ofInts_app _ [hiB n, loB n])) ?_
          refine zh_took (by rfl) ?_
          refine zh_take 23 (by kernel_rfl) rfl (by kernel_rfl) (by kernel_rfl) ?_ (by simp); (repeat (first | (refine sn ?_) | (refine stx ?_) | (refine sb ?_))); refine zh_took (by rfl) ?_
          refine zh_take 24 (by kernel_rfl) rfl (by kernel_rfl) (by kernel_rfl) ?_ (by simp); (repeat (first | (refine sn ?_) | (refine stx ?_) | (refine sb ?_))); refine zh_took (by rfl) ?_
          refine zh_one 25 rfl (by kernel_rfl) ?_
          refine st ?_
          refine zh_oned (by rfl) (by simp) ?_
          refine zh_end (by rfl) (by kernel_rfl) ?_
          repeat (first | (refine st ?_) | (refine stx ?_) | (refine sb ?_) | (intro _))
          refine z_ret1 tab_ok Try.func101 hb hk Try.results101 (.tmp rfl) (fun w hm => ?_)
          exact ⟨rfl, hm.weaken (fun _ h => h) (List.Sublist.cons _ (List.Sublist.cons _ (List.Sublist.cons _ (List.Sublist.refl _))))⟩
    · refine st ?_; intro kb
      refine zh_oned (by rfl) (by simp) ?_
      refine zh_two 6 21 rfl rfl (by kernel_rfl) ?_ ?_
      · refine st ?_; intro ka
        refine zh_oned (by rfl) (by simp) ?_
        refine zh_two 7 21 rfl rfl (by kernel_rfl) ?_ ?_
        · refine st ?_
          refine zh_oned (by rfl) (by simp) ?_
          refine zh_take 8 (by kernel_rfl) rfl (by kernel_rfl) (by kernel_rfl) ?_ (by simp)
          refine zx_cat rfl rfl rfl (by rw [ofInts_size, ofInts_size]; show x.down.length + 4 ≤ _; omega) rfl ?_
          refine zx_re 28 (.string (ofInts (x.down ++ [5, 0, 0, 1]))) rfl (congrArg _ (ofInts_app x.down [5, 0, 0, 1])) ?_
          refine zh_took (by rfl) ?_
          refine zh_take 12 (by kernel_rfl) rfl (by kernel_rfl) (by kernel_rfl) ?_ (by simp)
          refine zx_cat rfl rfl rfl (by rw [ofInts_size, List.length_append]; show x.down.length + 4 + _ ≤ _; omega) rfl ?_
          refine zx_re 32 (.string (ofInts ((x.down ++ [5, 0, 0, 1]) ++ bL a.bytes))) rfl (congrArg _ (by rw [← ofInts_app _ (bL a.bytes), ofInts_bL])) ?_
          refine zh_took (by rfl) ?_
          refine zh_one 21 rfl (by kernel_rfl) ?_
          refine st ?_
          refine zh_oned (by rfl) (by simp) ?_
          refine zh_take 22 (by kernel_rfl) rfl (by kernel_rfl) (by kernel_rfl) ?_ (by simp)
          refine zx_cat rfl rfl rfl (by rw [ofInts_size, ofInts_size, List.length_append, List.length_append, bL_length]; show x.down.length + 4 + _ + 2 ≤ _; omega) rfl ?_
          refine zx_re 42 (.string (ofInts (((x.down ++ [5, 0, 0, 1]) ++ bL a.bytes) ++ [hiB n, loB n]))) rfl (congrArg _ (ofInts_app _ [hiB n, loB n])) ?_
          refine zh_took (by rfl) ?_
          refine zh_take 23 (by kernel_rfl) rfl (by kernel_rfl) (by kernel_rfl) ?_ (by simp); (repeat (first | (refine sn ?_) | (refine stx ?_) | (refine sb ?_))); refine zh_took (by rfl) ?_
          refine zh_take 24 (by kernel_rfl) rfl (by kernel_rfl) (by kernel_rfl) ?_ (by simp); (repeat (first | (refine sn ?_) | (refine stx ?_) | (refine sb ?_))); refine zh_took (by rfl) ?_
          refine zh_one 25 rfl (by kernel_rfl) ?_
          refine st ?_
          refine zh_oned (by rfl) (by simp) ?_
          refine zh_end (by rfl) (by kernel_rfl) ?_
          repeat (first | (refine st ?_) | (refine stx ?_) | (refine sb ?_) | (intro _))
          refine z_ret1 tab_ok Try.func101 hb hk Try.results101 (.tmp rfl) (fun w hm => ?_)
          exact ⟨rfl, hm.weaken (fun _ h => h) (List.Sublist.cons _ (List.Sublist.cons _ (List.Sublist.cons _ (List.Sublist.refl _))))⟩
        · refine st ?_
          refine zh_oned (by rfl) (by simp) ?_
          refine zh_one 7 rfl (by kernel_rfl) ?_
          refine st ?_
          refine zh_oned (by rfl) (by simp) ?_
          refine zh_take 8 (by kernel_rfl) rfl (by kernel_rfl) (by kernel_rfl) ?_ (by simp)
          refine zx_cat rfl rfl rfl (by rw [ofInts_size, ofInts_size]; show x.down.length + 4 ≤ _; omega) rfl ?_
          refine zx_re 28 (.string (ofInts (x.down ++ [5, 0, 0, 1]))) rfl (congrArg _ (ofInts_app x.down [5, 0, 0, 1])) ?_
          refine zh_took (by rfl) ?_
          refine zh_take 12 (by kernel_rfl) rfl (by kernel_rfl) (by kernel_rfl) ?_ (by simp)
          refine zx_cat rfl rfl rfl (by rw [ofInts_size, List.length_append]; show x.down.length + 4 + _ ≤ _; omega) rfl ?_
          refine zx_re 32 (.string (ofInts ((x.down ++ [5, 0, 0, 1]) ++ bL a.bytes))) rfl (congrArg _ (by rw [← ofInts_app _ (bL a.bytes), ofInts_bL])) ?_
          refine zh_took (by rfl) ?_
          refine zh_take 22 (by kernel_rfl) rfl (by kernel_rfl) (by kernel_rfl) ?_ (by simp)
          refine zx_cat rfl rfl rfl (by rw [ofInts_size, ofInts_size, List.length_append, List.length_append, bL_length]; show x.down.length + 4 + _ + 2 ≤ _; omega) rfl ?_
          refine zx_re 42 (.string (ofInts (((x.down ++ [5, 0, 0, 1]) ++ bL a.bytes) ++ [hiB n, loB n]))) rfl (congrArg _ (ofInts_app _ [hiB n, loB n])) ?_
          refine zh_took (by rfl) ?_
          refine zh_take 23 (by kernel_rfl) rfl (by kernel_rfl) (by kernel_rfl) ?_ (by simp); (repeat (first | (refine sn ?_) | (refine stx ?_) | (refine sb ?_))); refine zh_took (by rfl) ?_
          refine zh_take 24 (by kernel_rfl) rfl (by kernel_rfl) (by kernel_rfl) ?_ (by simp); (repeat (first | (refine sn ?_) | (refine stx ?_) | (refine sb ?_))); refine zh_took (by rfl) ?_
          refine zh_one 25 rfl (by kernel_rfl) ?_
          refine st ?_
          refine zh_oned (by rfl) (by simp) ?_
          refine zh_end (by rfl) (by kernel_rfl) ?_
          repeat (first | (refine st ?_) | (refine stx ?_) | (refine sb ?_) | (intro _))
          refine z_ret1 tab_ok Try.func101 hb hk Try.results101 (.tmp rfl) (fun w hm => ?_)
          exact ⟨rfl, hm.weaken (fun _ h => h) (List.Sublist.cons _ (List.Sublist.cons _ (List.Sublist.cons _ (List.Sublist.refl _))))⟩
      · refine st ?_
        refine zh_oned (by rfl) (by simp) ?_
        refine zh_one 6 rfl (by kernel_rfl) ?_
        refine st ?_; intro ka
        refine zh_oned (by rfl) (by simp) ?_
        refine zh_one 7 rfl (by kernel_rfl) ?_
        refine st ?_
        refine zh_oned (by rfl) (by simp) ?_
        refine zh_take 8 (by kernel_rfl) rfl (by kernel_rfl) (by kernel_rfl) ?_ (by simp)
        refine zx_cat rfl rfl rfl (by rw [ofInts_size, ofInts_size]; show x.down.length + 4 ≤ _; omega) rfl ?_
        refine zx_re 28 (.string (ofInts (x.down ++ [5, 0, 0, 1]))) rfl (congrArg _ (ofInts_app x.down [5, 0, 0, 1])) ?_
        refine zh_took (by rfl) ?_
        refine zh_take 12 (by kernel_rfl) rfl (by kernel_rfl) (by kernel_rfl) ?_ (by simp)
        refine zx_cat rfl rfl rfl (by rw [ofInts_size, List.length_append]; show x.down.length + 4 + _ ≤ _; omega) rfl ?_
        refine zx_re 32 (.string (ofInts ((x.down ++ [5, 0, 0, 1]) ++ bL a.bytes))) rfl (congrArg _ (by rw [← ofInts_app _ (bL a.bytes), ofInts_bL])) ?_
        refine zh_took (by rfl) ?_
        refine zh_take 22 (by kernel_rfl) rfl (by kernel_rfl) (by kernel_rfl) ?_ (by simp)
        refine zx_cat rfl rfl rfl (by rw [ofInts_size, ofInts_size, List.length_append, List.length_append, bL_length]; show x.down.length + 4 + _ + 2 ≤ _; omega) rfl ?_
        refine zx_re 42 (.string (ofInts (((x.down ++ [5, 0, 0, 1]) ++ bL a.bytes) ++ [hiB n, loB n]))) rfl (congrArg _ (ofInts_app _ [hiB n, loB n])) ?_
        refine zh_took (by rfl) ?_
        refine zh_take 23 (by kernel_rfl) rfl (by kernel_rfl) (by kernel_rfl) ?_ (by simp); (repeat (first | (refine sn ?_) | (refine stx ?_) | (refine sb ?_))); refine zh_took (by rfl) ?_
        refine zh_take 24 (by kernel_rfl) rfl (by kernel_rfl) (by kernel_rfl) ?_ (by simp); (repeat (first | (refine sn ?_) | (refine stx ?_) | (refine sb ?_))); refine zh_took (by rfl) ?_
        refine zh_one 25 rfl (by kernel_rfl) ?_
        refine st ?_
        refine zh_oned (by rfl) (by simp) ?_
        refine zh_end (by rfl) (by kernel_rfl) ?_
        repeat (first | (refine st ?_) | (refine stx ?_) | (refine sb ?_) | (intro _))
        refine z_ret1 tab_ok Try.func101 hb hk Try.results101 (.tmp rfl) (fun w hm => ?_)
        exact ⟨rfl, hm.weaken (fun _ h => h) (List.Sublist.cons _ (List.Sublist.cons _ (List.Sublist.cons _ (List.Sublist.refl _))))⟩
  · refine st ?_; intro ka
    refine zh_oned (by rfl) (by simp) ?_
    refine zh_three 4 7 20 rfl rfl rfl (by kernel_rfl) ?_ ?_ ?_
    · refine st ?_
      refine zh_oned (by rfl) (by simp) ?_
      refine zh_two 7 20 rfl rfl (by kernel_rfl) ?_ ?_
      · refine st ?_
        refine zh_oned (by rfl) (by simp) ?_
        refine zh_take 8 (by kernel_rfl) rfl (by kernel_rfl) (by kernel_rfl) ?_ (by simp)
        refine zx_cat rfl rfl rfl (by rw [ofInts_size, ofInts_size]; show x.down.length + 4 ≤ _; omega) rfl ?_
        refine zx_re 28 (.string (ofInts (x.down ++ [5, 0, 0, 1]))) rfl (congrArg _ (ofInts_app x.down [5, 0, 0, 1])) ?_
        refine zh_took (by rfl) ?_
        refine zh_take 12 (by kernel_rfl) rfl (by kernel_rfl) (by kernel_rfl) ?_ (by simp)
        refine zx_cat rfl rfl rfl (by rw [ofInts_size, List.length_append]; show x.down.length + 4 + _ ≤ _; omega) rfl ?_
        refine zx_re 32 (.string (ofInts ((x.down ++ [5, 0, 0, 1]) ++ bL a.bytes))) rfl (congrArg _ (by rw [← ofInts_app _ (bL a.bytes), ofInts_bL])) ?_
        refine zh_took (by rfl) ?_
        refine zh_one 20 rfl (by kernel_rfl) ?_
        refine st ?_; intro kb
        refine zh_oned (by rfl) (by simp) ?_
        refine zh_one 21 rfl (by kernel_rfl) ?_
        refine st ?_
        refine zh_oned (by rfl) (by simp) ?_
        refine zh_take 22 (by kernel_rfl) rfl (by kernel_rfl) (by kernel_rfl) ?_ (by simp)
        refine zx_cat rfl rfl rfl (by rw [ofInts_size, ofInts_size, List.length_append, List.length_append, bL_length]; show x.down.length + 4 + _ + 2 ≤ _; omega) rfl ?_
        refine zx_re 42 (.string (ofInts (((x.down ++ [5, 0, 0, 1]) ++ bL a.bytes) ++ [hiB n, loB n]))) rfl (congrArg _ (ofInts_app _ [hiB n, loB n])) ?_
        refine zh_took (by rfl) ?_
        refine zh_take 23 (by kernel_rfl) rfl (by kernel_rfl) (by kernel_rfl) ?_ (by simp); (repeat (first | (refine sn ?_) | (refine stx ?_) | (refine sb ?_))); refine zh_took (by rfl) ?_
        refine zh_take 24 (by kernel_rfl) rfl (by kernel_rfl) (by kernel_rfl) ?_ (by simp); (repeat (first | (refine sn ?_) | (refine stx ?_) | (refine sb ?_))); refine zh_took (by rfl) ?_
        refine zh_one 25 rfl (by kernel_rfl) ?_
        refine st ?_
        refine zh_oned (by rfl) (by simp) ?_
        refine zh_end (by rfl) (by kernel_rfl) ?_
        repeat (first | (refine st ?_) | (refine stx ?_) | (refine sb ?_) | (intro _))
        refine z_ret1 tab_ok Try.func101 hb hk Try.results101 (.tmp rfl) (fun w hm => ?_)
        exact ⟨rfl, hm.weaken (fun _ h => h) (List.Sublist.cons _ (List.Sublist.cons _ (List.Sublist.cons _ (List.Sublist.refl _))))⟩
      · refine st ?_; intro kb
        refine zh_oned (by rfl) (by simp) ?_
        refine zh_two 7 21 rfl rfl (by kernel_rfl) ?_ ?_
        · refine st ?_
          refine zh_oned (by rfl) (by simp) ?_
          refine zh_take 8 (by kernel_rfl) rfl (by kernel_rfl) (by kernel_rfl) ?_ (by simp)
          refine zx_cat rfl rfl rfl (by rw [ofInts_size, ofInts_size]; show x.down.length + 4 ≤ _; omega) rfl ?_
          refine zx_re 28 (.string (ofInts (x.down ++ [5, 0, 0, 1]))) rfl (congrArg _ (ofInts_app x.down [5, 0, 0, 1])) ?_
          refine zh_took (by rfl) ?_
          refine zh_take 12 (by kernel_rfl) rfl (by kernel_rfl) (by kernel_rfl) ?_ (by simp)
          refine zx_cat rfl rfl rfl (by rw [ofInts_size, List.length_append]; show x.down.length + 4 + _ ≤ _; omega) rfl ?_
          refine zx_re 32 (.string (ofInts ((x.down ++ [5, 0, 0, 1]) ++ bL a.bytes))) rfl (congrArg _ (by rw [← ofInts_app _ (bL a.bytes), ofInts_bL])) ?_
          refine zh_took (by rfl) ?_
          refine zh_one 21 rfl (by kernel_rfl) ?_
          refine st ?_
          refine zh_oned (by rfl) (by simp) ?_
          refine zh_take 22 (by kernel_rfl) rfl (by kernel_rfl) (by kernel_rfl) ?_ (by simp)
          refine zx_cat rfl rfl rfl (by rw [ofInts_size, ofInts_size, List.length_append, List.length_append, bL_length]; show x.down.length + 4 + _ + 2 ≤ _; omega) rfl ?_
          refine zx_re 42 (.string (ofInts (((x.down ++ [5, 0, 0, 1]) ++ bL a.bytes) ++ [hiB n, loB n]))) rfl (congrArg _ (ofInts_app _ [hiB n, loB n])) ?_
          refine zh_took (by rfl) ?_
          refine zh_take 23 (by kernel_rfl) rfl (by kernel_rfl) (by kernel_rfl) ?_ (by simp); (repeat (first | (refine sn ?_) | (refine stx ?_) | (refine sb ?_))); refine zh_took (by rfl) ?_
          refine zh_take 24 (by kernel_rfl) rfl (by kernel_rfl) (by kernel_rfl) ?_ (by simp); (repeat (first | (refine sn ?_) | (refine stx ?_) | (refine sb ?_))); refine zh_took (by rfl) ?_
          refine zh_one 25 rfl (by kernel_rfl) ?_
          refine st ?_
          refine zh_oned (by rfl) (by simp) ?_
          refine zh_end (by rfl) (by kernel_rfl) ?_
          repeat (first | (refine st ?_) | (refine stx ?_) | (refine sb ?_) | (intro _))
          refine z_ret1 tab_ok Try.func101 hb hk Try.results101 (.tmp rfl) (fun w hm => ?_)
          exact ⟨rfl, hm.weaken (fun _ h => h) (List.Sublist.cons _ (List.Sublist.cons _ (List.Sublist.cons _ (List.Sublist.refl _))))⟩
        · refine st ?_
          refine zh_oned (by rfl) (by simp) ?_
          refine zh_one 7 rfl (by kernel_rfl) ?_
          refine st ?_
          refine zh_oned (by rfl) (by simp) ?_
          refine zh_take 8 (by kernel_rfl) rfl (by kernel_rfl) (by kernel_rfl) ?_ (by simp)
          refine zx_cat rfl rfl rfl (by rw [ofInts_size, ofInts_size]; show x.down.length + 4 ≤ _; omega) rfl ?_
          refine zx_re 28 (.string (ofInts (x.down ++ [5, 0, 0, 1]))) rfl (congrArg _ (ofInts_app x.down [5, 0, 0, 1])) ?_
          refine zh_took (by rfl) ?_
          refine zh_take 12 (by kernel_rfl) rfl (by kernel_rfl) (by kernel_rfl) ?_ (by simp)
          refine zx_cat rfl rfl rfl (by rw [ofInts_size, List.length_append]; show x.down.length + 4 + _ ≤ _; omega) rfl ?_
          refine zx_re 32 (.string (ofInts ((x.down ++ [5, 0, 0, 1]) ++ bL a.bytes))) rfl (congrArg _ (by rw [← ofInts_app _ (bL a.bytes), ofInts_bL])) ?_
          refine zh_took (by rfl) ?_
          refine zh_take 22 (by kernel_rfl) rfl (by kernel_rfl) (by kernel_rfl) ?_ (by simp)
          refine zx_cat rfl rfl rfl (by rw [ofInts_size, ofInts_size, List.length_append, List.length_append, bL_length]; show x.down.length + 4 + _ + 2 ≤ _; omega) rfl ?_
          refine zx_re 42 (.string (ofInts (((x.down ++ [5, 0, 0, 1]) ++ bL a.bytes) ++ [hiB n, loB n]))) rfl (congrArg _ (ofInts_app _ [hiB n, loB n])) ?_
          refine zh_took (by rfl) ?_
          refine zh_take 23 (by kernel_rfl) rfl (by kernel_rfl) (by kernel_rfl) ?_ (by simp); (repeat (first | (refine sn ?_) | (refine stx ?_) | (refine sb ?_))); refine zh_took (by rfl) ?_
          refine zh_take 24 (by kernel_rfl) rfl (by kernel_rfl) (by kernel_rfl) ?_ (by simp); (repeat (first | (refine sn ?_) | (refine stx ?_) | (refine sb ?_))); refine zh_took (by rfl) ?_
          refine zh_one 25 rfl (by kernel_rfl) ?_
          refine st ?_
          refine zh_oned (by rfl) (by simp) ?_
          refine zh_end (by rfl) (by kernel_rfl) ?_
          repeat (first | (refine st ?_) | (refine stx ?_) | (refine sb ?_) | (intro _))
          refine z_ret1 tab_ok Try.func101 hb hk Try.results101 (.tmp rfl) (fun w hm => ?_)
          exact ⟨rfl, hm.weaken (fun _ h => h) (List.Sublist.cons _ (List.Sublist.cons _ (List.Sublist.cons _ (List.Sublist.refl _))))⟩
    · refine st ?_
      refine zh_oned (by rfl) (by simp) ?_
      refine zh_two 4 20 rfl rfl (by kernel_rfl) ?_ ?_
      · refine st ?_
        refine zh_oned (by rfl) (by simp) ?_
        refine zh_take 8 (by kernel_rfl) rfl (by kernel_rfl) (by kernel_rfl) ?_ (by simp)
        refine zx_cat rfl rfl rfl (by rw [ofInts_size, ofInts_size]; show x.down.length + 4 ≤ _; omega) rfl ?_
        refine zx_re 28 (.string (ofInts (x.down ++ [5, 0, 0, 1]))) rfl (congrArg _ (ofInts_app x.down [5, 0, 0, 1])) ?_
        refine zh_took (by rfl) ?_
        refine zh_take 12 (by kernel_rfl) rfl (by kernel_rfl) (by kernel_rfl) ?_ (by simp)
        refine zx_cat rfl rfl rfl (by rw [ofInts_size, List.length_append]; show x.down.length + 4 + _ ≤ _; omega) rfl ?_
        refine zx_re 32 (.string (ofInts ((x.down ++ [5, 0, 0, 1]) ++ bL a.bytes))) rfl (congrArg _ (by rw [← ofInts_app _ (bL a.bytes), ofInts_bL])) ?_
        refine zh_took (by rfl) ?_
        refine zh_one 20 rfl (by kernel_rfl) ?_
        refine st ?_; intro kb
        refine zh_oned (by rfl) (by simp) ?_
        refine zh_one 21 rfl (by kernel_rfl) ?_
        refine st ?_
        refine zh_oned (by rfl) (by simp) ?_
        refine zh_take 22 (by kernel_rfl) rfl (by kernel_rfl) (by kernel_rfl) ?_ (by simp)
        refine zx_cat rfl rfl rfl (by rw [ofInts_size, ofInts_size, List.length_append, List.length_append, bL_length]; show x.down.length + 4 + _ + 2 ≤ _; omega) rfl ?_
        refine zx_re 42 (.string (ofInts (((x.down ++ [5, 0, 0, 1]) ++ bL a.bytes) ++ [hiB n, loB n]))) rfl (congrArg _ (ofInts_app _ [hiB n, loB n])) ?_
        refine zh_took (by rfl) ?_
        refine zh_take 23 (by kernel_rfl) rfl (by kernel_rfl) (by kernel_rfl) ?_ (by simp); (repeat (first | (refine sn ?_) | (refine stx ?_) | (refine sb ?_))); refine zh_took (by rfl) ?_
        refine zh_take 24 (by kernel_rfl) rfl (by kernel_rfl) (by kernel_rfl) ?_ (by simp); (repeat (first | (refine sn ?_) | (refine stx ?_) | (refine sb ?_))); refine zh_took (by rfl) ?_
        refine zh_one 25 rfl (by kernel_rfl) ?_
        refine st ?_
        refine zh_oned (by rfl) (by simp) ?_
        refine zh_end (by rfl) (by kernel_rfl) ?_
        repeat (first | (refine st ?_) | (refine stx ?_) | (refine sb ?_) | (intro _))
        refine z_ret1 tab_ok Try.func101 hb hk Try.results101 (.tmp rfl) (fun w hm => ?_)
        exact ⟨rfl, hm.weaken (fun _ h => h) (List.Sublist.cons _ (List.Sublist.cons _ (List.Sublist.cons _ (List.Sublist.refl _))))⟩
      · refine st ?_; intro kb
        refine zh_oned (by rfl) (by simp) ?_
        refine zh_two 4 21 rfl rfl (by kernel_rfl) ?_ ?_
        · refine st ?_
          refine zh_oned (by rfl) (by simp) ?_
          refine zh_take 8 (by kernel_rfl) rfl (by kernel_rfl) (by kernel_rfl) ?_ (by simp)
          refine zx_cat rfl rfl rfl (by rw [ofInts_size, ofInts_size]; show x.down.length + 4 ≤ _; omega) rfl ?_
          refine zx_re 28 (.string (ofInts (x.down ++ [5, 0, 0, 1]))) rfl (congrArg _ (ofInts_app x.down [5, 0, 0, 1])) ?_
          refine zh_took (by rfl) ?_
          refine zh_take 12 (by kernel_rfl) rfl (by kernel_rfl) (by kernel_rfl) ?_ (by simp)
          refine zx_cat rfl rfl rfl (by rw [ofInts_size, List.length_append]; show x.down.length + 4 + _ ≤ _; omega) rfl ?_
          refine zx_re 32 (.string (ofInts ((x.down ++ [5, 0, 0, 1]) ++ bL a.bytes))) rfl (congrArg _ (by rw [← ofInts_app _ (bL a.bytes), ofInts_bL])) ?_
          refine zh_took (by rfl) ?_
          refine zh_one 21 rfl (by kernel_rfl) ?_
          refine st ?_
          refine zh_oned (by rfl) (by simp) ?_
          refine zh_take 22 (by kernel_rfl) rfl (by kernel_rfl) (by kernel_rfl) ?_ (by simp)
          refine zx_cat rfl rfl rfl (by rw [ofInts_size, ofInts_size, List.length_append, List.length_append, bL_length]; show x.down.length + 4 + _ + 2 ≤ _; omega) rfl ?_
          refine zx_re 42 (.string (ofInts (((x.down ++ [5, 0, 0, 1]) ++ bL a.bytes) ++ [hiB n, loB n]))) rfl (congrArg _ (ofInts_app _ [hiB n, loB n])) ?_
          refine zh_took (by rfl) ?_
          refine zh_take 23 (by kernel_rfl) rfl (by kernel_rfl) (by kernel_rfl) ?_ (by simp); (repeat (first | (refine sn ?_) | (refine stx ?_) | (refine sb ?_))); refine zh_took (by rfl) ?_
          refine zh_take 24 (by kernel_rfl) rfl (by kernel_rfl) (by kernel_rfl) ?_ (by simp); (repeat (first | (refine sn ?_) | (refine stx ?_) | (refine sb ?_))); refine zh_took (by rfl) ?_
          refine zh_one 25 rfl (by kernel_rfl) ?_
          refine st ?_
          refine zh_oned (by rfl) (by simp) ?_
          refine zh_end (by rfl) (by kernel_rfl) ?_
          repeat (first | (refine st ?_) | (refine stx ?_) | (refine sb ?_) | (intro _))
          refine z_ret1 tab_ok Try.func101 hb hk Try.results101 (.tmp rfl) (fun w hm => ?_)
          exact ⟨rfl, hm.weaken (fun _ h => h) (List.Sublist.cons _ (List.Sublist.cons _ (List.Sublist.cons _ (List.Sublist.refl _))))⟩
        · refine st ?_
          refine zh_oned (by rfl) (by simp) ?_
          refine zh_one 4 rfl (by kernel_rfl) ?_
          refine st ?_
          refine zh_oned (by rfl) (by simp) ?_
          refine zh_take 8 (by kernel_rfl) rfl (by kernel_rfl) (by kernel_rfl) ?_ (by simp)
          refine zx_cat rfl rfl rfl (by rw [ofInts_size, ofInts_size]; show x.down.length + 4 ≤ _; omega) rfl ?_
          refine zx_re 28 (.string (ofInts (x.down ++ [5, 0, 0, 1]))) rfl (congrArg _ (ofInts_app x.down [5, 0, 0, 1])) ?_
          refine zh_took (by rfl) ?_
          refine zh_take 12 (by kernel_rfl) rfl (by kernel_rfl) (by kernel_rfl) ?_ (by simp)
          refine zx_cat rfl rfl rfl (by rw [ofInts_size, List.length_append]; show x.down.length + 4 + _ ≤ _; omega) rfl ?_
          refine zx_re 32 (.string (ofInts ((x.down ++ [5, 0, 0, 1]) ++ bL a.bytes))) rfl (congrArg _ (by rw [← ofInts_app _ (bL a.bytes), ofInts_bL])) ?_
          refine zh_took (by rfl) ?_
          refine zh_take 22 (by kernel_rfl) rfl (by kernel_rfl) (by kernel_rfl) ?_ (by simp)
          refine zx_cat rfl rfl rfl (by rw [ofInts_size, ofInts_size, List.length_append, List.length_append, bL_length]; show x.down.length + 4 + _ + 2 ≤ _; omega) rfl ?_
          refine zx_re 42 (.string (ofInts (((x.down ++ [5, 0, 0, 1]) ++ bL a.bytes) ++ [hiB n, loB n]))) rfl (congrArg _ (ofInts_app _ [hiB n, loB n])) ?_
          refine zh_took (by rfl) ?_
          refine zh_take 23 (by kernel_rfl) rfl (by kernel_rfl) (by kernel_rfl) ?_ (by simp); (repeat (first | (refine sn ?_) | (refine stx ?_) | (refine sb ?_))); refine zh_took (by rfl) ?_
          refine zh_take 24 (by kernel_rfl) rfl (by kernel_rfl) (by kernel_rfl) ?_ (by simp); (repeat (first | (refine sn ?_) | (refine stx ?_) | (refine sb ?_))); refine zh_took (by rfl) ?_
          refine zh_one 25 rfl (by kernel_rfl) ?_
          refine st ?_
          refine zh_oned (by rfl) (by simp) ?_
          refine zh_end (by rfl) (by kernel_rfl) ?_
          repeat (first | (refine st ?_) | (refine stx ?_) | (refine sb ?_) | (intro _))
          refine z_ret1 tab_ok Try.func101 hb hk Try.results101 (.tmp rfl) (fun w hm => ?_)
          exact ⟨rfl, hm.weaken (fun _ h => h) (List.Sublist.cons _ (List.Sublist.cons _ (List.Sublist.cons _ (List.Sublist.refl _))))⟩
    · refine st ?_; intro kb
      refine zh_oned (by rfl) (by simp) ?_
      refine zh_three 4 7 21 rfl rfl rfl (by kernel_rfl) ?_ ?_ ?_
      · refine st ?_
        refine zh_oned (by rfl) (by simp) ?_
        refine zh_two 7 21 rfl rfl (by kernel_rfl) ?_ ?_
        · refine st ?_
          refine zh_oned (by rfl) (by simp) ?_
          refine zh_take 8 (by kernel_rfl) rfl (by kernel_rfl) (by kernel_rfl) ?_ (by simp)
          refine zx_cat rfl rfl rfl (by rw [ofInts_size, ofInts_size]; show x.down.length + 4 ≤ _; omega) rfl ?_
          refine zx_re 28 (.string (ofInts (x.down ++ [5, 0, 0, 1]))) rfl (congrArg _ (ofInts_app x.down [5, 0, 0, 1])) ?_
          refine zh_took (by rfl) ?_
          refine zh_take 12 (by kernel_rfl) rfl (by kernel_rfl) (by kernel_rfl) ?_ (by simp)
          refine zx_cat rfl rfl rfl (by rw [ofInts_size, List.length_append]; show x.down.length + 4 + _ ≤ _; omega) rfl ?_
          refine zx_re 32 (.string (ofInts ((x.down ++ [5, 0, 0, 1]) ++ bL a.bytes))) rfl (congrArg _ (by rw [← ofInts_app _ (bL a.bytes), ofInts_bL])) ?_
          refine zh_took (by rfl) ?_
          refine zh_one 21 rfl (by kernel_rfl) ?_
          refine st ?_
          refine zh_oned (by rfl) (by simp) ?_
          refine zh_take 22 (by kernel_rfl) rfl (by kernel_rfl) (by kernel_rfl) ?_ (by simp)
          refine zx_cat rfl rfl rfl (by rw [ofInts_size, ofInts_size, List.length_append, List.length_append, bL_length]; show x.down.length + 4 + _ + 2 ≤ _; omega) rfl ?_
          refine zx_re 42 (.string (ofInts (((x.down ++ [5, 0, 0, 1]) ++ bL a.bytes) ++ [hiB n, loB n]))) rfl (congrArg _ (ofInts_app _ [hiB n, loB n])) ?_
          refine zh_took (by rfl) ?_
          refine zh_take 23 (by kernel_rfl) rfl (by kernel_rfl) (by kernel_rfl) ?_ (by simp); (repeat (first | (refine sn ?_) | (refine stx ?_) | (refine sb ?_))); refine zh_took (by rfl) ?_
          refine zh_take 24 (by kernel_rfl) rfl (by kernel_rfl) (by kernel_rfl) ?_ (by simp); (repeat (first | (refine sn ?_) | (refine stx ?_) | (refine sb ?_))); refine zh_took (by rfl) ?_
          refine zh_one 25 rfl (by kernel_rfl) ?_
          refine st ?_
          refine zh_oned (by rfl) (by simp) ?_
          refine zh_end (by rfl) (by kernel_rfl) ?_
          repeat (first | (refine st ?_) | (refine stx ?_) | (refine sb ?_) | (intro _))
          refine z_ret1 tab_ok Try.func101 hb hk Try.results101 (.tmp rfl) (fun w hm => ?_)
          exact ⟨rfl, hm.weaken (fun _ h => h) (List.Sublist.cons _ (List.Sublist.cons _ (List.Sublist.cons _ (List.Sublist.refl _))))⟩
        · refine st ?_
          refine zh_oned (by rfl) (by simp) ?_
          refine zh_one 7 rfl (by kernel_rfl) ?_
          refine st ?_
          refine zh_oned (by rfl) (by simp) ?_
          refine zh_take 8 (by kernel_rfl) rfl (by kernel_rfl) (by kernel_rfl) ?_ (by simp)
          refine zx_cat rfl rfl rfl (by rw [ofInts_size, ofInts_size]; show x.down.length + 4 ≤ _; omega) rfl ?_
          refine zx_re 28 (.string (ofInts (x.down ++ [5, 0, 0, 1]))) rfl (congrArg _ (ofInts_app x.down [5, 0, 0, 1])) ?_
          refine zh_took (by rfl) ?_
          refine zh_take 12 (by kernel_rfl) rfl (by kernel_rfl) (by kernel_rfl) ?_ (by simp)
          refine zx_cat rfl rfl rfl (by rw [ofInts_size, List.length_append]; show x.down.length + 4 + _ ≤ _; omega) rfl ?_
          refine zx_re 32 (.string (ofInts ((x.down ++ [5, 0, 0, 1]) ++ bL a.bytes))) rfl (congrArg _ (by rw [← ofInts_app _ (bL a.bytes), ofInts_bL])) ?_
          refine zh_took (by rfl) ?_
          refine zh_take 22 (by kernel_rfl) rfl (by kernel_rfl) (by kernel_rfl) ?_ (by simp)
          refine zx_cat rfl rfl rfl (by rw [ofInts_size, ofInts_size, List.length_append, List.length_append, bL_length]; show x.down.length + 4 + _ + 2 ≤ _; omega) rfl ?_
          refine zx_re 42 (.string (ofInts (((x.down ++ [5, 0, 0, 1]) ++ bL a.bytes) ++ [hiB n, loB n]))) rfl (congrArg _ (ofInts_app _ [hiB n, loB n])) ?_
          refine zh_took (by rfl) ?_
          refine zh_take 23 (by kernel_rfl) rfl (by kernel_rfl) (by kernel_rfl) ?_ (by simp); (repeat (first | (refine sn ?_) | (refine stx ?_) | (refine sb ?_))); refine zh_took (by rfl) ?_
          refine zh_take 24 (by kernel_rfl) rfl (by kernel_rfl) (by kernel_rfl) ?_ (by simp); (repeat (first | (refine sn ?_) | (refine stx ?_) | (refine sb ?_))); refine zh_took (by rfl) ?_
          refine zh_one 25 rfl (by kernel_rfl) ?_
          refine st ?_
          refine zh_oned (by rfl) (by simp) ?_
          refine zh_end (by rfl) (by kernel_rfl) ?_
          repeat (first | (refine st ?_) | (refine stx ?_) | (refine sb ?_) | (intro _))
          refine z_ret1 tab_ok Try.func101 hb hk Try.results101 (.tmp rfl) (fun w hm => ?_)
          exact ⟨rfl, hm.weaken (fun _ h => h) (List.Sublist.cons _ (List.Sublist.cons _ (List.Sublist.cons _ (List.Sublist.refl _))))⟩
      · refine st ?_
        refine zh_oned (by rfl) (by simp) ?_
        refine zh_two 4 21 rfl rfl (by kernel_rfl) ?_ ?_
        · refine st ?_
          refine zh_oned (by rfl) (by simp) ?_
          refine zh_take 8 (by kernel_rfl) rfl (by kernel_rfl) (by kernel_rfl) ?_ (by simp)
          refine zx_cat rfl rfl rfl (by rw [ofInts_size, ofInts_size]; show x.down.length + 4 ≤ _; omega) rfl ?_
          refine zx_re 28 (.string (ofInts (x.down ++ [5, 0, 0, 1]))) rfl (congrArg _ (ofInts_app x.down [5, 0, 0, 1])) ?_
          refine zh_took (by rfl) ?_
          refine zh_take 12 (by kernel_rfl) rfl (by kernel_rfl) (by kernel_rfl) ?_ (by simp)
          refine zx_cat rfl rfl rfl (by rw [ofInts_size, List.length_append]; show x.down.length + 4 + _ ≤ _; omega) rfl ?_
          refine zx_re 32 (.string (ofInts ((x.down ++ [5, 0, 0, 1]) ++ bL a.bytes))) rfl (congrArg _ (by rw [← ofInts_app _ (bL a.bytes), ofInts_bL])) ?_
          refine zh_took (by rfl) ?_
          refine zh_one 21 rfl (by kernel_rfl) ?_
          refine st ?_
          refine zh_oned (by rfl) (by simp) ?_
          refine zh_take 22 (by kernel_rfl) rfl (by kernel_rfl) (by kernel_rfl) ?_ (by simp)
          refine zx_cat rfl rfl rfl (by rw [ofInts_size, ofInts_size, List.length_append, List.length_append, bL_length]; show x.down.length + 4 + _ + 2 ≤ _; omega) rfl ?_
          refine zx_re 42 (.string (ofInts (((x.down ++ [5, 0, 0, 1]) ++ bL a.bytes) ++ [hiB n, loB n]))) rfl (congrArg _ (ofInts_app _ [hiB n, loB n])) ?_
          refine zh_took (by rfl) ?_
          refine zh_take 23 (by kernel_rfl) rfl (by kernel_rfl) (by kernel_rfl) ?_ (by simp); (repeat (first | (refine sn ?_) | (refine stx ?_) | (refine sb ?_))); refine zh_took (by rfl) ?_
          refine zh_take 24 (by kernel_rfl) rfl (by kernel_rfl) (by kernel_rfl) ?_ (by simp); (repeat (first | (refine sn ?_) | (refine stx ?_) | (refine sb ?_))); refine zh_took (by rfl) ?_
          refine zh_one 25 rfl (by kernel_rfl) ?_
          refine st ?_
          refine zh_oned (by rfl) (by simp) ?_
          refine zh_end (by rfl) (by kernel_rfl) ?_
          repeat (first | (refine st ?_) | (refine stx ?_) | (refine sb ?_) | (intro _))
          refine z_ret1 tab_ok Try.func101 hb hk Try.results101 (.tmp rfl) (fun w hm => ?_)
          exact ⟨rfl, hm.weaken (fun _ h => h) (List.Sublist.cons _ (List.Sublist.cons _ (List.Sublist.cons _ (List.Sublist.refl _))))⟩
        · refine st ?_
          refine zh_oned (by rfl) (by simp) ?_
          refine zh_one 4 rfl (by kernel_rfl) ?_
          refine st ?_
          refine zh_oned (by rfl) (by simp) ?_
          refine zh_take 8 (by kernel_rfl) rfl (by kernel_rfl) (by kernel_rfl) ?_ (by simp)
          refine zx_cat rfl rfl rfl (by rw [ofInts_size, ofInts_size]; show x.down.length + 4 ≤ _; omega) rfl ?_
          refine zx_re 28 (.string (ofInts (x.down ++ [5, 0, 0, 1]))) rfl (congrArg _ (ofInts_app x.down [5, 0, 0, 1])) ?_
          refine zh_took (by rfl) ?_
          refine zh_take 12 (by kernel_rfl) rfl (by kernel_rfl) (by kernel_rfl) ?_ (by simp)
          refine zx_cat rfl rfl rfl (by rw [ofInts_size, List.length_append]; show x.down.length + 4 + _ ≤ _; omega) rfl ?_
          refine zx_re 32 (.string (ofInts ((x.down ++ [5, 0, 0, 1]) ++ bL a.bytes))) rfl (congrArg _ (by rw [← ofInts_app _ (bL a.bytes), ofInts_bL])) ?_
          refine zh_took (by rfl) ?_
          refine zh_take 22 (by kernel_rfl) rfl (by kernel_rfl) (by kernel_rfl) ?_ (by simp)
          refine zx_cat rfl rfl rfl (by rw [ofInts_size, ofInts_size, List.length_append, List.length_append, bL_length]; show x.down.length + 4 + _ + 2 ≤ _; omega) rfl ?_
          refine zx_re 42 (.string (ofInts (((x.down ++ [5, 0, 0, 1]) ++ bL a.bytes) ++ [hiB n, loB n]))) rfl (congrArg _ (ofInts_app _ [hiB n, loB n])) ?_
          refine zh_took (by rfl) ?_
          refine zh_take 23 (by kernel_rfl) rfl (by kernel_rfl) (by kernel_rfl) ?_ (by simp); (repeat (first | (refine sn ?_) | (refine stx ?_) | (refine sb ?_))); refine zh_took (by rfl) ?_
          refine zh_take 24 (by kernel_rfl) rfl (by kernel_rfl) (by kernel_rfl) ?_ (by simp); (repeat (first | (refine sn ?_) | (refine stx ?_) | (refine sb ?_))); refine zh_took (by rfl) ?_
          refine zh_one 25 rfl (by kernel_rfl) ?_
          refine st ?_
          refine zh_oned (by rfl) (by simp) ?_
          refine zh_end (by rfl) (by kernel_rfl) ?_
          repeat (first | (refine st ?_) | (refine stx ?_) | (refine sb ?_) | (intro _))
          refine z_ret1 tab_ok Try.func101 hb hk Try.results101 (.tmp rfl) (fun w hm => ?_)
          exact ⟨rfl, hm.weaken (fun _ h => h) (List.Sublist.cons _ (List.Sublist.cons _ (List.Sublist.cons _ (List.Sublist.refl _))))⟩
      · refine st ?_
        refine zh_oned (by rfl) (by simp) ?_
        refine zh_two 4 7 rfl rfl (by kernel_rfl) ?_ ?_
        · refine st ?_
          refine zh_oned (by rfl) (by simp) ?_
          refine zh_one 7 rfl (by kernel_rfl) ?_
          refine st ?_
          refine zh_oned (by rfl) (by simp) ?_
          refine zh_take 8 (by kernel_rfl) rfl (by kernel_rfl) (by kernel_rfl) ?_ (by simp)
          refine zx_cat rfl rfl rfl (by rw [ofInts_size, ofInts_size]; show x.down.length + 4 ≤ _; omega) rfl ?_
          refine zx_re 28 (.string (ofInts (x.down ++ [5, 0, 0, 1]))) rfl (congrArg _ (ofInts_app x.down [5, 0, 0, 1])) ?_
          refine zh_took (by rfl) ?_
          refine zh_take 12 (by kernel_rfl) rfl (by kernel_rfl) (by kernel_rfl) ?_ (by simp)
          refine zx_cat rfl rfl rfl (by rw [ofInts_size, List.length_append]; show x.down.length + 4 + _ ≤ _; omega) rfl ?_
          refine zx_re 32 (.string (ofInts ((x.down ++ [5, 0, 0, 1]) ++ bL a.bytes))) rfl (congrArg _ (by rw [← ofInts_app _ (bL a.bytes), ofInts_bL])) ?_
          refine zh_took (by rfl) ?_
          refine zh_take 22 (by kernel_rfl) rfl (by kernel_rfl) (by kernel_rfl) ?_ (by simp)
          refine zx_cat rfl rfl rfl (by rw [ofInts_size, ofInts_size, List.length_append, List.length_append, bL_length]; show x.down.length + 4 + _ + 2 ≤ _; omega) rfl ?_
          refine zx_re 42 (.string (ofInts (((x.down ++ [5, 0, 0, 1]) ++ bL a.bytes) ++ [hiB n, loB n]))) rfl (congrArg _ (ofInts_app _ [hiB n, loB n])) ?_
          refine zh_took (by rfl) ?_
          refine zh_take 23 (by kernel_rfl) rfl (by kernel_rfl) (by kernel_rfl) ?_ (by simp); (repeat (first | (refine sn ?_) | (refine stx ?_) | (refine sb ?_))); refine zh_took (by rfl) ?_
          refine zh_take 24 (by kernel_rfl) rfl (by kernel_rfl) (by kernel_rfl) ?_ (by simp); (repeat (first | (refine sn ?_) | (refine stx ?_) | (refine sb ?_))); refine zh_took (by rfl) ?_
          refine zh_one 25 rfl (by kernel_rfl) ?_
          refine st ?_
          refine zh_oned (by rfl) (by simp) ?_
          refine zh_end (by rfl) (by kernel_rfl) ?_
          repeat (first | (refine st ?_) | (refine stx ?_) | (refine sb ?_) | (intro _))
          refine z_ret1 tab_ok Try.func101 hb hk Try.results101 (.tmp rfl) (fun w hm => ?_)
          exact ⟨rfl, hm.weaken (fun _ h => h) (List.Sublist.cons _ (List.Sublist.cons _ (List.Sublist.cons _ (List.Sublist.refl _))))⟩
        · refine st ?_
          refine zh_oned (by rfl) (by simp) ?_
          refine zh_one 4 rfl (by kernel_rfl) ?_
          refine st ?_
          refine zh_oned (by rfl) (by simp) ?_
          refine zh_take 8 (by kernel_rfl) rfl (by kernel_rfl) (by kernel_rfl) ?_ (by simp)
          refine zx_cat rfl rfl rfl (by rw [ofInts_size, ofInts_size]; show x.down.length + 4 ≤ _; omega) rfl ?_
          refine zx_re 28 (.string (ofInts (x.down ++ [5, 0, 0, 1]))) rfl (congrArg _ (ofInts_app x.down [5, 0, 0, 1])) ?_
          refine zh_took (by rfl) ?_
          refine zh_take 12 (by kernel_rfl) rfl (by kernel_rfl) (by kernel_rfl) ?_ (by simp)
          refine zx_cat rfl rfl rfl (by rw [ofInts_size, List.length_append]; show x.down.length + 4 + _ ≤ _; omega) rfl ?_
          refine zx_re 32 (.string (ofInts ((x.down ++ [5, 0, 0, 1]) ++ bL a.bytes))) rfl (congrArg _ (by rw [← ofInts_app _ (bL a.bytes), ofInts_bL])) ?_
          refine zh_took (by rfl) ?_
          refine zh_take 22 (by kernel_rfl) rfl (by kernel_rfl) (by kernel_rfl) ?_ (by simp)
          refine zx_cat rfl rfl rfl (by rw [ofInts_size, ofInts_size, List.length_append, List.length_append, bL_length]; show x.down.length + 4 + _ + 2 ≤ _; omega) rfl ?_
          refine zx_re 42 (.string (ofInts (((x.down ++ [5, 0, 0, 1]) ++ bL a.bytes) ++ [hiB n, loB n]))) rfl (congrArg _ (ofInts_app _ [hiB n, loB n])) ?_
          refine zh_took (by rfl) ?_
          refine zh_take 23 (by kernel_rfl) rfl (by kernel_rfl) (by kernel_rfl) ?_ (by simp); (repeat (first | (refine sn ?_) | (refine stx ?_) | (refine sb ?_))); refine zh_took (by rfl) ?_
          refine zh_take 24 (by kernel_rfl) rfl (by kernel_rfl) (by kernel_rfl) ?_ (by simp); (repeat (first | (refine sn ?_) | (refine stx ?_) | (refine sb ?_))); refine zh_took (by rfl) ?_
          refine zh_one 25 rfl (by kernel_rfl) ?_
          refine st ?_
          refine zh_oned (by rfl) (by simp) ?_
          refine zh_end (by rfl) (by kernel_rfl) ?_
          repeat (first | (refine st ?_) | (refine stx ?_) | (refine sb ?_) | (intro _))
          refine z_ret1 tab_ok Try.func101 hb hk Try.results101 (.tmp rfl) (fun w hm => ?_)
          exact ⟨rfl, hm.weaken (fun _ h => h) (List.Sublist.cons _ (List.Sublist.cons _ (List.Sublist.cons _ (List.Sublist.refl _))))⟩
  · refine st ?_; intro kb
    refine zh_oned (by rfl) (by simp) ?_
    refine zh_three 4 6 21 rfl rfl rfl (by kernel_rfl) ?_ ?_ ?_
    · refine st ?_
      refine zh_oned (by rfl) (by simp) ?_
      refine zh_two 6 21 rfl rfl (by kernel_rfl) ?_ ?_
      · refine st ?_; intro ka
        refine zh_oned (by rfl) (by simp) ?_
        refine zh_two 7 21 rfl rfl (by kernel_rfl) ?_ ?_
        · refine st ?_
          refine zh_oned (by rfl) (by simp) ?_
          refine zh_take 8 (by kernel_rfl) rfl (by kernel_rfl) (by kernel_rfl) ?_ (by simp)
          refine zx_cat rfl rfl rfl (by rw [ofInts_size, ofInts_size]; show x.down.length + 4 ≤ _; omega) rfl ?_
          refine zx_re 28 (.string (ofInts (x.down ++ [5, 0, 0, 1]))) rfl (congrArg _ (ofInts_app x.down [5, 0, 0, 1])) ?_
          refine zh_took (by rfl) ?_
          refine zh_take 12 (by kernel_rfl) rfl (by kernel_rfl) (by kernel_rfl) ?_ (by simp)
          refine zx_cat rfl rfl rfl (by rw [ofInts_size, List.length_append]; show x.down.length + 4 + _ ≤ _; omega) rfl ?_
          refine zx_re 32 (.string (ofInts ((x.down ++ [5, 0, 0, 1]) ++ bL a.bytes))) rfl (congrArg _ (by rw [← ofInts_app _ (bL a.bytes), ofInts_bL])) ?_
          refine zh_took (by rfl) ?_
          refine zh_one 21 rfl (by kernel_rfl) ?_
          refine st ?_
          refine zh_oned (by rfl) (by simp) ?_
          refine zh_take 22 (by kernel_rfl) rfl (by kernel_rfl) (by kernel_rfl) ?_ (by simp)
          refine zx_cat rfl rfl rfl (by rw [ofInts_size, ofInts_size, List.length_append, List.length_append, bL_length]; show x.down.length + 4 + _ + 2 ≤ _; omega) rfl ?_
          refine zx_re 42 (.string (ofInts (((x.down ++ [5, 0, 0, 1]) ++ bL a.bytes) ++ [hiB n, loB n]))) rfl (congrArg _ (ofInts_app _ [hiB n, loB n])) ?_
          refine zh_took (by rfl) ?_
          refine zh_take 23 (by kernel_rfl) rfl (by kernel_rfl) (by kernel_rfl) ?_ (by simp); (repeat (first | (refine sn ?_) | (refine stx ?_) | (refine sb ?_))); refine zh_took (by rfl) ?_
          refine zh_take 24 (by kernel_rfl) rfl (by kernel_rfl) (by kernel_rfl) ?_ (by simp); (repeat (first | (refine sn ?_) | (refine stx ?_) | (refine sb ?_))); refine zh_took (by rfl) ?_
          refine zh_one 25 rfl (by kernel_rfl) ?_
          refine st ?_
          refine zh_oned (by rfl) (by simp) ?_
          refine zh_end (by rfl) (by kernel_rfl) ?_
          repeat (first | (refine st ?_) | (refine stx ?_) | (refine sb ?_) | (intro _))
          refine z_ret1 tab_ok Try.func101 hb hk Try.results101 (.tmp rfl) (fun w hm => ?_)
          exact ⟨rfl, hm.weaken (fun _ h => h) (List.Sublist.cons _ (List.Sublist.cons _ (List.Sublist.cons _ (List.Sublist.refl _))))⟩
        · refine st ?_
          refine zh_oned (by rfl) (by simp) ?_
          refine zh_one 7 rfl (by kernel_rfl) ?_
          refine st ?_
          refine zh_oned (by rfl) (by simp) ?_
          refine zh_take 8 (by kernel_rfl) rfl (by kernel_rfl) (by kernel_rfl) ?_ (by simp)
          refine zx_cat rfl rfl rfl (by rw [ofInts_size, ofInts_size]; show x.down.length + 4 ≤ _; omega) rfl ?_
          refine zx_re 28 (.string (ofInts (x.down ++ [5, 0, 0, 1]))) rfl (congrArg _ (ofInts_app x.down [5, 0, 0, 1])) ?_
          refine zh_took (by rfl) ?_
          refine zh_take 12 (by kernel_rfl) rfl (by kernel_rfl) (by kernel_rfl) ?_ (by simp)
          refine zx_cat rfl rfl rfl (by rw [ofInts_size, List.length_append]; show x.down.length + 4 + _ ≤ _; omega) rfl ?_
          refine zx_re 32 (.string (ofInts ((x.down ++ [5, 0, 0, 1]) ++ bL a.bytes))) rfl (congrArg _ (by rw [← ofInts_app _ (bL a.bytes), ofInts_bL])) ?_
          refine zh_took (by rfl) ?_
          refine zh_take 22 (by kernel_rfl) rfl (by kernel_rfl) (by kernel_rfl) ?_ (by simp)
          refine zx_cat rfl rfl rfl (by rw [ofInts_size, ofInts_size, List.length_append, List.length_append, bL_length]; show x.down.length + 4 + _ + 2 ≤ _; omega) rfl ?_
          refine zx_re 42 (.string (ofInts (((x.down ++ [5, 0, 0, 1]) ++ bL a.bytes) ++ [hiB n, loB n]))) rfl (congrArg _ (ofInts_app _ [hiB n, loB n])) ?_
          refine zh_took (by rfl) ?_
          refine zh_take 23 (by kernel_rfl) rfl (by kernel_rfl) (by kernel_rfl) ?_ (by simp); (repeat (first | (refine sn ?_) | (refine stx ?_) | (refine sb ?_))); refine zh_took (by rfl) ?_
          refine zh_take 24 (by kernel_rfl) rfl (by kernel_rfl) (by kernel_rfl) ?_ (by simp); (repeat (first | (refine sn ?_) | (refine stx ?_) | (refine sb ?_))); refine zh_took (by rfl) ?_
          refine zh_one 25 rfl (by kernel_rfl) ?_
          refine st ?_
          refine zh_oned (by rfl) (by simp) ?_
          refine zh_end (by rfl) (by kernel_rfl) ?_
          repeat (first | (refine st ?_) | (refine stx ?_) | (refine sb ?_) | (intro _))
          refine z_ret1 tab_ok Try.func101 hb hk Try.results101 (.tmp rfl) (fun w hm => ?_)
          exact ⟨rfl, hm.weaken (fun _ h => h) (List.Sublist.cons _ (List.Sublist.cons _ (List.Sublist.cons _ (List.Sublist.refl _))))⟩
      · refine st ?_
        refine zh_oned (by rfl) (by simp) ?_
        refine zh_one 6 rfl (by kernel_rfl) ?_
        refine st ?_; intro ka
        refine zh_oned (by rfl) (by simp) ?_
        refine zh_one 7 rfl (by kernel_rfl) ?_
        refine st ?_
        refine zh_oned (by rfl) (by simp) ?_
        refine zh_take 8 (by kernel_rfl) rfl (by kernel_rfl) (by kernel_rfl) ?_ (by simp)
        refine zx_cat rfl rfl rfl (by rw [ofInts_size, ofInts_size]; show x.down.length + 4 ≤ _; omega) rfl ?_
        refine zx_re 28 (.string (ofInts (x.down ++ [5, 0, 0, 1]))) rfl (congrArg _ (ofInts_app x.down [5, 0, 0, 1])) ?_
        refine zh_took (by rfl) ?_
        refine zh_take 12 (by kernel_rfl) rfl (by kernel_rfl) (by kernel_rfl) ?_ (by simp)
        refine zx_cat rfl rfl rfl (by rw [ofInts_size, List.length_append]; show x.down.length + 4 + _ ≤ _; omega) rfl ?_
        refine zx_re 32 (.string (ofInts ((x.down ++ [5, 0, 0, 1]) ++ bL a.bytes))) rfl (congrArg _ (by rw [← ofInts_app _ (bL a.bytes), ofInts_bL])) ?_
        refine zh_took (by rfl) ?_
        refine zh_take 22 (by kernel_rfl) rfl (by kernel_rfl) (by kernel_rfl) ?_ (by simp)
        refine zx_cat rfl rfl rfl (by rw [ofInts_size, ofInts_size, List.length_append, List.length_append, bL_length]; show x.down.length + 4 + _ + 2 ≤ _; omega) rfl ?_
        refine zx_re 42 (.string (ofInts (((x.down ++ [5, 0, 0, 1]) ++ bL a.bytes) ++ [hiB n, loB n]))) rfl (congrArg _ (ofInts_app _ [hiB n, loB n])) ?_
        refine zh_took (by rfl) ?_
        refine zh_take 23 (by kernel_rfl) rfl (by kernel_rfl) (by kernel_rfl) ?_ (by simp); (repeat (first | (refine sn ?_) | (refine stx ?_) | (refine sb ?_))); refine zh_took (by rfl) ?_
        refine zh_take 24 (by kernel_rfl) rfl (by kernel_rfl) (by kernel_rfl) ?_ (by simp); (repeat (first | (refine sn ?_) | (refine stx ?_) | (refine sb ?_))); refine zh_took (by rfl) ?_
        refine zh_one 25 rfl (by kernel_rfl) ?_
        refine st ?_
        refine zh_oned (by rfl) (by simp) ?_
        refine zh_end (by rfl) (by kernel_rfl) ?_
        repeat (first | (refine st ?_) | (refine stx ?_) | (refine sb ?_) | (intro _))
        refine z_ret1 tab_ok Try.func101 hb hk Try.results101 (.tmp rfl) (fun w hm => ?_)
        exact ⟨rfl, hm.weaken (fun _ h => h) (List.Sublist.cons _ (List.Sublist.cons _ (List.Sublist.cons _ (List.Sublist.refl _))))⟩
    · refine st ?_; intro ka
      refine zh_oned (by rfl) (by simp) ?_
      refine zh_three 4 7 21 rfl rfl rfl (by kernel_rfl) ?_ ?_ ?_
      · refine st ?_
        refine zh_oned (by rfl) (by simp) ?_
        refine zh_two 7 21 rfl rfl (by kernel_rfl) ?_ ?_
        · refine st ?_
          refine zh_oned (by rfl) (by simp) ?_
          refine zh_take 8 (by kernel_rfl) rfl (by kernel_rfl) (by kernel_rfl) ?_ (by simp)
          refine zx_cat rfl rfl rfl (by rw [ofInts_size, ofInts_size]; show x.down.length + 4 ≤ _; omega) rfl ?_
          refine zx_re 28 (.string (ofInts (x.down ++ [5, 0, 0, 1]))) rfl (congrArg _ (ofInts_app x.down [5, 0, 0, 1])) ?_
          refine zh_took (by rfl) ?_
          refine zh_take 12 (by kernel_rfl) rfl (by kernel_rfl) (by kernel_rfl) ?_ (by simp)
          refine zx_cat rfl rfl rfl (by rw [ofInts_size, List.length_append]; show x.down.length + 4 + _ ≤ _; omega) rfl ?_
          refine zx_re 32 (.string (ofInts ((x.down ++ [5, 0, 0, 1]) ++ bL a.bytes))) rfl (congrArg _ (by rw [← ofInts_app _ (bL a.bytes), ofInts_bL])) ?_
          refine zh_took (by rfl) ?_
          refine zh_one 21 rfl (by kernel_rfl) ?_
          refine st ?_
          refine zh_oned (by rfl) (by simp) ?_
          refine zh_take 22 (by kernel_rfl) rfl (by kernel_rfl) (by kernel_rfl) ?_ (by simp)
          refine zx_cat rfl rfl rfl (by rw [ofInts_size, ofInts_size, List.length_append, List.length_append, bL_length]; show x.down.length + 4 + _ + 2 ≤ _; omega) rfl ?_
          refine zx_re 42 (.string (ofInts (((x.down ++ [5, 0, 0, 1]) ++ bL a.bytes) ++ [hiB n, loB n]))) rfl (congrArg _ (ofInts_app _ [hiB n, loB n])) ?_
          refine zh_took (by rfl) ?_
          refine zh_take 23 (by kernel_rfl) rfl (by kernel_rfl) (by kernel_rfl) ?_ (by simp); (repeat (first | (refine sn ?_) | (refine stx ?_) | (refine sb ?_))); refine zh_took (by rfl) ?_
          refine zh_take 24 (by kernel_rfl) rfl (by kernel_rfl) (by kernel_rfl) ?_ (by simp); (repeat (first | (refine sn ?_) | (refine stx ?_) | (refine sb ?_))); refine zh_took (by rfl) ?_
          refine zh_one 25 rfl (by kernel_rfl) ?_
          refine st ?_
          refine zh_oned (by rfl) (by simp) ?_
          refine zh_end (by rfl) (by kernel_rfl) ?_
          repeat (first | (refine st ?_) | (refine stx ?_) | (refine sb ?_) | (intro _))
          refine z_ret1 tab_ok Try.func101 hb hk Try.results101 (.tmp rfl) (fun w hm => ?_)
          exact ⟨rfl, hm.weaken (fun _ h => h) (List.Sublist.cons _ (List.Sublist.cons _ (List.Sublist.cons _ (List.Sublist.refl _))))⟩
        · refine st ?_
          refine zh_oned (by rfl) (by simp) ?_
          refine zh_one 7 rfl (by kernel_rfl) ?_
          refine st ?_
          refine zh_oned (by rfl) (by simp) ?_
          refine zh_take 8 (by kernel_rfl) rfl (by kernel_rfl) (by kernel_rfl) ?_ (by simp)
          refine zx_cat rfl rfl rfl (by rw [ofInts_size, ofInts_size]; show x.down.length + 4 ≤ _; omega) rfl ?_
          refine zx_re 28 (.string (ofInts (x.down ++ [5, 0, 0, 1]))) rfl (congrArg _ (ofInts_app x.down [5, 0, 0, 1])) ?_
          refine zh_took (by rfl) ?_
          refine zh_take 12 (by kernel_rfl) rfl (by kernel_rfl) (by kernel_rfl) ?_ (by simp)
          refine zx_cat rfl rfl rfl (by rw [ofInts_size, List.length_append]; show x.down.length + 4 + _ ≤ _; omega) rfl ?_
          refine zx_re 32 (.string (ofInts ((x.down ++ [5, 0, 0, 1]) ++ bL a.bytes))) rfl (congrArg _ (by rw [← ofInts_app _ (bL a.bytes), ofInts_bL])) ?_
          refine zh_took (by rfl) ?_
          refine zh_take 22 (by kernel_rfl) rfl (by kernel_rfl) (by kernel_rfl) ?_ (by simp)
          refine zx_cat rfl rfl rfl (by rw [ofInts_size, ofInts_size, List.length_append, List.length_append, bL_length]; show x.down.length + 4 + _ + 2 ≤ _; omega) rfl ?_
          refine zx_re 42 (.string (ofInts (((x.down ++ [5, 0, 0, 1]) ++ bL a.bytes) ++ [hiB n, loB n]))) rfl (congrArg _ (ofInts_app _ [hiB n, loB n])) ?_
          refine zh_took (by rfl) ?_
          refine zh_take 23 (by kernel_rfl) rfl (by kernel_rfl) (by kernel_rfl) ?_ (by simp); (repeat (first | (refine sn ?_) | (refine stx ?_) | (refine sb ?_))); refine zh_took (by rfl) ?_
          refine zh_take 24 (by kernel_rfl) rfl (by kernel_rfl) (by kernel_rfl) ?_ (by simp); (repeat (first | (refine sn ?_) | (refine stx ?_) | (refine sb ?_))); refine zh_took (by rfl) ?_
          refine zh_one 25 rfl (by kernel_rfl) ?_
          refine st ?_
          refine zh_oned (by rfl) (by simp) ?_
          refine zh_end (by rfl) (by kernel_rfl) ?_
          repeat (first | (refine st ?_) | (refine stx ?_) | (refine sb ?_) | (intro _))
          refine z_ret1 tab_ok Try.func101 hb hk Try.results101 (.tmp rfl) (fun w hm => ?_)
          exact ⟨rfl, hm.weaken (fun _ h => h) (List.Sublist.cons _ (List.Sublist.cons _ (List.Sublist.cons _ (List.Sublist.refl _))))⟩
      · refine st ?_
        refine zh_oned (by rfl) (by simp) ?_
        refine zh_two 4 21 rfl rfl (by kernel_rfl) ?_ ?_
        · refine st ?_
          refine zh_oned (by rfl) (by simp) ?_
          refine zh_take 8 (by kernel_rfl) rfl (by kernel_rfl) (by kernel_rfl) ?_ (by simp)
          refine zx_cat rfl rfl rfl (by rw [ofInts_size, ofInts_size]; show x.down.length + 4 ≤ _; omega) rfl ?_
          refine zx_re 28 (.string (ofInts (x.down ++ [5, 0, 0, 1]))) rfl (congrArg _ (ofInts_app x.down [5, 0, 0, 1])) ?_
          refine zh_took (by rfl) ?_
          refine zh_take 12 (by kernel_rfl) rfl (by kernel_rfl) (by kernel_rfl) ?_ (by simp)
          refine zx_cat rfl rfl rfl (by rw [ofInts_size, List.length_append]; show x.down.length + 4 + _ ≤ _; omega) rfl ?_
          refine zx_re 32 (.string (ofInts ((x.down ++ [5, 0, 0, 1]) ++ bL a.bytes))) rfl (congrArg _ (by rw [← ofInts_app _ (bL a.bytes), ofInts_bL])) ?_
          refine zh_took (by rfl) ?_
          refine zh_one 21 rfl (by kernel_rfl) ?_
          refine st ?_
          refine zh_oned (by rfl) (by simp) ?_
          refine zh_take 22 (by kernel_rfl) rfl (by kernel_rfl) (by kernel_rfl) ?_ (by simp)
          refine zx_cat rfl rfl rfl (by rw [ofInts_size, ofInts_size, List.length_append, List.length_append, bL_length]; show x.down.length + 4 + _ + 2 ≤ _; omega) rfl ?_
          refine zx_re 42 (.string (ofInts (((x.down ++ [5, 0, 0, 1]) ++ bL a.bytes) ++ [hiB n, loB n]))) rfl (congrArg _ (ofInts_app _ [hiB n, loB n])) ?_
          refine zh_took (by rfl) ?_
          refine zh_take 23 (by kernel_rfl) rfl (by kernel_rfl) (by kernel_rfl) ?_ (by simp); (repeat (first | (refine sn ?_) | (refine stx ?_) | (refine sb ?_))); refine zh_took (by rfl) ?_
          refine zh_take 24 (by kernel_rfl) rfl (by kernel_rfl) (by kernel_rfl) ?_ (by simp); (repeat (first | (refine sn ?_) | (refine stx ?_) | (refine sb ?_))); refine zh_took (by rfl) ?_
          refine zh_one 25 rfl (by kernel_rfl) ?_
          refine st ?_
          refine zh_oned (by rfl) (by simp) ?_
          refine zh_end (by rfl) (by kernel_rfl) ?_
          repeat (first | (refine st ?_) | (refine stx ?_) | (refine sb ?_) | (intro _))
          refine z_ret1 tab_ok Try.func101 hb hk Try.results101 (.tmp rfl) (fun w hm => ?_)
          exact ⟨rfl, hm.weaken (fun _ h => h) (List.Sublist.cons _ (List.Sublist.cons _ (List.Sublist.cons _ (List.Sublist.refl _))))⟩
        · refine st ?_
          refine zh_oned (by rfl) (by simp) ?_
          refine zh_one 4 rfl (by kernel_rfl) ?_
          refine st ?_
          refine zh_oned (by rfl) (by simp) ?_
          refine zh_take 8 (by kernel_rfl) rfl (by kernel_rfl) (by kernel_rfl) ?_ (by simp)
          refine zx_cat rfl rfl rfl (by rw [ofInts_size, ofInts_size]; show x.down.length + 4 ≤ _; omega) rfl ?_
          refine zx_re 28 (.string (ofInts (x.down ++ [5, 0, 0, 1]))) rfl (congrArg _ (ofInts_app x.down [5, 0, 0, 1])) ?_
          refine zh_took (by rfl) ?_
          refine zh_take 12 (by kernel_rfl) rfl (by kernel_rfl) (by kernel_rfl) ?_ (by simp)
          refine zx_cat rfl rfl rfl (by rw [ofInts_size, List.length_append]; show x.down.length + 4 + _ ≤ _; omega) rfl ?_
          refine zx_re 32 (.string (ofInts ((x.down ++ [5, 0, 0, 1]) ++ bL a.bytes))) rfl (congrArg _ (by rw [← ofInts_app _ (bL a.bytes), ofInts_bL])) ?_
          refine zh_took (by rfl) ?_
          refine zh_take 22 (by kernel_rfl) rfl (by kernel_rfl) (by kernel_rfl) ?_ (by simp)
          refine zx_cat rfl rfl rfl (by rw [ofInts_size, ofInts_size, List.length_append, List.length_append, bL_length]; show x.down.length + 4 + _ + 2 ≤ _; omega) rfl ?_
          refine zx_re 42 (.string (ofInts (((x.down ++ [5, 0, 0, 1]) ++ bL a.bytes) ++ [hiB n, loB n]))) rfl (congrArg _ (ofInts_app _ [hiB n, loB n])) ?_
          refine zh_took (by rfl) ?_
          refine zh_take 23 (by kernel_rfl) rfl (by kernel_rfl) (by kernel_rfl) ?_ (by simp); (repeat (first | (refine sn ?_) | (refine stx ?_) | (refine sb ?_))); refine zh_took (by rfl) ?_
          refine zh_take 24 (by kernel_rfl) rfl (by kernel_rfl) (by kernel_rfl) ?_ (by simp); (repeat (first | (refine sn ?_) | (refine stx ?_) | (refine sb ?_))); refine zh_took (by rfl) ?_
          refine zh_one 25 rfl (by kernel_rfl) ?_
          refine st ?_
          refine zh_oned (by rfl) (by simp) ?_
          refine zh_end (by rfl) (by kernel_rfl) ?_
          repeat (first | (refine st ?_) | (refine stx ?_) | (refine sb ?_) | (intro _))
          refine z_ret1 tab_ok Try.func101 hb hk Try.results101 (.tmp rfl) (fun w hm => ?_)
          exact ⟨rfl, hm.weaken (fun _ h => h) (List.Sublist.cons _ (List.Sublist.cons _ (List.Sublist.cons _ (List.Sublist.refl _))))⟩
      · refine st ?_
        refine zh_oned (by rfl) (by simp) ?_
        refine zh_two 4 7 rfl rfl (by kernel_rfl) ?_ ?_
        · refine st ?_
          refine zh_oned (by rfl) (by simp) ?_
          refine zh_one 7 rfl (by kernel_rfl) ?_
          refine st ?_
          refine zh_oned (by rfl) (by simp) ?_
          refine zh_take 8 (by kernel_rfl) rfl (by kernel_rfl) (by kernel_rfl) ?_ (by simp)
          refine zx_cat rfl rfl rfl (by rw [ofInts_size, ofInts_size]; show x.down.length + 4 ≤ _; omega) rfl ?_
          refine zx_re 28 (.string (ofInts (x.down ++ [5, 0, 0, 1]))) rfl (congrArg _ (ofInts_app x.down [5, 0, 0, 1])) ?_
          refine zh_took (by rfl) ?_
          refine zh_take 12 (by kernel_rfl) rfl (by kernel_rfl) (by kernel_rfl) ?_ (by simp)
          refine zx_cat rfl rfl rfl (by rw [ofInts_size, List.length_append]; show x.down.length + 4 + _ ≤ _; omega) rfl ?_
          refine zx_re 32 (.string (ofInts ((x.down ++ [5, 0, 0, 1]) ++ bL a.bytes))) rfl (congrArg _ (by rw [← ofInts_app _ (bL a.bytes), ofInts_bL])) ?_
          refine zh_took (by rfl) ?_
          refine zh_take 22 (by kernel_rfl) rfl (by kernel_rfl) (by kernel_rfl) ?_ (by simp)
          refine zx_cat rfl rfl rfl (by rw [ofInts_size, ofInts_size, List.length_append, List.length_append, bL_length]; show x.down.length + 4 + _ + 2 ≤ _; omega) rfl ?_
          refine zx_re 42 (.string (ofInts (((x.down ++ [5, 0, 0, 1]) ++ bL a.bytes) ++ [hiB n, loB n]))) rfl (congrArg _ (ofInts_app _ [hiB n, loB n])) ?_
          refine zh_took (by rfl) ?_
          refine zh_take 23 (by kernel_rfl) rfl (by kernel_rfl) (by kernel_rfl) ?_ (by simp); (repeat (first | (refine sn ?_) | (refine stx ?_) | (refine sb ?_))); refine zh_took (by rfl) ?_
          refine zh_take 24 (by kernel_rfl) rfl (by kernel_rfl) (by kernel_rfl) ?_ (by simp); (repeat (first | (refine sn ?_) | (refine stx ?_) | (refine sb ?_))); refine zh_took (by rfl) ?_
          refine zh_one 25 rfl (by kernel_rfl) ?_
          refine st ?_
          refine zh_oned (by rfl) (by simp) ?_
          refine zh_end (by rfl) (by kernel_rfl) ?_
          repeat (first | (refine st ?_) | (refine stx ?_) | (refine sb ?_) | (intro _))
          refine z_ret1 tab_ok Try.func101 hb hk Try.results101 (.tmp rfl) (fun w hm => ?_)
          exact ⟨rfl, hm.weaken (fun _ h => h) (List.Sublist.cons _ (List.Sublist.cons _ (List.Sublist.cons _ (List.Sublist.refl _))))⟩
        · refine st ?_
          refine zh_oned (by rfl) (by simp) ?_
          refine zh_one 4 rfl (by kernel_rfl) ?_
          refine st ?_
          refine zh_oned (by rfl) (by simp) ?_
          refine zh_take 8 (by kernel_rfl) rfl (by kernel_rfl) (by kernel_rfl) ?_ (by simp)
          refine zx_cat rfl rfl rfl (by rw [ofInts_size, ofInts_size]; show x.down.length + 4 ≤ _; omega) rfl ?_
          refine zx_re 28 (.string (ofInts (x.down ++ [5, 0, 0, 1]))) rfl (congrArg _ (ofInts_app x.down [5, 0, 0, 1])) ?_
          refine zh_took (by rfl) ?_
          refine zh_take 12 (by kernel_rfl) rfl (by kernel_rfl) (by kernel_rfl) ?_ (by simp)
          refine zx_cat rfl rfl rfl (by rw [ofInts_size, List.length_append]; show x.down.length + 4 + _ ≤ _; omega) rfl ?_
          refine zx_re 32 (.string (ofInts ((x.down ++ [5, 0, 0, 1]) ++ bL a.bytes))) rfl (congrArg _ (by rw [← ofInts_app _ (bL a.bytes), ofInts_bL])) ?_
          refine zh_took (by rfl) ?_
          refine zh_take 22 (by kernel_rfl) rfl (by kernel_rfl) (by kernel_rfl) ?_ (by simp)
          refine zx_cat rfl rfl rfl (by rw [ofInts_size, ofInts_size, List.length_append, List.length_append, bL_length]; show x.down.length + 4 + _ + 2 ≤ _; omega) rfl ?_
          refine zx_re 42 (.string (ofInts (((x.down ++ [5, 0, 0, 1]) ++ bL a.bytes) ++ [hiB n, loB n]))) rfl (congrArg _ (ofInts_app _ [hiB n, loB n])) ?_
          refine zh_took (by rfl) ?_
          refine zh_take 23 (by kernel_rfl) rfl (by kernel_rfl) (by kernel_rfl) ?_ (by simp); (repeat (first | (refine sn ?_) | (refine stx ?_) | (refine sb ?_))); refine zh_took (by rfl) ?_
          refine zh_take 24 (by kernel_rfl) rfl (by kernel_rfl) (by kernel_rfl) ?_ (by simp); (repeat (first | (refine sn ?_) | (refine stx ?_) | (refine sb ?_))); refine zh_took (by rfl) ?_
          refine zh_one 25 rfl (by kernel_rfl) ?_
          refine st ?_
          refine zh_oned (by rfl) (by simp) ?_
          refine zh_end (by rfl) (by kernel_rfl) ?_
          repeat (first | (refine st ?_) | (refine stx ?_) | (refine sb ?_) | (intro _))
          refine z_ret1 tab_ok Try.func101 hb hk Try.results101 (.tmp rfl) (fun w hm => ?_)
          exact ⟨rfl, hm.weaken (fun _ h => h) (List.Sublist.cons _ (List.Sublist.cons _ (List.Sublist.cons _ (List.Sublist.refl _))))⟩
    · refine st ?_
      refine zh_oned (by rfl) (by simp) ?_
      refine zh_two 4 6 rfl rfl (by kernel_rfl) ?_ ?_
      · refine st ?_
        refine zh_oned (by rfl) (by simp) ?_
        refine zh_one 6 rfl (by kernel_rfl) ?_
        refine st ?_; intro ka
        refine zh_oned (by rfl) (by simp) ?_
        refine zh_one 7 rfl (by kernel_rfl) ?_
        refine st ?_
        refine zh_oned (by rfl) (by simp) ?_
        refine zh_take 8 (by kernel_rfl) rfl (by kernel_rfl) (by kernel_rfl) ?_ (by simp)
        refine zx_cat rfl rfl rfl (by rw [ofInts_size, ofInts_size]; show x.down.length + 4 ≤ _; omega) rfl ?_
        refine zx_re 28 (.string (ofInts (x.down ++ [5, 0, 0, 1]))) rfl (congrArg _ (ofInts_app x.down [5, 0, 0, 1])) ?_
        refine zh_took (by rfl) ?_
        refine zh_take 12 (by kernel_rfl) rfl (by kernel_rfl) (by kernel_rfl) ?_ (by simp)
        refine zx_cat rfl rfl rfl (by rw [ofInts_size, List.length_append]; show x.down.length + 4 + _ ≤ _; omega) rfl ?_
        refine zx_re 32 (.string (ofInts ((x.down ++ [5, 0, 0, 1]) ++ bL a.bytes))) rfl (congrArg _ (by rw [← ofInts_app _ (bL a.bytes), ofInts_bL])) ?_
        refine zh_took (by rfl) ?_
        refine zh_take 22 (by kernel_rfl) rfl (by kernel_rfl) (by kernel_rfl) ?_ (by simp)
        refine zx_cat rfl rfl rfl (by rw [ofInts_size, ofInts_size, List.length_append, List.length_append, bL_length]; show x.down.length + 4 + _ + 2 ≤ _; omega) rfl ?_
        refine zx_re 42 (.string (ofInts (((x.down ++ [5, 0, 0, 1]) ++ bL a.bytes) ++ [hiB n, loB n]))) rfl (congrArg _ (ofInts_app _ [hiB n, loB n])) ?_
        refine zh_took (by rfl) ?_
        refine zh_take 23 (by kernel_rfl) rfl (by kernel_rfl) (by kernel_rfl) ?_ (by simp); (repeat (first | (refine sn ?_) | (refine stx ?_) | (refine sb ?_))); refine zh_took (by rfl) ?_
        refine zh_take 24 (by kernel_rfl) rfl (by kernel_rfl) (by kernel_rfl) ?_ (by simp); (repeat (first | (refine sn ?_) | (refine stx ?_) | (refine sb ?_))); refine zh_took (by rfl) ?_
        refine zh_one 25 rfl (by kernel_rfl) ?_
        refine st ?_
        refine zh_oned (by rfl) (by simp) ?_
        refine zh_end (by rfl) (by kernel_rfl) ?_
        repeat (first | (refine st ?_) | (refine stx ?_) | (refine sb ?_) | (intro _))
        refine z_ret1 tab_ok Try.func101 hb hk Try.results101 (.tmp rfl) (fun w hm => ?_)
        exact ⟨rfl, hm.weaken (fun _ h => h) (List.Sublist.cons _ (List.Sublist.cons _ (List.Sublist.cons _ (List.Sublist.refl _))))⟩
      · refine st ?_; intro ka
        refine zh_oned (by rfl) (by simp) ?_
        refine zh_two 4 7 rfl rfl (by kernel_rfl) ?_ ?_
        · refine st ?_
          refine zh_oned (by rfl) (by simp) ?_
          refine zh_one 7 rfl (by kernel_rfl) ?_
          refine st ?_
          refine zh_oned (by rfl) (by simp) ?_
          refine zh_take 8 (by kernel_rfl) rfl (by kernel_rfl) (by kernel_rfl) ?_ (by simp)
          refine zx_cat rfl rfl rfl (by rw [ofInts_size, ofInts_size]; show x.down.length + 4 ≤ _; omega) rfl ?_
          refine zx_re 28 (.string (ofInts (x.down ++ [5, 0, 0, 1]))) rfl (congrArg _ (ofInts_app x.down [5, 0, 0, 1])) ?_
          refine zh_took (by rfl) ?_
          refine zh_take 12 (by kernel_rfl) rfl (by kernel_rfl) (by kernel_rfl) ?_ (by simp)
          refine zx_cat rfl rfl rfl (by rw [ofInts_size, List.length_append]; show x.down.length + 4 + _ ≤ _; omega) rfl ?_
          refine zx_re 32 (.string (ofInts ((x.down ++ [5, 0, 0, 1]) ++ bL a.bytes))) rfl (congrArg _ (by rw [← ofInts_app _ (bL a.bytes), ofInts_bL])) ?_
          refine zh_took (by rfl) ?_
          refine zh_take 22 (by kernel_rfl) rfl (by kernel_rfl) (by kernel_rfl) ?_ (by simp)
          refine zx_cat rfl rfl rfl (by rw [ofInts_size, ofInts_size, List.length_append, List.length_append, bL_length]; show x.down.length + 4 + _ + 2 ≤ _; omega) rfl ?_
          refine zx_re 42 (.string (ofInts (((x.down ++ [5, 0, 0, 1]) ++ bL a.bytes) ++ [hiB n, loB n]))) rfl (congrArg _ (ofInts_app _ [hiB n, loB n])) ?_
          refine zh_took (by rfl) ?_
          refine zh_take 23 (by kernel_rfl) rfl (by kernel_rfl) (by kernel_rfl) ?_ (by simp); (repeat (first | (refine sn ?_) | (refine stx ?_) | (refine sb ?_))); refine zh_took (by rfl) ?_
          refine zh_take 24 (by kernel_rfl) rfl (by kernel_rfl) (by kernel_rfl) ?_ (by simp); (repeat (first | (refine sn ?_) | (refine stx ?_) | (refine sb ?_))); refine zh_took (by rfl) ?_
          refine zh_one 25 rfl (by kernel_rfl) ?_
          refine st ?_
          refine zh_oned (by rfl) (by simp) ?_
          refine zh_end (by rfl) (by kernel_rfl) ?_
          repeat (first | (refine st ?_) | (refine stx ?_) | (refine sb ?_) | (intro _))
          refine z_ret1 tab_ok Try.func101 hb hk Try.results101 (.tmp rfl) (fun w hm => ?_)
          exact ⟨rfl, hm.weaken (fun _ h => h) (List.Sublist.cons _ (List.Sublist.cons _ (List.Sublist.cons _ (List.Sublist.refl _))))⟩
        · refine st ?_
          refine zh_oned (by rfl) (by simp) ?_
          refine zh_one 4 rfl (by kernel_rfl) ?_
          refine st ?_
          refine zh_oned (by rfl) (by simp) ?_
          refine zh_take 8 (by kernel_rfl) rfl (by kernel_rfl) (by kernel_rfl) ?_ (by simp)
          refine zx_cat rfl rfl rfl (by rw [ofInts_size, ofInts_size]; show x.down.length + 4 ≤ _; omega) rfl ?_
          refine zx_re 28 (.string (ofInts (x.down ++ [5, 0, 0, 1]))) rfl (congrArg _ (ofInts_app x.down [5, 0, 0, 1])) ?_
          refine zh_took (by rfl) ?_
          refine zh_take 12 (by kernel_rfl) rfl (by kernel_rfl) (by kernel_rfl) ?_ (by simp)
          refine zx_cat rfl rfl rfl (by rw [ofInts_size, List.length_append]; show x.down.length + 4 + _ ≤ _; omega) rfl ?_
          refine zx_re 32 (.string (ofInts ((x.down ++ [5, 0, 0, 1]) ++ bL a.bytes))) rfl (congrArg _ (by rw [← ofInts_app _ (bL a.bytes), ofInts_bL])) ?_
          refine zh_took (by rfl) ?_
          refine zh_take 22 (by kernel_rfl) rfl (by kernel_rfl) (by kernel_rfl) ?_ (by simp)
          refine zx_cat rfl rfl rfl (by rw [ofInts_size, ofInts_size, List.length_append, List.length_append, bL_length]; show x.down.length + 4 + _ + 2 ≤ _; omega) rfl ?_
          refine zx_re 42 (.string (ofInts (((x.down ++ [5, 0, 0, 1]) ++ bL a.bytes) ++ [hiB n, loB n]))) rfl (congrArg _ (ofInts_app _ [hiB n, loB n])) ?_
          refine zh_took (by rfl) ?_
          refine zh_take 23 (by kernel_rfl) rfl (by kernel_rfl) (by kernel_rfl) ?_ (by simp); (repeat (first | (refine sn ?_) | (refine stx ?_) | (refine sb ?_))); refine zh_took (by rfl) ?_
          refine zh_take 24 (by kernel_rfl) rfl (by kernel_rfl) (by kernel_rfl) ?_ (by simp); (repeat (first | (refine sn ?_) | (refine stx ?_) | (refine sb ?_))); refine zh_took (by rfl) ?_
          refine zh_one 25 rfl (by kernel_rfl) ?_
          refine st ?_
          refine zh_oned (by rfl) (by simp) ?_
          refine zh_end (by rfl) (by kernel_rfl) ?_
          repeat (first | (refine st ?_) | (refine stx ?_) | (refine sb ?_) | (intro _))
          refine z_ret1 tab_ok Try.func101 hb hk Try.results101 (.tmp rfl) (fun w hm => ?_)
          exact ⟨rfl, hm.weaken (fun _ h => h) (List.Sublist.cons _ (List.Sublist.cons _ (List.Sublist.cons _ (List.Sublist.refl _))))⟩

theorem ConnectedR_any (b : Nat) (nv : Value) (x : Px) (a : Adr) (n e : Int) (hd : x.down.length ≤ 1000000) : RC 101 [fP b 0, epV a n, .int .i64 e] b nv x (pConnE x a n e).1 (.bool (pConnE x a n e).2) := by
  by_cases h3 : x.state = 3
  · by_cases e1 : e = 91
    · have hE : pConnE x a n e = (pFail 5 x, true) := by unfold pConnE; rw [if_neg (fun hh => hh h3), if_pos e1]
      rw [hE]
      intro w h
      refine calls_of_z Try.func101 rfl Try.ntmps101 rfl h ?_; intro cs b' hb hk
      repeat (first | (refine st ?_) | (refine stx ?_) | (refine sb ?_) | (intro _))
      rename_i k1
      ((try (refine sg ?_)); (refine zx_call0 rfl fnc118 rfl rfl (fun w hm => ValidR_any a w) ?_))
      repeat (first | (refine st ?_) | (refine stx ?_) | (refine sb ?_) | (intro _))
      refine zx_call (Y := Unit) (v := fun _ => .tuple #[]) (Φ := fun _ => True) (L' := fun _ => [(k1, Blk.c (a.cells ++ [Value.int .i64 n]) 65 0 0)] ++ pR b nv (pFail 5 x)) rfl fnc129 rfl rfl (fun w1 hm1 => RC.use (R := [(k1, Blk.c (a.cells ++ [Value.int .i64 n]) 65 0 0)]) (failsR_any b nv x 5 hd) hm1) (fun _ _ => ?_)
      repeat (first | (refine st ?_) | (refine stx ?_) | (refine sb ?_) | (intro _))
      refine z_ret1 tab_ok Try.func101 hb hk Try.results101 (.tmp rfl) (fun w hm => ?_)
      exact ⟨rfl, hm.weaken (fun _ h => h) (List.Sublist.cons _ (List.Sublist.refl _))⟩
    by_cases e2 : e = 93
    · have hE : pConnE x a n e = (pFail 3 x, true) := by unfold pConnE; rw [if_neg (fun hh => hh h3), if_neg e1, if_pos e2]
      rw [hE]
      intro w h
      refine calls_of_z Try.func101 rfl Try.ntmps101 rfl h ?_; intro cs b' hb hk
      repeat (first | (refine st ?_) | (refine stx ?_) | (refine sb ?_) | (intro _))
      rename_i k1
      ((try (refine sg ?_)); (refine zx_call0 rfl fnc118 rfl rfl (fun w hm => ValidR_any a w) ?_))
      repeat (first | (refine st ?_) | (refine stx ?_) | (refine sb ?_) | (intro _))
      refine zx_call (Y := Unit) (v := fun _ => .tuple #[]) (Φ := fun _ => True) (L' := fun _ => [(k1, Blk.c (a.cells ++ [Value.int .i64 n]) 65 0 0)] ++ pR b nv (pFail 3 x)) rfl fnc129 rfl rfl (fun w1 hm1 => RC.use (R := [(k1, Blk.c (a.cells ++ [Value.int .i64 n]) 65 0 0)]) (failsR_any b nv x 3 hd) hm1) (fun _ _ => ?_)
      repeat (first | (refine st ?_) | (refine stx ?_) | (refine sb ?_) | (intro _))
      refine z_ret1 tab_ok Try.func101 hb hk Try.results101 (.tmp rfl) (fun w hm => ?_)
      exact ⟨rfl, hm.weaken (fun _ h => h) (List.Sublist.cons _ (List.Sublist.refl _))⟩
    by_cases e3 : e = 92
    · have hE : pConnE x a n e = (pFail 4 x, true) := by unfold pConnE; rw [if_neg (fun hh => hh h3), if_neg e1, if_neg e2, if_pos e3]
      rw [hE]
      intro w h
      refine calls_of_z Try.func101 rfl Try.ntmps101 rfl h ?_; intro cs b' hb hk
      repeat (first | (refine st ?_) | (refine stx ?_) | (refine sb ?_) | (intro _))
      rename_i k1
      ((try (refine sg ?_)); (refine zx_call0 rfl fnc118 rfl rfl (fun w hm => ValidR_any a w) ?_))
      repeat (first | (refine st ?_) | (refine stx ?_) | (refine sb ?_) | (intro _))
      refine zx_call (Y := Unit) (v := fun _ => .tuple #[]) (Φ := fun _ => True) (L' := fun _ => [(k1, Blk.c (a.cells ++ [Value.int .i64 n]) 65 0 0)] ++ pR b nv (pFail 4 x)) rfl fnc129 rfl rfl (fun w1 hm1 => RC.use (R := [(k1, Blk.c (a.cells ++ [Value.int .i64 n]) 65 0 0)]) (failsR_any b nv x 4 hd) hm1) (fun _ _ => ?_)
      repeat (first | (refine st ?_) | (refine stx ?_) | (refine sb ?_) | (intro _))
      refine z_ret1 tab_ok Try.func101 hb hk Try.results101 (.tmp rfl) (fun w hm => ?_)
      exact ⟨rfl, hm.weaken (fun _ h => h) (List.Sublist.cons _ (List.Sublist.refl _))⟩
    by_cases e0 : e = 0
    · rcases Bool.eq_false_or_eq_true a.valid with hv | hv
      · have hE : pConnE x a n e = (pConn x a n, true) := by unfold pConnE; rw [if_neg (fun hh => hh h3), if_neg e1, if_neg e2, if_neg e3, if_neg (fun hh => hh.elim (fun hh => hh e0) (fun hh => by rw [hv] at hh; cases hh))]
        rw [hE, e0]
        rcases Bool.eq_false_or_eq_true a.v6 with h6 | h6
        · exact ConnectedR_ok6 b nv x a n hd h3 hv h6
        · exact ConnectedR_ok4 b nv x a n hd h3 hv h6
      · have hE : pConnE x a n e = (pFail 1 x, true) := by unfold pConnE; rw [if_neg (fun hh => hh h3), if_neg e1, if_neg e2, if_neg e3, if_pos (.inr hv)]
        rw [hE]
        intro w h
        refine calls_of_z Try.func101 rfl Try.ntmps101 rfl h ?_; intro cs b' hb hk
        repeat (first | (refine st ?_) | (refine stx ?_) | (refine sb ?_) | (intro _))
        rename_i k1
        ((try (refine sg ?_)); (refine zx_call0 rfl fnc118 rfl rfl (fun w hm => ValidR_any a w) ?_))
        repeat (first | (refine st ?_) | (refine stx ?_) | (refine sb ?_) | (intro _))
        refine zx_call (Y := Unit) (v := fun _ => .tuple #[]) (Φ := fun _ => True) (L' := fun _ => [(k1, Blk.c (a.cells ++ [Value.int .i64 n]) 65 0 0)] ++ pR b nv (pFail 1 x)) rfl fnc129 rfl rfl (fun w1 hm1 => RC.use (R := [(k1, Blk.c (a.cells ++ [Value.int .i64 n]) 65 0 0)]) (failsR_any b nv x 1 hd) hm1) (fun _ _ => ?_)
        repeat (first | (refine st ?_) | (refine stx ?_) | (refine sb ?_) | (intro _))
        refine z_ret1 tab_ok Try.func101 hb hk Try.results101 (.tmp rfl) (fun w hm => ?_)
        exact ⟨rfl, hm.weaken (fun _ h => h) (List.Sublist.cons _ (List.Sublist.refl _))⟩
    · have hE : pConnE x a n e = (pFail 1 x, true) := by unfold pConnE; rw [if_neg (fun hh => hh h3), if_neg e1, if_neg e2, if_neg e3, if_pos (.inl e0)]
      rw [hE]
      intro w h
      refine calls_of_z Try.func101 rfl Try.ntmps101 rfl h ?_; intro cs b' hb hk
      repeat (first | (refine st ?_) | (refine stx ?_) | (refine sb ?_) | (intro _))
      rename_i k1
      ((try (refine sg ?_)); (refine zx_call0 rfl fnc118 rfl rfl (fun w hm => ValidR_any a w) ?_))
      repeat (first | (refine st ?_) | (refine stx ?_) | (refine sb ?_) | (intro _))
      refine zx_call (Y := Unit) (v := fun _ => .tuple #[]) (Φ := fun _ => True) (L' := fun _ => [(k1, Blk.c (a.cells ++ [Value.int .i64 n]) 65 0 0)] ++ pR b nv (pFail 1 x)) rfl fnc129 rfl rfl (fun w1 hm1 => RC.use (R := [(k1, Blk.c (a.cells ++ [Value.int .i64 n]) 65 0 0)]) (failsR_any b nv x 1 hd) hm1) (fun _ _ => ?_)
      repeat (first | (refine st ?_) | (refine stx ?_) | (refine sb ?_) | (intro _))
      refine z_ret1 tab_ok Try.func101 hb hk Try.results101 (.tmp rfl) (fun w hm => ?_)
      exact ⟨rfl, hm.weaken (fun _ h => h) (List.Sublist.cons _ (List.Sublist.refl _))⟩
  · have hE : pConnE x a n e = (x, false) := by unfold pConnE; rw [if_pos h3]
    rw [hE]
    intro w h
    refine calls_of_z Try.func101 rfl Try.ntmps101 rfl h ?_; intro cs b' hb hk
    repeat (first | (refine st ?_) | (refine stx ?_) | (refine sb ?_) | (intro _))
    refine z_ret1 tab_ok Try.func101 hb hk Try.results101 (.tmp rfl) (fun w hm => ?_)
    exact ⟨rfl, hm.weaken (fun _ h => h) (List.Sublist.cons _ (List.Sublist.refl _))⟩
end Go.Proofs.Ytabcaiecoiejkaa
