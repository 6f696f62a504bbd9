/- Plain laws of a session between two calls; walk of the law's table of errors. Walks of layer 22's law: code, does. Walks of layer 22's law: does, call by call. -/
import Derived.Test.YtabcaiecoiejkaaQ5
import Derived.Test.YtabcaiecoiejkaaS14
import Derived.Test.YtabcaiecoiejkaaQ1
set_option maxRecDepth 100000
set_option linter.unusedSimpArgs false
set_option linter.unusedVariables false
set_option maxHeartbeats 4000000
namespace Go.Proofs.Ytabcaiecoiejkaa
open Go K

def rk4 (x : Px) : Nat := if x.state = 0 then 4 else if x.state = 1 then 3 else if x.state = 2 then 2 else if x.state = 3 then 1 else 0
/-- what holds of a session between two calls, but for its end -/
structure S0 (x : Px) : Prop where
  small : Small x.up
  ups : x.up.length ≤ 4096
  downs : x.down.length + 30 * rk4 x ≤ 4300
  state : x.state = 0 ∨ x.state = 1 ∨ x.state = 2 ∨ 3 ≤ x.state
def Live (x : Px) : Prop := ¬ (x.state = 4 ∧ x.cOver = true ∧ x.rOver = true ∧ x.up = [] ∧ x.down = [])
structure Sm (x : Px) (nv : Value) : Prop where
  s0 : S0 x
  live : Live x
  names : x.names = nv
theorem rk4_5 (x : Px) (h : x.state = 5) : rk4 x = 0 := by unfold rk4; rw [h]; rfl
theorem rk4_4 (x : Px) (h : x.state = 4) : rk4 x = 0 := by unfold rk4; rw [h]; rfl
theorem rk4_3 (x : Px) (h : x.state = 3) : rk4 x = 1 := by unfold rk4; rw [h]; rfl
theorem settle_live (x : Px) : Live (pSettle x) := by
  unfold pSettle
  split
  · intro hh; have := hh.1; cases this
  · assumption
theorem settle_same {x : Px} (h : Live x) : pSettle x = x := by unfold pSettle; rw [if_neg h]
theorem S0.settle {x : Px} (h : S0 x) : S0 (pSettle x) := by
  unfold pSettle
  split
  · refine ⟨h.small, h.ups, ?_, .inr (.inr (.inr (by show (3 : Int) ≤ 5; decide)))⟩
    have := h.downs
    rw [rk4_5 _ rfl]
    show x.down.length + _ ≤ _
    omega
  · exact h
theorem settle_names (x : Px) : (pSettle x).names = x.names := by unfold pSettle; split <;> rfl
theorem Sm.settle {x : Px} {nv : Value} (h : S0 x) (hn : x.names = nv) : Sm (pSettle x) nv := ⟨h.settle, settle_live x, (settle_names x).trans hn⟩
theorem live_of {x : Px} (h : x.state ≠ 4 ∨ x.cOver = false ∨ x.rOver = false ∨ x.down ≠ []) : Live x := by
  intro hh
  rcases h with h | h | h | h
  · exact h hh.1
  · rw [hh.2.1] at h; cases h
  · rw [hh.2.2.1] at h; cases h
  · exact h hh.2.2.2.2
theorem run_down4 (ns : List Nm) : ∀ (r : Nat) (x : Px), pRankN x ≤ r → (pRunN ns x).down.length + 30 * rk4 (pRunN ns x) ≤ x.down.length + 30 * rk4 x
  | 0, x, hr => by rw [pRunN_none (stepN_rank0 (x := x) (by omega))]; omega
  | r + 1, x, hr => by
    cases h : pStepN ns x with
    | none => rw [pRunN_none h]; omega
    | some y =>
      obtain ⟨f1, f2, f3⟩ := stepN_fol h
      have h1 := run_down4 ns r y (by omega)
      have h2 := f1.downs
      have h3 := step_st h
      have h4 := step_low h
      have h5 : rk4 y + 1 ≤ rk4 x := by
        unfold pRankN at f2
        unfold rk4
        rcases h4 with e | e | e <;> rcases h3 with e' | e' | e' | e' <;> rw [e, e'] at f2 <;> rw [e, e'] <;> first | decide | (simp at f2)
      rw [pRunN_some h]
      omega
theorem Sm.client {x : Px} {nv : Value} (h : Sm x nv) (ns : List Nm) (s : ByteArray) : Sm (pClientN ns x s).1 nv := by
  unfold pClientN
  by_cases hc : x.state = 5 ∨ x.cOver = true
  · rw [if_pos hc]; exact h
  · rw [if_neg hc]
    generalize hn : min s.size (4096 - x.up.length) = n
    have hu := h.s0.ups
    have hd := h.s0.downs
    have hl : (x.up ++ (bL s).take n).length ≤ 4096 := by rw [List.length_append, List.length_take, bL_length]; omega
    obtain ⟨a1, a2, a3, a4, a5, a6⟩ := run_fol ns 3 { x with up := x.up ++ (bL s).take n } (pRank3 _)
    have a7 := run_down4 ns 3 { x with up := x.up ++ (bL s).take n } (pRank3 _)
    have h7 : rk4 { x with up := x.up ++ (bL s).take n } = rk4 x := rfl
    rw [h7] at a7
    have hco : x.cOver = false := by
      cases hh : x.cOver
      · rfl
      · exact absurd (.inr hh) hc
    refine ⟨⟨a3 (h.s0.small.app ((bL_small s).take n)), Nat.le_trans a4 hl, Nat.le_trans a7 hd, a6 h.s0.state⟩, live_of (.inr (.inl (a1.cOver.trans hco))), a2.trans h.names⟩
theorem Sm.remote {x : Px} {nv : Value} (h : Sm x nv) (s : ByteArray) : Sm (pRemote x s).1 nv := by
  unfold pRemote
  split
  · rename_i hc
    generalize hn : min s.size (4096 - x.down.length) = n
    have hd := h.s0.downs
    have h7 : rk4 { x with down := x.down ++ (bL s).take n } = rk4 x := rfl
    rw [rk4_4 x hc.1] at hd
    refine ⟨⟨h.s0.small, h.s0.ups, ?_, h.s0.state⟩, live_of (.inr (.inr (.inl hc.2))), h.names⟩
    rw [h7, rk4_4 x hc.1]
    show (x.down ++ (bL s).take n).length + _ ≤ _
    rw [List.length_append, List.length_take, bL_length]
    omega
  · exact h
theorem Sm.toC {x : Px} {nv : Value} (h : Sm x nv) (k : Nat) : Sm (pSettle { x with down := x.down.drop k }) nv := by
  refine Sm.settle ⟨h.s0.small, h.s0.ups, ?_, h.s0.state⟩ h.names
  have hd := h.s0.downs
  show (x.down.drop k).length + 30 * rk4 x ≤ _
  rw [List.length_drop]; omega
theorem Sm.toR {x : Px} {nv : Value} (h : Sm x nv) (k : Nat) : Sm (pSettle { x with up := x.up.drop k }) nv := by
  refine Sm.settle ⟨h.s0.small.drop k, ?_, h.s0.downs, h.s0.state⟩ h.names
  have hd := h.s0.ups
  show (x.up.drop k).length ≤ _
  rw [List.length_drop]; omega
theorem Sm.fail {x : Px} {nv : Value} (h : Sm x nv) (h3 : x.state = 3) (code : Int) : Sm (pFail code x) nv := by
  refine ⟨⟨Small.nil, Nat.zero_le _, ?_, .inr (.inr (.inr (by show (3 : Int) ≤ 5; decide)))⟩, live_of (.inl (by show (5 : Int) ≠ 4; decide)), h.names⟩
  have hd := h.s0.downs
  rw [rk4_3 x h3] at hd
  rw [rk4_5 _ rfl]
  show (x.down ++ failL code).length + _ ≤ _
  rw [List.length_append]
  show x.down.length + 10 + _ ≤ _
  omega
theorem Sm.conn {x : Px} {nv : Value} (h : Sm x nv) (a : Adr) (n e : Int) : Sm (pConnE x a n e).1 nv := by
  unfold pConnE
  split
  · exact h
  · rename_i h3
    have h3 : x.state = 3 := by
      by_cases hh : x.state = 3
      · exact hh
      · exact absurd hh h3
    split
    · exact h.fail h3 5
    · split
      · exact h.fail h3 3
      · split
        · exact h.fail h3 4
        · split
          · exact h.fail h3 1
          · refine ⟨⟨h.s0.small, h.s0.ups, ?_, .inr (.inr (.inr (by show (3 : Int) ≤ 4; decide)))⟩, live_of (.inr (.inr (.inr ?_))), h.names⟩
            · have hd := h.s0.downs
              have hb := a.bytes_size
              rw [rk4_3 x h3] at hd
              rw [rk4_4 _ rfl]
              show (((x.down ++ [5, 0, 0, kindB a]) ++ bL a.bytes) ++ [hiB n, loB n]).length + _ ≤ _
              rw [List.length_append, List.length_append, List.length_append, bL_length]
              show x.down.length + 4 + _ + 2 + _ ≤ _
              omega
            · show ((x.down ++ [5, 0, 0, kindB a]) ++ bL a.bytes) ++ [hiB n, loB n] ≠ []
              simp
theorem Sm.endC {x : Px} {nv : Value} (h : Sm x nv) : Sm (pSettle (if x.state < 3 then pDone { x with cOver := true } else { x with cOver := true })) nv := by
  split
  · refine Sm.settle ⟨Small.nil, Nat.zero_le _, ?_, .inr (.inr (.inr (by show (3 : Int) ≤ 5; decide)))⟩ h.names
    have hd := h.s0.downs
    rw [rk4_5 _ rfl]
    show x.down.length + _ ≤ _
    omega
  · exact Sm.settle ⟨h.s0.small, h.s0.ups, h.s0.downs, h.s0.state⟩ h.names
theorem Sm.endR {x : Px} {nv : Value} (h : Sm x nv) : Sm (if x.state = 4 then pSettle { x with rOver := true } else x) nv := by
  split
  · exact Sm.settle ⟨h.s0.small, h.s0.ups, h.s0.downs, h.s0.state⟩ h.names
  · exact h
/-- the law's errors -/
def cd (x : Int) : Int := [0, 0, 0, 91, 93, 92, 90].getD (pk x 7).toNat 0
theorem code_at (r : Int) (x : Int) (h : pk x 7 = r) (v : Int) (hv : [0, 0, 0, 91, 93, 92, 90].getD r.toNat 0 = v) : cd x = v := by unfold cd; rw [h]; exact hv
end Go.Proofs.Ytabcaiecoiejkaa
namespace Go.Proofs.Ytabcaiecoiejkaa
open Go K

theorem mem_last (A P : Mm) : ∀ k ∈ P.map (·.1), k ∈ (A ++ P).map (·.1) := by
  intro k hk
  rw [List.map_append]
  exact List.mem_append_right _ hk
theorem ext_pieceG (l : List Int) (i j : Nat) : (ofInts l).extract i j = ofInts ((l.drop i).take (j - i)) := by
  apply ByteArray.ext
  unfold ofInts
  apply Array.ext'
  simp [ByteArray.data_extract, List.map_take, List.map_drop]

theorem ToClientG_any (b : Nat) (nv : Value) (x : Px) (n : Int) (hn : 0 ≤ n) (k : Nat) (hkn : (k : Int) = min n x.down.length) : RC 98 [fP b 0, .int .i64 n] b nv x (pSettle { x with down := x.down.drop k }) (.string (ofInts (x.down.take k))) := by
  intro w h
  have hkl : k ≤ x.down.length := by omega
  have hsz := ofInts_size x.down
  have hrest := (by rw [ext_pieceG, ofInts_size, List.take_of_length_le (by rw [List.length_drop]; exact Nat.le_refl _)] : (ofInts x.down).extract k (ofInts x.down).size = ofInts (x.down.drop k))
  have hpre := ext_pieceG x.down 0 k
  rw [List.drop_zero, Nat.sub_zero] at hpre
  refine calls_of_z Try.func98 rfl Try.ntmps98 rfl h ?_; intro cs b' hb hk
  repeat (first | (refine st ?_) | (refine stx ?_) | (refine sb ?_) | (intro _))
  refine zx_re 14 (.int .i64 (x.down.length : Int)) rfl (congrArg _ (congrArg Int.ofNat hsz)) ?_
  ((try (refine sg ?_)); (refine zx_call0 rfl fnc126 rfl rfl (fun w hm => lesser_any n (x.down.length : Int) w) ?_))
  repeat (first | (refine st ?_) | (refine stx ?_) | (refine sb ?_) | (intro _))
  ((try (refine sg ?_)); (refine zx_sliceN (0 ) ( k ) tab_ok rfl rfl rfl rfl rfl rfl rfl (by first | rfl | omega | (simp only [IntKind.wrap_i64]; omega)) (by first | rfl | omega | (simp only [IntKind.wrap_i64]; omega)) (by omega) (by omega) ?_))
  refine zx_re 21 (.string (ofInts (x.down.take k))) rfl (congrArg _ hpre) ?_
  repeat (first | (refine st ?_) | (refine stx ?_) | (refine sb ?_) | (intro _))
  ((try (refine sg ?_)); (refine zx_sliceN (k ) ( (ofInts x.down).size ) tab_ok rfl rfl rfl rfl rfl rfl rfl (by first | rfl | omega | (simp only [IntKind.wrap_i64]; omega)) (by first | rfl | omega | (simp only [IntKind.wrap_i64]; omega)) (by omega) (by omega) ?_))
  refine zx_re 28 (.string (ofInts (x.down.drop k))) rfl (congrArg _ hrest) ?_
  repeat (first | (refine st ?_) | (refine stx ?_) | (refine sb ?_) | (intro _))
  refine zx_call (Y := Unit) (v := fun _ => .tuple #[]) (Φ := fun _ => True) (L' := fun _ => [] ++ pR b nv (pSettle { x with down := x.down.drop k })) rfl fnc128 rfl rfl (fun w1 hm1 => RC.use (R := []) (endsR_same b nv { x with down := x.down.drop k }) hm1) (fun _ _ => ?_)
  repeat (first | (refine st ?_) | (refine stx ?_) | (refine sb ?_) | (intro _))
  refine z_ret1 tab_ok Try.func98 hb hk Try.results98 (.tmp rfl) (fun w hm => ?_)
  exact ⟨rfl, hm⟩
theorem code_any (x : Int) (hx : okI x) (w : World) : Calls Try.prog 100 [.int .i64 x].toArray w fun e w' => e = .returned (.int .i64 (cd x)) ∧ Mem w [] [] w' := by
  have hr := pk_range x 7 (by decide)
  obtain ⟨hx0, hx1⟩ := hx
  have hr7 : pk x 7 = 0 ∨ pk x 7 = 1 ∨ pk x 7 = 2 ∨ pk x 7 = 3 ∨ pk x 7 = 4 ∨ pk x 7 = 5 ∨ pk x 7 = 6 := by omega
  by_cases h : x < 0
  · have hp : pk x 7 = (-(x + 1)).tmod 7 := by unfold pk; rw [if_pos h]
    have hw : (IntKind.i64.wrap (0 - IntKind.i64.wrap (x + 1))).tmod 7 = pk x 7 := by rw [hp, wr64 (x := x + 1) (by omega) (by omega), wr64 (by omega) (by omega), Int.zero_sub]
    rcases hr7 with h7 | h7 | h7 | h7 | h7 | h7 | h7
    · have hc := code_at 0 x h7 0 rfl
      rw [hc]
      refine calls_of_z Try.func100 rfl Try.ntmps100 rfl (Mem.refl w) ?_; intro cs b hb hk
      repeat (first | (refine st ?_) | (refine stx ?_) | (intro _))
      refine z_re 6 (.bool (decide (x < 0))) rfl rfl ?_
      repeat (first | (refine st ?_) | (refine stx ?_) | (refine sb ?_) | (intro _))
      refine zx_re 14 (.int .i64 0) rfl (congrArg _ (by first | exact hw.trans h7 | (rw [← h7, ← hw]; rfl))) ?_
      refine zx_idxA (sz := 0 * 1) tab_ok rfl rfl rfl rfl rfl rfl (by omega) (by omega) (by simp) ?_
      repeat (first | (refine st ?_) | (refine stx ?_) | (refine sb ?_) | (intro _))
      refine z_ret1 tab_ok Try.func100 hb hk Try.results100 (.tmp rfl) (fun w hm => ?_)
      exact ⟨rfl, hm.bare⟩
    · have hc := code_at 1 x h7 0 rfl
      rw [hc]
      refine calls_of_z Try.func100 rfl Try.ntmps100 rfl (Mem.refl w) ?_; intro cs b hb hk
      repeat (first | (refine st ?_) | (refine stx ?_) | (intro _))
      refine z_re 6 (.bool (decide (x < 0))) rfl rfl ?_
      repeat (first | (refine st ?_) | (refine stx ?_) | (refine sb ?_) | (intro _))
      refine zx_re 14 (.int .i64 1) rfl (congrArg _ (by first | exact hw.trans h7 | (rw [← h7, ← hw]; rfl))) ?_
      refine zx_idxA (sz := 1 * 1) tab_ok rfl rfl rfl rfl rfl rfl (by omega) (by omega) (by simp) ?_
      repeat (first | (refine st ?_) | (refine stx ?_) | (refine sb ?_) | (intro _))
      refine z_ret1 tab_ok Try.func100 hb hk Try.results100 (.tmp rfl) (fun w hm => ?_)
      exact ⟨rfl, hm.bare⟩
    · have hc := code_at 2 x h7 0 rfl
      rw [hc]
      refine calls_of_z Try.func100 rfl Try.ntmps100 rfl (Mem.refl w) ?_; intro cs b hb hk
      repeat (first | (refine st ?_) | (refine stx ?_) | (intro _))
      refine z_re 6 (.bool (decide (x < 0))) rfl rfl ?_
      repeat (first | (refine st ?_) | (refine stx ?_) | (refine sb ?_) | (intro _))
      refine zx_re 14 (.int .i64 2) rfl (congrArg _ (by first | exact hw.trans h7 | (rw [← h7, ← hw]; rfl))) ?_
      refine zx_idxA (sz := 2 * 1) tab_ok rfl rfl rfl rfl rfl rfl (by omega) (by omega) (by simp) ?_
      repeat (first | (refine st ?_) | (refine stx ?_) | (refine sb ?_) | (intro _))
      refine z_ret1 tab_ok Try.func100 hb hk Try.results100 (.tmp rfl) (fun w hm => ?_)
      exact ⟨rfl, hm.bare⟩
    · have hc := code_at 3 x h7 91 rfl
      rw [hc]
      refine calls_of_z Try.func100 rfl Try.ntmps100 rfl (Mem.refl w) ?_; intro cs b hb hk
      repeat (first | (refine st ?_) | (refine stx ?_) | (intro _))
      refine z_re 6 (.bool (decide (x < 0))) rfl rfl ?_
      repeat (first | (refine st ?_) | (refine stx ?_) | (refine sb ?_) | (intro _))
      refine zx_re 14 (.int .i64 3) rfl (congrArg _ (by first | exact hw.trans h7 | (rw [← h7, ← hw]; rfl))) ?_
      refine zx_idxA (sz := 3 * 1) tab_ok rfl rfl rfl rfl rfl rfl (by omega) (by omega) (by simp) ?_
      repeat (first | (refine st ?_) | (refine stx ?_) | (refine sb ?_) | (intro _))
      refine z_ret1 tab_ok Try.func100 hb hk Try.results100 (.tmp rfl) (fun w hm => ?_)
      exact ⟨rfl, hm.bare⟩
    · have hc := code_at 4 x h7 93 rfl
      rw [hc]
      refine calls_of_z Try.func100 rfl Try.ntmps100 rfl (Mem.refl w) ?_; intro cs b hb hk
      repeat (first | (refine st ?_) | (refine stx ?_) | (intro _))
      refine z_re 6 (.bool (decide (x < 0))) rfl rfl ?_
      repeat (first | (refine st ?_) | (refine stx ?_) | (refine sb ?_) | (intro _))
      refine zx_re 14 (.int .i64 4) rfl (congrArg _ (by first | exact hw.trans h7 | (rw [← h7, ← hw]; rfl))) ?_
      refine zx_idxA (sz := 4 * 1) tab_ok rfl rfl rfl rfl rfl rfl (by omega) (by omega) (by simp) ?_
      repeat (first | (refine st ?_) | (refine stx ?_) | (refine sb ?_) | (intro _))
      refine z_ret1 tab_ok Try.func100 hb hk Try.results100 (.tmp rfl) (fun w hm => ?_)
      exact ⟨rfl, hm.bare⟩
    · have hc := code_at 5 x h7 92 rfl
      rw [hc]
      refine calls_of_z Try.func100 rfl Try.ntmps100 rfl (Mem.refl w) ?_; intro cs b hb hk
      repeat (first | (refine st ?_) | (refine stx ?_) | (intro _))
      refine z_re 6 (.bool (decide (x < 0))) rfl rfl ?_
      repeat (first | (refine st ?_) | (refine stx ?_) | (refine sb ?_) | (intro _))
      refine zx_re 14 (.int .i64 5) rfl (congrArg _ (by first | exact hw.trans h7 | (rw [← h7, ← hw]; rfl))) ?_
      refine zx_idxA (sz := 5 * 1) tab_ok rfl rfl rfl rfl rfl rfl (by omega) (by omega) (by simp) ?_
      repeat (first | (refine st ?_) | (refine stx ?_) | (refine sb ?_) | (intro _))
      refine z_ret1 tab_ok Try.func100 hb hk Try.results100 (.tmp rfl) (fun w hm => ?_)
      exact ⟨rfl, hm.bare⟩
    · have hc := code_at 6 x h7 90 rfl
      rw [hc]
      refine calls_of_z Try.func100 rfl Try.ntmps100 rfl (Mem.refl w) ?_; intro cs b hb hk
      repeat (first | (refine st ?_) | (refine stx ?_) | (intro _))
      refine z_re 6 (.bool (decide (x < 0))) rfl rfl ?_
      repeat (first | (refine st ?_) | (refine stx ?_) | (refine sb ?_) | (intro _))
      refine zx_re 14 (.int .i64 6) rfl (congrArg _ (by first | exact hw.trans h7 | (rw [← h7, ← hw]; rfl))) ?_
      refine zx_idxA (sz := 6 * 1) tab_ok rfl rfl rfl rfl rfl rfl (by omega) (by omega) (by simp) ?_
      repeat (first | (refine st ?_) | (refine stx ?_) | (refine sb ?_) | (intro _))
      refine z_ret1 tab_ok Try.func100 hb hk Try.results100 (.tmp rfl) (fun w hm => ?_)
      exact ⟨rfl, hm.bare⟩
  · have hp : pk x 7 = x.tmod 7 := by unfold pk; rw [if_neg h]
    have hw : x.tmod 7 = pk x 7 := hp.symm
    rcases hr7 with h7 | h7 | h7 | h7 | h7 | h7 | h7
    · have hc := code_at 0 x h7 0 rfl
      rw [hc]
      refine calls_of_z Try.func100 rfl Try.ntmps100 rfl (Mem.refl w) ?_; intro cs b hb hk
      repeat (first | (refine st ?_) | (refine stx ?_) | (intro _))
      refine z_re 6 (.bool (decide (x < 0))) rfl rfl ?_
      repeat (first | (refine st ?_) | (refine stx ?_) | (refine sb ?_) | (intro _))
      refine zx_re 14 (.int .i64 0) rfl (congrArg _ (by first | exact hw.trans h7 | (rw [← h7, ← hw]; rfl))) ?_
      refine zx_idxA (sz := 0 * 1) tab_ok rfl rfl rfl rfl rfl rfl (by omega) (by omega) (by simp) ?_
      repeat (first | (refine st ?_) | (refine stx ?_) | (refine sb ?_) | (intro _))
      refine z_ret1 tab_ok Try.func100 hb hk Try.results100 (.tmp rfl) (fun w hm => ?_)
      exact ⟨rfl, hm.bare⟩
    · have hc := code_at 1 x h7 0 rfl
      rw [hc]
      refine calls_of_z Try.func100 rfl Try.ntmps100 rfl (Mem.refl w) ?_; intro cs b hb hk
      repeat (first | (refine st ?_) | (refine stx ?_) | (intro _))
      refine z_re 6 (.bool (decide (x < 0))) rfl rfl ?_
      repeat (first | (refine st ?_) | (refine stx ?_) | (refine sb ?_) | (intro _))
      refine zx_re 14 (.int .i64 1) rfl (congrArg _ (by first | exact hw.trans h7 | (rw [← h7, ← hw]; rfl))) ?_
      refine zx_idxA (sz := 1 * 1) tab_ok rfl rfl rfl rfl rfl rfl (by omega) (by omega) (by simp) ?_
      repeat (first | (refine st ?_) | (refine stx ?_) | (refine sb ?_) | (intro _))
      refine z_ret1 tab_ok Try.func100 hb hk Try.results100 (.tmp rfl) (fun w hm => ?_)
      exact ⟨rfl, hm.bare⟩
    · have hc := code_at 2 x h7 0 rfl
      rw [hc]
      refine calls_of_z Try.func100 rfl Try.ntmps100 rfl (Mem.refl w) ?_; intro cs b hb hk
      repeat (first | (refine st ?_) | (refine stx ?_) | (intro _))
      refine z_re 6 (.bool (decide (x < 0))) rfl rfl ?_
      repeat (first | (refine st ?_) | (refine stx ?_) | (refine sb ?_) | (intro _))
      refine zx_re 14 (.int .i64 2) rfl (congrArg _ (by first | exact hw.trans h7 | (rw [← h7, ← hw]; rfl))) ?_
      refine zx_idxA (sz := 2 * 1) tab_ok rfl rfl rfl rfl rfl rfl (by omega) (by omega) (by simp) ?_
      repeat (first | (refine st ?_) | (refine stx ?_) | (refine sb ?_) | (intro _))
      refine z_ret1 tab_ok Try.func100 hb hk Try.results100 (.tmp rfl) (fun w hm => ?_)
      exact ⟨rfl, hm.bare⟩
    · have hc := code_at 3 x h7 91 rfl
      rw [hc]
      refine calls_of_z Try.func100 rfl Try.ntmps100 rfl (Mem.refl w) ?_; intro cs b hb hk
      repeat (first | (refine st ?_) | (refine stx ?_) | (intro _))
      refine z_re 6 (.bool (decide (x < 0))) rfl rfl ?_
      repeat (first | (refine st ?_) | (refine stx ?_) | (refine sb ?_) | (intro _))
      refine zx_re 14 (.int .i64 3) rfl (congrArg _ (by first | exact hw.trans h7 | (rw [← h7, ← hw]; rfl))) ?_
      refine zx_idxA (sz := 3 * 1) tab_ok rfl rfl rfl rfl rfl rfl (by omega) (by omega) (by simp) ?_
      repeat (first | (refine st ?_) | (refine stx ?_) | (refine sb ?_) | (intro _))
      refine z_ret1 tab_ok Try.func100 hb hk Try.results100 (.tmp rfl) (fun w hm => ?_)
      exact ⟨rfl, hm.bare⟩
    · have hc := code_at 4 x h7 93 rfl
      rw [hc]
      refine calls_of_z Try.func100 rfl Try.ntmps100 rfl (Mem.refl w) ?_; intro cs b hb hk
      repeat (first | (refine st ?_) | (refine stx ?_) | (intro _))
      refine z_re 6 (.bool (decide (x < 0))) rfl rfl ?_
      repeat (first | (refine st ?_) | (refine stx ?_) | (refine sb ?_) | (intro _))
      refine zx_re 14 (.int .i64 4) rfl (congrArg _ (by first | exact hw.trans h7 | (rw [← h7, ← hw]; rfl))) ?_
      refine zx_idxA (sz := 4 * 1) tab_ok rfl rfl rfl rfl rfl rfl (by omega) (by omega) (by simp) ?_
      repeat (first | (refine st ?_) | (refine stx ?_) | (refine sb ?_) | (intro _))
      refine z_ret1 tab_ok Try.func100 hb hk Try.results100 (.tmp rfl) (fun w hm => ?_)
      exact ⟨rfl, hm.bare⟩
    · have hc := code_at 5 x h7 92 rfl
      rw [hc]
      refine calls_of_z Try.func100 rfl Try.ntmps100 rfl (Mem.refl w) ?_; intro cs b hb hk
      repeat (first | (refine st ?_) | (refine stx ?_) | (intro _))
      refine z_re 6 (.bool (decide (x < 0))) rfl rfl ?_
      repeat (first | (refine st ?_) | (refine stx ?_) | (refine sb ?_) | (intro _))
      refine zx_re 14 (.int .i64 5) rfl (congrArg _ (by first | exact hw.trans h7 | (rw [← h7, ← hw]; rfl))) ?_
      refine zx_idxA (sz := 5 * 1) tab_ok rfl rfl rfl rfl rfl rfl (by omega) (by omega) (by simp) ?_
      repeat (first | (refine st ?_) | (refine stx ?_) | (refine sb ?_) | (intro _))
      refine z_ret1 tab_ok Try.func100 hb hk Try.results100 (.tmp rfl) (fun w hm => ?_)
      exact ⟨rfl, hm.bare⟩
    · have hc := code_at 6 x h7 90 rfl
      rw [hc]
      refine calls_of_z Try.func100 rfl Try.ntmps100 rfl (Mem.refl w) ?_; intro cs b hb hk
      repeat (first | (refine st ?_) | (refine stx ?_) | (intro _))
      refine z_re 6 (.bool (decide (x < 0))) rfl rfl ?_
      repeat (first | (refine st ?_) | (refine stx ?_) | (refine sb ?_) | (intro _))
      refine zx_re 14 (.int .i64 6) rfl (congrArg _ (by first | exact hw.trans h7 | (rw [← h7, ← hw]; rfl))) ?_
      refine zx_idxA (sz := 6 * 1) tab_ok rfl rfl rfl rfl rfl rfl (by omega) (by omega) (by simp) ?_
      repeat (first | (refine st ?_) | (refine stx ?_) | (refine sb ?_) | (intro _))
      refine z_ret1 tab_ok Try.func100 hb hk Try.results100 (.tmp rfl) (fun w hm => ?_)
      exact ⟨rfl, hm.bare⟩
theorem does_0 (p b : Nat) (na : Option Addr) (ncap : Nat) (ns : List Nm) (nv nvp : Value) (hnv : nv = .slice na ns.length ncap) (x : Px) (q : Qo) (hq : q.ok) (o : Own × Own) (hok : okX x o) (hx : Sm x nvp) (w : World) (h : Mem w ((pX p x o ++ pR b nv x).map (·.1)) (pX p x o ++ pR b nv x) w) (hnp : NmAt w ((pX p x o ++ pR b nv x).map (·.1)) x.names ns) (hnr : NmAt w ((pX p x o ++ pR b nv x).map (·.1)) nv ns) (hkd : q.kind.tmod 10 = 0) : Calls Try.prog 49 [fP p 0, fP b 0, .agg q.cells.toArray].toArray w fun e w' => ∃ g : Px × (Own × Own), okX g.1 g.2 ∧ Sm g.1 nvp ∧ e = .returned (.bool true) ∧ Mem w ((pX p x o ++ pR b nv x).map (·.1)) (pX p g.1 g.2 ++ pR b nv g.1) w' := by
  obtain ⟨hq1, hq2, hq3⟩ := hq
  have hu := hx.s0.ups
  have hd := hx.s0.downs
  have hgood : GoodN x := ⟨hx.s0.small, by omega, by omega, hx.s0.state⟩
  refine calls_of_z Try.func49 rfl Try.ntmps49 rfl h ?_; intro cs b' hb hk
  repeat (first | (refine st ?_) | (refine stx ?_) | (intro _))
  rename_i k5
  refine z_re 7 (.int .i64 0) rfl (congrArg _ hkd) ?_
  refine z_re 12 (.bool false) rfl (congrArg _ ((congrArg (fun r : Int => decide (r < 0)) hkd).trans rfl)) ?_
  repeat (first | (refine sn ?_) | (refine stx ?_) | (refine sb ?_) | (intro _))
  refine z_regionH [(k5, Blk.c [.int .i64 q.kind, .int .i64 q.n, .string q.data, .bool q.ad.v6, .int .u8 (q.ad.b 0), .int .u8 (q.ad.b 1), .int .u8 (q.ad.b 2), .int .u8 (q.ad.b 3), .int .u8 (q.ad.b 4), .int .u8 (q.ad.b 5), .int .u8 (q.ad.b 6), .int .u8 (q.ad.b 7), .int .u8 (q.ad.b 8), .int .u8 (q.ad.b 9), .int .u8 (q.ad.b 10), .int .u8 (q.ad.b 11), .int .u8 (q.ad.b 12), .int .u8 (q.ad.b 13), .int .u8 (q.ad.b 14), .int .u8 (q.ad.b 15), .int .i64 q.port] 86 0 0)] (by rfl) follows_mixed (List.sublist_append_left [_] _) (m := 10) rfl ?_
  refine zh_take 0 (by kernel_rfl) rfl (by kernel_rfl) (by kernel_rfl) ?_ (by simp); (repeat (first | (refine sn ?_) | (refine stx ?_) | (refine sb ?_))); refine zh_took (by rfl) ?_
  refine zh_take 1 (by kernel_rfl) rfl (by kernel_rfl) (by kernel_rfl) ?_ (by simp); (repeat (first | (refine sn ?_) | (refine stx ?_) | (refine sb ?_))); refine zh_took (by rfl) ?_
  refine zh_take 2 (by kernel_rfl) rfl (by kernel_rfl) (by kernel_rfl) ?_ (by simp); (repeat (first | (refine sn ?_) | (refine stx ?_) | (refine sb ?_))); refine zh_took (by rfl) ?_
  refine zh_take 4 (by kernel_rfl) rfl (by kernel_rfl) (by kernel_rfl) ?_ (by simp); (repeat (first | (refine sn ?_) | (refine stx ?_) | (refine sb ?_))); refine zh_took (by rfl) ?_
  refine zh_take 5 (by kernel_rfl) rfl (by kernel_rfl) (by kernel_rfl) ?_ (by simp); (repeat (first | (refine sn ?_) | (refine stx ?_) | (refine sb ?_))); refine zh_took (by rfl) ?_
  refine zh_take 6 (by kernel_rfl) rfl (by kernel_rfl) (by kernel_rfl) ?_ (by simp); (repeat (first | (refine sn ?_) | (refine stx ?_) | (refine sb ?_))); refine zh_took (by rfl) ?_
  refine zh_one 3 rfl (by kernel_rfl) ?_
  refine zx_call (Y := Own × Own) (v := fun _ => .int .i64 (pClientN ns x q.data).2) (Φ := fun y => okX ((pClientN ns x q.data).1) y) (L' := fun y => ([(k5, Blk.c [.int .i64 q.kind, .int .i64 q.n, .string q.data, .bool q.ad.v6, .int .u8 (q.ad.b 0), .int .u8 (q.ad.b 1), .int .u8 (q.ad.b 2), .int .u8 (q.ad.b 3), .int .u8 (q.ad.b 4), .int .u8 (q.ad.b 5), .int .u8 (q.ad.b 6), .int .u8 (q.ad.b 7), .int .u8 (q.ad.b 8), .int .u8 (q.ad.b 9), .int .u8 (q.ad.b 10), .int .u8 (q.ad.b 11), .int .u8 (q.ad.b 12), .int .u8 (q.ad.b 13), .int .u8 (q.ad.b 14), .int .u8 (q.ad.b 15), .int .i64 q.port] 86 0 0)] ++ pR b nv x) ++ pX p ((pClientN ns x q.data).1) y) rfl fnc38 rfl rfl (fun w1 hm1 => by
      have hm2 := hm1.perm (L' := ([(k5, Blk.c [.int .i64 q.kind, .int .i64 q.n, .string q.data, .bool q.ad.v6, .int .u8 (q.ad.b 0), .int .u8 (q.ad.b 1), .int .u8 (q.ad.b 2), .int .u8 (q.ad.b 3), .int .u8 (q.ad.b 4), .int .u8 (q.ad.b 5), .int .u8 (q.ad.b 6), .int .u8 (q.ad.b 7), .int .u8 (q.ad.b 8), .int .u8 (q.ad.b 9), .int .u8 (q.ad.b 10), .int .u8 (q.ad.b 11), .int .u8 (q.ad.b 12), .int .u8 (q.ad.b 13), .int .u8 (q.ad.b 14), .int .u8 (q.ad.b 15), .int .i64 q.port] 86 0 0)] ++ pR b nv x) ++ pX p x o) (perm_swap [(k5, Blk.c [.int .i64 q.kind, .int .i64 q.n, .string q.data, .bool q.ad.v6, .int .u8 (q.ad.b 0), .int .u8 (q.ad.b 1), .int .u8 (q.ad.b 2), .int .u8 (q.ad.b 3), .int .u8 (q.ad.b 4), .int .u8 (q.ad.b 5), .int .u8 (q.ad.b 6), .int .u8 (q.ad.b 7), .int .u8 (q.ad.b 8), .int .u8 (q.ad.b 9), .int .u8 (q.ad.b 10), .int .u8 (q.ad.b 11), .int .u8 (q.ad.b 12), .int .u8 (q.ad.b 13), .int .u8 (q.ad.b 14), .int .u8 (q.ad.b 15), .int .i64 q.port] 86 0 0)] (pR b nv x) (pX p x o))
      exact PN.use (FromClientN_any ns p x q.data hgood hq3) hok hm2 (hnp.step hm2 (mem_last _ _))) (fun y hy => ?_)
  refine zh_oned (by rfl) (by simp) ?_
  refine zh_one 7 rfl (by kernel_rfl) ?_
  refine zx_call (Y := Unit) (v := fun _ => .int .i64 (pClientN ns x q.data).2) (Φ := fun _ => True) (L' := fun _ => ([(k5, Blk.c [.int .i64 q.kind, .int .i64 q.n, .string q.data, .bool q.ad.v6, .int .u8 (q.ad.b 0), .int .u8 (q.ad.b 1), .int .u8 (q.ad.b 2), .int .u8 (q.ad.b 3), .int .u8 (q.ad.b 4), .int .u8 (q.ad.b 5), .int .u8 (q.ad.b 6), .int .u8 (q.ad.b 7), .int .u8 (q.ad.b 8), .int .u8 (q.ad.b 9), .int .u8 (q.ad.b 10), .int .u8 (q.ad.b 11), .int .u8 (q.ad.b 12), .int .u8 (q.ad.b 13), .int .u8 (q.ad.b 14), .int .u8 (q.ad.b 15), .int .i64 q.port] 86 0 0)] ++ pX p ((pClientN ns x q.data).1) y) ++ pR b nv ((pClientN ns x q.data).1)) rfl fnc96 rfl rfl (fun w1 hm1 => by
      have hm2 := hm1.perm (L' := ([(k5, Blk.c [.int .i64 q.kind, .int .i64 q.n, .string q.data, .bool q.ad.v6, .int .u8 (q.ad.b 0), .int .u8 (q.ad.b 1), .int .u8 (q.ad.b 2), .int .u8 (q.ad.b 3), .int .u8 (q.ad.b 4), .int .u8 (q.ad.b 5), .int .u8 (q.ad.b 6), .int .u8 (q.ad.b 7), .int .u8 (q.ad.b 8), .int .u8 (q.ad.b 9), .int .u8 (q.ad.b 10), .int .u8 (q.ad.b 11), .int .u8 (q.ad.b 12), .int .u8 (q.ad.b 13), .int .u8 (q.ad.b 14), .int .u8 (q.ad.b 15), .int .i64 q.port] 86 0 0)] ++ pX p ((pClientN ns x q.data).1) y) ++ pR b nv x) (perm_swap [(k5, Blk.c [.int .i64 q.kind, .int .i64 q.n, .string q.data, .bool q.ad.v6, .int .u8 (q.ad.b 0), .int .u8 (q.ad.b 1), .int .u8 (q.ad.b 2), .int .u8 (q.ad.b 3), .int .u8 (q.ad.b 4), .int .u8 (q.ad.b 5), .int .u8 (q.ad.b 6), .int .u8 (q.ad.b 7), .int .u8 (q.ad.b 8), .int .u8 (q.ad.b 9), .int .u8 (q.ad.b 10), .int .u8 (q.ad.b 11), .int .u8 (q.ad.b 12), .int .u8 (q.ad.b 13), .int .u8 (q.ad.b 14), .int .u8 (q.ad.b 15), .int .i64 q.port] 86 0 0)] (pX p ((pClientN ns x q.data).1) y) (pR b nv x))
      exact RCN.use (FromClientR_any b na ncap ns nv hnv x q.data hq3 hx.s0.small hx.s0.ups (by omega) hx.s0.state) hm2 (hnr.step hm2 (mem_last _ (pR b nv x)))) (fun _ _ => ?_)
  refine zh_oned (by rfl) (by simp) ?_
  refine zh_take 8 (by kernel_rfl) rfl (by kernel_rfl) (by kernel_rfl) ?_ (by simp); (repeat (first | (refine sn ?_) | (refine stx ?_) | (refine sb ?_))); refine zh_took (by rfl) ?_
  refine zh_take 9 (by kernel_rfl) rfl (by kernel_rfl) (by kernel_rfl) ?_ (by simp); (repeat (first | (refine sn ?_) | (refine stx ?_) | (refine sb ?_))); refine zh_took (by rfl) ?_
  refine zh_end (by rfl) (by kernel_rfl) ?_
  repeat (first | (refine st ?_) | (refine stx ?_) | (refine sb ?_) | (intro _))
  refine z_ret1 tab_ok Try.func49 hb hk Try.results49 (.tmp rfl) (fun w hm => ?_)
  exact ⟨(((pClientN ns x q.data).1), y), hy, hx.client ns q.data, by first | rfl | simp, hm.weaken (fun _ h => h) (List.Sublist.cons _ (List.Sublist.refl _))⟩
theorem does_1 (p b : Nat) (na : Option Addr) (ncap : Nat) (ns : List Nm) (nv nvp : Value) (hnv : nv = .slice na ns.length ncap) (x : Px) (q : Qo) (hq : q.ok) (o : Own × Own) (hok : okX x o) (hx : Sm x nvp) (w : World) (h : Mem w ((pX p x o ++ pR b nv x).map (·.1)) (pX p x o ++ pR b nv x) w) (hnp : NmAt w ((pX p x o ++ pR b nv x).map (·.1)) x.names ns) (hnr : NmAt w ((pX p x o ++ pR b nv x).map (·.1)) nv ns) (hkd : q.kind.tmod 10 = 1) : Calls Try.prog 49 [fP p 0, fP b 0, .agg q.cells.toArray].toArray w fun e w' => ∃ g : Px × (Own × Own), okX g.1 g.2 ∧ Sm g.1 nvp ∧ e = .returned (.bool true) ∧ Mem w ((pX p x o ++ pR b nv x).map (·.1)) (pX p g.1 g.2 ++ pR b nv g.1) w' := by
  obtain ⟨hq1, hq2, hq3⟩ := hq
  have hu := hx.s0.ups
  have hd := hx.s0.downs
  have hgood : GoodN x := ⟨hx.s0.small, by omega, by omega, hx.s0.state⟩
  refine calls_of_z Try.func49 rfl Try.ntmps49 rfl h ?_; intro cs b' hb hk
  repeat (first | (refine st ?_) | (refine stx ?_) | (intro _))
  rename_i k5
  refine z_re 7 (.int .i64 1) rfl (congrArg _ hkd) ?_
  refine z_re 12 (.bool false) rfl (congrArg _ ((congrArg (fun r : Int => decide (r < 0)) hkd).trans rfl)) ?_
  repeat (first | (refine sn ?_) | (refine stx ?_) | (refine sb ?_) | (intro _))
  refine z_regionH [(k5, Blk.c [.int .i64 q.kind, .int .i64 q.n, .string q.data, .bool q.ad.v6, .int .u8 (q.ad.b 0), .int .u8 (q.ad.b 1), .int .u8 (q.ad.b 2), .int .u8 (q.ad.b 3), .int .u8 (q.ad.b 4), .int .u8 (q.ad.b 5), .int .u8 (q.ad.b 6), .int .u8 (q.ad.b 7), .int .u8 (q.ad.b 8), .int .u8 (q.ad.b 9), .int .u8 (q.ad.b 10), .int .u8 (q.ad.b 11), .int .u8 (q.ad.b 12), .int .u8 (q.ad.b 13), .int .u8 (q.ad.b 14), .int .u8 (q.ad.b 15), .int .i64 q.port] 86 0 0)] (by rfl) follows_mixed (List.sublist_append_left [_] _) (m := 10) rfl ?_
  refine zh_take 0 (by kernel_rfl) rfl (by kernel_rfl) (by kernel_rfl) ?_ (by simp); (repeat (first | (refine sn ?_) | (refine stx ?_) | (refine sb ?_))); refine zh_took (by rfl) ?_
  refine zh_take 1 (by kernel_rfl) rfl (by kernel_rfl) (by kernel_rfl) ?_ (by simp); (repeat (first | (refine sn ?_) | (refine stx ?_) | (refine sb ?_))); refine zh_took (by rfl) ?_
  refine zh_take 2 (by kernel_rfl) rfl (by kernel_rfl) (by kernel_rfl) ?_ (by simp); (repeat (first | (refine sn ?_) | (refine stx ?_) | (refine sb ?_))); refine zh_took (by rfl) ?_
  refine zh_take 4 (by kernel_rfl) rfl (by kernel_rfl) (by kernel_rfl) ?_ (by simp); (repeat (first | (refine sn ?_) | (refine stx ?_) | (refine sb ?_))); refine zh_took (by rfl) ?_
  refine zh_take 5 (by kernel_rfl) rfl (by kernel_rfl) (by kernel_rfl) ?_ (by simp); (repeat (first | (refine sn ?_) | (refine stx ?_) | (refine sb ?_))); refine zh_took (by rfl) ?_
  refine zh_take 6 (by kernel_rfl) rfl (by kernel_rfl) (by kernel_rfl) ?_ (by simp); (repeat (first | (refine sn ?_) | (refine stx ?_) | (refine sb ?_))); refine zh_took (by rfl) ?_
  refine zh_one 3 rfl (by kernel_rfl) ?_
  refine zx_call (Y := Own × Own) (v := fun _ => .int .i64 (pClientN ns x q.data).2) (Φ := fun y => okX ((pClientN ns x q.data).1) y) (L' := fun y => ([(k5, Blk.c [.int .i64 q.kind, .int .i64 q.n, .string q.data, .bool q.ad.v6, .int .u8 (q.ad.b 0), .int .u8 (q.ad.b 1), .int .u8 (q.ad.b 2), .int .u8 (q.ad.b 3), .int .u8 (q.ad.b 4), .int .u8 (q.ad.b 5), .int .u8 (q.ad.b 6), .int .u8 (q.ad.b 7), .int .u8 (q.ad.b 8), .int .u8 (q.ad.b 9), .int .u8 (q.ad.b 10), .int .u8 (q.ad.b 11), .int .u8 (q.ad.b 12), .int .u8 (q.ad.b 13), .int .u8 (q.ad.b 14), .int .u8 (q.ad.b 15), .int .i64 q.port] 86 0 0)] ++ pR b nv x) ++ pX p ((pClientN ns x q.data).1) y) rfl fnc38 rfl rfl (fun w1 hm1 => by
      have hm2 := hm1.perm (L' := ([(k5, Blk.c [.int .i64 q.kind, .int .i64 q.n, .string q.data, .bool q.ad.v6, .int .u8 (q.ad.b 0), .int .u8 (q.ad.b 1), .int .u8 (q.ad.b 2), .int .u8 (q.ad.b 3), .int .u8 (q.ad.b 4), .int .u8 (q.ad.b 5), .int .u8 (q.ad.b 6), .int .u8 (q.ad.b 7), .int .u8 (q.ad.b 8), .int .u8 (q.ad.b 9), .int .u8 (q.ad.b 10), .int .u8 (q.ad.b 11), .int .u8 (q.ad.b 12), .int .u8 (q.ad.b 13), .int .u8 (q.ad.b 14), .int .u8 (q.ad.b 15), .int .i64 q.port] 86 0 0)] ++ pR b nv x) ++ pX p x o) (perm_swap [(k5, Blk.c [.int .i64 q.kind, .int .i64 q.n, .string q.data, .bool q.ad.v6, .int .u8 (q.ad.b 0), .int .u8 (q.ad.b 1), .int .u8 (q.ad.b 2), .int .u8 (q.ad.b 3), .int .u8 (q.ad.b 4), .int .u8 (q.ad.b 5), .int .u8 (q.ad.b 6), .int .u8 (q.ad.b 7), .int .u8 (q.ad.b 8), .int .u8 (q.ad.b 9), .int .u8 (q.ad.b 10), .int .u8 (q.ad.b 11), .int .u8 (q.ad.b 12), .int .u8 (q.ad.b 13), .int .u8 (q.ad.b 14), .int .u8 (q.ad.b 15), .int .i64 q.port] 86 0 0)] (pR b nv x) (pX p x o))
      exact PN.use (FromClientN_any ns p x q.data hgood hq3) hok hm2 (hnp.step hm2 (mem_last _ _))) (fun y hy => ?_)
  refine zh_oned (by rfl) (by simp) ?_
  refine zh_one 7 rfl (by kernel_rfl) ?_
  refine zx_call (Y := Unit) (v := fun _ => .int .i64 (pClientN ns x q.data).2) (Φ := fun _ => True) (L' := fun _ => ([(k5, Blk.c [.int .i64 q.kind, .int .i64 q.n, .string q.data, .bool q.ad.v6, .int .u8 (q.ad.b 0), .int .u8 (q.ad.b 1), .int .u8 (q.ad.b 2), .int .u8 (q.ad.b 3), .int .u8 (q.ad.b 4), .int .u8 (q.ad.b 5), .int .u8 (q.ad.b 6), .int .u8 (q.ad.b 7), .int .u8 (q.ad.b 8), .int .u8 (q.ad.b 9), .int .u8 (q.ad.b 10), .int .u8 (q.ad.b 11), .int .u8 (q.ad.b 12), .int .u8 (q.ad.b 13), .int .u8 (q.ad.b 14), .int .u8 (q.ad.b 15), .int .i64 q.port] 86 0 0)] ++ pX p ((pClientN ns x q.data).1) y) ++ pR b nv ((pClientN ns x q.data).1)) rfl fnc96 rfl rfl (fun w1 hm1 => by
      have hm2 := hm1.perm (L' := ([(k5, Blk.c [.int .i64 q.kind, .int .i64 q.n, .string q.data, .bool q.ad.v6, .int .u8 (q.ad.b 0), .int .u8 (q.ad.b 1), .int .u8 (q.ad.b 2), .int .u8 (q.ad.b 3), .int .u8 (q.ad.b 4), .int .u8 (q.ad.b 5), .int .u8 (q.ad.b 6), .int .u8 (q.ad.b 7), .int .u8 (q.ad.b 8), .int .u8 (q.ad.b 9), .int .u8 (q.ad.b 10), .int .u8 (q.ad.b 11), .int .u8 (q.ad.b 12), .int .u8 (q.ad.b 13), .int .u8 (q.ad.b 14), .int .u8 (q.ad.b 15), .int .i64 q.port] 86 0 0)] ++ pX p ((pClientN ns x q.data).1) y) ++ pR b nv x) (perm_swap [(k5, Blk.c [.int .i64 q.kind, .int .i64 q.n, .string q.data, .bool q.ad.v6, .int .u8 (q.ad.b 0), .int .u8 (q.ad.b 1), .int .u8 (q.ad.b 2), .int .u8 (q.ad.b 3), .int .u8 (q.ad.b 4), .int .u8 (q.ad.b 5), .int .u8 (q.ad.b 6), .int .u8 (q.ad.b 7), .int .u8 (q.ad.b 8), .int .u8 (q.ad.b 9), .int .u8 (q.ad.b 10), .int .u8 (q.ad.b 11), .int .u8 (q.ad.b 12), .int .u8 (q.ad.b 13), .int .u8 (q.ad.b 14), .int .u8 (q.ad.b 15), .int .i64 q.port] 86 0 0)] (pX p ((pClientN ns x q.data).1) y) (pR b nv x))
      exact RCN.use (FromClientR_any b na ncap ns nv hnv x q.data hq3 hx.s0.small hx.s0.ups (by omega) hx.s0.state) hm2 (hnr.step hm2 (mem_last _ (pR b nv x)))) (fun _ _ => ?_)
  refine zh_oned (by rfl) (by simp) ?_
  refine zh_take 8 (by kernel_rfl) rfl (by kernel_rfl) (by kernel_rfl) ?_ (by simp); (repeat (first | (refine sn ?_) | (refine stx ?_) | (refine sb ?_))); refine zh_took (by rfl) ?_
  refine zh_take 9 (by kernel_rfl) rfl (by kernel_rfl) (by kernel_rfl) ?_ (by simp); (repeat (first | (refine sn ?_) | (refine stx ?_) | (refine sb ?_))); refine zh_took (by rfl) ?_
  refine zh_end (by rfl) (by kernel_rfl) ?_
  repeat (first | (refine st ?_) | (refine stx ?_) | (refine sb ?_) | (intro _))
  refine z_ret1 tab_ok Try.func49 hb hk Try.results49 (.tmp rfl) (fun w hm => ?_)
  exact ⟨(((pClientN ns x q.data).1), y), hy, hx.client ns q.data, by first | rfl | simp, hm.weaken (fun _ h => h) (List.Sublist.cons _ (List.Sublist.refl _))⟩
theorem does_2 (p b : Nat) (na : Option Addr) (ncap : Nat) (ns : List Nm) (nv nvp : Value) (hnv : nv = .slice na ns.length ncap) (x : Px) (q : Qo) (hq : q.ok) (o : Own × Own) (hok : okX x o) (hx : Sm x nvp) (w : World) (h : Mem w ((pX p x o ++ pR b nv x).map (·.1)) (pX p x o ++ pR b nv x) w) (hnp : NmAt w ((pX p x o ++ pR b nv x).map (·.1)) x.names ns) (hnr : NmAt w ((pX p x o ++ pR b nv x).map (·.1)) nv ns) (hkd : q.kind.tmod 10 = 2) : Calls Try.prog 49 [fP p 0, fP b 0, .agg q.cells.toArray].toArray w fun e w' => ∃ g : Px × (Own × Own), okX g.1 g.2 ∧ Sm g.1 nvp ∧ e = .returned (.bool true) ∧ Mem w ((pX p x o ++ pR b nv x).map (·.1)) (pX p g.1 g.2 ++ pR b nv g.1) w' := by
  obtain ⟨hq1, hq2, hq3⟩ := hq
  have hu := hx.s0.ups
  have hd := hx.s0.downs
  have hgood : GoodN x := ⟨hx.s0.small, by omega, by omega, hx.s0.state⟩
  refine calls_of_z Try.func49 rfl Try.ntmps49 rfl h ?_; intro cs b' hb hk
  repeat (first | (refine st ?_) | (refine stx ?_) | (intro _))
  rename_i k5
  refine z_re 7 (.int .i64 2) rfl (congrArg _ hkd) ?_
  refine z_re 12 (.bool false) rfl (congrArg _ ((congrArg (fun r : Int => decide (r < 0)) hkd).trans rfl)) ?_
  repeat (first | (refine sn ?_) | (refine stx ?_) | (refine sb ?_) | (intro _))
  refine z_regionH [(k5, Blk.c [.int .i64 q.kind, .int .i64 q.n, .string q.data, .bool q.ad.v6, .int .u8 (q.ad.b 0), .int .u8 (q.ad.b 1), .int .u8 (q.ad.b 2), .int .u8 (q.ad.b 3), .int .u8 (q.ad.b 4), .int .u8 (q.ad.b 5), .int .u8 (q.ad.b 6), .int .u8 (q.ad.b 7), .int .u8 (q.ad.b 8), .int .u8 (q.ad.b 9), .int .u8 (q.ad.b 10), .int .u8 (q.ad.b 11), .int .u8 (q.ad.b 12), .int .u8 (q.ad.b 13), .int .u8 (q.ad.b 14), .int .u8 (q.ad.b 15), .int .i64 q.port] 86 0 0)] (by rfl) follows_mixed (List.sublist_append_left [_] _) (m := 10) rfl ?_
  refine zh_take 0 (by kernel_rfl) rfl (by kernel_rfl) (by kernel_rfl) ?_ (by simp); (repeat (first | (refine sn ?_) | (refine stx ?_) | (refine sb ?_))); refine zh_took (by rfl) ?_
  refine zh_take 1 (by kernel_rfl) rfl (by kernel_rfl) (by kernel_rfl) ?_ (by simp); (repeat (first | (refine sn ?_) | (refine stx ?_) | (refine sb ?_))); refine zh_took (by rfl) ?_
  refine zh_take 2 (by kernel_rfl) rfl (by kernel_rfl) (by kernel_rfl) ?_ (by simp); (repeat (first | (refine sn ?_) | (refine stx ?_) | (refine sb ?_))); refine zh_took (by rfl) ?_
  refine zh_take 4 (by kernel_rfl) rfl (by kernel_rfl) (by kernel_rfl) ?_ (by simp); (repeat (first | (refine sn ?_) | (refine stx ?_) | (refine sb ?_))); refine zh_took (by rfl) ?_
  refine zh_take 5 (by kernel_rfl) rfl (by kernel_rfl) (by kernel_rfl) ?_ (by simp); (repeat (first | (refine sn ?_) | (refine stx ?_) | (refine sb ?_))); refine zh_took (by rfl) ?_
  refine zh_take 6 (by kernel_rfl) rfl (by kernel_rfl) (by kernel_rfl) ?_ (by simp); (repeat (first | (refine sn ?_) | (refine stx ?_) | (refine sb ?_))); refine zh_took (by rfl) ?_
  refine zh_one 3 rfl (by kernel_rfl) ?_
  refine zx_call (Y := Own × Own) (v := fun _ => .int .i64 (pClientN ns x q.data).2) (Φ := fun y => okX ((pClientN ns x q.data).1) y) (L' := fun y => ([(k5, Blk.c [.int .i64 q.kind, .int .i64 q.n, .string q.data, .bool q.ad.v6, .int .u8 (q.ad.b 0), .int .u8 (q.ad.b 1), .int .u8 (q.ad.b 2), .int .u8 (q.ad.b 3), .int .u8 (q.ad.b 4), .int .u8 (q.ad.b 5), .int .u8 (q.ad.b 6), .int .u8 (q.ad.b 7), .int .u8 (q.ad.b 8), .int .u8 (q.ad.b 9), .int .u8 (q.ad.b 10), .int .u8 (q.ad.b 11), .int .u8 (q.ad.b 12), .int .u8 (q.ad.b 13), .int .u8 (q.ad.b 14), .int .u8 (q.ad.b 15), .int .i64 q.port] 86 0 0)] ++ pR b nv x) ++ pX p ((pClientN ns x q.data).1) y) rfl fnc38 rfl rfl (fun w1 hm1 => by
      have hm2 := hm1.perm (L' := ([(k5, Blk.c [.int .i64 q.kind, .int .i64 q.n, .string q.data, .bool q.ad.v6, .int .u8 (q.ad.b 0), .int .u8 (q.ad.b 1), .int .u8 (q.ad.b 2), .int .u8 (q.ad.b 3), .int .u8 (q.ad.b 4), .int .u8 (q.ad.b 5), .int .u8 (q.ad.b 6), .int .u8 (q.ad.b 7), .int .u8 (q.ad.b 8), .int .u8 (q.ad.b 9), .int .u8 (q.ad.b 10), .int .u8 (q.ad.b 11), .int .u8 (q.ad.b 12), .int .u8 (q.ad.b 13), .int .u8 (q.ad.b 14), .int .u8 (q.ad.b 15), .int .i64 q.port] 86 0 0)] ++ pR b nv x) ++ pX p x o) (perm_swap [(k5, Blk.c [.int .i64 q.kind, .int .i64 q.n, .string q.data, .bool q.ad.v6, .int .u8 (q.ad.b 0), .int .u8 (q.ad.b 1), .int .u8 (q.ad.b 2), .int .u8 (q.ad.b 3), .int .u8 (q.ad.b 4), .int .u8 (q.ad.b 5), .int .u8 (q.ad.b 6), .int .u8 (q.ad.b 7), .int .u8 (q.ad.b 8), .int .u8 (q.ad.b 9), .int .u8 (q.ad.b 10), .int .u8 (q.ad.b 11), .int .u8 (q.ad.b 12), .int .u8 (q.ad.b 13), .int .u8 (q.ad.b 14), .int .u8 (q.ad.b 15), .int .i64 q.port] 86 0 0)] (pR b nv x) (pX p x o))
      exact PN.use (FromClientN_any ns p x q.data hgood hq3) hok hm2 (hnp.step hm2 (mem_last _ _))) (fun y hy => ?_)
  refine zh_oned (by rfl) (by simp) ?_
  refine zh_one 7 rfl (by kernel_rfl) ?_
  refine zx_call (Y := Unit) (v := fun _ => .int .i64 (pClientN ns x q.data).2) (Φ := fun _ => True) (L' := fun _ => ([(k5, Blk.c [.int .i64 q.kind, .int .i64 q.n, .string q.data, .bool q.ad.v6, .int .u8 (q.ad.b 0), .int .u8 (q.ad.b 1), .int .u8 (q.ad.b 2), .int .u8 (q.ad.b 3), .int .u8 (q.ad.b 4), .int .u8 (q.ad.b 5), .int .u8 (q.ad.b 6), .int .u8 (q.ad.b 7), .int .u8 (q.ad.b 8), .int .u8 (q.ad.b 9), .int .u8 (q.ad.b 10), .int .u8 (q.ad.b 11), .int .u8 (q.ad.b 12), .int .u8 (q.ad.b 13), .int .u8 (q.ad.b 14), .int .u8 (q.ad.b 15), .int .i64 q.port] 86 0 0)] ++ pX p ((pClientN ns x q.data).1) y) ++ pR b nv ((pClientN ns x q.data).1)) rfl fnc96 rfl rfl (fun w1 hm1 => by
      have hm2 := hm1.perm (L' := ([(k5, Blk.c [.int .i64 q.kind, .int .i64 q.n, .string q.data, .bool q.ad.v6, .int .u8 (q.ad.b 0), .int .u8 (q.ad.b 1), .int .u8 (q.ad.b 2), .int .u8 (q.ad.b 3), .int .u8 (q.ad.b 4), .int .u8 (q.ad.b 5), .int .u8 (q.ad.b 6), .int .u8 (q.ad.b 7), .int .u8 (q.ad.b 8), .int .u8 (q.ad.b 9), .int .u8 (q.ad.b 10), .int .u8 (q.ad.b 11), .int .u8 (q.ad.b 12), .int .u8 (q.ad.b 13), .int .u8 (q.ad.b 14), .int .u8 (q.ad.b 15), .int .i64 q.port] 86 0 0)] ++ pX p ((pClientN ns x q.data).1) y) ++ pR b nv x) (perm_swap [(k5, Blk.c [.int .i64 q.kind, .int .i64 q.n, .string q.data, .bool q.ad.v6, .int .u8 (q.ad.b 0), .int .u8 (q.ad.b 1), .int .u8 (q.ad.b 2), .int .u8 (q.ad.b 3), .int .u8 (q.ad.b 4), .int .u8 (q.ad.b 5), .int .u8 (q.ad.b 6), .int .u8 (q.ad.b 7), .int .u8 (q.ad.b 8), .int .u8 (q.ad.b 9), .int .u8 (q.ad.b 10), .int .u8 (q.ad.b 11), .int .u8 (q.ad.b 12), .int .u8 (q.ad.b 13), .int .u8 (q.ad.b 14), .int .u8 (q.ad.b 15), .int .i64 q.port] 86 0 0)] (pX p ((pClientN ns x q.data).1) y) (pR b nv x))
      exact RCN.use (FromClientR_any b na ncap ns nv hnv x q.data hq3 hx.s0.small hx.s0.ups (by omega) hx.s0.state) hm2 (hnr.step hm2 (mem_last _ (pR b nv x)))) (fun _ _ => ?_)
  refine zh_oned (by rfl) (by simp) ?_
  refine zh_take 8 (by kernel_rfl) rfl (by kernel_rfl) (by kernel_rfl) ?_ (by simp); (repeat (first | (refine sn ?_) | (refine stx ?_) | (refine sb ?_))); refine zh_took (by rfl) ?_
  refine zh_take 9 (by kernel_rfl) rfl (by kernel_rfl) (by kernel_rfl) ?_ (by simp); (repeat (first | (refine sn ?_) | (refine stx ?_) | (refine sb ?_))); refine zh_took (by rfl) ?_
  refine zh_end (by rfl) (by kernel_rfl) ?_
  repeat (first | (refine st ?_) | (refine stx ?_) | (refine sb ?_) | (intro _))
  refine z_ret1 tab_ok Try.func49 hb hk Try.results49 (.tmp rfl) (fun w hm => ?_)
  exact ⟨(((pClientN ns x q.data).1), y), hy, hx.client ns q.data, by first | rfl | simp, hm.weaken (fun _ h => h) (List.Sublist.cons _ (List.Sublist.refl _))⟩
theorem does_3 (p b : Nat) (na : Option Addr) (ncap : Nat) (ns : List Nm) (nv nvp : Value) (hnv : nv = .slice na ns.length ncap) (x : Px) (q : Qo) (hq : q.ok) (o : Own × Own) (hok : okX x o) (hx : Sm x nvp) (w : World) (h : Mem w ((pX p x o ++ pR b nv x).map (·.1)) (pX p x o ++ pR b nv x) w) (hnp : NmAt w ((pX p x o ++ pR b nv x).map (·.1)) x.names ns) (hnr : NmAt w ((pX p x o ++ pR b nv x).map (·.1)) nv ns) (hkd : q.kind.tmod 10 = 3) : Calls Try.prog 49 [fP p 0, fP b 0, .agg q.cells.toArray].toArray w fun e w' => ∃ g : Px × (Own × Own), okX g.1 g.2 ∧ Sm g.1 nvp ∧ e = .returned (.bool true) ∧ Mem w ((pX p x o ++ pR b nv x).map (·.1)) (pX p g.1 g.2 ++ pR b nv g.1) w' := by
  obtain ⟨hq1, hq2, hq3⟩ := hq
  have hu := hx.s0.ups
  have hd := hx.s0.downs
  have hgood : GoodN x := ⟨hx.s0.small, by omega, by omega, hx.s0.state⟩
  refine calls_of_z Try.func49 rfl Try.ntmps49 rfl h ?_; intro cs b' hb hk
  repeat (first | (refine st ?_) | (refine stx ?_) | (intro _))
  rename_i k5
  refine z_re 7 (.int .i64 3) rfl (congrArg _ hkd) ?_
  refine z_re 12 (.bool false) rfl (congrArg _ ((congrArg (fun r : Int => decide (r < 0)) hkd).trans rfl)) ?_
  repeat (first | (refine sn ?_) | (refine stx ?_) | (refine sb ?_) | (intro _))
  refine z_regionH [(k5, Blk.c [.int .i64 q.kind, .int .i64 q.n, .string q.data, .bool q.ad.v6, .int .u8 (q.ad.b 0), .int .u8 (q.ad.b 1), .int .u8 (q.ad.b 2), .int .u8 (q.ad.b 3), .int .u8 (q.ad.b 4), .int .u8 (q.ad.b 5), .int .u8 (q.ad.b 6), .int .u8 (q.ad.b 7), .int .u8 (q.ad.b 8), .int .u8 (q.ad.b 9), .int .u8 (q.ad.b 10), .int .u8 (q.ad.b 11), .int .u8 (q.ad.b 12), .int .u8 (q.ad.b 13), .int .u8 (q.ad.b 14), .int .u8 (q.ad.b 15), .int .i64 q.port] 86 0 0)] (by rfl) follows_mixed (List.sublist_append_left [_] _) (m := 10) rfl ?_
  refine zh_take 0 (by kernel_rfl) rfl (by kernel_rfl) (by kernel_rfl) ?_ (by simp); (repeat (first | (refine sn ?_) | (refine stx ?_) | (refine sb ?_))); refine zh_took (by rfl) ?_
  refine zh_take 1 (by kernel_rfl) rfl (by kernel_rfl) (by kernel_rfl) ?_ (by simp); (repeat (first | (refine sn ?_) | (refine stx ?_) | (refine sb ?_))); refine zh_took (by rfl) ?_
  refine zh_take 2 (by kernel_rfl) rfl (by kernel_rfl) (by kernel_rfl) ?_ (by simp); (repeat (first | (refine sn ?_) | (refine stx ?_) | (refine sb ?_))); refine zh_took (by rfl) ?_
  refine zh_take 4 (by kernel_rfl) rfl (by kernel_rfl) (by kernel_rfl) ?_ (by simp); (repeat (first | (refine sn ?_) | (refine stx ?_) | (refine sb ?_))); refine zh_took (by rfl) ?_
  refine zh_take 5 (by kernel_rfl) rfl (by kernel_rfl) (by kernel_rfl) ?_ (by simp); (repeat (first | (refine sn ?_) | (refine stx ?_) | (refine sb ?_))); refine zh_took (by rfl) ?_
  refine zh_take 6 (by kernel_rfl) rfl (by kernel_rfl) (by kernel_rfl) ?_ (by simp); (repeat (first | (refine sn ?_) | (refine stx ?_) | (refine sb ?_))); refine zh_took (by rfl) ?_
  refine zh_one 3 rfl (by kernel_rfl) ?_
  refine zx_call (Y := Own × Own) (v := fun _ => .int .i64 (pRemote x q.data).2) (Φ := fun y => okX ((pRemote x q.data).1) y) (L' := fun y => ([(k5, Blk.c [.int .i64 q.kind, .int .i64 q.n, .string q.data, .bool q.ad.v6, .int .u8 (q.ad.b 0), .int .u8 (q.ad.b 1), .int .u8 (q.ad.b 2), .int .u8 (q.ad.b 3), .int .u8 (q.ad.b 4), .int .u8 (q.ad.b 5), .int .u8 (q.ad.b 6), .int .u8 (q.ad.b 7), .int .u8 (q.ad.b 8), .int .u8 (q.ad.b 9), .int .u8 (q.ad.b 10), .int .u8 (q.ad.b 11), .int .u8 (q.ad.b 12), .int .u8 (q.ad.b 13), .int .u8 (q.ad.b 14), .int .u8 (q.ad.b 15), .int .i64 q.port] 86 0 0)] ++ pR b nv x) ++ pX p ((pRemote x q.data).1) y) rfl fnc46 rfl rfl (fun w1 hm1 => by
      have hm2 := hm1.perm (L' := ([(k5, Blk.c [.int .i64 q.kind, .int .i64 q.n, .string q.data, .bool q.ad.v6, .int .u8 (q.ad.b 0), .int .u8 (q.ad.b 1), .int .u8 (q.ad.b 2), .int .u8 (q.ad.b 3), .int .u8 (q.ad.b 4), .int .u8 (q.ad.b 5), .int .u8 (q.ad.b 6), .int .u8 (q.ad.b 7), .int .u8 (q.ad.b 8), .int .u8 (q.ad.b 9), .int .u8 (q.ad.b 10), .int .u8 (q.ad.b 11), .int .u8 (q.ad.b 12), .int .u8 (q.ad.b 13), .int .u8 (q.ad.b 14), .int .u8 (q.ad.b 15), .int .i64 q.port] 86 0 0)] ++ pR b nv x) ++ pX p x o) (perm_swap [(k5, Blk.c [.int .i64 q.kind, .int .i64 q.n, .string q.data, .bool q.ad.v6, .int .u8 (q.ad.b 0), .int .u8 (q.ad.b 1), .int .u8 (q.ad.b 2), .int .u8 (q.ad.b 3), .int .u8 (q.ad.b 4), .int .u8 (q.ad.b 5), .int .u8 (q.ad.b 6), .int .u8 (q.ad.b 7), .int .u8 (q.ad.b 8), .int .u8 (q.ad.b 9), .int .u8 (q.ad.b 10), .int .u8 (q.ad.b 11), .int .u8 (q.ad.b 12), .int .u8 (q.ad.b 13), .int .u8 (q.ad.b 14), .int .u8 (q.ad.b 15), .int .i64 q.port] 86 0 0)] (pR b nv x) (pX p x o))
      exact PC.use (FromRemote_any p x q.data hq3 (by omega)) hok hm2) (fun y hy => ?_)
  refine zh_oned (by rfl) (by simp) ?_
  refine zh_one 7 rfl (by kernel_rfl) ?_
  refine zx_call (Y := Unit) (v := fun _ => .int .i64 (pRemote x q.data).2) (Φ := fun _ => True) (L' := fun _ => ([(k5, Blk.c [.int .i64 q.kind, .int .i64 q.n, .string q.data, .bool q.ad.v6, .int .u8 (q.ad.b 0), .int .u8 (q.ad.b 1), .int .u8 (q.ad.b 2), .int .u8 (q.ad.b 3), .int .u8 (q.ad.b 4), .int .u8 (q.ad.b 5), .int .u8 (q.ad.b 6), .int .u8 (q.ad.b 7), .int .u8 (q.ad.b 8), .int .u8 (q.ad.b 9), .int .u8 (q.ad.b 10), .int .u8 (q.ad.b 11), .int .u8 (q.ad.b 12), .int .u8 (q.ad.b 13), .int .u8 (q.ad.b 14), .int .u8 (q.ad.b 15), .int .i64 q.port] 86 0 0)] ++ pX p ((pRemote x q.data).1) y) ++ pR b nv ((pRemote x q.data).1)) rfl fnc97 rfl rfl (fun w1 hm1 => by
      have hm2 := hm1.perm (L' := ([(k5, Blk.c [.int .i64 q.kind, .int .i64 q.n, .string q.data, .bool q.ad.v6, .int .u8 (q.ad.b 0), .int .u8 (q.ad.b 1), .int .u8 (q.ad.b 2), .int .u8 (q.ad.b 3), .int .u8 (q.ad.b 4), .int .u8 (q.ad.b 5), .int .u8 (q.ad.b 6), .int .u8 (q.ad.b 7), .int .u8 (q.ad.b 8), .int .u8 (q.ad.b 9), .int .u8 (q.ad.b 10), .int .u8 (q.ad.b 11), .int .u8 (q.ad.b 12), .int .u8 (q.ad.b 13), .int .u8 (q.ad.b 14), .int .u8 (q.ad.b 15), .int .i64 q.port] 86 0 0)] ++ pX p ((pRemote x q.data).1) y) ++ pR b nv x) (perm_swap [(k5, Blk.c [.int .i64 q.kind, .int .i64 q.n, .string q.data, .bool q.ad.v6, .int .u8 (q.ad.b 0), .int .u8 (q.ad.b 1), .int .u8 (q.ad.b 2), .int .u8 (q.ad.b 3), .int .u8 (q.ad.b 4), .int .u8 (q.ad.b 5), .int .u8 (q.ad.b 6), .int .u8 (q.ad.b 7), .int .u8 (q.ad.b 8), .int .u8 (q.ad.b 9), .int .u8 (q.ad.b 10), .int .u8 (q.ad.b 11), .int .u8 (q.ad.b 12), .int .u8 (q.ad.b 13), .int .u8 (q.ad.b 14), .int .u8 (q.ad.b 15), .int .i64 q.port] 86 0 0)] (pX p ((pRemote x q.data).1) y) (pR b nv x))
      exact RC.use (FromRemoteR_any b nv x q.data hq3 (by omega)) hm2) (fun _ _ => ?_)
  refine zh_oned (by rfl) (by simp) ?_
  refine zh_take 8 (by kernel_rfl) rfl (by kernel_rfl) (by kernel_rfl) ?_ (by simp); (repeat (first | (refine sn ?_) | (refine stx ?_) | (refine sb ?_))); refine zh_took (by rfl) ?_
  refine zh_take 9 (by kernel_rfl) rfl (by kernel_rfl) (by kernel_rfl) ?_ (by simp); (repeat (first | (refine sn ?_) | (refine stx ?_) | (refine sb ?_))); refine zh_took (by rfl) ?_
  refine zh_end (by rfl) (by kernel_rfl) ?_
  repeat (first | (refine st ?_) | (refine stx ?_) | (refine sb ?_) | (intro _))
  refine z_ret1 tab_ok Try.func49 hb hk Try.results49 (.tmp rfl) (fun w hm => ?_)
  exact ⟨(((pRemote x q.data).1), y), hy, hx.remote q.data, by first | rfl | simp, hm.weaken (fun _ h => h) (List.Sublist.cons _ (List.Sublist.refl _))⟩
theorem does_4 (p b : Nat) (na : Option Addr) (ncap : Nat) (ns : List Nm) (nv nvp : Value) (hnv : nv = .slice na ns.length ncap) (x : Px) (q : Qo) (hq : q.ok) (o : Own × Own) (hok : okX x o) (hx : Sm x nvp) (w : World) (h : Mem w ((pX p x o ++ pR b nv x).map (·.1)) (pX p x o ++ pR b nv x) w) (hnp : NmAt w ((pX p x o ++ pR b nv x).map (·.1)) x.names ns) (hnr : NmAt w ((pX p x o ++ pR b nv x).map (·.1)) nv ns) (hkd : q.kind.tmod 10 = 4) : Calls Try.prog 49 [fP p 0, fP b 0, .agg q.cells.toArray].toArray w fun e w' => ∃ g : Px × (Own × Own), okX g.1 g.2 ∧ Sm g.1 nvp ∧ e = .returned (.bool true) ∧ Mem w ((pX p x o ++ pR b nv x).map (·.1)) (pX p g.1 g.2 ++ pR b nv g.1) w' := by
  obtain ⟨hq1, hq2, hq3⟩ := hq
  have hu := hx.s0.ups
  have hd := hx.s0.downs
  have hgood : GoodN x := ⟨hx.s0.small, by omega, by omega, hx.s0.state⟩
  refine calls_of_z Try.func49 rfl Try.ntmps49 rfl h ?_; intro cs b' hb hk
  repeat (first | (refine st ?_) | (refine stx ?_) | (intro _))
  rename_i k5
  refine z_re 7 (.int .i64 4) rfl (congrArg _ hkd) ?_
  refine z_re 12 (.bool false) rfl (congrArg _ ((congrArg (fun r : Int => decide (r < 0)) hkd).trans rfl)) ?_
  by_cases hn0 : 0 ≤ q.n
  · have hkn : ((min q.n.toNat x.down.length : Nat) : Int) = min (max q.n 0) x.down.length := by omega
    have hkn' : ((min q.n.toNat x.down.length : Nat) : Int) = min q.n x.down.length := by omega
    generalize min q.n.toNat x.down.length = k at hkn hkn'
    repeat (first | (refine sn ?_) | (refine stx ?_) | (refine sb ?_) | (intro _))
    refine z_regionH [(k5, Blk.c [.int .i64 q.kind, .int .i64 q.n, .string q.data, .bool q.ad.v6, .int .u8 (q.ad.b 0), .int .u8 (q.ad.b 1), .int .u8 (q.ad.b 2), .int .u8 (q.ad.b 3), .int .u8 (q.ad.b 4), .int .u8 (q.ad.b 5), .int .u8 (q.ad.b 6), .int .u8 (q.ad.b 7), .int .u8 (q.ad.b 8), .int .u8 (q.ad.b 9), .int .u8 (q.ad.b 10), .int .u8 (q.ad.b 11), .int .u8 (q.ad.b 12), .int .u8 (q.ad.b 13), .int .u8 (q.ad.b 14), .int .u8 (q.ad.b 15), .int .i64 q.port] 86 0 0)] (by rfl) follows_mixed (List.sublist_append_left [_] _) (m := 10) rfl ?_
    refine zh_take 0 (by kernel_rfl) rfl (by kernel_rfl) (by kernel_rfl) ?_ (by simp); (repeat (first | (refine sn ?_) | (refine stx ?_) | (refine sb ?_))); refine zh_took (by rfl) ?_
    refine zh_take 1 (by kernel_rfl) rfl (by kernel_rfl) (by kernel_rfl) ?_ (by simp); (repeat (first | (refine sn ?_) | (refine stx ?_) | (refine sb ?_))); refine zh_took (by rfl) ?_
    refine zh_take 2 (by kernel_rfl) rfl (by kernel_rfl) (by kernel_rfl) ?_ (by simp); (repeat (first | (refine sn ?_) | (refine stx ?_) | (refine sb ?_))); refine zh_took (by rfl) ?_
    refine zh_take 4 (by kernel_rfl) rfl (by kernel_rfl) (by kernel_rfl) ?_ (by simp); (repeat (first | (refine sn ?_) | (refine stx ?_) | (refine sb ?_))); refine zh_took (by rfl) ?_
    refine zh_take 5 (by kernel_rfl) rfl (by kernel_rfl) (by kernel_rfl) ?_ (by simp); (repeat (first | (refine sn ?_) | (refine stx ?_) | (refine sb ?_))); refine zh_took (by rfl) ?_
    refine zh_take 6 (by kernel_rfl) rfl (by kernel_rfl) (by kernel_rfl) ?_ (by simp); (repeat (first | (refine sn ?_) | (refine stx ?_) | (refine sb ?_))); refine zh_took (by rfl) ?_
    refine zh_one 3 rfl (by kernel_rfl) ?_
    refine zx_call (Y := Own × Own) (v := fun _ => .string (ofInts (x.down.take k))) (Φ := fun y => okX (pSettle { x with down := x.down.drop k }) y) (L' := fun y => ([(k5, Blk.c [.int .i64 q.kind, .int .i64 q.n, .string q.data, .bool q.ad.v6, .int .u8 (q.ad.b 0), .int .u8 (q.ad.b 1), .int .u8 (q.ad.b 2), .int .u8 (q.ad.b 3), .int .u8 (q.ad.b 4), .int .u8 (q.ad.b 5), .int .u8 (q.ad.b 6), .int .u8 (q.ad.b 7), .int .u8 (q.ad.b 8), .int .u8 (q.ad.b 9), .int .u8 (q.ad.b 10), .int .u8 (q.ad.b 11), .int .u8 (q.ad.b 12), .int .u8 (q.ad.b 13), .int .u8 (q.ad.b 14), .int .u8 (q.ad.b 15), .int .i64 q.port] 86 0 0)] ++ pR b nv x) ++ pX p (pSettle { x with down := x.down.drop k }) y) rfl fnc39 rfl rfl (fun w1 hm1 => by
        have hm2 := hm1.perm (L' := ([(k5, Blk.c [.int .i64 q.kind, .int .i64 q.n, .string q.data, .bool q.ad.v6, .int .u8 (q.ad.b 0), .int .u8 (q.ad.b 1), .int .u8 (q.ad.b 2), .int .u8 (q.ad.b 3), .int .u8 (q.ad.b 4), .int .u8 (q.ad.b 5), .int .u8 (q.ad.b 6), .int .u8 (q.ad.b 7), .int .u8 (q.ad.b 8), .int .u8 (q.ad.b 9), .int .u8 (q.ad.b 10), .int .u8 (q.ad.b 11), .int .u8 (q.ad.b 12), .int .u8 (q.ad.b 13), .int .u8 (q.ad.b 14), .int .u8 (q.ad.b 15), .int .i64 q.port] 86 0 0)] ++ pR b nv x) ++ pX p x o) (perm_swap [(k5, Blk.c [.int .i64 q.kind, .int .i64 q.n, .string q.data, .bool q.ad.v6, .int .u8 (q.ad.b 0), .int .u8 (q.ad.b 1), .int .u8 (q.ad.b 2), .int .u8 (q.ad.b 3), .int .u8 (q.ad.b 4), .int .u8 (q.ad.b 5), .int .u8 (q.ad.b 6), .int .u8 (q.ad.b 7), .int .u8 (q.ad.b 8), .int .u8 (q.ad.b 9), .int .u8 (q.ad.b 10), .int .u8 (q.ad.b 11), .int .u8 (q.ad.b 12), .int .u8 (q.ad.b 13), .int .u8 (q.ad.b 14), .int .u8 (q.ad.b 15), .int .i64 q.port] 86 0 0)] (pR b nv x) (pX p x o))
        exact PC.use (ToClient_any p x q.n k hkn (by omega)) hok hm2) (fun y hy => ?_)
    refine zh_oned (by rfl) (by simp) ?_
    refine zh_one 7 rfl (by kernel_rfl) ?_
    refine zx_call (Y := Unit) (v := fun _ => .string (ofInts (x.down.take k))) (Φ := fun _ => True) (L' := fun _ => ([(k5, Blk.c [.int .i64 q.kind, .int .i64 q.n, .string q.data, .bool q.ad.v6, .int .u8 (q.ad.b 0), .int .u8 (q.ad.b 1), .int .u8 (q.ad.b 2), .int .u8 (q.ad.b 3), .int .u8 (q.ad.b 4), .int .u8 (q.ad.b 5), .int .u8 (q.ad.b 6), .int .u8 (q.ad.b 7), .int .u8 (q.ad.b 8), .int .u8 (q.ad.b 9), .int .u8 (q.ad.b 10), .int .u8 (q.ad.b 11), .int .u8 (q.ad.b 12), .int .u8 (q.ad.b 13), .int .u8 (q.ad.b 14), .int .u8 (q.ad.b 15), .int .i64 q.port] 86 0 0)] ++ pX p (pSettle { x with down := x.down.drop k }) y) ++ pR b nv (pSettle { x with down := x.down.drop k })) rfl fnc98 rfl rfl (fun w1 hm1 => by
        have hm2 := hm1.perm (L' := ([(k5, Blk.c [.int .i64 q.kind, .int .i64 q.n, .string q.data, .bool q.ad.v6, .int .u8 (q.ad.b 0), .int .u8 (q.ad.b 1), .int .u8 (q.ad.b 2), .int .u8 (q.ad.b 3), .int .u8 (q.ad.b 4), .int .u8 (q.ad.b 5), .int .u8 (q.ad.b 6), .int .u8 (q.ad.b 7), .int .u8 (q.ad.b 8), .int .u8 (q.ad.b 9), .int .u8 (q.ad.b 10), .int .u8 (q.ad.b 11), .int .u8 (q.ad.b 12), .int .u8 (q.ad.b 13), .int .u8 (q.ad.b 14), .int .u8 (q.ad.b 15), .int .i64 q.port] 86 0 0)] ++ pX p (pSettle { x with down := x.down.drop k }) y) ++ pR b nv x) (perm_swap [(k5, Blk.c [.int .i64 q.kind, .int .i64 q.n, .string q.data, .bool q.ad.v6, .int .u8 (q.ad.b 0), .int .u8 (q.ad.b 1), .int .u8 (q.ad.b 2), .int .u8 (q.ad.b 3), .int .u8 (q.ad.b 4), .int .u8 (q.ad.b 5), .int .u8 (q.ad.b 6), .int .u8 (q.ad.b 7), .int .u8 (q.ad.b 8), .int .u8 (q.ad.b 9), .int .u8 (q.ad.b 10), .int .u8 (q.ad.b 11), .int .u8 (q.ad.b 12), .int .u8 (q.ad.b 13), .int .u8 (q.ad.b 14), .int .u8 (q.ad.b 15), .int .i64 q.port] 86 0 0)] (pX p (pSettle { x with down := x.down.drop k }) y) (pR b nv x))
        exact RC.use (ToClientG_any b nv x q.n hn0 k hkn') hm2) (fun _ _ => ?_)
    refine zh_oned (by rfl) (by simp) ?_
    refine zh_take 8 (by kernel_rfl) rfl (by kernel_rfl) (by kernel_rfl) ?_ (by simp); (repeat (first | (refine sn ?_) | (refine stx ?_) | (refine sb ?_))); refine zh_took (by rfl) ?_
    refine zh_take 9 (by kernel_rfl) rfl (by kernel_rfl) (by kernel_rfl) ?_ (by simp); (repeat (first | (refine sn ?_) | (refine stx ?_) | (refine sb ?_))); refine zh_took (by rfl) ?_
    refine zh_end (by rfl) (by kernel_rfl) ?_
    repeat (first | (refine st ?_) | (refine stx ?_) | (refine sb ?_) | (intro _))
    refine z_ret1 tab_ok Try.func49 hb hk Try.results49 (.tmp rfl) (fun w hm => ?_)
    exact ⟨((pSettle { x with down := x.down.drop k }), y), hy, hx.toC k, by first | rfl | simp, hm.weaken (fun _ h => h) (List.Sublist.cons _ (List.Sublist.refl _))⟩
  · have hkn : ((0 : Nat) : Int) = min (max q.n 0) x.down.length := by omega
    have hT := ToClient_any p x q.n 0 hkn (by omega)
    have hsx : pSettle { x with down := x.down.drop 0 } = x := settle_same hx.live
    rw [hsx] at hT
    repeat (first | (refine sn ?_) | (refine stx ?_) | (refine sb ?_) | (intro _))
    refine z_regionH [(k5, Blk.c [.int .i64 q.kind, .int .i64 q.n, .string q.data, .bool q.ad.v6, .int .u8 (q.ad.b 0), .int .u8 (q.ad.b 1), .int .u8 (q.ad.b 2), .int .u8 (q.ad.b 3), .int .u8 (q.ad.b 4), .int .u8 (q.ad.b 5), .int .u8 (q.ad.b 6), .int .u8 (q.ad.b 7), .int .u8 (q.ad.b 8), .int .u8 (q.ad.b 9), .int .u8 (q.ad.b 10), .int .u8 (q.ad.b 11), .int .u8 (q.ad.b 12), .int .u8 (q.ad.b 13), .int .u8 (q.ad.b 14), .int .u8 (q.ad.b 15), .int .i64 q.port] 86 0 0)] (by rfl) follows_mixed (List.sublist_append_left [_] _) (m := 10) rfl ?_
    refine zh_take 0 (by kernel_rfl) rfl (by kernel_rfl) (by kernel_rfl) ?_ (by simp); (repeat (first | (refine sn ?_) | (refine stx ?_) | (refine sb ?_))); refine zh_took (by rfl) ?_
    refine zh_take 1 (by kernel_rfl) rfl (by kernel_rfl) (by kernel_rfl) ?_ (by simp); (repeat (first | (refine sn ?_) | (refine stx ?_) | (refine sb ?_))); refine zh_took (by rfl) ?_
    refine zh_take 2 (by kernel_rfl) rfl (by kernel_rfl) (by kernel_rfl) ?_ (by simp); (repeat (first | (refine sn ?_) | (refine stx ?_) | (refine sb ?_))); refine zh_took (by rfl) ?_
    refine zh_take 4 (by kernel_rfl) rfl (by kernel_rfl) (by kernel_rfl) ?_ (by simp); (repeat (first | (refine sn ?_) | (refine stx ?_) | (refine sb ?_))); refine zh_took (by rfl) ?_
    refine zh_take 5 (by kernel_rfl) rfl (by kernel_rfl) (by kernel_rfl) ?_ (by simp); (repeat (first | (refine sn ?_) | (refine stx ?_) | (refine sb ?_))); refine zh_took (by rfl) ?_
    refine zh_take 6 (by kernel_rfl) rfl (by kernel_rfl) (by kernel_rfl) ?_ (by simp); (repeat (first | (refine sn ?_) | (refine stx ?_) | (refine sb ?_))); refine zh_took (by rfl) ?_
    refine zh_one 3 rfl (by kernel_rfl) ?_
    refine zx_call (Y := Own × Own) (v := fun _ => .string noX) (Φ := fun y => okX (x) y) (L' := fun y => ([(k5, Blk.c [.int .i64 q.kind, .int .i64 q.n, .string q.data, .bool q.ad.v6, .int .u8 (q.ad.b 0), .int .u8 (q.ad.b 1), .int .u8 (q.ad.b 2), .int .u8 (q.ad.b 3), .int .u8 (q.ad.b 4), .int .u8 (q.ad.b 5), .int .u8 (q.ad.b 6), .int .u8 (q.ad.b 7), .int .u8 (q.ad.b 8), .int .u8 (q.ad.b 9), .int .u8 (q.ad.b 10), .int .u8 (q.ad.b 11), .int .u8 (q.ad.b 12), .int .u8 (q.ad.b 13), .int .u8 (q.ad.b 14), .int .u8 (q.ad.b 15), .int .i64 q.port] 86 0 0)] ++ pR b nv x) ++ pX p (x) y) rfl fnc39 rfl rfl (fun w1 hm1 => by
        have hm2 := hm1.perm (L' := ([(k5, Blk.c [.int .i64 q.kind, .int .i64 q.n, .string q.data, .bool q.ad.v6, .int .u8 (q.ad.b 0), .int .u8 (q.ad.b 1), .int .u8 (q.ad.b 2), .int .u8 (q.ad.b 3), .int .u8 (q.ad.b 4), .int .u8 (q.ad.b 5), .int .u8 (q.ad.b 6), .int .u8 (q.ad.b 7), .int .u8 (q.ad.b 8), .int .u8 (q.ad.b 9), .int .u8 (q.ad.b 10), .int .u8 (q.ad.b 11), .int .u8 (q.ad.b 12), .int .u8 (q.ad.b 13), .int .u8 (q.ad.b 14), .int .u8 (q.ad.b 15), .int .i64 q.port] 86 0 0)] ++ pR b nv x) ++ pX p x o) (perm_swap [(k5, Blk.c [.int .i64 q.kind, .int .i64 q.n, .string q.data, .bool q.ad.v6, .int .u8 (q.ad.b 0), .int .u8 (q.ad.b 1), .int .u8 (q.ad.b 2), .int .u8 (q.ad.b 3), .int .u8 (q.ad.b 4), .int .u8 (q.ad.b 5), .int .u8 (q.ad.b 6), .int .u8 (q.ad.b 7), .int .u8 (q.ad.b 8), .int .u8 (q.ad.b 9), .int .u8 (q.ad.b 10), .int .u8 (q.ad.b 11), .int .u8 (q.ad.b 12), .int .u8 (q.ad.b 13), .int .u8 (q.ad.b 14), .int .u8 (q.ad.b 15), .int .i64 q.port] 86 0 0)] (pR b nv x) (pX p x o))
        exact PC.use hT hok hm2) (fun y hy => ?_)
    refine zh_oned (by rfl) (by simp) ?_
    refine zh_one 7 rfl (by kernel_rfl) ?_
    refine zx_call (Y := Unit) (v := fun _ => .string noX) (Φ := fun _ => True) (L' := fun _ => ([(k5, Blk.c [.int .i64 q.kind, .int .i64 q.n, .string q.data, .bool q.ad.v6, .int .u8 (q.ad.b 0), .int .u8 (q.ad.b 1), .int .u8 (q.ad.b 2), .int .u8 (q.ad.b 3), .int .u8 (q.ad.b 4), .int .u8 (q.ad.b 5), .int .u8 (q.ad.b 6), .int .u8 (q.ad.b 7), .int .u8 (q.ad.b 8), .int .u8 (q.ad.b 9), .int .u8 (q.ad.b 10), .int .u8 (q.ad.b 11), .int .u8 (q.ad.b 12), .int .u8 (q.ad.b 13), .int .u8 (q.ad.b 14), .int .u8 (q.ad.b 15), .int .i64 q.port] 86 0 0)] ++ pX p (x) y) ++ pR b nv (x)) rfl fnc98 rfl rfl (fun w1 hm1 => by
        have hm2 := hm1.perm (L' := ([(k5, Blk.c [.int .i64 q.kind, .int .i64 q.n, .string q.data, .bool q.ad.v6, .int .u8 (q.ad.b 0), .int .u8 (q.ad.b 1), .int .u8 (q.ad.b 2), .int .u8 (q.ad.b 3), .int .u8 (q.ad.b 4), .int .u8 (q.ad.b 5), .int .u8 (q.ad.b 6), .int .u8 (q.ad.b 7), .int .u8 (q.ad.b 8), .int .u8 (q.ad.b 9), .int .u8 (q.ad.b 10), .int .u8 (q.ad.b 11), .int .u8 (q.ad.b 12), .int .u8 (q.ad.b 13), .int .u8 (q.ad.b 14), .int .u8 (q.ad.b 15), .int .i64 q.port] 86 0 0)] ++ pX p (x) y) ++ pR b nv x) (perm_swap [(k5, Blk.c [.int .i64 q.kind, .int .i64 q.n, .string q.data, .bool q.ad.v6, .int .u8 (q.ad.b 0), .int .u8 (q.ad.b 1), .int .u8 (q.ad.b 2), .int .u8 (q.ad.b 3), .int .u8 (q.ad.b 4), .int .u8 (q.ad.b 5), .int .u8 (q.ad.b 6), .int .u8 (q.ad.b 7), .int .u8 (q.ad.b 8), .int .u8 (q.ad.b 9), .int .u8 (q.ad.b 10), .int .u8 (q.ad.b 11), .int .u8 (q.ad.b 12), .int .u8 (q.ad.b 13), .int .u8 (q.ad.b 14), .int .u8 (q.ad.b 15), .int .i64 q.port] 86 0 0)] (pX p (x) y) (pR b nv x))
        exact RC.use (ToClientR_neg b nv x q.n (by omega)) hm2) (fun _ _ => ?_)
    refine zh_oned (by rfl) (by simp) ?_
    refine zh_take 8 (by kernel_rfl) rfl (by kernel_rfl) (by kernel_rfl) ?_ (by simp); (repeat (first | (refine sn ?_) | (refine stx ?_) | (refine sb ?_))); refine zh_took (by rfl) ?_
    refine zh_take 9 (by kernel_rfl) rfl (by kernel_rfl) (by kernel_rfl) ?_ (by simp); (repeat (first | (refine sn ?_) | (refine stx ?_) | (refine sb ?_))); refine zh_took (by rfl) ?_
    refine zh_end (by rfl) (by kernel_rfl) ?_
    repeat (first | (refine st ?_) | (refine stx ?_) | (refine sb ?_) | (intro _))
    refine z_ret1 tab_ok Try.func49 hb hk Try.results49 (.tmp rfl) (fun w hm => ?_)
    exact ⟨((x), y), hy, hx, by first | rfl | simp, hm.weaken (fun _ h => h) (List.Sublist.cons _ (List.Sublist.refl _))⟩
theorem does_5 (p b : Nat) (na : Option Addr) (ncap : Nat) (ns : List Nm) (nv nvp : Value) (hnv : nv = .slice na ns.length ncap) (x : Px) (q : Qo) (hq : q.ok) (o : Own × Own) (hok : okX x o) (hx : Sm x nvp) (w : World) (h : Mem w ((pX p x o ++ pR b nv x).map (·.1)) (pX p x o ++ pR b nv x) w) (hnp : NmAt w ((pX p x o ++ pR b nv x).map (·.1)) x.names ns) (hnr : NmAt w ((pX p x o ++ pR b nv x).map (·.1)) nv ns) (hkd : q.kind.tmod 10 = 5) : Calls Try.prog 49 [fP p 0, fP b 0, .agg q.cells.toArray].toArray w fun e w' => ∃ g : Px × (Own × Own), okX g.1 g.2 ∧ Sm g.1 nvp ∧ e = .returned (.bool true) ∧ Mem w ((pX p x o ++ pR b nv x).map (·.1)) (pX p g.1 g.2 ++ pR b nv g.1) w' := by
  obtain ⟨hq1, hq2, hq3⟩ := hq
  have hu := hx.s0.ups
  have hd := hx.s0.downs
  have hgood : GoodN x := ⟨hx.s0.small, by omega, by omega, hx.s0.state⟩
  refine calls_of_z Try.func49 rfl Try.ntmps49 rfl h ?_; intro cs b' hb hk
  repeat (first | (refine st ?_) | (refine stx ?_) | (intro _))
  rename_i k5
  refine z_re 7 (.int .i64 5) rfl (congrArg _ hkd) ?_
  refine z_re 12 (.bool false) rfl (congrArg _ ((congrArg (fun r : Int => decide (r < 0)) hkd).trans rfl)) ?_
  by_cases hn0 : 0 ≤ q.n
  · by_cases hs4 : x.state = 4
    · have hkn : ((min q.n.toNat x.up.length : Nat) : Int) = min (max q.n 0) x.up.length := by omega
      have hkn' : ((min q.n.toNat x.up.length : Nat) : Int) = min q.n x.up.length := by omega
      generalize min q.n.toNat x.up.length = k at hkn hkn'
      repeat (first | (refine sn ?_) | (refine stx ?_) | (refine sb ?_) | (intro _))
      refine z_regionH [(k5, Blk.c [.int .i64 q.kind, .int .i64 q.n, .string q.data, .bool q.ad.v6, .int .u8 (q.ad.b 0), .int .u8 (q.ad.b 1), .int .u8 (q.ad.b 2), .int .u8 (q.ad.b 3), .int .u8 (q.ad.b 4), .int .u8 (q.ad.b 5), .int .u8 (q.ad.b 6), .int .u8 (q.ad.b 7), .int .u8 (q.ad.b 8), .int .u8 (q.ad.b 9), .int .u8 (q.ad.b 10), .int .u8 (q.ad.b 11), .int .u8 (q.ad.b 12), .int .u8 (q.ad.b 13), .int .u8 (q.ad.b 14), .int .u8 (q.ad.b 15), .int .i64 q.port] 86 0 0)] (by rfl) follows_mixed (List.sublist_append_left [_] _) (m := 10) rfl ?_
      refine zh_take 0 (by kernel_rfl) rfl (by kernel_rfl) (by kernel_rfl) ?_ (by simp); (repeat (first | (refine sn ?_) | (refine stx ?_) | (refine sb ?_))); refine zh_took (by rfl) ?_
      refine zh_take 1 (by kernel_rfl) rfl (by kernel_rfl) (by kernel_rfl) ?_ (by simp); (repeat (first | (refine sn ?_) | (refine stx ?_) | (refine sb ?_))); refine zh_took (by rfl) ?_
      refine zh_take 2 (by kernel_rfl) rfl (by kernel_rfl) (by kernel_rfl) ?_ (by simp); (repeat (first | (refine sn ?_) | (refine stx ?_) | (refine sb ?_))); refine zh_took (by rfl) ?_
      refine zh_take 4 (by kernel_rfl) rfl (by kernel_rfl) (by kernel_rfl) ?_ (by simp); (repeat (first | (refine sn ?_) | (refine stx ?_) | (refine sb ?_))); refine zh_took (by rfl) ?_
      refine zh_take 5 (by kernel_rfl) rfl (by kernel_rfl) (by kernel_rfl) ?_ (by simp); (repeat (first | (refine sn ?_) | (refine stx ?_) | (refine sb ?_))); refine zh_took (by rfl) ?_
      refine zh_take 6 (by kernel_rfl) rfl (by kernel_rfl) (by kernel_rfl) ?_ (by simp); (repeat (first | (refine sn ?_) | (refine stx ?_) | (refine sb ?_))); refine zh_took (by rfl) ?_
      refine zh_one 3 rfl (by kernel_rfl) ?_
      refine zx_call (Y := Own × Own) (v := fun _ => .string (ofInts (x.up.take k))) (Φ := fun y => okX (pSettle { x with up := x.up.drop k }) y) (L' := fun y => ([(k5, Blk.c [.int .i64 q.kind, .int .i64 q.n, .string q.data, .bool q.ad.v6, .int .u8 (q.ad.b 0), .int .u8 (q.ad.b 1), .int .u8 (q.ad.b 2), .int .u8 (q.ad.b 3), .int .u8 (q.ad.b 4), .int .u8 (q.ad.b 5), .int .u8 (q.ad.b 6), .int .u8 (q.ad.b 7), .int .u8 (q.ad.b 8), .int .u8 (q.ad.b 9), .int .u8 (q.ad.b 10), .int .u8 (q.ad.b 11), .int .u8 (q.ad.b 12), .int .u8 (q.ad.b 13), .int .u8 (q.ad.b 14), .int .u8 (q.ad.b 15), .int .i64 q.port] 86 0 0)] ++ pR b nv x) ++ pX p (pSettle { x with up := x.up.drop k }) y) rfl fnc45 rfl rfl (fun w1 hm1 => by
          have hm2 := hm1.perm (L' := ([(k5, Blk.c [.int .i64 q.kind, .int .i64 q.n, .string q.data, .bool q.ad.v6, .int .u8 (q.ad.b 0), .int .u8 (q.ad.b 1), .int .u8 (q.ad.b 2), .int .u8 (q.ad.b 3), .int .u8 (q.ad.b 4), .int .u8 (q.ad.b 5), .int .u8 (q.ad.b 6), .int .u8 (q.ad.b 7), .int .u8 (q.ad.b 8), .int .u8 (q.ad.b 9), .int .u8 (q.ad.b 10), .int .u8 (q.ad.b 11), .int .u8 (q.ad.b 12), .int .u8 (q.ad.b 13), .int .u8 (q.ad.b 14), .int .u8 (q.ad.b 15), .int .i64 q.port] 86 0 0)] ++ pR b nv x) ++ pX p x o) (perm_swap [(k5, Blk.c [.int .i64 q.kind, .int .i64 q.n, .string q.data, .bool q.ad.v6, .int .u8 (q.ad.b 0), .int .u8 (q.ad.b 1), .int .u8 (q.ad.b 2), .int .u8 (q.ad.b 3), .int .u8 (q.ad.b 4), .int .u8 (q.ad.b 5), .int .u8 (q.ad.b 6), .int .u8 (q.ad.b 7), .int .u8 (q.ad.b 8), .int .u8 (q.ad.b 9), .int .u8 (q.ad.b 10), .int .u8 (q.ad.b 11), .int .u8 (q.ad.b 12), .int .u8 (q.ad.b 13), .int .u8 (q.ad.b 14), .int .u8 (q.ad.b 15), .int .i64 q.port] 86 0 0)] (pR b nv x) (pX p x o))
          exact PC.use (ToRemote_any p x hs4 q.n k hkn (by omega)) hok hm2) (fun y hy => ?_)
      refine zh_oned (by rfl) (by simp) ?_
      refine zh_one 7 rfl (by kernel_rfl) ?_
      refine zx_call (Y := Unit) (v := fun _ => .string (ofInts (x.up.take k))) (Φ := fun _ => True) (L' := fun _ => ([(k5, Blk.c [.int .i64 q.kind, .int .i64 q.n, .string q.data, .bool q.ad.v6, .int .u8 (q.ad.b 0), .int .u8 (q.ad.b 1), .int .u8 (q.ad.b 2), .int .u8 (q.ad.b 3), .int .u8 (q.ad.b 4), .int .u8 (q.ad.b 5), .int .u8 (q.ad.b 6), .int .u8 (q.ad.b 7), .int .u8 (q.ad.b 8), .int .u8 (q.ad.b 9), .int .u8 (q.ad.b 10), .int .u8 (q.ad.b 11), .int .u8 (q.ad.b 12), .int .u8 (q.ad.b 13), .int .u8 (q.ad.b 14), .int .u8 (q.ad.b 15), .int .i64 q.port] 86 0 0)] ++ pX p (pSettle { x with up := x.up.drop k }) y) ++ pR b nv (pSettle { x with up := x.up.drop k })) rfl fnc99 rfl rfl (fun w1 hm1 => by
          have hm2 := hm1.perm (L' := ([(k5, Blk.c [.int .i64 q.kind, .int .i64 q.n, .string q.data, .bool q.ad.v6, .int .u8 (q.ad.b 0), .int .u8 (q.ad.b 1), .int .u8 (q.ad.b 2), .int .u8 (q.ad.b 3), .int .u8 (q.ad.b 4), .int .u8 (q.ad.b 5), .int .u8 (q.ad.b 6), .int .u8 (q.ad.b 7), .int .u8 (q.ad.b 8), .int .u8 (q.ad.b 9), .int .u8 (q.ad.b 10), .int .u8 (q.ad.b 11), .int .u8 (q.ad.b 12), .int .u8 (q.ad.b 13), .int .u8 (q.ad.b 14), .int .u8 (q.ad.b 15), .int .i64 q.port] 86 0 0)] ++ pX p (pSettle { x with up := x.up.drop k }) y) ++ pR b nv x) (perm_swap [(k5, Blk.c [.int .i64 q.kind, .int .i64 q.n, .string q.data, .bool q.ad.v6, .int .u8 (q.ad.b 0), .int .u8 (q.ad.b 1), .int .u8 (q.ad.b 2), .int .u8 (q.ad.b 3), .int .u8 (q.ad.b 4), .int .u8 (q.ad.b 5), .int .u8 (q.ad.b 6), .int .u8 (q.ad.b 7), .int .u8 (q.ad.b 8), .int .u8 (q.ad.b 9), .int .u8 (q.ad.b 10), .int .u8 (q.ad.b 11), .int .u8 (q.ad.b 12), .int .u8 (q.ad.b 13), .int .u8 (q.ad.b 14), .int .u8 (q.ad.b 15), .int .i64 q.port] 86 0 0)] (pX p (pSettle { x with up := x.up.drop k }) y) (pR b nv x))
          exact RC.use (ToRemoteR_any b nv x hs4 q.n hn0 k hkn' hx.s0.small) hm2) (fun _ _ => ?_)
      refine zh_oned (by rfl) (by simp) ?_
      refine zh_take 8 (by kernel_rfl) rfl (by kernel_rfl) (by kernel_rfl) ?_ (by simp); (repeat (first | (refine sn ?_) | (refine stx ?_) | (refine sb ?_))); refine zh_took (by rfl) ?_
      refine zh_take 9 (by kernel_rfl) rfl (by kernel_rfl) (by kernel_rfl) ?_ (by simp); (repeat (first | (refine sn ?_) | (refine stx ?_) | (refine sb ?_))); refine zh_took (by rfl) ?_
      refine zh_end (by rfl) (by kernel_rfl) ?_
      repeat (first | (refine st ?_) | (refine stx ?_) | (refine sb ?_) | (intro _))
      refine z_ret1 tab_ok Try.func49 hb hk Try.results49 (.tmp rfl) (fun w hm => ?_)
      exact ⟨((pSettle { x with up := x.up.drop k }), y), hy, hx.toR k, by first | rfl | simp, hm.weaken (fun _ h => h) (List.Sublist.cons _ (List.Sublist.refl _))⟩
    · repeat (first | (refine sn ?_) | (refine stx ?_) | (refine sb ?_) | (intro _))
      refine z_regionH [(k5, Blk.c [.int .i64 q.kind, .int .i64 q.n, .string q.data, .bool q.ad.v6, .int .u8 (q.ad.b 0), .int .u8 (q.ad.b 1), .int .u8 (q.ad.b 2), .int .u8 (q.ad.b 3), .int .u8 (q.ad.b 4), .int .u8 (q.ad.b 5), .int .u8 (q.ad.b 6), .int .u8 (q.ad.b 7), .int .u8 (q.ad.b 8), .int .u8 (q.ad.b 9), .int .u8 (q.ad.b 10), .int .u8 (q.ad.b 11), .int .u8 (q.ad.b 12), .int .u8 (q.ad.b 13), .int .u8 (q.ad.b 14), .int .u8 (q.ad.b 15), .int .i64 q.port] 86 0 0)] (by rfl) follows_mixed (List.sublist_append_left [_] _) (m := 10) rfl ?_
      refine zh_take 0 (by kernel_rfl) rfl (by kernel_rfl) (by kernel_rfl) ?_ (by simp); (repeat (first | (refine sn ?_) | (refine stx ?_) | (refine sb ?_))); refine zh_took (by rfl) ?_
      refine zh_take 1 (by kernel_rfl) rfl (by kernel_rfl) (by kernel_rfl) ?_ (by simp); (repeat (first | (refine sn ?_) | (refine stx ?_) | (refine sb ?_))); refine zh_took (by rfl) ?_
      refine zh_take 2 (by kernel_rfl) rfl (by kernel_rfl) (by kernel_rfl) ?_ (by simp); (repeat (first | (refine sn ?_) | (refine stx ?_) | (refine sb ?_))); refine zh_took (by rfl) ?_
      refine zh_take 4 (by kernel_rfl) rfl (by kernel_rfl) (by kernel_rfl) ?_ (by simp); (repeat (first | (refine sn ?_) | (refine stx ?_) | (refine sb ?_))); refine zh_took (by rfl) ?_
      refine zh_take 5 (by kernel_rfl) rfl (by kernel_rfl) (by kernel_rfl) ?_ (by simp); (repeat (first | (refine sn ?_) | (refine stx ?_) | (refine sb ?_))); refine zh_took (by rfl) ?_
      refine zh_take 6 (by kernel_rfl) rfl (by kernel_rfl) (by kernel_rfl) ?_ (by simp); (repeat (first | (refine sn ?_) | (refine stx ?_) | (refine sb ?_))); refine zh_took (by rfl) ?_
      refine zh_one 3 rfl (by kernel_rfl) ?_
      refine zx_call (Y := Own × Own) (v := fun _ => .string noX) (Φ := fun y => okX (x) y) (L' := fun y => ([(k5, Blk.c [.int .i64 q.kind, .int .i64 q.n, .string q.data, .bool q.ad.v6, .int .u8 (q.ad.b 0), .int .u8 (q.ad.b 1), .int .u8 (q.ad.b 2), .int .u8 (q.ad.b 3), .int .u8 (q.ad.b 4), .int .u8 (q.ad.b 5), .int .u8 (q.ad.b 6), .int .u8 (q.ad.b 7), .int .u8 (q.ad.b 8), .int .u8 (q.ad.b 9), .int .u8 (q.ad.b 10), .int .u8 (q.ad.b 11), .int .u8 (q.ad.b 12), .int .u8 (q.ad.b 13), .int .u8 (q.ad.b 14), .int .u8 (q.ad.b 15), .int .i64 q.port] 86 0 0)] ++ pR b nv x) ++ pX p (x) y) rfl fnc45 rfl rfl (fun w1 hm1 => by
          have hm2 := hm1.perm (L' := ([(k5, Blk.c [.int .i64 q.kind, .int .i64 q.n, .string q.data, .bool q.ad.v6, .int .u8 (q.ad.b 0), .int .u8 (q.ad.b 1), .int .u8 (q.ad.b 2), .int .u8 (q.ad.b 3), .int .u8 (q.ad.b 4), .int .u8 (q.ad.b 5), .int .u8 (q.ad.b 6), .int .u8 (q.ad.b 7), .int .u8 (q.ad.b 8), .int .u8 (q.ad.b 9), .int .u8 (q.ad.b 10), .int .u8 (q.ad.b 11), .int .u8 (q.ad.b 12), .int .u8 (q.ad.b 13), .int .u8 (q.ad.b 14), .int .u8 (q.ad.b 15), .int .i64 q.port] 86 0 0)] ++ pR b nv x) ++ pX p x o) (perm_swap [(k5, Blk.c [.int .i64 q.kind, .int .i64 q.n, .string q.data, .bool q.ad.v6, .int .u8 (q.ad.b 0), .int .u8 (q.ad.b 1), .int .u8 (q.ad.b 2), .int .u8 (q.ad.b 3), .int .u8 (q.ad.b 4), .int .u8 (q.ad.b 5), .int .u8 (q.ad.b 6), .int .u8 (q.ad.b 7), .int .u8 (q.ad.b 8), .int .u8 (q.ad.b 9), .int .u8 (q.ad.b 10), .int .u8 (q.ad.b 11), .int .u8 (q.ad.b 12), .int .u8 (q.ad.b 13), .int .u8 (q.ad.b 14), .int .u8 (q.ad.b 15), .int .i64 q.port] 86 0 0)] (pR b nv x) (pX p x o))
          exact PC.use (ToRemote_not p x hs4 q.n) hok hm2) (fun y hy => ?_)
      refine zh_oned (by rfl) (by simp) ?_
      refine zh_one 7 rfl (by kernel_rfl) ?_
      refine zx_call (Y := Unit) (v := fun _ => .string noX) (Φ := fun _ => True) (L' := fun _ => ([(k5, Blk.c [.int .i64 q.kind, .int .i64 q.n, .string q.data, .bool q.ad.v6, .int .u8 (q.ad.b 0), .int .u8 (q.ad.b 1), .int .u8 (q.ad.b 2), .int .u8 (q.ad.b 3), .int .u8 (q.ad.b 4), .int .u8 (q.ad.b 5), .int .u8 (q.ad.b 6), .int .u8 (q.ad.b 7), .int .u8 (q.ad.b 8), .int .u8 (q.ad.b 9), .int .u8 (q.ad.b 10), .int .u8 (q.ad.b 11), .int .u8 (q.ad.b 12), .int .u8 (q.ad.b 13), .int .u8 (q.ad.b 14), .int .u8 (q.ad.b 15), .int .i64 q.port] 86 0 0)] ++ pX p (x) y) ++ pR b nv (x)) rfl fnc99 rfl rfl (fun w1 hm1 => by
          have hm2 := hm1.perm (L' := ([(k5, Blk.c [.int .i64 q.kind, .int .i64 q.n, .string q.data, .bool q.ad.v6, .int .u8 (q.ad.b 0), .int .u8 (q.ad.b 1), .int .u8 (q.ad.b 2), .int .u8 (q.ad.b 3), .int .u8 (q.ad.b 4), .int .u8 (q.ad.b 5), .int .u8 (q.ad.b 6), .int .u8 (q.ad.b 7), .int .u8 (q.ad.b 8), .int .u8 (q.ad.b 9), .int .u8 (q.ad.b 10), .int .u8 (q.ad.b 11), .int .u8 (q.ad.b 12), .int .u8 (q.ad.b 13), .int .u8 (q.ad.b 14), .int .u8 (q.ad.b 15), .int .i64 q.port] 86 0 0)] ++ pX p (x) y) ++ pR b nv x) (perm_swap [(k5, Blk.c [.int .i64 q.kind, .int .i64 q.n, .string q.data, .bool q.ad.v6, .int .u8 (q.ad.b 0), .int .u8 (q.ad.b 1), .int .u8 (q.ad.b 2), .int .u8 (q.ad.b 3), .int .u8 (q.ad.b 4), .int .u8 (q.ad.b 5), .int .u8 (q.ad.b 6), .int .u8 (q.ad.b 7), .int .u8 (q.ad.b 8), .int .u8 (q.ad.b 9), .int .u8 (q.ad.b 10), .int .u8 (q.ad.b 11), .int .u8 (q.ad.b 12), .int .u8 (q.ad.b 13), .int .u8 (q.ad.b 14), .int .u8 (q.ad.b 15), .int .i64 q.port] 86 0 0)] (pX p (x) y) (pR b nv x))
          exact RC.use (ToRemoteR_not b nv x hs4 q.n hn0) hm2) (fun _ _ => ?_)
      refine zh_oned (by rfl) (by simp) ?_
      refine zh_take 8 (by kernel_rfl) rfl (by kernel_rfl) (by kernel_rfl) ?_ (by simp); (repeat (first | (refine sn ?_) | (refine stx ?_) | (refine sb ?_))); refine zh_took (by rfl) ?_
      refine zh_take 9 (by kernel_rfl) rfl (by kernel_rfl) (by kernel_rfl) ?_ (by simp); (repeat (first | (refine sn ?_) | (refine stx ?_) | (refine sb ?_))); refine zh_took (by rfl) ?_
      refine zh_end (by rfl) (by kernel_rfl) ?_
      repeat (first | (refine st ?_) | (refine stx ?_) | (refine sb ?_) | (intro _))
      refine z_ret1 tab_ok Try.func49 hb hk Try.results49 (.tmp rfl) (fun w hm => ?_)
      exact ⟨((x), y), hy, hx, by first | rfl | simp, hm.weaken (fun _ h => h) (List.Sublist.cons _ (List.Sublist.refl _))⟩
  · have hP : PC 45 [fP p 0, .int .i64 q.n] p x x (.string noX) := by
      by_cases hs4 : x.state = 4
      · have hkn : ((0 : Nat) : Int) = min (max q.n 0) x.up.length := by omega
        have hT := ToRemote_any p x hs4 q.n 0 hkn (by omega)
        have hsx : pSettle { x with up := x.up.drop 0 } = x := settle_same hx.live
        rw [hsx] at hT
        exact hT
      · exact ToRemote_not p x hs4 q.n
    repeat (first | (refine sn ?_) | (refine stx ?_) | (refine sb ?_) | (intro _))
    refine z_regionH [(k5, Blk.c [.int .i64 q.kind, .int .i64 q.n, .string q.data, .bool q.ad.v6, .int .u8 (q.ad.b 0), .int .u8 (q.ad.b 1), .int .u8 (q.ad.b 2), .int .u8 (q.ad.b 3), .int .u8 (q.ad.b 4), .int .u8 (q.ad.b 5), .int .u8 (q.ad.b 6), .int .u8 (q.ad.b 7), .int .u8 (q.ad.b 8), .int .u8 (q.ad.b 9), .int .u8 (q.ad.b 10), .int .u8 (q.ad.b 11), .int .u8 (q.ad.b 12), .int .u8 (q.ad.b 13), .int .u8 (q.ad.b 14), .int .u8 (q.ad.b 15), .int .i64 q.port] 86 0 0)] (by rfl) follows_mixed (List.sublist_append_left [_] _) (m := 10) rfl ?_
    refine zh_take 0 (by kernel_rfl) rfl (by kernel_rfl) (by kernel_rfl) ?_ (by simp); (repeat (first | (refine sn ?_) | (refine stx ?_) | (refine sb ?_))); refine zh_took (by rfl) ?_
    refine zh_take 1 (by kernel_rfl) rfl (by kernel_rfl) (by kernel_rfl) ?_ (by simp); (repeat (first | (refine sn ?_) | (refine stx ?_) | (refine sb ?_))); refine zh_took (by rfl) ?_
    refine zh_take 2 (by kernel_rfl) rfl (by kernel_rfl) (by kernel_rfl) ?_ (by simp); (repeat (first | (refine sn ?_) | (refine stx ?_) | (refine sb ?_))); refine zh_took (by rfl) ?_
    refine zh_take 4 (by kernel_rfl) rfl (by kernel_rfl) (by kernel_rfl) ?_ (by simp); (repeat (first | (refine sn ?_) | (refine stx ?_) | (refine sb ?_))); refine zh_took (by rfl) ?_
    refine zh_take 5 (by kernel_rfl) rfl (by kernel_rfl) (by kernel_rfl) ?_ (by simp); (repeat (first | (refine sn ?_) | (refine stx ?_) | (refine sb ?_))); refine zh_took (by rfl) ?_
    refine zh_take 6 (by kernel_rfl) rfl (by kernel_rfl) (by kernel_rfl) ?_ (by simp); (repeat (first | (refine sn ?_) | (refine stx ?_) | (refine sb ?_))); refine zh_took (by rfl) ?_
    refine zh_one 3 rfl (by kernel_rfl) ?_
    refine zx_call (Y := Own × Own) (v := fun _ => .string noX) (Φ := fun y => okX (x) y) (L' := fun y => ([(k5, Blk.c [.int .i64 q.kind, .int .i64 q.n, .string q.data, .bool q.ad.v6, .int .u8 (q.ad.b 0), .int .u8 (q.ad.b 1), .int .u8 (q.ad.b 2), .int .u8 (q.ad.b 3), .int .u8 (q.ad.b 4), .int .u8 (q.ad.b 5), .int .u8 (q.ad.b 6), .int .u8 (q.ad.b 7), .int .u8 (q.ad.b 8), .int .u8 (q.ad.b 9), .int .u8 (q.ad.b 10), .int .u8 (q.ad.b 11), .int .u8 (q.ad.b 12), .int .u8 (q.ad.b 13), .int .u8 (q.ad.b 14), .int .u8 (q.ad.b 15), .int .i64 q.port] 86 0 0)] ++ pR b nv x) ++ pX p (x) y) rfl fnc45 rfl rfl (fun w1 hm1 => by
        have hm2 := hm1.perm (L' := ([(k5, Blk.c [.int .i64 q.kind, .int .i64 q.n, .string q.data, .bool q.ad.v6, .int .u8 (q.ad.b 0), .int .u8 (q.ad.b 1), .int .u8 (q.ad.b 2), .int .u8 (q.ad.b 3), .int .u8 (q.ad.b 4), .int .u8 (q.ad.b 5), .int .u8 (q.ad.b 6), .int .u8 (q.ad.b 7), .int .u8 (q.ad.b 8), .int .u8 (q.ad.b 9), .int .u8 (q.ad.b 10), .int .u8 (q.ad.b 11), .int .u8 (q.ad.b 12), .int .u8 (q.ad.b 13), .int .u8 (q.ad.b 14), .int .u8 (q.ad.b 15), .int .i64 q.port] 86 0 0)] ++ pR b nv x) ++ pX p x o) (perm_swap [(k5, Blk.c [.int .i64 q.kind, .int .i64 q.n, .string q.data, .bool q.ad.v6, .int .u8 (q.ad.b 0), .int .u8 (q.ad.b 1), .int .u8 (q.ad.b 2), .int .u8 (q.ad.b 3), .int .u8 (q.ad.b 4), .int .u8 (q.ad.b 5), .int .u8 (q.ad.b 6), .int .u8 (q.ad.b 7), .int .u8 (q.ad.b 8), .int .u8 (q.ad.b 9), .int .u8 (q.ad.b 10), .int .u8 (q.ad.b 11), .int .u8 (q.ad.b 12), .int .u8 (q.ad.b 13), .int .u8 (q.ad.b 14), .int .u8 (q.ad.b 15), .int .i64 q.port] 86 0 0)] (pR b nv x) (pX p x o))
        exact PC.use hP hok hm2) (fun y hy => ?_)
    refine zh_oned (by rfl) (by simp) ?_
    refine zh_one 7 rfl (by kernel_rfl) ?_
    refine zx_call (Y := Unit) (v := fun _ => .string noX) (Φ := fun _ => True) (L' := fun _ => ([(k5, Blk.c [.int .i64 q.kind, .int .i64 q.n, .string q.data, .bool q.ad.v6, .int .u8 (q.ad.b 0), .int .u8 (q.ad.b 1), .int .u8 (q.ad.b 2), .int .u8 (q.ad.b 3), .int .u8 (q.ad.b 4), .int .u8 (q.ad.b 5), .int .u8 (q.ad.b 6), .int .u8 (q.ad.b 7), .int .u8 (q.ad.b 8), .int .u8 (q.ad.b 9), .int .u8 (q.ad.b 10), .int .u8 (q.ad.b 11), .int .u8 (q.ad.b 12), .int .u8 (q.ad.b 13), .int .u8 (q.ad.b 14), .int .u8 (q.ad.b 15), .int .i64 q.port] 86 0 0)] ++ pX p (x) y) ++ pR b nv (x)) rfl fnc99 rfl rfl (fun w1 hm1 => by
        have hm2 := hm1.perm (L' := ([(k5, Blk.c [.int .i64 q.kind, .int .i64 q.n, .string q.data, .bool q.ad.v6, .int .u8 (q.ad.b 0), .int .u8 (q.ad.b 1), .int .u8 (q.ad.b 2), .int .u8 (q.ad.b 3), .int .u8 (q.ad.b 4), .int .u8 (q.ad.b 5), .int .u8 (q.ad.b 6), .int .u8 (q.ad.b 7), .int .u8 (q.ad.b 8), .int .u8 (q.ad.b 9), .int .u8 (q.ad.b 10), .int .u8 (q.ad.b 11), .int .u8 (q.ad.b 12), .int .u8 (q.ad.b 13), .int .u8 (q.ad.b 14), .int .u8 (q.ad.b 15), .int .i64 q.port] 86 0 0)] ++ pX p (x) y) ++ pR b nv x) (perm_swap [(k5, Blk.c [.int .i64 q.kind, .int .i64 q.n, .string q.data, .bool q.ad.v6, .int .u8 (q.ad.b 0), .int .u8 (q.ad.b 1), .int .u8 (q.ad.b 2), .int .u8 (q.ad.b 3), .int .u8 (q.ad.b 4), .int .u8 (q.ad.b 5), .int .u8 (q.ad.b 6), .int .u8 (q.ad.b 7), .int .u8 (q.ad.b 8), .int .u8 (q.ad.b 9), .int .u8 (q.ad.b 10), .int .u8 (q.ad.b 11), .int .u8 (q.ad.b 12), .int .u8 (q.ad.b 13), .int .u8 (q.ad.b 14), .int .u8 (q.ad.b 15), .int .i64 q.port] 86 0 0)] (pX p (x) y) (pR b nv x))
        exact RC.use (ToRemoteR_neg b nv x q.n (by omega)) hm2) (fun _ _ => ?_)
    refine zh_oned (by rfl) (by simp) ?_
    refine zh_take 8 (by kernel_rfl) rfl (by kernel_rfl) (by kernel_rfl) ?_ (by simp); (repeat (first | (refine sn ?_) | (refine stx ?_) | (refine sb ?_))); refine zh_took (by rfl) ?_
    refine zh_take 9 (by kernel_rfl) rfl (by kernel_rfl) (by kernel_rfl) ?_ (by simp); (repeat (first | (refine sn ?_) | (refine stx ?_) | (refine sb ?_))); refine zh_took (by rfl) ?_
    refine zh_end (by rfl) (by kernel_rfl) ?_
    repeat (first | (refine st ?_) | (refine stx ?_) | (refine sb ?_) | (intro _))
    refine z_ret1 tab_ok Try.func49 hb hk Try.results49 (.tmp rfl) (fun w hm => ?_)
    exact ⟨((x), y), hy, hx, by first | rfl | simp, hm.weaken (fun _ h => h) (List.Sublist.cons _ (List.Sublist.refl _))⟩
theorem does_6 (p b : Nat) (na : Option Addr) (ncap : Nat) (ns : List Nm) (nv nvp : Value) (hnv : nv = .slice na ns.length ncap) (x : Px) (q : Qo) (hq : q.ok) (o : Own × Own) (hok : okX x o) (hx : Sm x nvp) (w : World) (h : Mem w ((pX p x o ++ pR b nv x).map (·.1)) (pX p x o ++ pR b nv x) w) (hnp : NmAt w ((pX p x o ++ pR b nv x).map (·.1)) x.names ns) (hnr : NmAt w ((pX p x o ++ pR b nv x).map (·.1)) nv ns) (hkd : q.kind.tmod 10 = 6) : Calls Try.prog 49 [fP p 0, fP b 0, .agg q.cells.toArray].toArray w fun e w' => ∃ g : Px × (Own × Own), okX g.1 g.2 ∧ Sm g.1 nvp ∧ e = .returned (.bool true) ∧ Mem w ((pX p x o ++ pR b nv x).map (·.1)) (pX p g.1 g.2 ++ pR b nv g.1) w' := by
  obtain ⟨hq1, hq2, hq3⟩ := hq
  have hu := hx.s0.ups
  have hd := hx.s0.downs
  have hgood : GoodN x := ⟨hx.s0.small, by omega, by omega, hx.s0.state⟩
  refine calls_of_z Try.func49 rfl Try.ntmps49 rfl h ?_; intro cs b' hb hk
  repeat (first | (refine st ?_) | (refine stx ?_) | (intro _))
  rename_i k5
  refine z_re 7 (.int .i64 6) rfl (congrArg _ hkd) ?_
  refine z_re 12 (.bool false) rfl (congrArg _ ((congrArg (fun r : Int => decide (r < 0)) hkd).trans rfl)) ?_
  repeat (first | (refine sn ?_) | (refine stx ?_) | (refine sb ?_) | (intro _))
  refine z_regionH [(k5, Blk.c [.int .i64 q.kind, .int .i64 q.n, .string q.data, .bool q.ad.v6, .int .u8 (q.ad.b 0), .int .u8 (q.ad.b 1), .int .u8 (q.ad.b 2), .int .u8 (q.ad.b 3), .int .u8 (q.ad.b 4), .int .u8 (q.ad.b 5), .int .u8 (q.ad.b 6), .int .u8 (q.ad.b 7), .int .u8 (q.ad.b 8), .int .u8 (q.ad.b 9), .int .u8 (q.ad.b 10), .int .u8 (q.ad.b 11), .int .u8 (q.ad.b 12), .int .u8 (q.ad.b 13), .int .u8 (q.ad.b 14), .int .u8 (q.ad.b 15), .int .i64 q.port] 86 0 0)] (by rfl) follows_mixed (List.sublist_append_left [_] _) (m := 16) rfl ?_
  refine zh_take 0 (by kernel_rfl) rfl (by kernel_rfl) (by kernel_rfl) ?_ (by simp); (repeat (first | (refine sn ?_) | (refine stx ?_) | (refine sb ?_))); refine zh_took (by rfl) ?_
  refine zh_take 1 (by kernel_rfl) rfl (by kernel_rfl) (by kernel_rfl) ?_ (by simp); (repeat (first | (refine sn ?_) | (refine stx ?_) | (refine sb ?_))); refine zh_took (by rfl) ?_
  refine zh_take 2 (by kernel_rfl) rfl (by kernel_rfl) (by kernel_rfl) ?_ (by simp); (repeat (first | (refine sn ?_) | (refine stx ?_) | (refine sb ?_))); refine zh_took (by rfl) ?_
  refine zh_take 3 (by kernel_rfl) rfl (by kernel_rfl) (by kernel_rfl) ?_ (by simp); (repeat (first | (refine sn ?_) | (refine stx ?_) | (refine sb ?_))); refine zh_took (by rfl) ?_
  refine zh_take 4 (by kernel_rfl) rfl (by kernel_rfl) (by kernel_rfl) ?_ (by simp); (repeat (first | (refine sn ?_) | (refine stx ?_) | (refine sb ?_))); refine zh_took (by rfl) ?_
  refine zh_take 7 (by kernel_rfl) rfl (by kernel_rfl) (by kernel_rfl) ?_ (by simp); (repeat (first | (refine sn ?_) | (refine stx ?_) | (refine sb ?_))); refine zh_took (by rfl) ?_
  refine zh_take 8 (by kernel_rfl) rfl (by kernel_rfl) (by kernel_rfl) ?_ (by simp); (repeat (first | (refine sn ?_) | (refine stx ?_) | (refine sb ?_))); refine zh_took (by rfl) ?_
  refine zh_take 9 (by kernel_rfl) rfl (by kernel_rfl) (by kernel_rfl) ?_ (by simp); (repeat (first | (refine sn ?_) | (refine stx ?_) | (refine sb ?_))); refine zh_took (by rfl) ?_
  refine zh_take 10 (by kernel_rfl) rfl (by kernel_rfl) (by kernel_rfl) ?_ (by simp); (repeat (first | (refine sn ?_) | (refine stx ?_) | (refine sb ?_))); refine zh_took (by rfl) ?_
  refine zh_take 11 (by kernel_rfl) rfl (by kernel_rfl) (by kernel_rfl) ?_ (by simp); (repeat (first | (refine sn ?_) | (refine stx ?_) | (refine sb ?_))); refine zh_took (by rfl) ?_
  refine zh_take 5 (by kernel_rfl) rfl (by kernel_rfl) (by kernel_rfl) ?_ (by simp)
  ((try (refine sg ?_)); (refine zx_call0 rfl fnc100 rfl rfl (fun w hm => code_any q.n hq2 w) ?_))
  refine zh_took (by rfl) ?_
  refine zh_one 6 rfl (by kernel_rfl) ?_
  refine zx_call (Y := Own × Own) (v := fun _ => .bool (pConnE x q.ad q.port (cd q.n)).2) (Φ := fun y => okX ((pConnE x q.ad q.port (cd q.n)).1) y) (L' := fun y => ([(k5, Blk.c [.int .i64 q.kind, .int .i64 q.n, .string q.data, .bool q.ad.v6, .int .u8 (q.ad.b 0), .int .u8 (q.ad.b 1), .int .u8 (q.ad.b 2), .int .u8 (q.ad.b 3), .int .u8 (q.ad.b 4), .int .u8 (q.ad.b 5), .int .u8 (q.ad.b 6), .int .u8 (q.ad.b 7), .int .u8 (q.ad.b 8), .int .u8 (q.ad.b 9), .int .u8 (q.ad.b 10), .int .u8 (q.ad.b 11), .int .u8 (q.ad.b 12), .int .u8 (q.ad.b 13), .int .u8 (q.ad.b 14), .int .u8 (q.ad.b 15), .int .i64 q.port] 86 0 0)] ++ pR b nv x) ++ pX p ((pConnE x q.ad q.port (cd q.n)).1) y) rfl fnc51 rfl rfl (fun w1 hm1 => by
      have hm2 := hm1.perm (L' := ([(k5, Blk.c [.int .i64 q.kind, .int .i64 q.n, .string q.data, .bool q.ad.v6, .int .u8 (q.ad.b 0), .int .u8 (q.ad.b 1), .int .u8 (q.ad.b 2), .int .u8 (q.ad.b 3), .int .u8 (q.ad.b 4), .int .u8 (q.ad.b 5), .int .u8 (q.ad.b 6), .int .u8 (q.ad.b 7), .int .u8 (q.ad.b 8), .int .u8 (q.ad.b 9), .int .u8 (q.ad.b 10), .int .u8 (q.ad.b 11), .int .u8 (q.ad.b 12), .int .u8 (q.ad.b 13), .int .u8 (q.ad.b 14), .int .u8 (q.ad.b 15), .int .i64 q.port] 86 0 0)] ++ pR b nv x) ++ pX p x o) (perm_swap [(k5, Blk.c [.int .i64 q.kind, .int .i64 q.n, .string q.data, .bool q.ad.v6, .int .u8 (q.ad.b 0), .int .u8 (q.ad.b 1), .int .u8 (q.ad.b 2), .int .u8 (q.ad.b 3), .int .u8 (q.ad.b 4), .int .u8 (q.ad.b 5), .int .u8 (q.ad.b 6), .int .u8 (q.ad.b 7), .int .u8 (q.ad.b 8), .int .u8 (q.ad.b 9), .int .u8 (q.ad.b 10), .int .u8 (q.ad.b 11), .int .u8 (q.ad.b 12), .int .u8 (q.ad.b 13), .int .u8 (q.ad.b 14), .int .u8 (q.ad.b 15), .int .i64 q.port] 86 0 0)] (pR b nv x) (pX p x o))
      exact PC.use (ConnectedE_any p x q.ad q.port (cd q.n) (by omega)) hok hm2) (fun y hy => ?_)
  refine zh_oned (by rfl) (by simp) ?_
  refine zh_take 12 (by kernel_rfl) rfl (by kernel_rfl) (by kernel_rfl) ?_ (by simp)
  ((try (refine sg ?_)); (refine zx_call0 rfl fnc100 rfl rfl (fun w hm => code_any q.n hq2 w) ?_))
  refine zh_took (by rfl) ?_
  refine zh_one 13 rfl (by kernel_rfl) ?_
  refine zx_call (Y := Unit) (v := fun _ => .bool (pConnE x q.ad q.port (cd q.n)).2) (Φ := fun _ => True) (L' := fun _ => ([(k5, Blk.c [.int .i64 q.kind, .int .i64 q.n, .string q.data, .bool q.ad.v6, .int .u8 (q.ad.b 0), .int .u8 (q.ad.b 1), .int .u8 (q.ad.b 2), .int .u8 (q.ad.b 3), .int .u8 (q.ad.b 4), .int .u8 (q.ad.b 5), .int .u8 (q.ad.b 6), .int .u8 (q.ad.b 7), .int .u8 (q.ad.b 8), .int .u8 (q.ad.b 9), .int .u8 (q.ad.b 10), .int .u8 (q.ad.b 11), .int .u8 (q.ad.b 12), .int .u8 (q.ad.b 13), .int .u8 (q.ad.b 14), .int .u8 (q.ad.b 15), .int .i64 q.port] 86 0 0)] ++ pX p ((pConnE x q.ad q.port (cd q.n)).1) y) ++ pR b nv ((pConnE x q.ad q.port (cd q.n)).1)) rfl fnc101 rfl rfl (fun w1 hm1 => by
      have hm2 := hm1.perm (L' := ([(k5, Blk.c [.int .i64 q.kind, .int .i64 q.n, .string q.data, .bool q.ad.v6, .int .u8 (q.ad.b 0), .int .u8 (q.ad.b 1), .int .u8 (q.ad.b 2), .int .u8 (q.ad.b 3), .int .u8 (q.ad.b 4), .int .u8 (q.ad.b 5), .int .u8 (q.ad.b 6), .int .u8 (q.ad.b 7), .int .u8 (q.ad.b 8), .int .u8 (q.ad.b 9), .int .u8 (q.ad.b 10), .int .u8 (q.ad.b 11), .int .u8 (q.ad.b 12), .int .u8 (q.ad.b 13), .int .u8 (q.ad.b 14), .int .u8 (q.ad.b 15), .int .i64 q.port] 86 0 0)] ++ pX p ((pConnE x q.ad q.port (cd q.n)).1) y) ++ pR b nv x) (perm_swap [(k5, Blk.c [.int .i64 q.kind, .int .i64 q.n, .string q.data, .bool q.ad.v6, .int .u8 (q.ad.b 0), .int .u8 (q.ad.b 1), .int .u8 (q.ad.b 2), .int .u8 (q.ad.b 3), .int .u8 (q.ad.b 4), .int .u8 (q.ad.b 5), .int .u8 (q.ad.b 6), .int .u8 (q.ad.b 7), .int .u8 (q.ad.b 8), .int .u8 (q.ad.b 9), .int .u8 (q.ad.b 10), .int .u8 (q.ad.b 11), .int .u8 (q.ad.b 12), .int .u8 (q.ad.b 13), .int .u8 (q.ad.b 14), .int .u8 (q.ad.b 15), .int .i64 q.port] 86 0 0)] (pX p ((pConnE x q.ad q.port (cd q.n)).1) y) (pR b nv x))
      exact RC.use (ConnectedR_any b nv x q.ad q.port (cd q.n) (by omega)) hm2) (fun _ _ => ?_)
  refine zh_oned (by rfl) (by simp) ?_
  refine zh_take 14 (by kernel_rfl) rfl (by kernel_rfl) (by kernel_rfl) ?_ (by simp); (repeat (first | (refine sn ?_) | (refine stx ?_) | (refine sb ?_))); refine zh_took (by rfl) ?_
  refine zh_take 15 (by kernel_rfl) rfl (by kernel_rfl) (by kernel_rfl) ?_ (by simp); (repeat (first | (refine sn ?_) | (refine stx ?_) | (refine sb ?_))); refine zh_took (by rfl) ?_
  refine zh_end (by rfl) (by kernel_rfl) ?_
  repeat (first | (refine st ?_) | (refine stx ?_) | (refine sb ?_) | (intro _))
  refine z_ret1 tab_ok Try.func49 hb hk Try.results49 (.tmp rfl) (fun w hm => ?_)
  exact ⟨(((pConnE x q.ad q.port (cd q.n)).1), y), hy, hx.conn q.ad q.port (cd q.n), by first | rfl | simp, hm.weaken (fun _ h => h) (List.Sublist.cons _ (List.Sublist.refl _))⟩
theorem does_7 (p b : Nat) (na : Option Addr) (ncap : Nat) (ns : List Nm) (nv nvp : Value) (hnv : nv = .slice na ns.length ncap) (x : Px) (q : Qo) (hq : q.ok) (o : Own × Own) (hok : okX x o) (hx : Sm x nvp) (w : World) (h : Mem w ((pX p x o ++ pR b nv x).map (·.1)) (pX p x o ++ pR b nv x) w) (hnp : NmAt w ((pX p x o ++ pR b nv x).map (·.1)) x.names ns) (hnr : NmAt w ((pX p x o ++ pR b nv x).map (·.1)) nv ns) (hkd : q.kind.tmod 10 = 7) : Calls Try.prog 49 [fP p 0, fP b 0, .agg q.cells.toArray].toArray w fun e w' => ∃ g : Px × (Own × Own), okX g.1 g.2 ∧ Sm g.1 nvp ∧ e = .returned (.bool true) ∧ Mem w ((pX p x o ++ pR b nv x).map (·.1)) (pX p g.1 g.2 ++ pR b nv g.1) w' := by
  obtain ⟨hq1, hq2, hq3⟩ := hq
  have hu := hx.s0.ups
  have hd := hx.s0.downs
  have hgood : GoodN x := ⟨hx.s0.small, by omega, by omega, hx.s0.state⟩
  refine calls_of_z Try.func49 rfl Try.ntmps49 rfl h ?_; intro cs b' hb hk
  repeat (first | (refine st ?_) | (refine stx ?_) | (intro _))
  rename_i k5
  refine z_re 7 (.int .i64 7) rfl (congrArg _ hkd) ?_
  refine z_re 12 (.bool false) rfl (congrArg _ ((congrArg (fun r : Int => decide (r < 0)) hkd).trans rfl)) ?_
  repeat (first | (refine st ?_) | (refine stx ?_) | (refine sb ?_) | (intro _))
  refine zx_call (Y := Own × Own) (v := fun _ => .tuple #[]) (Φ := fun y => okX (pSettle (if x.state < 3 then pDone { x with cOver := true } else { x with cOver := true })) y) (L' := fun y => ([(k5, Blk.c [.int .i64 q.kind, .int .i64 q.n, .string q.data, .bool q.ad.v6, .int .u8 (q.ad.b 0), .int .u8 (q.ad.b 1), .int .u8 (q.ad.b 2), .int .u8 (q.ad.b 3), .int .u8 (q.ad.b 4), .int .u8 (q.ad.b 5), .int .u8 (q.ad.b 6), .int .u8 (q.ad.b 7), .int .u8 (q.ad.b 8), .int .u8 (q.ad.b 9), .int .u8 (q.ad.b 10), .int .u8 (q.ad.b 11), .int .u8 (q.ad.b 12), .int .u8 (q.ad.b 13), .int .u8 (q.ad.b 14), .int .u8 (q.ad.b 15), .int .i64 q.port] 86 0 0)] ++ pR b nv x) ++ pX p (pSettle (if x.state < 3 then pDone { x with cOver := true } else { x with cOver := true })) y) rfl fnc53 rfl rfl (fun w1 hm1 => by
      have hm2 := hm1.perm (L' := ([(k5, Blk.c [.int .i64 q.kind, .int .i64 q.n, .string q.data, .bool q.ad.v6, .int .u8 (q.ad.b 0), .int .u8 (q.ad.b 1), .int .u8 (q.ad.b 2), .int .u8 (q.ad.b 3), .int .u8 (q.ad.b 4), .int .u8 (q.ad.b 5), .int .u8 (q.ad.b 6), .int .u8 (q.ad.b 7), .int .u8 (q.ad.b 8), .int .u8 (q.ad.b 9), .int .u8 (q.ad.b 10), .int .u8 (q.ad.b 11), .int .u8 (q.ad.b 12), .int .u8 (q.ad.b 13), .int .u8 (q.ad.b 14), .int .u8 (q.ad.b 15), .int .i64 q.port] 86 0 0)] ++ pR b nv x) ++ pX p x o) (perm_swap [(k5, Blk.c [.int .i64 q.kind, .int .i64 q.n, .string q.data, .bool q.ad.v6, .int .u8 (q.ad.b 0), .int .u8 (q.ad.b 1), .int .u8 (q.ad.b 2), .int .u8 (q.ad.b 3), .int .u8 (q.ad.b 4), .int .u8 (q.ad.b 5), .int .u8 (q.ad.b 6), .int .u8 (q.ad.b 7), .int .u8 (q.ad.b 8), .int .u8 (q.ad.b 9), .int .u8 (q.ad.b 10), .int .u8 (q.ad.b 11), .int .u8 (q.ad.b 12), .int .u8 (q.ad.b 13), .int .u8 (q.ad.b 14), .int .u8 (q.ad.b 15), .int .i64 q.port] 86 0 0)] (pR b nv x) (pX p x o))
      exact PC.use (ClientEnd_any p x (by omega)) hok hm2) (fun y hy => ?_)
  repeat (first | (refine st ?_) | (refine stx ?_) | (refine sb ?_) | (intro _))
  refine zx_call (Y := Unit) (v := fun _ => .tuple #[]) (Φ := fun _ => True) (L' := fun _ => ([(k5, Blk.c [.int .i64 q.kind, .int .i64 q.n, .string q.data, .bool q.ad.v6, .int .u8 (q.ad.b 0), .int .u8 (q.ad.b 1), .int .u8 (q.ad.b 2), .int .u8 (q.ad.b 3), .int .u8 (q.ad.b 4), .int .u8 (q.ad.b 5), .int .u8 (q.ad.b 6), .int .u8 (q.ad.b 7), .int .u8 (q.ad.b 8), .int .u8 (q.ad.b 9), .int .u8 (q.ad.b 10), .int .u8 (q.ad.b 11), .int .u8 (q.ad.b 12), .int .u8 (q.ad.b 13), .int .u8 (q.ad.b 14), .int .u8 (q.ad.b 15), .int .i64 q.port] 86 0 0)] ++ pX p (pSettle (if x.state < 3 then pDone { x with cOver := true } else { x with cOver := true })) y) ++ pR b nv (pSettle (if x.state < 3 then pDone { x with cOver := true } else { x with cOver := true }))) rfl fnc102 rfl rfl (fun w1 hm1 => by
      have hm2 := hm1.perm (L' := ([(k5, Blk.c [.int .i64 q.kind, .int .i64 q.n, .string q.data, .bool q.ad.v6, .int .u8 (q.ad.b 0), .int .u8 (q.ad.b 1), .int .u8 (q.ad.b 2), .int .u8 (q.ad.b 3), .int .u8 (q.ad.b 4), .int .u8 (q.ad.b 5), .int .u8 (q.ad.b 6), .int .u8 (q.ad.b 7), .int .u8 (q.ad.b 8), .int .u8 (q.ad.b 9), .int .u8 (q.ad.b 10), .int .u8 (q.ad.b 11), .int .u8 (q.ad.b 12), .int .u8 (q.ad.b 13), .int .u8 (q.ad.b 14), .int .u8 (q.ad.b 15), .int .i64 q.port] 86 0 0)] ++ pX p (pSettle (if x.state < 3 then pDone { x with cOver := true } else { x with cOver := true })) y) ++ pR b nv x) (perm_swap [(k5, Blk.c [.int .i64 q.kind, .int .i64 q.n, .string q.data, .bool q.ad.v6, .int .u8 (q.ad.b 0), .int .u8 (q.ad.b 1), .int .u8 (q.ad.b 2), .int .u8 (q.ad.b 3), .int .u8 (q.ad.b 4), .int .u8 (q.ad.b 5), .int .u8 (q.ad.b 6), .int .u8 (q.ad.b 7), .int .u8 (q.ad.b 8), .int .u8 (q.ad.b 9), .int .u8 (q.ad.b 10), .int .u8 (q.ad.b 11), .int .u8 (q.ad.b 12), .int .u8 (q.ad.b 13), .int .u8 (q.ad.b 14), .int .u8 (q.ad.b 15), .int .i64 q.port] 86 0 0)] (pX p (pSettle (if x.state < 3 then pDone { x with cOver := true } else { x with cOver := true })) y) (pR b nv x))
      exact RC.use (ClientEndR_any b nv x) hm2) (fun _ _ => ?_)
  repeat (first | (refine st ?_) | (refine stx ?_) | (refine sb ?_) | (intro _))
  refine z_ret1 tab_ok Try.func49 hb hk Try.results49 (.tmp rfl) (fun w hm => ?_)
  exact ⟨((pSettle (if x.state < 3 then pDone { x with cOver := true } else { x with cOver := true })), y), hy, hx.endC, by first | rfl | simp, hm.weaken (fun _ h => h) (List.Sublist.cons _ (List.Sublist.refl _))⟩
theorem does_8 (p b : Nat) (na : Option Addr) (ncap : Nat) (ns : List Nm) (nv nvp : Value) (hnv : nv = .slice na ns.length ncap) (x : Px) (q : Qo) (hq : q.ok) (o : Own × Own) (hok : okX x o) (hx : Sm x nvp) (w : World) (h : Mem w ((pX p x o ++ pR b nv x).map (·.1)) (pX p x o ++ pR b nv x) w) (hnp : NmAt w ((pX p x o ++ pR b nv x).map (·.1)) x.names ns) (hnr : NmAt w ((pX p x o ++ pR b nv x).map (·.1)) nv ns) (hkd : q.kind.tmod 10 = 8) : Calls Try.prog 49 [fP p 0, fP b 0, .agg q.cells.toArray].toArray w fun e w' => ∃ g : Px × (Own × Own), okX g.1 g.2 ∧ Sm g.1 nvp ∧ e = .returned (.bool true) ∧ Mem w ((pX p x o ++ pR b nv x).map (·.1)) (pX p g.1 g.2 ++ pR b nv g.1) w' := by
  obtain ⟨hq1, hq2, hq3⟩ := hq
  have hu := hx.s0.ups
  have hd := hx.s0.downs
  have hgood : GoodN x := ⟨hx.s0.small, by omega, by omega, hx.s0.state⟩
  refine calls_of_z Try.func49 rfl Try.ntmps49 rfl h ?_; intro cs b' hb hk
  repeat (first | (refine st ?_) | (refine stx ?_) | (intro _))
  rename_i k5
  refine z_re 7 (.int .i64 8) rfl (congrArg _ hkd) ?_
  refine z_re 12 (.bool false) rfl (congrArg _ ((congrArg (fun r : Int => decide (r < 0)) hkd).trans rfl)) ?_
  repeat (first | (refine st ?_) | (refine stx ?_) | (refine sb ?_) | (intro _))
  refine zx_call (Y := Own × Own) (v := fun _ => .tuple #[]) (Φ := fun y => okX (if x.state = 4 then pSettle { x with rOver := true } else x) y) (L' := fun y => ([(k5, Blk.c [.int .i64 q.kind, .int .i64 q.n, .string q.data, .bool q.ad.v6, .int .u8 (q.ad.b 0), .int .u8 (q.ad.b 1), .int .u8 (q.ad.b 2), .int .u8 (q.ad.b 3), .int .u8 (q.ad.b 4), .int .u8 (q.ad.b 5), .int .u8 (q.ad.b 6), .int .u8 (q.ad.b 7), .int .u8 (q.ad.b 8), .int .u8 (q.ad.b 9), .int .u8 (q.ad.b 10), .int .u8 (q.ad.b 11), .int .u8 (q.ad.b 12), .int .u8 (q.ad.b 13), .int .u8 (q.ad.b 14), .int .u8 (q.ad.b 15), .int .i64 q.port] 86 0 0)] ++ pR b nv x) ++ pX p (if x.state = 4 then pSettle { x with rOver := true } else x) y) rfl fnc54 rfl rfl (fun w1 hm1 => by
      have hm2 := hm1.perm (L' := ([(k5, Blk.c [.int .i64 q.kind, .int .i64 q.n, .string q.data, .bool q.ad.v6, .int .u8 (q.ad.b 0), .int .u8 (q.ad.b 1), .int .u8 (q.ad.b 2), .int .u8 (q.ad.b 3), .int .u8 (q.ad.b 4), .int .u8 (q.ad.b 5), .int .u8 (q.ad.b 6), .int .u8 (q.ad.b 7), .int .u8 (q.ad.b 8), .int .u8 (q.ad.b 9), .int .u8 (q.ad.b 10), .int .u8 (q.ad.b 11), .int .u8 (q.ad.b 12), .int .u8 (q.ad.b 13), .int .u8 (q.ad.b 14), .int .u8 (q.ad.b 15), .int .i64 q.port] 86 0 0)] ++ pR b nv x) ++ pX p x o) (perm_swap [(k5, Blk.c [.int .i64 q.kind, .int .i64 q.n, .string q.data, .bool q.ad.v6, .int .u8 (q.ad.b 0), .int .u8 (q.ad.b 1), .int .u8 (q.ad.b 2), .int .u8 (q.ad.b 3), .int .u8 (q.ad.b 4), .int .u8 (q.ad.b 5), .int .u8 (q.ad.b 6), .int .u8 (q.ad.b 7), .int .u8 (q.ad.b 8), .int .u8 (q.ad.b 9), .int .u8 (q.ad.b 10), .int .u8 (q.ad.b 11), .int .u8 (q.ad.b 12), .int .u8 (q.ad.b 13), .int .u8 (q.ad.b 14), .int .u8 (q.ad.b 15), .int .i64 q.port] 86 0 0)] (pR b nv x) (pX p x o))
      exact PC.use (RemoteEnd_any p x (by omega)) hok hm2) (fun y hy => ?_)
  repeat (first | (refine st ?_) | (refine stx ?_) | (refine sb ?_) | (intro _))
  refine zx_call (Y := Unit) (v := fun _ => .tuple #[]) (Φ := fun _ => True) (L' := fun _ => ([(k5, Blk.c [.int .i64 q.kind, .int .i64 q.n, .string q.data, .bool q.ad.v6, .int .u8 (q.ad.b 0), .int .u8 (q.ad.b 1), .int .u8 (q.ad.b 2), .int .u8 (q.ad.b 3), .int .u8 (q.ad.b 4), .int .u8 (q.ad.b 5), .int .u8 (q.ad.b 6), .int .u8 (q.ad.b 7), .int .u8 (q.ad.b 8), .int .u8 (q.ad.b 9), .int .u8 (q.ad.b 10), .int .u8 (q.ad.b 11), .int .u8 (q.ad.b 12), .int .u8 (q.ad.b 13), .int .u8 (q.ad.b 14), .int .u8 (q.ad.b 15), .int .i64 q.port] 86 0 0)] ++ pX p (if x.state = 4 then pSettle { x with rOver := true } else x) y) ++ pR b nv (if x.state = 4 then pSettle { x with rOver := true } else x)) rfl fnc103 rfl rfl (fun w1 hm1 => by
      have hm2 := hm1.perm (L' := ([(k5, Blk.c [.int .i64 q.kind, .int .i64 q.n, .string q.data, .bool q.ad.v6, .int .u8 (q.ad.b 0), .int .u8 (q.ad.b 1), .int .u8 (q.ad.b 2), .int .u8 (q.ad.b 3), .int .u8 (q.ad.b 4), .int .u8 (q.ad.b 5), .int .u8 (q.ad.b 6), .int .u8 (q.ad.b 7), .int .u8 (q.ad.b 8), .int .u8 (q.ad.b 9), .int .u8 (q.ad.b 10), .int .u8 (q.ad.b 11), .int .u8 (q.ad.b 12), .int .u8 (q.ad.b 13), .int .u8 (q.ad.b 14), .int .u8 (q.ad.b 15), .int .i64 q.port] 86 0 0)] ++ pX p (if x.state = 4 then pSettle { x with rOver := true } else x) y) ++ pR b nv x) (perm_swap [(k5, Blk.c [.int .i64 q.kind, .int .i64 q.n, .string q.data, .bool q.ad.v6, .int .u8 (q.ad.b 0), .int .u8 (q.ad.b 1), .int .u8 (q.ad.b 2), .int .u8 (q.ad.b 3), .int .u8 (q.ad.b 4), .int .u8 (q.ad.b 5), .int .u8 (q.ad.b 6), .int .u8 (q.ad.b 7), .int .u8 (q.ad.b 8), .int .u8 (q.ad.b 9), .int .u8 (q.ad.b 10), .int .u8 (q.ad.b 11), .int .u8 (q.ad.b 12), .int .u8 (q.ad.b 13), .int .u8 (q.ad.b 14), .int .u8 (q.ad.b 15), .int .i64 q.port] 86 0 0)] (pX p (if x.state = 4 then pSettle { x with rOver := true } else x) y) (pR b nv x))
      exact RC.use (RemoteEndR_any b nv x) hm2) (fun _ _ => ?_)
  repeat (first | (refine st ?_) | (refine stx ?_) | (refine sb ?_) | (intro _))
  refine z_ret1 tab_ok Try.func49 hb hk Try.results49 (.tmp rfl) (fun w hm => ?_)
  exact ⟨((if x.state = 4 then pSettle { x with rOver := true } else x), y), hy, hx.endR, by first | rfl | simp, hm.weaken (fun _ h => h) (List.Sublist.cons _ (List.Sublist.refl _))⟩
theorem does_9 (p b : Nat) (na : Option Addr) (ncap : Nat) (ns : List Nm) (nv nvp : Value) (hnv : nv = .slice na ns.length ncap) (x : Px) (q : Qo) (hq : q.ok) (o : Own × Own) (hok : okX x o) (hx : Sm x nvp) (w : World) (h : Mem w ((pX p x o ++ pR b nv x).map (·.1)) (pX p x o ++ pR b nv x) w) (hnp : NmAt w ((pX p x o ++ pR b nv x).map (·.1)) x.names ns) (hnr : NmAt w ((pX p x o ++ pR b nv x).map (·.1)) nv ns) (hkd : q.kind.tmod 10 = 9) : Calls Try.prog 49 [fP p 0, fP b 0, .agg q.cells.toArray].toArray w fun e w' => ∃ g : Px × (Own × Own), okX g.1 g.2 ∧ Sm g.1 nvp ∧ e = .returned (.bool true) ∧ Mem w ((pX p x o ++ pR b nv x).map (·.1)) (pX p g.1 g.2 ++ pR b nv g.1) w' := by
  obtain ⟨hq1, hq2, hq3⟩ := hq
  have hu := hx.s0.ups
  have hd := hx.s0.downs
  have hgood : GoodN x := ⟨hx.s0.small, by omega, by omega, hx.s0.state⟩
  refine calls_of_z Try.func49 rfl Try.ntmps49 rfl h ?_; intro cs b' hb hk
  repeat (first | (refine st ?_) | (refine stx ?_) | (intro _))
  rename_i k5
  refine z_re 7 (.int .i64 9) rfl (congrArg _ hkd) ?_
  refine z_re 12 (.bool false) rfl (congrArg _ ((congrArg (fun r : Int => decide (r < 0)) hkd).trans rfl)) ?_
  repeat (first | (refine st ?_) | (refine stx ?_) | (refine sb ?_) | (intro _))
  refine z_ret1 tab_ok Try.func49 hb hk Try.results49 (.tmp rfl) (fun w hm => ?_)
  exact ⟨(x, o), hok, hx, rfl, hm.weaken (fun _ h => h) (List.Sublist.cons _ (List.Sublist.refl _))⟩
end Go.Proofs.Ytabcaiecoiejkaa
namespace Go.Proofs.Ytabcaiecoiejkaa
open Go K
theorem does_m9 (p b : Nat) (na : Option Addr) (ncap : Nat) (ns : List Nm) (nv nvp : Value) (hnv : nv = .slice na ns.length ncap) (x : Px) (q : Qo) (hq : q.ok) (o : Own × Own) (hok : okX x o) (hx : Sm x nvp) (w : World) (h : Mem w ((pX p x o ++ pR b nv x).map (·.1)) (pX p x o ++ pR b nv x) w) (hnp : NmAt w ((pX p x o ++ pR b nv x).map (·.1)) x.names ns) (hnr : NmAt w ((pX p x o ++ pR b nv x).map (·.1)) nv ns) (hkd : q.kind.tmod 10 = (-9)) : Calls Try.prog 49 [fP p 0, fP b 0, .agg q.cells.toArray].toArray w fun e w' => ∃ g : Px × (Own × Own), okX g.1 g.2 ∧ Sm g.1 nvp ∧ e = .returned (.bool true) ∧ Mem w ((pX p x o ++ pR b nv x).map (·.1)) (pX p g.1 g.2 ++ pR b nv g.1) w' := by
  obtain ⟨hq1, hq2, hq3⟩ := hq
  have hu := hx.s0.ups
  have hd := hx.s0.downs
  have hgood : GoodN x := ⟨hx.s0.small, by omega, by omega, hx.s0.state⟩
  refine calls_of_z Try.func49 rfl Try.ntmps49 rfl h ?_; intro cs b' hb hk
  repeat (first | (refine st ?_) | (refine stx ?_) | (intro _))
  rename_i k5
  refine z_re 7 (.int .i64 (-9)) rfl (congrArg _ hkd) ?_
  refine z_re 12 (.bool true) rfl (congrArg _ ((congrArg (fun r : Int => decide (r < 0)) hkd).trans rfl)) ?_
  repeat (first | (refine sn ?_) | (refine stx ?_) | (refine sb ?_) | (intro _))
  refine z_regionH [(k5, Blk.c [.int .i64 q.kind, .int .i64 q.n, .string q.data, .bool q.ad.v6, .int .u8 (q.ad.b 0), .int .u8 (q.ad.b 1), .int .u8 (q.ad.b 2), .int .u8 (q.ad.b 3), .int .u8 (q.ad.b 4), .int .u8 (q.ad.b 5), .int .u8 (q.ad.b 6), .int .u8 (q.ad.b 7), .int .u8 (q.ad.b 8), .int .u8 (q.ad.b 9), .int .u8 (q.ad.b 10), .int .u8 (q.ad.b 11), .int .u8 (q.ad.b 12), .int .u8 (q.ad.b 13), .int .u8 (q.ad.b 14), .int .u8 (q.ad.b 15), .int .i64 q.port] 86 0 0)] (by rfl) follows_mixed (List.sublist_append_left [_] _) (m := 10) rfl ?_
  refine zh_take 0 (by kernel_rfl) rfl (by kernel_rfl) (by kernel_rfl) ?_ (by simp); (repeat (first | (refine sn ?_) | (refine stx ?_) | (refine sb ?_))); refine zh_took (by rfl) ?_
  refine zh_take 1 (by kernel_rfl) rfl (by kernel_rfl) (by kernel_rfl) ?_ (by simp); (repeat (first | (refine sn ?_) | (refine stx ?_) | (refine sb ?_))); refine zh_took (by rfl) ?_
  refine zh_take 2 (by kernel_rfl) rfl (by kernel_rfl) (by kernel_rfl) ?_ (by simp); (repeat (first | (refine sn ?_) | (refine stx ?_) | (refine sb ?_))); refine zh_took (by rfl) ?_
  refine zh_take 4 (by kernel_rfl) rfl (by kernel_rfl) (by kernel_rfl) ?_ (by simp); (repeat (first | (refine sn ?_) | (refine stx ?_) | (refine sb ?_))); refine zh_took (by rfl) ?_
  refine zh_take 5 (by kernel_rfl) rfl (by kernel_rfl) (by kernel_rfl) ?_ (by simp); (repeat (first | (refine sn ?_) | (refine stx ?_) | (refine sb ?_))); refine zh_took (by rfl) ?_
  refine zh_take 6 (by kernel_rfl) rfl (by kernel_rfl) (by kernel_rfl) ?_ (by simp); (repeat (first | (refine sn ?_) | (refine stx ?_) | (refine sb ?_))); refine zh_took (by rfl) ?_
  refine zh_one 3 rfl (by kernel_rfl) ?_
  refine zx_call (Y := Own × Own) (v := fun _ => .int .i64 (pClientN ns x q.data).2) (Φ := fun y => okX ((pClientN ns x q.data).1) y) (L' := fun y => ([(k5, Blk.c [.int .i64 q.kind, .int .i64 q.n, .string q.data, .bool q.ad.v6, .int .u8 (q.ad.b 0), .int .u8 (q.ad.b 1), .int .u8 (q.ad.b 2), .int .u8 (q.ad.b 3), .int .u8 (q.ad.b 4), .int .u8 (q.ad.b 5), .int .u8 (q.ad.b 6), .int .u8 (q.ad.b 7), .int .u8 (q.ad.b 8), .int .u8 (q.ad.b 9), .int .u8 (q.ad.b 10), .int .u8 (q.ad.b 11), .int .u8 (q.ad.b 12), .int .u8 (q.ad.b 13), .int .u8 (q.ad.b 14), .int .u8 (q.ad.b 15), .int .i64 q.port] 86 0 0)] ++ pR b nv x) ++ pX p ((pClientN ns x q.data).1) y) rfl fnc38 rfl rfl (fun w1 hm1 => by
      have hm2 := hm1.perm (L' := ([(k5, Blk.c [.int .i64 q.kind, .int .i64 q.n, .string q.data, .bool q.ad.v6, .int .u8 (q.ad.b 0), .int .u8 (q.ad.b 1), .int .u8 (q.ad.b 2), .int .u8 (q.ad.b 3), .int .u8 (q.ad.b 4), .int .u8 (q.ad.b 5), .int .u8 (q.ad.b 6), .int .u8 (q.ad.b 7), .int .u8 (q.ad.b 8), .int .u8 (q.ad.b 9), .int .u8 (q.ad.b 10), .int .u8 (q.ad.b 11), .int .u8 (q.ad.b 12), .int .u8 (q.ad.b 13), .int .u8 (q.ad.b 14), .int .u8 (q.ad.b 15), .int .i64 q.port] 86 0 0)] ++ pR b nv x) ++ pX p x o) (perm_swap [(k5, Blk.c [.int .i64 q.kind, .int .i64 q.n, .string q.data, .bool q.ad.v6, .int .u8 (q.ad.b 0), .int .u8 (q.ad.b 1), .int .u8 (q.ad.b 2), .int .u8 (q.ad.b 3), .int .u8 (q.ad.b 4), .int .u8 (q.ad.b 5), .int .u8 (q.ad.b 6), .int .u8 (q.ad.b 7), .int .u8 (q.ad.b 8), .int .u8 (q.ad.b 9), .int .u8 (q.ad.b 10), .int .u8 (q.ad.b 11), .int .u8 (q.ad.b 12), .int .u8 (q.ad.b 13), .int .u8 (q.ad.b 14), .int .u8 (q.ad.b 15), .int .i64 q.port] 86 0 0)] (pR b nv x) (pX p x o))
      exact PN.use (FromClientN_any ns p x q.data hgood hq3) hok hm2 (hnp.step hm2 (mem_last _ _))) (fun y hy => ?_)
  refine zh_oned (by rfl) (by simp) ?_
  refine zh_one 7 rfl (by kernel_rfl) ?_
  refine zx_call (Y := Unit) (v := fun _ => .int .i64 (pClientN ns x q.data).2) (Φ := fun _ => True) (L' := fun _ => ([(k5, Blk.c [.int .i64 q.kind, .int .i64 q.n, .string q.data, .bool q.ad.v6, .int .u8 (q.ad.b 0), .int .u8 (q.ad.b 1), .int .u8 (q.ad.b 2), .int .u8 (q.ad.b 3), .int .u8 (q.ad.b 4), .int .u8 (q.ad.b 5), .int .u8 (q.ad.b 6), .int .u8 (q.ad.b 7), .int .u8 (q.ad.b 8), .int .u8 (q.ad.b 9), .int .u8 (q.ad.b 10), .int .u8 (q.ad.b 11), .int .u8 (q.ad.b 12), .int .u8 (q.ad.b 13), .int .u8 (q.ad.b 14), .int .u8 (q.ad.b 15), .int .i64 q.port] 86 0 0)] ++ pX p ((pClientN ns x q.data).1) y) ++ pR b nv ((pClientN ns x q.data).1)) rfl fnc96 rfl rfl (fun w1 hm1 => by
      have hm2 := hm1.perm (L' := ([(k5, Blk.c [.int .i64 q.kind, .int .i64 q.n, .string q.data, .bool q.ad.v6, .int .u8 (q.ad.b 0), .int .u8 (q.ad.b 1), .int .u8 (q.ad.b 2), .int .u8 (q.ad.b 3), .int .u8 (q.ad.b 4), .int .u8 (q.ad.b 5), .int .u8 (q.ad.b 6), .int .u8 (q.ad.b 7), .int .u8 (q.ad.b 8), .int .u8 (q.ad.b 9), .int .u8 (q.ad.b 10), .int .u8 (q.ad.b 11), .int .u8 (q.ad.b 12), .int .u8 (q.ad.b 13), .int .u8 (q.ad.b 14), .int .u8 (q.ad.b 15), .int .i64 q.port] 86 0 0)] ++ pX p ((pClientN ns x q.data).1) y) ++ pR b nv x) (perm_swap [(k5, Blk.c [.int .i64 q.kind, .int .i64 q.n, .string q.data, .bool q.ad.v6, .int .u8 (q.ad.b 0), .int .u8 (q.ad.b 1), .int .u8 (q.ad.b 2), .int .u8 (q.ad.b 3), .int .u8 (q.ad.b 4), .int .u8 (q.ad.b 5), .int .u8 (q.ad.b 6), .int .u8 (q.ad.b 7), .int .u8 (q.ad.b 8), .int .u8 (q.ad.b 9), .int .u8 (q.ad.b 10), .int .u8 (q.ad.b 11), .int .u8 (q.ad.b 12), .int .u8 (q.ad.b 13), .int .u8 (q.ad.b 14), .int .u8 (q.ad.b 15), .int .i64 q.port] 86 0 0)] (pX p ((pClientN ns x q.data).1) y) (pR b nv x))
      exact RCN.use (FromClientR_any b na ncap ns nv hnv x q.data hq3 hx.s0.small hx.s0.ups (by omega) hx.s0.state) hm2 (hnr.step hm2 (mem_last _ (pR b nv x)))) (fun _ _ => ?_)
  refine zh_oned (by rfl) (by simp) ?_
  refine zh_take 8 (by kernel_rfl) rfl (by kernel_rfl) (by kernel_rfl) ?_ (by simp); (repeat (first | (refine sn ?_) | (refine stx ?_) | (refine sb ?_))); refine zh_took (by rfl) ?_
  refine zh_take 9 (by kernel_rfl) rfl (by kernel_rfl) (by kernel_rfl) ?_ (by simp); (repeat (first | (refine sn ?_) | (refine stx ?_) | (refine sb ?_))); refine zh_took (by rfl) ?_
  refine zh_end (by rfl) (by kernel_rfl) ?_
  repeat (first | (refine st ?_) | (refine stx ?_) | (refine sb ?_) | (intro _))
  refine z_ret1 tab_ok Try.func49 hb hk Try.results49 (.tmp rfl) (fun w hm => ?_)
  exact ⟨(((pClientN ns x q.data).1), y), hy, hx.client ns q.data, by first | rfl | simp, hm.weaken (fun _ h => h) (List.Sublist.cons _ (List.Sublist.refl _))⟩
theorem does_m8 (p b : Nat) (na : Option Addr) (ncap : Nat) (ns : List Nm) (nv nvp : Value) (hnv : nv = .slice na ns.length ncap) (x : Px) (q : Qo) (hq : q.ok) (o : Own × Own) (hok : okX x o) (hx : Sm x nvp) (w : World) (h : Mem w ((pX p x o ++ pR b nv x).map (·.1)) (pX p x o ++ pR b nv x) w) (hnp : NmAt w ((pX p x o ++ pR b nv x).map (·.1)) x.names ns) (hnr : NmAt w ((pX p x o ++ pR b nv x).map (·.1)) nv ns) (hkd : q.kind.tmod 10 = (-8)) : Calls Try.prog 49 [fP p 0, fP b 0, .agg q.cells.toArray].toArray w fun e w' => ∃ g : Px × (Own × Own), okX g.1 g.2 ∧ Sm g.1 nvp ∧ e = .returned (.bool true) ∧ Mem w ((pX p x o ++ pR b nv x).map (·.1)) (pX p g.1 g.2 ++ pR b nv g.1) w' := by
  obtain ⟨hq1, hq2, hq3⟩ := hq
  have hu := hx.s0.ups
  have hd := hx.s0.downs
  have hgood : GoodN x := ⟨hx.s0.small, by omega, by omega, hx.s0.state⟩
  refine calls_of_z Try.func49 rfl Try.ntmps49 rfl h ?_; intro cs b' hb hk
  repeat (first | (refine st ?_) | (refine stx ?_) | (intro _))
  rename_i k5
  refine z_re 7 (.int .i64 (-8)) rfl (congrArg _ hkd) ?_
  refine z_re 12 (.bool true) rfl (congrArg _ ((congrArg (fun r : Int => decide (r < 0)) hkd).trans rfl)) ?_
  repeat (first | (refine sn ?_) | (refine stx ?_) | (refine sb ?_) | (intro _))
  refine z_regionH [(k5, Blk.c [.int .i64 q.kind, .int .i64 q.n, .string q.data, .bool q.ad.v6, .int .u8 (q.ad.b 0), .int .u8 (q.ad.b 1), .int .u8 (q.ad.b 2), .int .u8 (q.ad.b 3), .int .u8 (q.ad.b 4), .int .u8 (q.ad.b 5), .int .u8 (q.ad.b 6), .int .u8 (q.ad.b 7), .int .u8 (q.ad.b 8), .int .u8 (q.ad.b 9), .int .u8 (q.ad.b 10), .int .u8 (q.ad.b 11), .int .u8 (q.ad.b 12), .int .u8 (q.ad.b 13), .int .u8 (q.ad.b 14), .int .u8 (q.ad.b 15), .int .i64 q.port] 86 0 0)] (by rfl) follows_mixed (List.sublist_append_left [_] _) (m := 10) rfl ?_
  refine zh_take 0 (by kernel_rfl) rfl (by kernel_rfl) (by kernel_rfl) ?_ (by simp); (repeat (first | (refine sn ?_) | (refine stx ?_) | (refine sb ?_))); refine zh_took (by rfl) ?_
  refine zh_take 1 (by kernel_rfl) rfl (by kernel_rfl) (by kernel_rfl) ?_ (by simp); (repeat (first | (refine sn ?_) | (refine stx ?_) | (refine sb ?_))); refine zh_took (by rfl) ?_
  refine zh_take 2 (by kernel_rfl) rfl (by kernel_rfl) (by kernel_rfl) ?_ (by simp); (repeat (first | (refine sn ?_) | (refine stx ?_) | (refine sb ?_))); refine zh_took (by rfl) ?_
  refine zh_take 4 (by kernel_rfl) rfl (by kernel_rfl) (by kernel_rfl) ?_ (by simp); (repeat (first | (refine sn ?_) | (refine stx ?_) | (refine sb ?_))); refine zh_took (by rfl) ?_
  refine zh_take 5 (by kernel_rfl) rfl (by kernel_rfl) (by kernel_rfl) ?_ (by simp); (repeat (first | (refine sn ?_) | (refine stx ?_) | (refine sb ?_))); refine zh_took (by rfl) ?_
  refine zh_take 6 (by kernel_rfl) rfl (by kernel_rfl) (by kernel_rfl) ?_ (by simp); (repeat (first | (refine sn ?_) | (refine stx ?_) | (refine sb ?_))); refine zh_took (by rfl) ?_
  refine zh_one 3 rfl (by kernel_rfl) ?_
  refine zx_call (Y := Own × Own) (v := fun _ => .int .i64 (pClientN ns x q.data).2) (Φ := fun y => okX ((pClientN ns x q.data).1) y) (L' := fun y => ([(k5, Blk.c [.int .i64 q.kind, .int .i64 q.n, .string q.data, .bool q.ad.v6, .int .u8 (q.ad.b 0), .int .u8 (q.ad.b 1), .int .u8 (q.ad.b 2), .int .u8 (q.ad.b 3), .int .u8 (q.ad.b 4), .int .u8 (q.ad.b 5), .int .u8 (q.ad.b 6), .int .u8 (q.ad.b 7), .int .u8 (q.ad.b 8), .int .u8 (q.ad.b 9), .int .u8 (q.ad.b 10), .int .u8 (q.ad.b 11), .int .u8 (q.ad.b 12), .int .u8 (q.ad.b 13), .int .u8 (q.ad.b 14), .int .u8 (q.ad.b 15), .int .i64 q.port] 86 0 0)] ++ pR b nv x) ++ pX p ((pClientN ns x q.data).1) y) rfl fnc38 rfl rfl (fun w1 hm1 => by
      have hm2 := hm1.perm (L' := ([(k5, Blk.c [.int .i64 q.kind, .int .i64 q.n, .string q.data, .bool q.ad.v6, .int .u8 (q.ad.b 0), .int .u8 (q.ad.b 1), .int .u8 (q.ad.b 2), .int .u8 (q.ad.b 3), .int .u8 (q.ad.b 4), .int .u8 (q.ad.b 5), .int .u8 (q.ad.b 6), .int .u8 (q.ad.b 7), .int .u8 (q.ad.b 8), .int .u8 (q.ad.b 9), .int .u8 (q.ad.b 10), .int .u8 (q.ad.b 11), .int .u8 (q.ad.b 12), .int .u8 (q.ad.b 13), .int .u8 (q.ad.b 14), .int .u8 (q.ad.b 15), .int .i64 q.port] 86 0 0)] ++ pR b nv x) ++ pX p x o) (perm_swap [(k5, Blk.c [.int .i64 q.kind, .int .i64 q.n, .string q.data, .bool q.ad.v6, .int .u8 (q.ad.b 0), .int .u8 (q.ad.b 1), .int .u8 (q.ad.b 2), .int .u8 (q.ad.b 3), .int .u8 (q.ad.b 4), .int .u8 (q.ad.b 5), .int .u8 (q.ad.b 6), .int .u8 (q.ad.b 7), .int .u8 (q.ad.b 8), .int .u8 (q.ad.b 9), .int .u8 (q.ad.b 10), .int .u8 (q.ad.b 11), .int .u8 (q.ad.b 12), .int .u8 (q.ad.b 13), .int .u8 (q.ad.b 14), .int .u8 (q.ad.b 15), .int .i64 q.port] 86 0 0)] (pR b nv x) (pX p x o))
      exact PN.use (FromClientN_any ns p x q.data hgood hq3) hok hm2 (hnp.step hm2 (mem_last _ _))) (fun y hy => ?_)
  refine zh_oned (by rfl) (by simp) ?_
  refine zh_one 7 rfl (by kernel_rfl) ?_
  refine zx_call (Y := Unit) (v := fun _ => .int .i64 (pClientN ns x q.data).2) (Φ := fun _ => True) (L' := fun _ => ([(k5, Blk.c [.int .i64 q.kind, .int .i64 q.n, .string q.data, .bool q.ad.v6, .int .u8 (q.ad.b 0), .int .u8 (q.ad.b 1), .int .u8 (q.ad.b 2), .int .u8 (q.ad.b 3), .int .u8 (q.ad.b 4), .int .u8 (q.ad.b 5), .int .u8 (q.ad.b 6), .int .u8 (q.ad.b 7), .int .u8 (q.ad.b 8), .int .u8 (q.ad.b 9), .int .u8 (q.ad.b 10), .int .u8 (q.ad.b 11), .int .u8 (q.ad.b 12), .int .u8 (q.ad.b 13), .int .u8 (q.ad.b 14), .int .u8 (q.ad.b 15), .int .i64 q.port] 86 0 0)] ++ pX p ((pClientN ns x q.data).1) y) ++ pR b nv ((pClientN ns x q.data).1)) rfl fnc96 rfl rfl (fun w1 hm1 => by
      have hm2 := hm1.perm (L' := ([(k5, Blk.c [.int .i64 q.kind, .int .i64 q.n, .string q.data, .bool q.ad.v6, .int .u8 (q.ad.b 0), .int .u8 (q.ad.b 1), .int .u8 (q.ad.b 2), .int .u8 (q.ad.b 3), .int .u8 (q.ad.b 4), .int .u8 (q.ad.b 5), .int .u8 (q.ad.b 6), .int .u8 (q.ad.b 7), .int .u8 (q.ad.b 8), .int .u8 (q.ad.b 9), .int .u8 (q.ad.b 10), .int .u8 (q.ad.b 11), .int .u8 (q.ad.b 12), .int .u8 (q.ad.b 13), .int .u8 (q.ad.b 14), .int .u8 (q.ad.b 15), .int .i64 q.port] 86 0 0)] ++ pX p ((pClientN ns x q.data).1) y) ++ pR b nv x) (perm_swap [(k5, Blk.c [.int .i64 q.kind, .int .i64 q.n, .string q.data, .bool q.ad.v6, .int .u8 (q.ad.b 0), .int .u8 (q.ad.b 1), .int .u8 (q.ad.b 2), .int .u8 (q.ad.b 3), .int .u8 (q.ad.b 4), .int .u8 (q.ad.b 5), .int .u8 (q.ad.b 6), .int .u8 (q.ad.b 7), .int .u8 (q.ad.b 8), .int .u8 (q.ad.b 9), .int .u8 (q.ad.b 10), .int .u8 (q.ad.b 11), .int .u8 (q.ad.b 12), .int .u8 (q.ad.b 13), .int .u8 (q.ad.b 14), .int .u8 (q.ad.b 15), .int .i64 q.port] 86 0 0)] (pX p ((pClientN ns x q.data).1) y) (pR b nv x))
      exact RCN.use (FromClientR_any b na ncap ns nv hnv x q.data hq3 hx.s0.small hx.s0.ups (by omega) hx.s0.state) hm2 (hnr.step hm2 (mem_last _ (pR b nv x)))) (fun _ _ => ?_)
  refine zh_oned (by rfl) (by simp) ?_
  refine zh_take 8 (by kernel_rfl) rfl (by kernel_rfl) (by kernel_rfl) ?_ (by simp); (repeat (first | (refine sn ?_) | (refine stx ?_) | (refine sb ?_))); refine zh_took (by rfl) ?_
  refine zh_take 9 (by kernel_rfl) rfl (by kernel_rfl) (by kernel_rfl) ?_ (by simp); (repeat (first | (refine sn ?_) | (refine stx ?_) | (refine sb ?_))); refine zh_took (by rfl) ?_
  refine zh_end (by rfl) (by kernel_rfl) ?_
  repeat (first | (refine st ?_) | (refine stx ?_) | (refine sb ?_) | (intro _))
  refine z_ret1 tab_ok Try.func49 hb hk Try.results49 (.tmp rfl) (fun w hm => ?_)
  exact ⟨(((pClientN ns x q.data).1), y), hy, hx.client ns q.data, by first | rfl | simp, hm.weaken (fun _ h => h) (List.Sublist.cons _ (List.Sublist.refl _))⟩
theorem does_m7 (p b : Nat) (na : Option Addr) (ncap : Nat) (ns : List Nm) (nv nvp : Value) (hnv : nv = .slice na ns.length ncap) (x : Px) (q : Qo) (hq : q.ok) (o : Own × Own) (hok : okX x o) (hx : Sm x nvp) (w : World) (h : Mem w ((pX p x o ++ pR b nv x).map (·.1)) (pX p x o ++ pR b nv x) w) (hnp : NmAt w ((pX p x o ++ pR b nv x).map (·.1)) x.names ns) (hnr : NmAt w ((pX p x o ++ pR b nv x).map (·.1)) nv ns) (hkd : q.kind.tmod 10 = (-7)) : Calls Try.prog 49 [fP p 0, fP b 0, .agg q.cells.toArray].toArray w fun e w' => ∃ g : Px × (Own × Own), okX g.1 g.2 ∧ Sm g.1 nvp ∧ e = .returned (.bool true) ∧ Mem w ((pX p x o ++ pR b nv x).map (·.1)) (pX p g.1 g.2 ++ pR b nv g.1) w' := by
  obtain ⟨hq1, hq2, hq3⟩ := hq
  have hu := hx.s0.ups
  have hd := hx.s0.downs
  have hgood : GoodN x := ⟨hx.s0.small, by omega, by omega, hx.s0.state⟩
  refine calls_of_z Try.func49 rfl Try.ntmps49 rfl h ?_; intro cs b' hb hk
  repeat (first | (refine st ?_) | (refine stx ?_) | (intro _))
  rename_i k5
  refine z_re 7 (.int .i64 (-7)) rfl (congrArg _ hkd) ?_
  refine z_re 12 (.bool true) rfl (congrArg _ ((congrArg (fun r : Int => decide (r < 0)) hkd).trans rfl)) ?_
  repeat (first | (refine sn ?_) | (refine stx ?_) | (refine sb ?_) | (intro _))
  refine z_regionH [(k5, Blk.c [.int .i64 q.kind, .int .i64 q.n, .string q.data, .bool q.ad.v6, .int .u8 (q.ad.b 0), .int .u8 (q.ad.b 1), .int .u8 (q.ad.b 2), .int .u8 (q.ad.b 3), .int .u8 (q.ad.b 4), .int .u8 (q.ad.b 5), .int .u8 (q.ad.b 6), .int .u8 (q.ad.b 7), .int .u8 (q.ad.b 8), .int .u8 (q.ad.b 9), .int .u8 (q.ad.b 10), .int .u8 (q.ad.b 11), .int .u8 (q.ad.b 12), .int .u8 (q.ad.b 13), .int .u8 (q.ad.b 14), .int .u8 (q.ad.b 15), .int .i64 q.port] 86 0 0)] (by rfl) follows_mixed (List.sublist_append_left [_] _) (m := 10) rfl ?_
  refine zh_take 0 (by kernel_rfl) rfl (by kernel_rfl) (by kernel_rfl) ?_ (by simp); (repeat (first | (refine sn ?_) | (refine stx ?_) | (refine sb ?_))); refine zh_took (by rfl) ?_
  refine zh_take 1 (by kernel_rfl) rfl (by kernel_rfl) (by kernel_rfl) ?_ (by simp); (repeat (first | (refine sn ?_) | (refine stx ?_) | (refine sb ?_))); refine zh_took (by rfl) ?_
  refine zh_take 2 (by kernel_rfl) rfl (by kernel_rfl) (by kernel_rfl) ?_ (by simp); (repeat (first | (refine sn ?_) | (refine stx ?_) | (refine sb ?_))); refine zh_took (by rfl) ?_
  refine zh_take 4 (by kernel_rfl) rfl (by kernel_rfl) (by kernel_rfl) ?_ (by simp); (repeat (first | (refine sn ?_) | (refine stx ?_) | (refine sb ?_))); refine zh_took (by rfl) ?_
  refine zh_take 5 (by kernel_rfl) rfl (by kernel_rfl) (by kernel_rfl) ?_ (by simp); (repeat (first | (refine sn ?_) | (refine stx ?_) | (refine sb ?_))); refine zh_took (by rfl) ?_
  refine zh_take 6 (by kernel_rfl) rfl (by kernel_rfl) (by kernel_rfl) ?_ (by simp); (repeat (first | (refine sn ?_) | (refine stx ?_) | (refine sb ?_))); refine zh_took (by rfl) ?_
  refine zh_one 3 rfl (by kernel_rfl) ?_
  refine zx_call (Y := Own × Own) (v := fun _ => .int .i64 (pRemote x q.data).2) (Φ := fun y => okX ((pRemote x q.data).1) y) (L' := fun y => ([(k5, Blk.c [.int .i64 q.kind, .int .i64 q.n, .string q.data, .bool q.ad.v6, .int .u8 (q.ad.b 0), .int .u8 (q.ad.b 1), .int .u8 (q.ad.b 2), .int .u8 (q.ad.b 3), .int .u8 (q.ad.b 4), .int .u8 (q.ad.b 5), .int .u8 (q.ad.b 6), .int .u8 (q.ad.b 7), .int .u8 (q.ad.b 8), .int .u8 (q.ad.b 9), .int .u8 (q.ad.b 10), .int .u8 (q.ad.b 11), .int .u8 (q.ad.b 12), .int .u8 (q.ad.b 13), .int .u8 (q.ad.b 14), .int .u8 (q.ad.b 15), .int .i64 q.port] 86 0 0)] ++ pR b nv x) ++ pX p ((pRemote x q.data).1) y) rfl fnc46 rfl rfl (fun w1 hm1 => by
      have hm2 := hm1.perm (L' := ([(k5, Blk.c [.int .i64 q.kind, .int .i64 q.n, .string q.data, .bool q.ad.v6, .int .u8 (q.ad.b 0), .int .u8 (q.ad.b 1), .int .u8 (q.ad.b 2), .int .u8 (q.ad.b 3), .int .u8 (q.ad.b 4), .int .u8 (q.ad.b 5), .int .u8 (q.ad.b 6), .int .u8 (q.ad.b 7), .int .u8 (q.ad.b 8), .int .u8 (q.ad.b 9), .int .u8 (q.ad.b 10), .int .u8 (q.ad.b 11), .int .u8 (q.ad.b 12), .int .u8 (q.ad.b 13), .int .u8 (q.ad.b 14), .int .u8 (q.ad.b 15), .int .i64 q.port] 86 0 0)] ++ pR b nv x) ++ pX p x o) (perm_swap [(k5, Blk.c [.int .i64 q.kind, .int .i64 q.n, .string q.data, .bool q.ad.v6, .int .u8 (q.ad.b 0), .int .u8 (q.ad.b 1), .int .u8 (q.ad.b 2), .int .u8 (q.ad.b 3), .int .u8 (q.ad.b 4), .int .u8 (q.ad.b 5), .int .u8 (q.ad.b 6), .int .u8 (q.ad.b 7), .int .u8 (q.ad.b 8), .int .u8 (q.ad.b 9), .int .u8 (q.ad.b 10), .int .u8 (q.ad.b 11), .int .u8 (q.ad.b 12), .int .u8 (q.ad.b 13), .int .u8 (q.ad.b 14), .int .u8 (q.ad.b 15), .int .i64 q.port] 86 0 0)] (pR b nv x) (pX p x o))
      exact PC.use (FromRemote_any p x q.data hq3 (by omega)) hok hm2) (fun y hy => ?_)
  refine zh_oned (by rfl) (by simp) ?_
  refine zh_one 7 rfl (by kernel_rfl) ?_
  refine zx_call (Y := Unit) (v := fun _ => .int .i64 (pRemote x q.data).2) (Φ := fun _ => True) (L' := fun _ => ([(k5, Blk.c [.int .i64 q.kind, .int .i64 q.n, .string q.data, .bool q.ad.v6, .int .u8 (q.ad.b 0), .int .u8 (q.ad.b 1), .int .u8 (q.ad.b 2), .int .u8 (q.ad.b 3), .int .u8 (q.ad.b 4), .int .u8 (q.ad.b 5), .int .u8 (q.ad.b 6), .int .u8 (q.ad.b 7), .int .u8 (q.ad.b 8), .int .u8 (q.ad.b 9), .int .u8 (q.ad.b 10), .int .u8 (q.ad.b 11), .int .u8 (q.ad.b 12), .int .u8 (q.ad.b 13), .int .u8 (q.ad.b 14), .int .u8 (q.ad.b 15), .int .i64 q.port] 86 0 0)] ++ pX p ((pRemote x q.data).1) y) ++ pR b nv ((pRemote x q.data).1)) rfl fnc97 rfl rfl (fun w1 hm1 => by
      have hm2 := hm1.perm (L' := ([(k5, Blk.c [.int .i64 q.kind, .int .i64 q.n, .string q.data, .bool q.ad.v6, .int .u8 (q.ad.b 0), .int .u8 (q.ad.b 1), .int .u8 (q.ad.b 2), .int .u8 (q.ad.b 3), .int .u8 (q.ad.b 4), .int .u8 (q.ad.b 5), .int .u8 (q.ad.b 6), .int .u8 (q.ad.b 7), .int .u8 (q.ad.b 8), .int .u8 (q.ad.b 9), .int .u8 (q.ad.b 10), .int .u8 (q.ad.b 11), .int .u8 (q.ad.b 12), .int .u8 (q.ad.b 13), .int .u8 (q.ad.b 14), .int .u8 (q.ad.b 15), .int .i64 q.port] 86 0 0)] ++ pX p ((pRemote x q.data).1) y) ++ pR b nv x) (perm_swap [(k5, Blk.c [.int .i64 q.kind, .int .i64 q.n, .string q.data, .bool q.ad.v6, .int .u8 (q.ad.b 0), .int .u8 (q.ad.b 1), .int .u8 (q.ad.b 2), .int .u8 (q.ad.b 3), .int .u8 (q.ad.b 4), .int .u8 (q.ad.b 5), .int .u8 (q.ad.b 6), .int .u8 (q.ad.b 7), .int .u8 (q.ad.b 8), .int .u8 (q.ad.b 9), .int .u8 (q.ad.b 10), .int .u8 (q.ad.b 11), .int .u8 (q.ad.b 12), .int .u8 (q.ad.b 13), .int .u8 (q.ad.b 14), .int .u8 (q.ad.b 15), .int .i64 q.port] 86 0 0)] (pX p ((pRemote x q.data).1) y) (pR b nv x))
      exact RC.use (FromRemoteR_any b nv x q.data hq3 (by omega)) hm2) (fun _ _ => ?_)
  refine zh_oned (by rfl) (by simp) ?_
  refine zh_take 8 (by kernel_rfl) rfl (by kernel_rfl) (by kernel_rfl) ?_ (by simp); (repeat (first | (refine sn ?_) | (refine stx ?_) | (refine sb ?_))); refine zh_took (by rfl) ?_
  refine zh_take 9 (by kernel_rfl) rfl (by kernel_rfl) (by kernel_rfl) ?_ (by simp); (repeat (first | (refine sn ?_) | (refine stx ?_) | (refine sb ?_))); refine zh_took (by rfl) ?_
  refine zh_end (by rfl) (by kernel_rfl) ?_
  repeat (first | (refine st ?_) | (refine stx ?_) | (refine sb ?_) | (intro _))
  refine z_ret1 tab_ok Try.func49 hb hk Try.results49 (.tmp rfl) (fun w hm => ?_)
  exact ⟨(((pRemote x q.data).1), y), hy, hx.remote q.data, by first | rfl | simp, hm.weaken (fun _ h => h) (List.Sublist.cons _ (List.Sublist.refl _))⟩
theorem does_m6 (p b : Nat) (na : Option Addr) (ncap : Nat) (ns : List Nm) (nv nvp : Value) (hnv : nv = .slice na ns.length ncap) (x : Px) (q : Qo) (hq : q.ok) (o : Own × Own) (hok : okX x o) (hx : Sm x nvp) (w : World) (h : Mem w ((pX p x o ++ pR b nv x).map (·.1)) (pX p x o ++ pR b nv x) w) (hnp : NmAt w ((pX p x o ++ pR b nv x).map (·.1)) x.names ns) (hnr : NmAt w ((pX p x o ++ pR b nv x).map (·.1)) nv ns) (hkd : q.kind.tmod 10 = (-6)) : Calls Try.prog 49 [fP p 0, fP b 0, .agg q.cells.toArray].toArray w fun e w' => ∃ g : Px × (Own × Own), okX g.1 g.2 ∧ Sm g.1 nvp ∧ e = .returned (.bool true) ∧ Mem w ((pX p x o ++ pR b nv x).map (·.1)) (pX p g.1 g.2 ++ pR b nv g.1) w' := by
  obtain ⟨hq1, hq2, hq3⟩ := hq
  have hu := hx.s0.ups
  have hd := hx.s0.downs
  have hgood : GoodN x := ⟨hx.s0.small, by omega, by omega, hx.s0.state⟩
  refine calls_of_z Try.func49 rfl Try.ntmps49 rfl h ?_; intro cs b' hb hk
  repeat (first | (refine st ?_) | (refine stx ?_) | (intro _))
  rename_i k5
  refine z_re 7 (.int .i64 (-6)) rfl (congrArg _ hkd) ?_
  refine z_re 12 (.bool true) rfl (congrArg _ ((congrArg (fun r : Int => decide (r < 0)) hkd).trans rfl)) ?_
  by_cases hn0 : 0 ≤ q.n
  · have hkn : ((min q.n.toNat x.down.length : Nat) : Int) = min (max q.n 0) x.down.length := by omega
    have hkn' : ((min q.n.toNat x.down.length : Nat) : Int) = min q.n x.down.length := by omega
    generalize min q.n.toNat x.down.length = k at hkn hkn'
    repeat (first | (refine sn ?_) | (refine stx ?_) | (refine sb ?_) | (intro _))
    refine z_regionH [(k5, Blk.c [.int .i64 q.kind, .int .i64 q.n, .string q.data, .bool q.ad.v6, .int .u8 (q.ad.b 0), .int .u8 (q.ad.b 1), .int .u8 (q.ad.b 2), .int .u8 (q.ad.b 3), .int .u8 (q.ad.b 4), .int .u8 (q.ad.b 5), .int .u8 (q.ad.b 6), .int .u8 (q.ad.b 7), .int .u8 (q.ad.b 8), .int .u8 (q.ad.b 9), .int .u8 (q.ad.b 10), .int .u8 (q.ad.b 11), .int .u8 (q.ad.b 12), .int .u8 (q.ad.b 13), .int .u8 (q.ad.b 14), .int .u8 (q.ad.b 15), .int .i64 q.port] 86 0 0)] (by rfl) follows_mixed (List.sublist_append_left [_] _) (m := 10) rfl ?_
    refine zh_take 0 (by kernel_rfl) rfl (by kernel_rfl) (by kernel_rfl) ?_ (by simp); (repeat (first | (refine sn ?_) | (refine stx ?_) | (refine sb ?_))); refine zh_took (by rfl) ?_
    refine zh_take 1 (by kernel_rfl) rfl (by kernel_rfl) (by kernel_rfl) ?_ (by simp); (repeat (first | (refine sn ?_) | (refine stx ?_) | (refine sb ?_))); refine zh_took (by rfl) ?_
    refine zh_take 2 (by kernel_rfl) rfl (by kernel_rfl) (by kernel_rfl) ?_ (by simp); (repeat (first | (refine sn ?_) | (refine stx ?_) | (refine sb ?_))); refine zh_took (by rfl) ?_
    refine zh_take 4 (by kernel_rfl) rfl (by kernel_rfl) (by kernel_rfl) ?_ (by simp); (repeat (first | (refine sn ?_) | (refine stx ?_) | (refine sb ?_))); refine zh_took (by rfl) ?_
    refine zh_take 5 (by kernel_rfl) rfl (by kernel_rfl) (by kernel_rfl) ?_ (by simp); (repeat (first | (refine sn ?_) | (refine stx ?_) | (refine sb ?_))); refine zh_took (by rfl) ?_
    refine zh_take 6 (by kernel_rfl) rfl (by kernel_rfl) (by kernel_rfl) ?_ (by simp); (repeat (first | (refine sn ?_) | (refine stx ?_) | (refine sb ?_))); refine zh_took (by rfl) ?_
    refine zh_one 3 rfl (by kernel_rfl) ?_
    refine zx_call (Y := Own × Own) (v := fun _ => .string (ofInts (x.down.take k))) (Φ := fun y => okX (pSettle { x with down := x.down.drop k }) y) (L' := fun y => ([(k5, Blk.c [.int .i64 q.kind, .int .i64 q.n, .string q.data, .bool q.ad.v6, .int .u8 (q.ad.b 0), .int .u8 (q.ad.b 1), .int .u8 (q.ad.b 2), .int .u8 (q.ad.b 3), .int .u8 (q.ad.b 4), .int .u8 (q.ad.b 5), .int .u8 (q.ad.b 6), .int .u8 (q.ad.b 7), .int .u8 (q.ad.b 8), .int .u8 (q.ad.b 9), .int .u8 (q.ad.b 10), .int .u8 (q.ad.b 11), .int .u8 (q.ad.b 12), .int .u8 (q.ad.b 13), .int .u8 (q.ad.b 14), .int .u8 (q.ad.b 15), .int .i64 q.port] 86 0 0)] ++ pR b nv x) ++ pX p (pSettle { x with down := x.down.drop k }) y) rfl fnc39 rfl rfl (fun w1 hm1 => by
        have hm2 := hm1.perm (L' := ([(k5, Blk.c [.int .i64 q.kind, .int .i64 q.n, .string q.data, .bool q.ad.v6, .int .u8 (q.ad.b 0), .int .u8 (q.ad.b 1), .int .u8 (q.ad.b 2), .int .u8 (q.ad.b 3), .int .u8 (q.ad.b 4), .int .u8 (q.ad.b 5), .int .u8 (q.ad.b 6), .int .u8 (q.ad.b 7), .int .u8 (q.ad.b 8), .int .u8 (q.ad.b 9), .int .u8 (q.ad.b 10), .int .u8 (q.ad.b 11), .int .u8 (q.ad.b 12), .int .u8 (q.ad.b 13), .int .u8 (q.ad.b 14), .int .u8 (q.ad.b 15), .int .i64 q.port] 86 0 0)] ++ pR b nv x) ++ pX p x o) (perm_swap [(k5, Blk.c [.int .i64 q.kind, .int .i64 q.n, .string q.data, .bool q.ad.v6, .int .u8 (q.ad.b 0), .int .u8 (q.ad.b 1), .int .u8 (q.ad.b 2), .int .u8 (q.ad.b 3), .int .u8 (q.ad.b 4), .int .u8 (q.ad.b 5), .int .u8 (q.ad.b 6), .int .u8 (q.ad.b 7), .int .u8 (q.ad.b 8), .int .u8 (q.ad.b 9), .int .u8 (q.ad.b 10), .int .u8 (q.ad.b 11), .int .u8 (q.ad.b 12), .int .u8 (q.ad.b 13), .int .u8 (q.ad.b 14), .int .u8 (q.ad.b 15), .int .i64 q.port] 86 0 0)] (pR b nv x) (pX p x o))
        exact PC.use (ToClient_any p x q.n k hkn (by omega)) hok hm2) (fun y hy => ?_)
    refine zh_oned (by rfl) (by simp) ?_
    refine zh_one 7 rfl (by kernel_rfl) ?_
    refine zx_call (Y := Unit) (v := fun _ => .string (ofInts (x.down.take k))) (Φ := fun _ => True) (L' := fun _ => ([(k5, Blk.c [.int .i64 q.kind, .int .i64 q.n, .string q.data, .bool q.ad.v6, .int .u8 (q.ad.b 0), .int .u8 (q.ad.b 1), .int .u8 (q.ad.b 2), .int .u8 (q.ad.b 3), .int .u8 (q.ad.b 4), .int .u8 (q.ad.b 5), .int .u8 (q.ad.b 6), .int .u8 (q.ad.b 7), .int .u8 (q.ad.b 8), .int .u8 (q.ad.b 9), .int .u8 (q.ad.b 10), .int .u8 (q.ad.b 11), .int .u8 (q.ad.b 12), .int .u8 (q.ad.b 13), .int .u8 (q.ad.b 14), .int .u8 (q.ad.b 15), .int .i64 q.port] 86 0 0)] ++ pX p (pSettle { x with down := x.down.drop k }) y) ++ pR b nv (pSettle { x with down := x.down.drop k })) rfl fnc98 rfl rfl (fun w1 hm1 => by
        have hm2 := hm1.perm (L' := ([(k5, Blk.c [.int .i64 q.kind, .int .i64 q.n, .string q.data, .bool q.ad.v6, .int .u8 (q.ad.b 0), .int .u8 (q.ad.b 1), .int .u8 (q.ad.b 2), .int .u8 (q.ad.b 3), .int .u8 (q.ad.b 4), .int .u8 (q.ad.b 5), .int .u8 (q.ad.b 6), .int .u8 (q.ad.b 7), .int .u8 (q.ad.b 8), .int .u8 (q.ad.b 9), .int .u8 (q.ad.b 10), .int .u8 (q.ad.b 11), .int .u8 (q.ad.b 12), .int .u8 (q.ad.b 13), .int .u8 (q.ad.b 14), .int .u8 (q.ad.b 15), .int .i64 q.port] 86 0 0)] ++ pX p (pSettle { x with down := x.down.drop k }) y) ++ pR b nv x) (perm_swap [(k5, Blk.c [.int .i64 q.kind, .int .i64 q.n, .string q.data, .bool q.ad.v6, .int .u8 (q.ad.b 0), .int .u8 (q.ad.b 1), .int .u8 (q.ad.b 2), .int .u8 (q.ad.b 3), .int .u8 (q.ad.b 4), .int .u8 (q.ad.b 5), .int .u8 (q.ad.b 6), .int .u8 (q.ad.b 7), .int .u8 (q.ad.b 8), .int .u8 (q.ad.b 9), .int .u8 (q.ad.b 10), .int .u8 (q.ad.b 11), .int .u8 (q.ad.b 12), .int .u8 (q.ad.b 13), .int .u8 (q.ad.b 14), .int .u8 (q.ad.b 15), .int .i64 q.port] 86 0 0)] (pX p (pSettle { x with down := x.down.drop k }) y) (pR b nv x))
        exact RC.use (ToClientG_any b nv x q.n hn0 k hkn') hm2) (fun _ _ => ?_)
    refine zh_oned (by rfl) (by simp) ?_
    refine zh_take 8 (by kernel_rfl) rfl (by kernel_rfl) (by kernel_rfl) ?_ (by simp); (repeat (first | (refine sn ?_) | (refine stx ?_) | (refine sb ?_))); refine zh_took (by rfl) ?_
    refine zh_take 9 (by kernel_rfl) rfl (by kernel_rfl) (by kernel_rfl) ?_ (by simp); (repeat (first | (refine sn ?_) | (refine stx ?_) | (refine sb ?_))); refine zh_took (by rfl) ?_
    refine zh_end (by rfl) (by kernel_rfl) ?_
    repeat (first | (refine st ?_) | (refine stx ?_) | (refine sb ?_) | (intro _))
    refine z_ret1 tab_ok Try.func49 hb hk Try.results49 (.tmp rfl) (fun w hm => ?_)
    exact ⟨((pSettle { x with down := x.down.drop k }), y), hy, hx.toC k, by first | rfl | simp, hm.weaken (fun _ h => h) (List.Sublist.cons _ (List.Sublist.refl _))⟩
  · have hkn : ((0 : Nat) : Int) = min (max q.n 0) x.down.length := by omega
    have hT := ToClient_any p x q.n 0 hkn (by omega)
    have hsx : pSettle { x with down := x.down.drop 0 } = x := settle_same hx.live
    rw [hsx] at hT
    repeat (first | (refine sn ?_) | (refine stx ?_) | (refine sb ?_) | (intro _))
    refine z_regionH [(k5, Blk.c [.int .i64 q.kind, .int .i64 q.n, .string q.data, .bool q.ad.v6, .int .u8 (q.ad.b 0), .int .u8 (q.ad.b 1), .int .u8 (q.ad.b 2), .int .u8 (q.ad.b 3), .int .u8 (q.ad.b 4), .int .u8 (q.ad.b 5), .int .u8 (q.ad.b 6), .int .u8 (q.ad.b 7), .int .u8 (q.ad.b 8), .int .u8 (q.ad.b 9), .int .u8 (q.ad.b 10), .int .u8 (q.ad.b 11), .int .u8 (q.ad.b 12), .int .u8 (q.ad.b 13), .int .u8 (q.ad.b 14), .int .u8 (q.ad.b 15), .int .i64 q.port] 86 0 0)] (by rfl) follows_mixed (List.sublist_append_left [_] _) (m := 10) rfl ?_
    refine zh_take 0 (by kernel_rfl) rfl (by kernel_rfl) (by kernel_rfl) ?_ (by simp); (repeat (first | (refine sn ?_) | (refine stx ?_) | (refine sb ?_))); refine zh_took (by rfl) ?_
    refine zh_take 1 (by kernel_rfl) rfl (by kernel_rfl) (by kernel_rfl) ?_ (by simp); (repeat (first | (refine sn ?_) | (refine stx ?_) | (refine sb ?_))); refine zh_took (by rfl) ?_
    refine zh_take 2 (by kernel_rfl) rfl (by kernel_rfl) (by kernel_rfl) ?_ (by simp); (repeat (first | (refine sn ?_) | (refine stx ?_) | (refine sb ?_))); refine zh_took (by rfl) ?_
    refine zh_take 4 (by kernel_rfl) rfl (by kernel_rfl) (by kernel_rfl) ?_ (by simp); (repeat (first | (refine sn ?_) | (refine stx ?_) | (refine sb ?_))); refine zh_took (by rfl) ?_
    refine zh_take 5 (by kernel_rfl) rfl (by kernel_rfl) (by kernel_rfl) ?_ (by simp); (repeat (first | (refine sn ?_) | (refine stx ?_) | (refine sb ?_))); refine zh_took (by rfl) ?_
    refine zh_take 6 (by kernel_rfl) rfl (by kernel_rfl) (by kernel_rfl) ?_ (by simp); (repeat (first | (refine sn ?_) | (refine stx ?_) | (refine sb ?_))); refine zh_took (by rfl) ?_
    refine zh_one 3 rfl (by kernel_rfl) ?_
    refine zx_call (Y := Own × Own) (v := fun _ => .string noX) (Φ := fun y => okX (x) y) (L' := fun y => ([(k5, Blk.c [.int .i64 q.kind, .int .i64 q.n, .string q.data, .bool q.ad.v6, .int .u8 (q.ad.b 0), .int .u8 (q.ad.b 1), .int .u8 (q.ad.b 2), .int .u8 (q.ad.b 3), .int .u8 (q.ad.b 4), .int .u8 (q.ad.b 5), .int .u8 (q.ad.b 6), .int .u8 (q.ad.b 7), .int .u8 (q.ad.b 8), .int .u8 (q.ad.b 9), .int .u8 (q.ad.b 10), .int .u8 (q.ad.b 11), .int .u8 (q.ad.b 12), .int .u8 (q.ad.b 13), .int .u8 (q.ad.b 14), .int .u8 (q.ad.b 15), .int .i64 q.port] 86 0 0)] ++ pR b nv x) ++ pX p (x) y) rfl fnc39 rfl rfl (fun w1 hm1 => by
        have hm2 := hm1.perm (L' := ([(k5, Blk.c [.int .i64 q.kind, .int .i64 q.n, .string q.data, .bool q.ad.v6, .int .u8 (q.ad.b 0), .int .u8 (q.ad.b 1), .int .u8 (q.ad.b 2), .int .u8 (q.ad.b 3), .int .u8 (q.ad.b 4), .int .u8 (q.ad.b 5), .int .u8 (q.ad.b 6), .int .u8 (q.ad.b 7), .int .u8 (q.ad.b 8), .int .u8 (q.ad.b 9), .int .u8 (q.ad.b 10), .int .u8 (q.ad.b 11), .int .u8 (q.ad.b 12), .int .u8 (q.ad.b 13), .int .u8 (q.ad.b 14), .int .u8 (q.ad.b 15), .int .i64 q.port] 86 0 0)] ++ pR b nv x) ++ pX p x o) (perm_swap [(k5, Blk.c [.int .i64 q.kind, .int .i64 q.n, .string q.data, .bool q.ad.v6, .int .u8 (q.ad.b 0), .int .u8 (q.ad.b 1), .int .u8 (q.ad.b 2), .int .u8 (q.ad.b 3), .int .u8 (q.ad.b 4), .int .u8 (q.ad.b 5), .int .u8 (q.ad.b 6), .int .u8 (q.ad.b 7), .int .u8 (q.ad.b 8), .int .u8 (q.ad.b 9), .int .u8 (q.ad.b 10), .int .u8 (q.ad.b 11), .int .u8 (q.ad.b 12), .int .u8 (q.ad.b 13), .int .u8 (q.ad.b 14), .int .u8 (q.ad.b 15), .int .i64 q.port] 86 0 0)] (pR b nv x) (pX p x o))
        exact PC.use hT hok hm2) (fun y hy => ?_)
    refine zh_oned (by rfl) (by simp) ?_
    refine zh_one 7 rfl (by kernel_rfl) ?_
    refine zx_call (Y := Unit) (v := fun _ => .string noX) (Φ := fun _ => True) (L' := fun _ => ([(k5, Blk.c [.int .i64 q.kind, .int .i64 q.n, .string q.data, .bool q.ad.v6, .int .u8 (q.ad.b 0), .int .u8 (q.ad.b 1), .int .u8 (q.ad.b 2), .int .u8 (q.ad.b 3), .int .u8 (q.ad.b 4), .int .u8 (q.ad.b 5), .int .u8 (q.ad.b 6), .int .u8 (q.ad.b 7), .int .u8 (q.ad.b 8), .int .u8 (q.ad.b 9), .int .u8 (q.ad.b 10), .int .u8 (q.ad.b 11), .int .u8 (q.ad.b 12), .int .u8 (q.ad.b 13), .int .u8 (q.ad.b 14), .int .u8 (q.ad.b 15), .int .i64 q.port] 86 0 0)] ++ pX p (x) y) ++ pR b nv (x)) rfl fnc98 rfl rfl (fun w1 hm1 => by
        have hm2 := hm1.perm (L' := ([(k5, Blk.c [.int .i64 q.kind, .int .i64 q.n, .string q.data, .bool q.ad.v6, .int .u8 (q.ad.b 0), .int .u8 (q.ad.b 1), .int .u8 (q.ad.b 2), .int .u8 (q.ad.b 3), .int .u8 (q.ad.b 4), .int .u8 (q.ad.b 5), .int .u8 (q.ad.b 6), .int .u8 (q.ad.b 7), .int .u8 (q.ad.b 8), .int .u8 (q.ad.b 9), .int .u8 (q.ad.b 10), .int .u8 (q.ad.b 11), .int .u8 (q.ad.b 12), .int .u8 (q.ad.b 13), .int .u8 (q.ad.b 14), .int .u8 (q.ad.b 15), .int .i64 q.port] 86 0 0)] ++ pX p (x) y) ++ pR b nv x) (perm_swap [(k5, Blk.c [.int .i64 q.kind, .int .i64 q.n, .string q.data, .bool q.ad.v6, .int .u8 (q.ad.b 0), .int .u8 (q.ad.b 1), .int .u8 (q.ad.b 2), .int .u8 (q.ad.b 3), .int .u8 (q.ad.b 4), .int .u8 (q.ad.b 5), .int .u8 (q.ad.b 6), .int .u8 (q.ad.b 7), .int .u8 (q.ad.b 8), .int .u8 (q.ad.b 9), .int .u8 (q.ad.b 10), .int .u8 (q.ad.b 11), .int .u8 (q.ad.b 12), .int .u8 (q.ad.b 13), .int .u8 (q.ad.b 14), .int .u8 (q.ad.b 15), .int .i64 q.port] 86 0 0)] (pX p (x) y) (pR b nv x))
        exact RC.use (ToClientR_neg b nv x q.n (by omega)) hm2) (fun _ _ => ?_)
    refine zh_oned (by rfl) (by simp) ?_
    refine zh_take 8 (by kernel_rfl) rfl (by kernel_rfl) (by kernel_rfl) ?_ (by simp); (repeat (first | (refine sn ?_) | (refine stx ?_) | (refine sb ?_))); refine zh_took (by rfl) ?_
    refine zh_take 9 (by kernel_rfl) rfl (by kernel_rfl) (by kernel_rfl) ?_ (by simp); (repeat (first | (refine sn ?_) | (refine stx ?_) | (refine sb ?_))); refine zh_took (by rfl) ?_
    refine zh_end (by rfl) (by kernel_rfl) ?_
    repeat (first | (refine st ?_) | (refine stx ?_) | (refine sb ?_) | (intro _))
    refine z_ret1 tab_ok Try.func49 hb hk Try.results49 (.tmp rfl) (fun w hm => ?_)
    exact ⟨((x), y), hy, hx, by first | rfl | simp, hm.weaken (fun _ h => h) (List.Sublist.cons _ (List.Sublist.refl _))⟩
theorem does_m5 (p b : Nat) (na : Option Addr) (ncap : Nat) (ns : List Nm) (nv nvp : Value) (hnv : nv = .slice na ns.length ncap) (x : Px) (q : Qo) (hq : q.ok) (o : Own × Own) (hok : okX x o) (hx : Sm x nvp) (w : World) (h : Mem w ((pX p x o ++ pR b nv x).map (·.1)) (pX p x o ++ pR b nv x) w) (hnp : NmAt w ((pX p x o ++ pR b nv x).map (·.1)) x.names ns) (hnr : NmAt w ((pX p x o ++ pR b nv x).map (·.1)) nv ns) (hkd : q.kind.tmod 10 = (-5)) : Calls Try.prog 49 [fP p 0, fP b 0, .agg q.cells.toArray].toArray w fun e w' => ∃ g : Px × (Own × Own), okX g.1 g.2 ∧ Sm g.1 nvp ∧ e = .returned (.bool true) ∧ Mem w ((pX p x o ++ pR b nv x).map (·.1)) (pX p g.1 g.2 ++ pR b nv g.1) w' := by
  obtain ⟨hq1, hq2, hq3⟩ := hq
  have hu := hx.s0.ups
  have hd := hx.s0.downs
  have hgood : GoodN x := ⟨hx.s0.small, by omega, by omega, hx.s0.state⟩
  refine calls_of_z Try.func49 rfl Try.ntmps49 rfl h ?_; intro cs b' hb hk
  repeat (first | (refine st ?_) | (refine stx ?_) | (intro _))
  rename_i k5
  refine z_re 7 (.int .i64 (-5)) rfl (congrArg _ hkd) ?_
  refine z_re 12 (.bool true) rfl (congrArg _ ((congrArg (fun r : Int => decide (r < 0)) hkd).trans rfl)) ?_
  by_cases hn0 : 0 ≤ q.n
  · by_cases hs4 : x.state = 4
    · have hkn : ((min q.n.toNat x.up.length : Nat) : Int) = min (max q.n 0) x.up.length := by omega
      have hkn' : ((min q.n.toNat x.up.length : Nat) : Int) = min q.n x.up.length := by omega
      generalize min q.n.toNat x.up.length = k at hkn hkn'
      repeat (first | (refine sn ?_) | (refine stx ?_) | (refine sb ?_) | (intro _))
      refine z_regionH [(k5, Blk.c [.int .i64 q.kind, .int .i64 q.n, .string q.data, .bool q.ad.v6, .int .u8 (q.ad.b 0), .int .u8 (q.ad.b 1), .int .u8 (q.ad.b 2), .int .u8 (q.ad.b 3), .int .u8 (q.ad.b 4), .int .u8 (q.ad.b 5), .int .u8 (q.ad.b 6), .int .u8 (q.ad.b 7), .int .u8 (q.ad.b 8), .int .u8 (q.ad.b 9), .int .u8 (q.ad.b 10), .int .u8 (q.ad.b 11), .int .u8 (q.ad.b 12), .int .u8 (q.ad.b 13), .int .u8 (q.ad.b 14), .int .u8 (q.ad.b 15), .int .i64 q.port] 86 0 0)] (by rfl) follows_mixed (List.sublist_append_left [_] _) (m := 10) rfl ?_
      refine zh_take 0 (by kernel_rfl) rfl (by kernel_rfl) (by kernel_rfl) ?_ (by simp); (repeat (first | (refine sn ?_) | (refine stx ?_) | (refine sb ?_))); refine zh_took (by rfl) ?_
      refine zh_take 1 (by kernel_rfl) rfl (by kernel_rfl) (by kernel_rfl) ?_ (by simp); (repeat (first | (refine sn ?_) | (refine stx ?_) | (refine sb ?_))); refine zh_took (by rfl) ?_
      refine zh_take 2 (by kernel_rfl) rfl (by kernel_rfl) (by kernel_rfl) ?_ (by simp); (repeat (first | (refine sn ?_) | (refine stx ?_) | (refine sb ?_))); refine zh_took (by rfl) ?_
      refine zh_take 4 (by kernel_rfl) rfl (by kernel_rfl) (by kernel_rfl) ?_ (by simp); (repeat (first | (refine sn ?_) | (refine stx ?_) | (refine sb ?_))); refine zh_took (by rfl) ?_
      refine zh_take 5 (by kernel_rfl) rfl (by kernel_rfl) (by kernel_rfl) ?_ (by simp); (repeat (first | (refine sn ?_) | (refine stx ?_) | (refine sb ?_))); refine zh_took (by rfl) ?_
      refine zh_take 6 (by kernel_rfl) rfl (by kernel_rfl) (by kernel_rfl) ?_ (by simp); (repeat (first | (refine sn ?_) | (refine stx ?_) | (refine sb ?_))); refine zh_took (by rfl) ?_
      refine zh_one 3 rfl (by kernel_rfl) ?_
      refine zx_call (Y := Own × Own) (v := fun _ => .string (ofInts (x.up.take k))) (Φ := fun y => okX (pSettle { x with up := x.up.drop k }) y) (L' := fun y => ([(k5, Blk.c [.int .i64 q.kind, .int .i64 q.n, .string q.data, .bool q.ad.v6, .int .u8 (q.ad.b 0), .int .u8 (q.ad.b 1), .int .u8 (q.ad.b 2), .int .u8 (q.ad.b 3), .int .u8 (q.ad.b 4), .int .u8 (q.ad.b 5), .int .u8 (q.ad.b 6), .int .u8 (q.ad.b 7), .int .u8 (q.ad.b 8), .int .u8 (q.ad.b 9), .int .u8 (q.ad.b 10), .int .u8 (q.ad.b 11), .int .u8 (q.ad.b 12), .int .u8 (q.ad.b 13), .int .u8 (q.ad.b 14), .int .u8 (q.ad.b 15), .int .i64 q.port] 86 0 0)] ++ pR b nv x) ++ pX p (pSettle { x with up := x.up.drop k }) y) rfl fnc45 rfl rfl (fun w1 hm1 => by
          have hm2 := hm1.perm (L' := ([(k5, Blk.c [.int .i64 q.kind, .int .i64 q.n, .string q.data, .bool q.ad.v6, .int .u8 (q.ad.b 0), .int .u8 (q.ad.b 1), .int .u8 (q.ad.b 2), .int .u8 (q.ad.b 3), .int .u8 (q.ad.b 4), .int .u8 (q.ad.b 5), .int .u8 (q.ad.b 6), .int .u8 (q.ad.b 7), .int .u8 (q.ad.b 8), .int .u8 (q.ad.b 9), .int .u8 (q.ad.b 10), .int .u8 (q.ad.b 11), .int .u8 (q.ad.b 12), .int .u8 (q.ad.b 13), .int .u8 (q.ad.b 14), .int .u8 (q.ad.b 15), .int .i64 q.port] 86 0 0)] ++ pR b nv x) ++ pX p x o) (perm_swap [(k5, Blk.c [.int .i64 q.kind, .int .i64 q.n, .string q.data, .bool q.ad.v6, .int .u8 (q.ad.b 0), .int .u8 (q.ad.b 1), .int .u8 (q.ad.b 2), .int .u8 (q.ad.b 3), .int .u8 (q.ad.b 4), .int .u8 (q.ad.b 5), .int .u8 (q.ad.b 6), .int .u8 (q.ad.b 7), .int .u8 (q.ad.b 8), .int .u8 (q.ad.b 9), .int .u8 (q.ad.b 10), .int .u8 (q.ad.b 11), .int .u8 (q.ad.b 12), .int .u8 (q.ad.b 13), .int .u8 (q.ad.b 14), .int .u8 (q.ad.b 15), .int .i64 q.port] 86 0 0)] (pR b nv x) (pX p x o))
          exact PC.use (ToRemote_any p x hs4 q.n k hkn (by omega)) hok hm2) (fun y hy => ?_)
      refine zh_oned (by rfl) (by simp) ?_
      refine zh_one 7 rfl (by kernel_rfl) ?_
      refine zx_call (Y := Unit) (v := fun _ => .string (ofInts (x.up.take k))) (Φ := fun _ => True) (L' := fun _ => ([(k5, Blk.c [.int .i64 q.kind, .int .i64 q.n, .string q.data, .bool q.ad.v6, .int .u8 (q.ad.b 0), .int .u8 (q.ad.b 1), .int .u8 (q.ad.b 2), .int .u8 (q.ad.b 3), .int .u8 (q.ad.b 4), .int .u8 (q.ad.b 5), .int .u8 (q.ad.b 6), .int .u8 (q.ad.b 7), .int .u8 (q.ad.b 8), .int .u8 (q.ad.b 9), .int .u8 (q.ad.b 10), .int .u8 (q.ad.b 11), .int .u8 (q.ad.b 12), .int .u8 (q.ad.b 13), .int .u8 (q.ad.b 14), .int .u8 (q.ad.b 15), .int .i64 q.port] 86 0 0)] ++ pX p (pSettle { x with up := x.up.drop k }) y) ++ pR b nv (pSettle { x with up := x.up.drop k })) rfl fnc99 rfl rfl (fun w1 hm1 => by
          have hm2 := hm1.perm (L' := ([(k5, Blk.c [.int .i64 q.kind, .int .i64 q.n, .string q.data, .bool q.ad.v6, .int .u8 (q.ad.b 0), .int .u8 (q.ad.b 1), .int .u8 (q.ad.b 2), .int .u8 (q.ad.b 3), .int .u8 (q.ad.b 4), .int .u8 (q.ad.b 5), .int .u8 (q.ad.b 6), .int .u8 (q.ad.b 7), .int .u8 (q.ad.b 8), .int .u8 (q.ad.b 9), .int .u8 (q.ad.b 10), .int .u8 (q.ad.b 11), .int .u8 (q.ad.b 12), .int .u8 (q.ad.b 13), .int .u8 (q.ad.b 14), .int .u8 (q.ad.b 15), .int .i64 q.port] 86 0 0)] ++ pX p (pSettle { x with up := x.up.drop k }) y) ++ pR b nv x) (perm_swap [(k5, Blk.c [.int .i64 q.kind, .int .i64 q.n, .string q.data, .bool q.ad.v6, .int .u8 (q.ad.b 0), .int .u8 (q.ad.b 1), .int .u8 (q.ad.b 2), .int .u8 (q.ad.b 3), .int .u8 (q.ad.b 4), .int .u8 (q.ad.b 5), .int .u8 (q.ad.b 6), .int .u8 (q.ad.b 7), .int .u8 (q.ad.b 8), .int .u8 (q.ad.b 9), .int .u8 (q.ad.b 10), .int .u8 (q.ad.b 11), .int .u8 (q.ad.b 12), .int .u8 (q.ad.b 13), .int .u8 (q.ad.b 14), .int .u8 (q.ad.b 15), .int .i64 q.port] 86 0 0)] (pX p (pSettle { x with up := x.up.drop k }) y) (pR b nv x))
          exact RC.use (ToRemoteR_any b nv x hs4 q.n hn0 k hkn' hx.s0.small) hm2) (fun _ _ => ?_)
      refine zh_oned (by rfl) (by simp) ?_
      refine zh_take 8 (by kernel_rfl) rfl (by kernel_rfl) (by kernel_rfl) ?_ (by simp); (repeat (first | (refine sn ?_) | (refine stx ?_) | (refine sb ?_))); refine zh_took (by rfl) ?_
      refine zh_take 9 (by kernel_rfl) rfl (by kernel_rfl) (by kernel_rfl) ?_ (by simp); (repeat (first | (refine sn ?_) | (refine stx ?_) | (refine sb ?_))); refine zh_took (by rfl) ?_
      refine zh_end (by rfl) (by kernel_rfl) ?_
      repeat (first | (refine st ?_) | (refine stx ?_) | (refine sb ?_) | (intro _))
      refine z_ret1 tab_ok Try.func49 hb hk Try.results49 (.tmp rfl) (fun w hm => ?_)
      exact ⟨((pSettle { x with up := x.up.drop k }), y), hy, hx.toR k, by first | rfl | simp, hm.weaken (fun _ h => h) (List.Sublist.cons _ (List.Sublist.refl _))⟩
    · repeat (first | (refine sn ?_) | (refine stx ?_) | (refine sb ?_) | (intro _))
      refine z_regionH [(k5, Blk.c [.int .i64 q.kind, .int .i64 q.n, .string q.data, .bool q.ad.v6, .int .u8 (q.ad.b 0), .int .u8 (q.ad.b 1), .int .u8 (q.ad.b 2), .int .u8 (q.ad.b 3), .int .u8 (q.ad.b 4), .int .u8 (q.ad.b 5), .int .u8 (q.ad.b 6), .int .u8 (q.ad.b 7), .int .u8 (q.ad.b 8), .int .u8 (q.ad.b 9), .int .u8 (q.ad.b 10), .int .u8 (q.ad.b 11), .int .u8 (q.ad.b 12), .int .u8 (q.ad.b 13), .int .u8 (q.ad.b 14), .int .u8 (q.ad.b 15), .int .i64 q.port] 86 0 0)] (by rfl) follows_mixed (List.sublist_append_left [_] _) (m := 10) rfl ?_
      refine zh_take 0 (by kernel_rfl) rfl (by kernel_rfl) (by kernel_rfl) ?_ (by simp); (repeat (first | (refine sn ?_) | (refine stx ?_) | (refine sb ?_))); refine zh_took (by rfl) ?_
      refine zh_take 1 (by kernel_rfl) rfl (by kernel_rfl) (by kernel_rfl) ?_ (by simp); (repeat (first | (refine sn ?_) | (refine stx ?_) | (refine sb ?_))); refine zh_took (by rfl) ?_
      refine zh_take 2 (by kernel_rfl) rfl (by kernel_rfl) (by kernel_rfl) ?_ (by simp); (repeat (first | (refine sn ?_) | (refine stx ?_) | (refine sb ?_))); refine zh_took (by rfl) ?_
      refine zh_take 4 (by kernel_rfl) rfl (by kernel_rfl) (by kernel_rfl) ?_ (by simp); (repeat (first | (refine sn ?_) | (refine stx ?_) | (refine sb ?_))); refine zh_took (by rfl) ?_
      refine zh_take 5 (by kernel_rfl) rfl (by kernel_rfl) (by kernel_rfl) ?_ (by simp); (repeat (first | (refine sn ?_) | (refine stx ?_) | (refine sb ?_))); refine zh_took (by rfl) ?_
      refine zh_take 6 (by kernel_rfl) rfl (by kernel_rfl) (by kernel_rfl) ?_ (by simp); (repeat (first | (refine sn ?_) | (refine stx ?_) | (refine sb ?_))); refine zh_took (by rfl) ?_
      refine zh_one 3 rfl (by kernel_rfl) ?_
      refine zx_call (Y := Own × Own) (v := fun _ => .string noX) (Φ := fun y => okX (x) y) (L' := fun y => ([(k5, Blk.c [.int .i64 q.kind, .int .i64 q.n, .string q.data, .bool q.ad.v6, .int .u8 (q.ad.b 0), .int .u8 (q.ad.b 1), .int .u8 (q.ad.b 2), .int .u8 (q.ad.b 3), .int .u8 (q.ad.b 4), .int .u8 (q.ad.b 5), .int .u8 (q.ad.b 6), .int .u8 (q.ad.b 7), .int .u8 (q.ad.b 8), .int .u8 (q.ad.b 9), .int .u8 (q.ad.b 10), .int .u8 (q.ad.b 11), .int .u8 (q.ad.b 12), .int .u8 (q.ad.b 13), .int .u8 (q.ad.b 14), .int .u8 (q.ad.b 15), .int .i64 q.port] 86 0 0)] ++ pR b nv x) ++ pX p (x) y) rfl fnc45 rfl rfl (fun w1 hm1 => by
          have hm2 := hm1.perm (L' := ([(k5, Blk.c [.int .i64 q.kind, .int .i64 q.n, .string q.data, .bool q.ad.v6, .int .u8 (q.ad.b 0), .int .u8 (q.ad.b 1), .int .u8 (q.ad.b 2), .int .u8 (q.ad.b 3), .int .u8 (q.ad.b 4), .int .u8 (q.ad.b 5), .int .u8 (q.ad.b 6), .int .u8 (q.ad.b 7), .int .u8 (q.ad.b 8), .int .u8 (q.ad.b 9), .int .u8 (q.ad.b 10), .int .u8 (q.ad.b 11), .int .u8 (q.ad.b 12), .int .u8 (q.ad.b 13), .int .u8 (q.ad.b 14), .int .u8 (q.ad.b 15), .int .i64 q.port] 86 0 0)] ++ pR b nv x) ++ pX p x o) (perm_swap [(k5, Blk.c [.int .i64 q.kind, .int .i64 q.n, .string q.data, .bool q.ad.v6, .int .u8 (q.ad.b 0), .int .u8 (q.ad.b 1), .int .u8 (q.ad.b 2), .int .u8 (q.ad.b 3), .int .u8 (q.ad.b 4), .int .u8 (q.ad.b 5), .int .u8 (q.ad.b 6), .int .u8 (q.ad.b 7), .int .u8 (q.ad.b 8), .int .u8 (q.ad.b 9), .int .u8 (q.ad.b 10), .int .u8 (q.ad.b 11), .int .u8 (q.ad.b 12), .int .u8 (q.ad.b 13), .int .u8 (q.ad.b 14), .int .u8 (q.ad.b 15), .int .i64 q.port] 86 0 0)] (pR b nv x) (pX p x o))
          exact PC.use (ToRemote_not p x hs4 q.n) hok hm2) (fun y hy => ?_)
      refine zh_oned (by rfl) (by simp) ?_
      refine zh_one 7 rfl (by kernel_rfl) ?_
      refine zx_call (Y := Unit) (v := fun _ => .string noX) (Φ := fun _ => True) (L' := fun _ => ([(k5, Blk.c [.int .i64 q.kind, .int .i64 q.n, .string q.data, .bool q.ad.v6, .int .u8 (q.ad.b 0), .int .u8 (q.ad.b 1), .int .u8 (q.ad.b 2), .int .u8 (q.ad.b 3), .int .u8 (q.ad.b 4), .int .u8 (q.ad.b 5), .int .u8 (q.ad.b 6), .int .u8 (q.ad.b 7), .int .u8 (q.ad.b 8), .int .u8 (q.ad.b 9), .int .u8 (q.ad.b 10), .int .u8 (q.ad.b 11), .int .u8 (q.ad.b 12), .int .u8 (q.ad.b 13), .int .u8 (q.ad.b 14), .int .u8 (q.ad.b 15), .int .i64 q.port] 86 0 0)] ++ pX p (x) y) ++ pR b nv (x)) rfl fnc99 rfl rfl (fun w1 hm1 => by
          have hm2 := hm1.perm (L' := ([(k5, Blk.c [.int .i64 q.kind, .int .i64 q.n, .string q.data, .bool q.ad.v6, .int .u8 (q.ad.b 0), .int .u8 (q.ad.b 1), .int .u8 (q.ad.b 2), .int .u8 (q.ad.b 3), .int .u8 (q.ad.b 4), .int .u8 (q.ad.b 5), .int .u8 (q.ad.b 6), .int .u8 (q.ad.b 7), .int .u8 (q.ad.b 8), .int .u8 (q.ad.b 9), .int .u8 (q.ad.b 10), .int .u8 (q.ad.b 11), .int .u8 (q.ad.b 12), .int .u8 (q.ad.b 13), .int .u8 (q.ad.b 14), .int .u8 (q.ad.b 15), .int .i64 q.port] 86 0 0)] ++ pX p (x) y) ++ pR b nv x) (perm_swap [(k5, Blk.c [.int .i64 q.kind, .int .i64 q.n, .string q.data, .bool q.ad.v6, .int .u8 (q.ad.b 0), .int .u8 (q.ad.b 1), .int .u8 (q.ad.b 2), .int .u8 (q.ad.b 3), .int .u8 (q.ad.b 4), .int .u8 (q.ad.b 5), .int .u8 (q.ad.b 6), .int .u8 (q.ad.b 7), .int .u8 (q.ad.b 8), .int .u8 (q.ad.b 9), .int .u8 (q.ad.b 10), .int .u8 (q.ad.b 11), .int .u8 (q.ad.b 12), .int .u8 (q.ad.b 13), .int .u8 (q.ad.b 14), .int .u8 (q.ad.b 15), .int .i64 q.port] 86 0 0)] (pX p (x) y) (pR b nv x))
          exact RC.use (ToRemoteR_not b nv x hs4 q.n hn0) hm2) (fun _ _ => ?_)
      refine zh_oned (by rfl) (by simp) ?_
      refine zh_take 8 (by kernel_rfl) rfl (by kernel_rfl) (by kernel_rfl) ?_ (by simp); (repeat (first | (refine sn ?_) | (refine stx ?_) | (refine sb ?_))); refine zh_took (by rfl) ?_
      refine zh_take 9 (by kernel_rfl) rfl (by kernel_rfl) (by kernel_rfl) ?_ (by simp); (repeat (first | (refine sn ?_) | (refine stx ?_) | (refine sb ?_))); refine zh_took (by rfl) ?_
      refine zh_end (by rfl) (by kernel_rfl) ?_
      repeat (first | (refine st ?_) | (refine stx ?_) | (refine sb ?_) | (intro _))
      refine z_ret1 tab_ok Try.func49 hb hk Try.results49 (.tmp rfl) (fun w hm => ?_)
      exact ⟨((x), y), hy, hx, by first | rfl | simp, hm.weaken (fun _ h => h) (List.Sublist.cons _ (List.Sublist.refl _))⟩
  · have hP : PC 45 [fP p 0, .int .i64 q.n] p x x (.string noX) := by
      by_cases hs4 : x.state = 4
      · have hkn : ((0 : Nat) : Int) = min (max q.n 0) x.up.length := by omega
        have hT := ToRemote_any p x hs4 q.n 0 hkn (by omega)
        have hsx : pSettle { x with up := x.up.drop 0 } = x := settle_same hx.live
        rw [hsx] at hT
        exact hT
      · exact ToRemote_not p x hs4 q.n
    repeat (first | (refine sn ?_) | (refine stx ?_) | (refine sb ?_) | (intro _))
    refine z_regionH [(k5, Blk.c [.int .i64 q.kind, .int .i64 q.n, .string q.data, .bool q.ad.v6, .int .u8 (q.ad.b 0), .int .u8 (q.ad.b 1), .int .u8 (q.ad.b 2), .int .u8 (q.ad.b 3), .int .u8 (q.ad.b 4), .int .u8 (q.ad.b 5), .int .u8 (q.ad.b 6), .int .u8 (q.ad.b 7), .int .u8 (q.ad.b 8), .int .u8 (q.ad.b 9), .int .u8 (q.ad.b 10), .int .u8 (q.ad.b 11), .int .u8 (q.ad.b 12), .int .u8 (q.ad.b 13), .int .u8 (q.ad.b 14), .int .u8 (q.ad.b 15), .int .i64 q.port] 86 0 0)] (by rfl) follows_mixed (List.sublist_append_left [_] _) (m := 10) rfl ?_
    refine zh_take 0 (by kernel_rfl) rfl (by kernel_rfl) (by kernel_rfl) ?_ (by simp); (repeat (first | (refine sn ?_) | (refine stx ?_) | (refine sb ?_))); refine zh_took (by rfl) ?_
    refine zh_take 1 (by kernel_rfl) rfl (by kernel_rfl) (by kernel_rfl) ?_ (by simp); (repeat (first | (refine sn ?_) | (refine stx ?_) | (refine sb ?_))); refine zh_took (by rfl) ?_
    refine zh_take 2 (by kernel_rfl) rfl (by kernel_rfl) (by kernel_rfl) ?_ (by simp); (repeat (first | (refine sn ?_) | (refine stx ?_) | (refine sb ?_))); refine zh_took (by rfl) ?_
    refine zh_take 4 (by kernel_rfl) rfl (by kernel_rfl) (by kernel_rfl) ?_ (by simp); (repeat (first | (refine sn ?_) | (refine stx ?_) | (refine sb ?_))); refine zh_took (by rfl) ?_
    refine zh_take 5 (by kernel_rfl) rfl (by kernel_rfl) (by kernel_rfl) ?_ (by simp); (repeat (first | (refine sn ?_) | (refine stx ?_) | (refine sb ?_))); refine zh_took (by rfl) ?_
    refine zh_take 6 (by kernel_rfl) rfl (by kernel_rfl) (by kernel_rfl) ?_ (by simp); (repeat (first | (refine sn ?_) | (refine stx ?_) | (refine sb ?_))); refine zh_took (by rfl) ?_
    refine zh_one 3 rfl (by kernel_rfl) ?_
    refine zx_call (Y := Own × Own) (v := fun _ => .string noX) (Φ := fun y => okX (x) y) (L' := fun y => ([(k5, Blk.c [.int .i64 q.kind, .int .i64 q.n, .string q.data, .bool q.ad.v6, .int .u8 (q.ad.b 0), .int .u8 (q.ad.b 1), .int .u8 (q.ad.b 2), .int .u8 (q.ad.b 3), .int .u8 (q.ad.b 4), .int .u8 (q.ad.b 5), .int .u8 (q.ad.b 6), .int .u8 (q.ad.b 7), .int .u8 (q.ad.b 8), .int .u8 (q.ad.b 9), .int .u8 (q.ad.b 10), .int .u8 (q.ad.b 11), .int .u8 (q.ad.b 12), .int .u8 (q.ad.b 13), .int .u8 (q.ad.b 14), .int .u8 (q.ad.b 15), .int .i64 q.port] 86 0 0)] ++ pR b nv x) ++ pX p (x) y) rfl fnc45 rfl rfl (fun w1 hm1 => by
        have hm2 := hm1.perm (L' := ([(k5, Blk.c [.int .i64 q.kind, .int .i64 q.n, .string q.data, .bool q.ad.v6, .int .u8 (q.ad.b 0), .int .u8 (q.ad.b 1), .int .u8 (q.ad.b 2), .int .u8 (q.ad.b 3), .int .u8 (q.ad.b 4), .int .u8 (q.ad.b 5), .int .u8 (q.ad.b 6), .int .u8 (q.ad.b 7), .int .u8 (q.ad.b 8), .int .u8 (q.ad.b 9), .int .u8 (q.ad.b 10), .int .u8 (q.ad.b 11), .int .u8 (q.ad.b 12), .int .u8 (q.ad.b 13), .int .u8 (q.ad.b 14), .int .u8 (q.ad.b 15), .int .i64 q.port] 86 0 0)] ++ pR b nv x) ++ pX p x o) (perm_swap [(k5, Blk.c [.int .i64 q.kind, .int .i64 q.n, .string q.data, .bool q.ad.v6, .int .u8 (q.ad.b 0), .int .u8 (q.ad.b 1), .int .u8 (q.ad.b 2), .int .u8 (q.ad.b 3), .int .u8 (q.ad.b 4), .int .u8 (q.ad.b 5), .int .u8 (q.ad.b 6), .int .u8 (q.ad.b 7), .int .u8 (q.ad.b 8), .int .u8 (q.ad.b 9), .int .u8 (q.ad.b 10), .int .u8 (q.ad.b 11), .int .u8 (q.ad.b 12), .int .u8 (q.ad.b 13), .int .u8 (q.ad.b 14), .int .u8 (q.ad.b 15), .int .i64 q.port] 86 0 0)] (pR b nv x) (pX p x o))
        exact PC.use hP hok hm2) (fun y hy => ?_)
    refine zh_oned (by rfl) (by simp) ?_
    refine zh_one 7 rfl (by kernel_rfl) ?_
    refine zx_call (Y := Unit) (v := fun _ => .string noX) (Φ := fun _ => True) (L' := fun _ => ([(k5, Blk.c [.int .i64 q.kind, .int .i64 q.n, .string q.data, .bool q.ad.v6, .int .u8 (q.ad.b 0), .int .u8 (q.ad.b 1), .int .u8 (q.ad.b 2), .int .u8 (q.ad.b 3), .int .u8 (q.ad.b 4), .int .u8 (q.ad.b 5), .int .u8 (q.ad.b 6), .int .u8 (q.ad.b 7), .int .u8 (q.ad.b 8), .int .u8 (q.ad.b 9), .int .u8 (q.ad.b 10), .int .u8 (q.ad.b 11), .int .u8 (q.ad.b 12), .int .u8 (q.ad.b 13), .int .u8 (q.ad.b 14), .int .u8 (q.ad.b 15), .int .i64 q.port] 86 0 0)] ++ pX p (x) y) ++ pR b nv (x)) rfl fnc99 rfl rfl (fun w1 hm1 => by
        have hm2 := hm1.perm (L' := ([(k5, Blk.c [.int .i64 q.kind, .int .i64 q.n, .string q.data, .bool q.ad.v6, .int .u8 (q.ad.b 0), .int .u8 (q.ad.b 1), .int .u8 (q.ad.b 2), .int .u8 (q.ad.b 3), .int .u8 (q.ad.b 4), .int .u8 (q.ad.b 5), .int .u8 (q.ad.b 6), .int .u8 (q.ad.b 7), .int .u8 (q.ad.b 8), .int .u8 (q.ad.b 9), .int .u8 (q.ad.b 10), .int .u8 (q.ad.b 11), .int .u8 (q.ad.b 12), .int .u8 (q.ad.b 13), .int .u8 (q.ad.b 14), .int .u8 (q.ad.b 15), .int .i64 q.port] 86 0 0)] ++ pX p (x) y) ++ pR b nv x) (perm_swap [(k5, Blk.c [.int .i64 q.kind, .int .i64 q.n, .string q.data, .bool q.ad.v6, .int .u8 (q.ad.b 0), .int .u8 (q.ad.b 1), .int .u8 (q.ad.b 2), .int .u8 (q.ad.b 3), .int .u8 (q.ad.b 4), .int .u8 (q.ad.b 5), .int .u8 (q.ad.b 6), .int .u8 (q.ad.b 7), .int .u8 (q.ad.b 8), .int .u8 (q.ad.b 9), .int .u8 (q.ad.b 10), .int .u8 (q.ad.b 11), .int .u8 (q.ad.b 12), .int .u8 (q.ad.b 13), .int .u8 (q.ad.b 14), .int .u8 (q.ad.b 15), .int .i64 q.port] 86 0 0)] (pX p (x) y) (pR b nv x))
        exact RC.use (ToRemoteR_neg b nv x q.n (by omega)) hm2) (fun _ _ => ?_)
    refine zh_oned (by rfl) (by simp) ?_
    refine zh_take 8 (by kernel_rfl) rfl (by kernel_rfl) (by kernel_rfl) ?_ (by simp); (repeat (first | (refine sn ?_) | (refine stx ?_) | (refine sb ?_))); refine zh_took (by rfl) ?_
    refine zh_take 9 (by kernel_rfl) rfl (by kernel_rfl) (by kernel_rfl) ?_ (by simp); (repeat (first | (refine sn ?_) | (refine stx ?_) | (refine sb ?_))); refine zh_took (by rfl) ?_
    refine zh_end (by rfl) (by kernel_rfl) ?_
    repeat (first | (refine st ?_) | (refine stx ?_) | (refine sb ?_) | (intro _))
    refine z_ret1 tab_ok Try.func49 hb hk Try.results49 (.tmp rfl) (fun w hm => ?_)
    exact ⟨((x), y), hy, hx, by first | rfl | simp, hm.weaken (fun _ h => h) (List.Sublist.cons _ (List.Sublist.refl _))⟩
theorem does_m4 (p b : Nat) (na : Option Addr) (ncap : Nat) (ns : List Nm) (nv nvp : Value) (hnv : nv = .slice na ns.length ncap) (x : Px) (q : Qo) (hq : q.ok) (o : Own × Own) (hok : okX x o) (hx : Sm x nvp) (w : World) (h : Mem w ((pX p x o ++ pR b nv x).map (·.1)) (pX p x o ++ pR b nv x) w) (hnp : NmAt w ((pX p x o ++ pR b nv x).map (·.1)) x.names ns) (hnr : NmAt w ((pX p x o ++ pR b nv x).map (·.1)) nv ns) (hkd : q.kind.tmod 10 = (-4)) : Calls Try.prog 49 [fP p 0, fP b 0, .agg q.cells.toArray].toArray w fun e w' => ∃ g : Px × (Own × Own), okX g.1 g.2 ∧ Sm g.1 nvp ∧ e = .returned (.bool true) ∧ Mem w ((pX p x o ++ pR b nv x).map (·.1)) (pX p g.1 g.2 ++ pR b nv g.1) w' := by
  obtain ⟨hq1, hq2, hq3⟩ := hq
  have hu := hx.s0.ups
  have hd := hx.s0.downs
  have hgood : GoodN x := ⟨hx.s0.small, by omega, by omega, hx.s0.state⟩
  refine calls_of_z Try.func49 rfl Try.ntmps49 rfl h ?_; intro cs b' hb hk
  repeat (first | (refine st ?_) | (refine stx ?_) | (intro _))
  rename_i k5
  refine z_re 7 (.int .i64 (-4)) rfl (congrArg _ hkd) ?_
  refine z_re 12 (.bool true) rfl (congrArg _ ((congrArg (fun r : Int => decide (r < 0)) hkd).trans rfl)) ?_
  repeat (first | (refine sn ?_) | (refine stx ?_) | (refine sb ?_) | (intro _))
  refine z_regionH [(k5, Blk.c [.int .i64 q.kind, .int .i64 q.n, .string q.data, .bool q.ad.v6, .int .u8 (q.ad.b 0), .int .u8 (q.ad.b 1), .int .u8 (q.ad.b 2), .int .u8 (q.ad.b 3), .int .u8 (q.ad.b 4), .int .u8 (q.ad.b 5), .int .u8 (q.ad.b 6), .int .u8 (q.ad.b 7), .int .u8 (q.ad.b 8), .int .u8 (q.ad.b 9), .int .u8 (q.ad.b 10), .int .u8 (q.ad.b 11), .int .u8 (q.ad.b 12), .int .u8 (q.ad.b 13), .int .u8 (q.ad.b 14), .int .u8 (q.ad.b 15), .int .i64 q.port] 86 0 0)] (by rfl) follows_mixed (List.sublist_append_left [_] _) (m := 16) rfl ?_
  refine zh_take 0 (by kernel_rfl) rfl (by kernel_rfl) (by kernel_rfl) ?_ (by simp); (repeat (first | (refine sn ?_) | (refine stx ?_) | (refine sb ?_))); refine zh_took (by rfl) ?_
  refine zh_take 1 (by kernel_rfl) rfl (by kernel_rfl) (by kernel_rfl) ?_ (by simp); (repeat (first | (refine sn ?_) | (refine stx ?_) | (refine sb ?_))); refine zh_took (by rfl) ?_
  refine zh_take 2 (by kernel_rfl) rfl (by kernel_rfl) (by kernel_rfl) ?_ (by simp); (repeat (first | (refine sn ?_) | (refine stx ?_) | (refine sb ?_))); refine zh_took (by rfl) ?_
  refine zh_take 3 (by kernel_rfl) rfl (by kernel_rfl) (by kernel_rfl) ?_ (by simp); (repeat (first | (refine sn ?_) | (refine stx ?_) | (refine sb ?_))); refine zh_took (by rfl) ?_
  refine zh_take 4 (by kernel_rfl) rfl (by kernel_rfl) (by kernel_rfl) ?_ (by simp); (repeat (first | (refine sn ?_) | (refine stx ?_) | (refine sb ?_))); refine zh_took (by rfl) ?_
  refine zh_take 7 (by kernel_rfl) rfl (by kernel_rfl) (by kernel_rfl) ?_ (by simp); (repeat (first | (refine sn ?_) | (refine stx ?_) | (refine sb ?_))); refine zh_took (by rfl) ?_
  refine zh_take 8 (by kernel_rfl) rfl (by kernel_rfl) (by kernel_rfl) ?_ (by simp); (repeat (first | (refine sn ?_) | (refine stx ?_) | (refine sb ?_))); refine zh_took (by rfl) ?_
  refine zh_take 9 (by kernel_rfl) rfl (by kernel_rfl) (by kernel_rfl) ?_ (by simp); (repeat (first | (refine sn ?_) | (refine stx ?_) | (refine sb ?_))); refine zh_took (by rfl) ?_
  refine zh_take 10 (by kernel_rfl) rfl (by kernel_rfl) (by kernel_rfl) ?_ (by simp); (repeat (first | (refine sn ?_) | (refine stx ?_) | (refine sb ?_))); refine zh_took (by rfl) ?_
  refine zh_take 11 (by kernel_rfl) rfl (by kernel_rfl) (by kernel_rfl) ?_ (by simp); (repeat (first | (refine sn ?_) | (refine stx ?_) | (refine sb ?_))); refine zh_took (by rfl) ?_
  refine zh_take 5 (by kernel_rfl) rfl (by kernel_rfl) (by kernel_rfl) ?_ (by simp)
  ((try (refine sg ?_)); (refine zx_call0 rfl fnc100 rfl rfl (fun w hm => code_any q.n hq2 w) ?_))
  refine zh_took (by rfl) ?_
  refine zh_one 6 rfl (by kernel_rfl) ?_
  refine zx_call (Y := Own × Own) (v := fun _ => .bool (pConnE x q.ad q.port (cd q.n)).2) (Φ := fun y => okX ((pConnE x q.ad q.port (cd q.n)).1) y) (L' := fun y => ([(k5, Blk.c [.int .i64 q.kind, .int .i64 q.n, .string q.data, .bool q.ad.v6, .int .u8 (q.ad.b 0), .int .u8 (q.ad.b 1), .int .u8 (q.ad.b 2), .int .u8 (q.ad.b 3), .int .u8 (q.ad.b 4), .int .u8 (q.ad.b 5), .int .u8 (q.ad.b 6), .int .u8 (q.ad.b 7), .int .u8 (q.ad.b 8), .int .u8 (q.ad.b 9), .int .u8 (q.ad.b 10), .int .u8 (q.ad.b 11), .int .u8 (q.ad.b 12), .int .u8 (q.ad.b 13), .int .u8 (q.ad.b 14), .int .u8 (q.ad.b 15), .int .i64 q.port] 86 0 0)] ++ pR b nv x) ++ pX p ((pConnE x q.ad q.port (cd q.n)).1) y) rfl fnc51 rfl rfl (fun w1 hm1 => by
      have hm2 := hm1.perm (L' := ([(k5, Blk.c [.int .i64 q.kind, .int .i64 q.n, .string q.data, .bool q.ad.v6, .int .u8 (q.ad.b 0), .int .u8 (q.ad.b 1), .int .u8 (q.ad.b 2), .int .u8 (q.ad.b 3), .int .u8 (q.ad.b 4), .int .u8 (q.ad.b 5), .int .u8 (q.ad.b 6), .int .u8 (q.ad.b 7), .int .u8 (q.ad.b 8), .int .u8 (q.ad.b 9), .int .u8 (q.ad.b 10), .int .u8 (q.ad.b 11), .int .u8 (q.ad.b 12), .int .u8 (q.ad.b 13), .int .u8 (q.ad.b 14), .int .u8 (q.ad.b 15), .int .i64 q.port] 86 0 0)] ++ pR b nv x) ++ pX p x o) (perm_swap [(k5, Blk.c [.int .i64 q.kind, .int .i64 q.n, .string q.data, .bool q.ad.v6, .int .u8 (q.ad.b 0), .int .u8 (q.ad.b 1), .int .u8 (q.ad.b 2), .int .u8 (q.ad.b 3), .int .u8 (q.ad.b 4), .int .u8 (q.ad.b 5), .int .u8 (q.ad.b 6), .int .u8 (q.ad.b 7), .int .u8 (q.ad.b 8), .int .u8 (q.ad.b 9), .int .u8 (q.ad.b 10), .int .u8 (q.ad.b 11), .int .u8 (q.ad.b 12), .int .u8 (q.ad.b 13), .int .u8 (q.ad.b 14), .int .u8 (q.ad.b 15), .int .i64 q.port] 86 0 0)] (pR b nv x) (pX p x o))
      exact PC.use (ConnectedE_any p x q.ad q.port (cd q.n) (by omega)) hok hm2) (fun y hy => ?_)
  refine zh_oned (by rfl) (by simp) ?_
  refine zh_take 12 (by kernel_rfl) rfl (by kernel_rfl) (by kernel_rfl) ?_ (by simp)
  ((try (refine sg ?_)); (refine zx_call0 rfl fnc100 rfl rfl (fun w hm => code_any q.n hq2 w) ?_))
  refine zh_took (by rfl) ?_
  refine zh_one 13 rfl (by kernel_rfl) ?_
  refine zx_call (Y := Unit) (v := fun _ => .bool (pConnE x q.ad q.port (cd q.n)).2) (Φ := fun _ => True) (L' := fun _ => ([(k5, Blk.c [.int .i64 q.kind, .int .i64 q.n, .string q.data, .bool q.ad.v6, .int .u8 (q.ad.b 0), .int .u8 (q.ad.b 1), .int .u8 (q.ad.b 2), .int .u8 (q.ad.b 3), .int .u8 (q.ad.b 4), .int .u8 (q.ad.b 5), .int .u8 (q.ad.b 6), .int .u8 (q.ad.b 7), .int .u8 (q.ad.b 8), .int .u8 (q.ad.b 9), .int .u8 (q.ad.b 10), .int .u8 (q.ad.b 11), .int .u8 (q.ad.b 12), .int .u8 (q.ad.b 13), .int .u8 (q.ad.b 14), .int .u8 (q.ad.b 15), .int .i64 q.port] 86 0 0)] ++ pX p ((pConnE x q.ad q.port (cd q.n)).1) y) ++ pR b nv ((pConnE x q.ad q.port (cd q.n)).1)) rfl fnc101 rfl rfl (fun w1 hm1 => by
      have hm2 := hm1.perm (L' := ([(k5, Blk.c [.int .i64 q.kind, .int .i64 q.n, .string q.data, .bool q.ad.v6, .int .u8 (q.ad.b 0), .int .u8 (q.ad.b 1), .int .u8 (q.ad.b 2), .int .u8 (q.ad.b 3), .int .u8 (q.ad.b 4), .int .u8 (q.ad.b 5), .int .u8 (q.ad.b 6), .int .u8 (q.ad.b 7), .int .u8 (q.ad.b 8), .int .u8 (q.ad.b 9), .int .u8 (q.ad.b 10), .int .u8 (q.ad.b 11), .int .u8 (q.ad.b 12), .int .u8 (q.ad.b 13), .int .u8 (q.ad.b 14), .int .u8 (q.ad.b 15), .int .i64 q.port] 86 0 0)] ++ pX p ((pConnE x q.ad q.port (cd q.n)).1) y) ++ pR b nv x) (perm_swap [(k5, Blk.c [.int .i64 q.kind, .int .i64 q.n, .string q.data, .bool q.ad.v6, .int .u8 (q.ad.b 0), .int .u8 (q.ad.b 1), .int .u8 (q.ad.b 2), .int .u8 (q.ad.b 3), .int .u8 (q.ad.b 4), .int .u8 (q.ad.b 5), .int .u8 (q.ad.b 6), .int .u8 (q.ad.b 7), .int .u8 (q.ad.b 8), .int .u8 (q.ad.b 9), .int .u8 (q.ad.b 10), .int .u8 (q.ad.b 11), .int .u8 (q.ad.b 12), .int .u8 (q.ad.b 13), .int .u8 (q.ad.b 14), .int .u8 (q.ad.b 15), .int .i64 q.port] 86 0 0)] (pX p ((pConnE x q.ad q.port (cd q.n)).1) y) (pR b nv x))
      exact RC.use (ConnectedR_any b nv x q.ad q.port (cd q.n) (by omega)) hm2) (fun _ _ => ?_)
  refine zh_oned (by rfl) (by simp) ?_
  refine zh_take 14 (by kernel_rfl) rfl (by kernel_rfl) (by kernel_rfl) ?_ (by simp); (repeat (first | (refine sn ?_) | (refine stx ?_) | (refine sb ?_))); refine zh_took (by rfl) ?_
  refine zh_take 15 (by kernel_rfl) rfl (by kernel_rfl) (by kernel_rfl) ?_ (by simp); (repeat (first | (refine sn ?_) | (refine stx ?_) | (refine sb ?_))); refine zh_took (by rfl) ?_
  refine zh_end (by rfl) (by kernel_rfl) ?_
  repeat (first | (refine st ?_) | (refine stx ?_) | (refine sb ?_) | (intro _))
  refine z_ret1 tab_ok Try.func49 hb hk Try.results49 (.tmp rfl) (fun w hm => ?_)
  exact ⟨(((pConnE x q.ad q.port (cd q.n)).1), y), hy, hx.conn q.ad q.port (cd q.n), by first | rfl | simp, hm.weaken (fun _ h => h) (List.Sublist.cons _ (List.Sublist.refl _))⟩
theorem does_m3 (p b : Nat) (na : Option Addr) (ncap : Nat) (ns : List Nm) (nv nvp : Value) (hnv : nv = .slice na ns.length ncap) (x : Px) (q : Qo) (hq : q.ok) (o : Own × Own) (hok : okX x o) (hx : Sm x nvp) (w : World) (h : Mem w ((pX p x o ++ pR b nv x).map (·.1)) (pX p x o ++ pR b nv x) w) (hnp : NmAt w ((pX p x o ++ pR b nv x).map (·.1)) x.names ns) (hnr : NmAt w ((pX p x o ++ pR b nv x).map (·.1)) nv ns) (hkd : q.kind.tmod 10 = (-3)) : Calls Try.prog 49 [fP p 0, fP b 0, .agg q.cells.toArray].toArray w fun e w' => ∃ g : Px × (Own × Own), okX g.1 g.2 ∧ Sm g.1 nvp ∧ e = .returned (.bool true) ∧ Mem w ((pX p x o ++ pR b nv x).map (·.1)) (pX p g.1 g.2 ++ pR b nv g.1) w' := by
  obtain ⟨hq1, hq2, hq3⟩ := hq
  have hu := hx.s0.ups
  have hd := hx.s0.downs
  have hgood : GoodN x := ⟨hx.s0.small, by omega, by omega, hx.s0.state⟩
  refine calls_of_z Try.func49 rfl Try.ntmps49 rfl h ?_; intro cs b' hb hk
  repeat (first | (refine st ?_) | (refine stx ?_) | (intro _))
  rename_i k5
  refine z_re 7 (.int .i64 (-3)) rfl (congrArg _ hkd) ?_
  refine z_re 12 (.bool true) rfl (congrArg _ ((congrArg (fun r : Int => decide (r < 0)) hkd).trans rfl)) ?_
  repeat (first | (refine st ?_) | (refine stx ?_) | (refine sb ?_) | (intro _))
  refine zx_call (Y := Own × Own) (v := fun _ => .tuple #[]) (Φ := fun y => okX (pSettle (if x.state < 3 then pDone { x with cOver := true } else { x with cOver := true })) y) (L' := fun y => ([(k5, Blk.c [.int .i64 q.kind, .int .i64 q.n, .string q.data, .bool q.ad.v6, .int .u8 (q.ad.b 0), .int .u8 (q.ad.b 1), .int .u8 (q.ad.b 2), .int .u8 (q.ad.b 3), .int .u8 (q.ad.b 4), .int .u8 (q.ad.b 5), .int .u8 (q.ad.b 6), .int .u8 (q.ad.b 7), .int .u8 (q.ad.b 8), .int .u8 (q.ad.b 9), .int .u8 (q.ad.b 10), .int .u8 (q.ad.b 11), .int .u8 (q.ad.b 12), .int .u8 (q.ad.b 13), .int .u8 (q.ad.b 14), .int .u8 (q.ad.b 15), .int .i64 q.port] 86 0 0)] ++ pR b nv x) ++ pX p (pSettle (if x.state < 3 then pDone { x with cOver := true } else { x with cOver := true })) y) rfl fnc53 rfl rfl (fun w1 hm1 => by
      have hm2 := hm1.perm (L' := ([(k5, Blk.c [.int .i64 q.kind, .int .i64 q.n, .string q.data, .bool q.ad.v6, .int .u8 (q.ad.b 0), .int .u8 (q.ad.b 1), .int .u8 (q.ad.b 2), .int .u8 (q.ad.b 3), .int .u8 (q.ad.b 4), .int .u8 (q.ad.b 5), .int .u8 (q.ad.b 6), .int .u8 (q.ad.b 7), .int .u8 (q.ad.b 8), .int .u8 (q.ad.b 9), .int .u8 (q.ad.b 10), .int .u8 (q.ad.b 11), .int .u8 (q.ad.b 12), .int .u8 (q.ad.b 13), .int .u8 (q.ad.b 14), .int .u8 (q.ad.b 15), .int .i64 q.port] 86 0 0)] ++ pR b nv x) ++ pX p x o) (perm_swap [(k5, Blk.c [.int .i64 q.kind, .int .i64 q.n, .string q.data, .bool q.ad.v6, .int .u8 (q.ad.b 0), .int .u8 (q.ad.b 1), .int .u8 (q.ad.b 2), .int .u8 (q.ad.b 3), .int .u8 (q.ad.b 4), .int .u8 (q.ad.b 5), .int .u8 (q.ad.b 6), .int .u8 (q.ad.b 7), .int .u8 (q.ad.b 8), .int .u8 (q.ad.b 9), .int .u8 (q.ad.b 10), .int .u8 (q.ad.b 11), .int .u8 (q.ad.b 12), .int .u8 (q.ad.b 13), .int .u8 (q.ad.b 14), .int .u8 (q.ad.b 15), .int .i64 q.port] 86 0 0)] (pR b nv x) (pX p x o))
      exact PC.use (ClientEnd_any p x (by omega)) hok hm2) (fun y hy => ?_)
  repeat (first | (refine st ?_) | (refine stx ?_) | (refine sb ?_) | (intro _))
  refine zx_call (Y := Unit) (v := fun _ => .tuple #[]) (Φ := fun _ => True) (L' := fun _ => ([(k5, Blk.c [.int .i64 q.kind, .int .i64 q.n, .string q.data, .bool q.ad.v6, .int .u8 (q.ad.b 0), .int .u8 (q.ad.b 1), .int .u8 (q.ad.b 2), .int .u8 (q.ad.b 3), .int .u8 (q.ad.b 4), .int .u8 (q.ad.b 5), .int .u8 (q.ad.b 6), .int .u8 (q.ad.b 7), .int .u8 (q.ad.b 8), .int .u8 (q.ad.b 9), .int .u8 (q.ad.b 10), .int .u8 (q.ad.b 11), .int .u8 (q.ad.b 12), .int .u8 (q.ad.b 13), .int .u8 (q.ad.b 14), .int .u8 (q.ad.b 15), .int .i64 q.port] 86 0 0)] ++ pX p (pSettle (if x.state < 3 then pDone { x with cOver := true } else { x with cOver := true })) y) ++ pR b nv (pSettle (if x.state < 3 then pDone { x with cOver := true } else { x with cOver := true }))) rfl fnc102 rfl rfl (fun w1 hm1 => by
      have hm2 := hm1.perm (L' := ([(k5, Blk.c [.int .i64 q.kind, .int .i64 q.n, .string q.data, .bool q.ad.v6, .int .u8 (q.ad.b 0), .int .u8 (q.ad.b 1), .int .u8 (q.ad.b 2), .int .u8 (q.ad.b 3), .int .u8 (q.ad.b 4), .int .u8 (q.ad.b 5), .int .u8 (q.ad.b 6), .int .u8 (q.ad.b 7), .int .u8 (q.ad.b 8), .int .u8 (q.ad.b 9), .int .u8 (q.ad.b 10), .int .u8 (q.ad.b 11), .int .u8 (q.ad.b 12), .int .u8 (q.ad.b 13), .int .u8 (q.ad.b 14), .int .u8 (q.ad.b 15), .int .i64 q.port] 86 0 0)] ++ pX p (pSettle (if x.state < 3 then pDone { x with cOver := true } else { x with cOver := true })) y) ++ pR b nv x) (perm_swap [(k5, Blk.c [.int .i64 q.kind, .int .i64 q.n, .string q.data, .bool q.ad.v6, .int .u8 (q.ad.b 0), .int .u8 (q.ad.b 1), .int .u8 (q.ad.b 2), .int .u8 (q.ad.b 3), .int .u8 (q.ad.b 4), .int .u8 (q.ad.b 5), .int .u8 (q.ad.b 6), .int .u8 (q.ad.b 7), .int .u8 (q.ad.b 8), .int .u8 (q.ad.b 9), .int .u8 (q.ad.b 10), .int .u8 (q.ad.b 11), .int .u8 (q.ad.b 12), .int .u8 (q.ad.b 13), .int .u8 (q.ad.b 14), .int .u8 (q.ad.b 15), .int .i64 q.port] 86 0 0)] (pX p (pSettle (if x.state < 3 then pDone { x with cOver := true } else { x with cOver := true })) y) (pR b nv x))
      exact RC.use (ClientEndR_any b nv x) hm2) (fun _ _ => ?_)
  repeat (first | (refine st ?_) | (refine stx ?_) | (refine sb ?_) | (intro _))
  refine z_ret1 tab_ok Try.func49 hb hk Try.results49 (.tmp rfl) (fun w hm => ?_)
  exact ⟨((pSettle (if x.state < 3 then pDone { x with cOver := true } else { x with cOver := true })), y), hy, hx.endC, by first | rfl | simp, hm.weaken (fun _ h => h) (List.Sublist.cons _ (List.Sublist.refl _))⟩
theorem does_m2 (p b : Nat) (na : Option Addr) (ncap : Nat) (ns : List Nm) (nv nvp : Value) (hnv : nv = .slice na ns.length ncap) (x : Px) (q : Qo) (hq : q.ok) (o : Own × Own) (hok : okX x o) (hx : Sm x nvp) (w : World) (h : Mem w ((pX p x o ++ pR b nv x).map (·.1)) (pX p x o ++ pR b nv x) w) (hnp : NmAt w ((pX p x o ++ pR b nv x).map (·.1)) x.names ns) (hnr : NmAt w ((pX p x o ++ pR b nv x).map (·.1)) nv ns) (hkd : q.kind.tmod 10 = (-2)) : Calls Try.prog 49 [fP p 0, fP b 0, .agg q.cells.toArray].toArray w fun e w' => ∃ g : Px × (Own × Own), okX g.1 g.2 ∧ Sm g.1 nvp ∧ e = .returned (.bool true) ∧ Mem w ((pX p x o ++ pR b nv x).map (·.1)) (pX p g.1 g.2 ++ pR b nv g.1) w' := by
  obtain ⟨hq1, hq2, hq3⟩ := hq
  have hu := hx.s0.ups
  have hd := hx.s0.downs
  have hgood : GoodN x := ⟨hx.s0.small, by omega, by omega, hx.s0.state⟩
  refine calls_of_z Try.func49 rfl Try.ntmps49 rfl h ?_; intro cs b' hb hk
  repeat (first | (refine st ?_) | (refine stx ?_) | (intro _))
  rename_i k5
  refine z_re 7 (.int .i64 (-2)) rfl (congrArg _ hkd) ?_
  refine z_re 12 (.bool true) rfl (congrArg _ ((congrArg (fun r : Int => decide (r < 0)) hkd).trans rfl)) ?_
  repeat (first | (refine st ?_) | (refine stx ?_) | (refine sb ?_) | (intro _))
  refine zx_call (Y := Own × Own) (v := fun _ => .tuple #[]) (Φ := fun y => okX (if x.state = 4 then pSettle { x with rOver := true } else x) y) (L' := fun y => ([(k5, Blk.c [.int .i64 q.kind, .int .i64 q.n, .string q.data, .bool q.ad.v6, .int .u8 (q.ad.b 0), .int .u8 (q.ad.b 1), .int .u8 (q.ad.b 2), .int .u8 (q.ad.b 3), .int .u8 (q.ad.b 4), .int .u8 (q.ad.b 5), .int .u8 (q.ad.b 6), .int .u8 (q.ad.b 7), .int .u8 (q.ad.b 8), .int .u8 (q.ad.b 9), .int .u8 (q.ad.b 10), .int .u8 (q.ad.b 11), .int .u8 (q.ad.b 12), .int .u8 (q.ad.b 13), .int .u8 (q.ad.b 14), .int .u8 (q.ad.b 15), .int .i64 q.port] 86 0 0)] ++ pR b nv x) ++ pX p (if x.state = 4 then pSettle { x with rOver := true } else x) y) rfl fnc54 rfl rfl (fun w1 hm1 => by
      have hm2 := hm1.perm (L' := ([(k5, Blk.c [.int .i64 q.kind, .int .i64 q.n, .string q.data, .bool q.ad.v6, .int .u8 (q.ad.b 0), .int .u8 (q.ad.b 1), .int .u8 (q.ad.b 2), .int .u8 (q.ad.b 3), .int .u8 (q.ad.b 4), .int .u8 (q.ad.b 5), .int .u8 (q.ad.b 6), .int .u8 (q.ad.b 7), .int .u8 (q.ad.b 8), .int .u8 (q.ad.b 9), .int .u8 (q.ad.b 10), .int .u8 (q.ad.b 11), .int .u8 (q.ad.b 12), .int .u8 (q.ad.b 13), .int .u8 (q.ad.b 14), .int .u8 (q.ad.b 15), .int .i64 q.port] 86 0 0)] ++ pR b nv x) ++ pX p x o) (perm_swap [(k5, Blk.c [.int .i64 q.kind, .int .i64 q.n, .string q.data, .bool q.ad.v6, .int .u8 (q.ad.b 0), .int .u8 (q.ad.b 1), .int .u8 (q.ad.b 2), .int .u8 (q.ad.b 3), .int .u8 (q.ad.b 4), .int .u8 (q.ad.b 5), .int .u8 (q.ad.b 6), .int .u8 (q.ad.b 7), .int .u8 (q.ad.b 8), .int .u8 (q.ad.b 9), .int .u8 (q.ad.b 10), .int .u8 (q.ad.b 11), .int .u8 (q.ad.b 12), .int .u8 (q.ad.b 13), .int .u8 (q.ad.b 14), .int .u8 (q.ad.b 15), .int .i64 q.port] 86 0 0)] (pR b nv x) (pX p x o))
      exact PC.use (RemoteEnd_any p x (by omega)) hok hm2) (fun y hy => ?_)
  repeat (first | (refine st ?_) | (refine stx ?_) | (refine sb ?_) | (intro _))
  refine zx_call (Y := Unit) (v := fun _ => .tuple #[]) (Φ := fun _ => True) (L' := fun _ => ([(k5, Blk.c [.int .i64 q.kind, .int .i64 q.n, .string q.data, .bool q.ad.v6, .int .u8 (q.ad.b 0), .int .u8 (q.ad.b 1), .int .u8 (q.ad.b 2), .int .u8 (q.ad.b 3), .int .u8 (q.ad.b 4), .int .u8 (q.ad.b 5), .int .u8 (q.ad.b 6), .int .u8 (q.ad.b 7), .int .u8 (q.ad.b 8), .int .u8 (q.ad.b 9), .int .u8 (q.ad.b 10), .int .u8 (q.ad.b 11), .int .u8 (q.ad.b 12), .int .u8 (q.ad.b 13), .int .u8 (q.ad.b 14), .int .u8 (q.ad.b 15), .int .i64 q.port] 86 0 0)] ++ pX p (if x.state = 4 then pSettle { x with rOver := true } else x) y) ++ pR b nv (if x.state = 4 then pSettle { x with rOver := true } else x)) rfl fnc103 rfl rfl (fun w1 hm1 => by
      have hm2 := hm1.perm (L' := ([(k5, Blk.c [.int .i64 q.kind, .int .i64 q.n, .string q.data, .bool q.ad.v6, .int .u8 (q.ad.b 0), .int .u8 (q.ad.b 1), .int .u8 (q.ad.b 2), .int .u8 (q.ad.b 3), .int .u8 (q.ad.b 4), .int .u8 (q.ad.b 5), .int .u8 (q.ad.b 6), .int .u8 (q.ad.b 7), .int .u8 (q.ad.b 8), .int .u8 (q.ad.b 9), .int .u8 (q.ad.b 10), .int .u8 (q.ad.b 11), .int .u8 (q.ad.b 12), .int .u8 (q.ad.b 13), .int .u8 (q.ad.b 14), .int .u8 (q.ad.b 15), .int .i64 q.port] 86 0 0)] ++ pX p (if x.state = 4 then pSettle { x with rOver := true } else x) y) ++ pR b nv x) (perm_swap [(k5, Blk.c [.int .i64 q.kind, .int .i64 q.n, .string q.data, .bool q.ad.v6, .int .u8 (q.ad.b 0), .int .u8 (q.ad.b 1), .int .u8 (q.ad.b 2), .int .u8 (q.ad.b 3), .int .u8 (q.ad.b 4), .int .u8 (q.ad.b 5), .int .u8 (q.ad.b 6), .int .u8 (q.ad.b 7), .int .u8 (q.ad.b 8), .int .u8 (q.ad.b 9), .int .u8 (q.ad.b 10), .int .u8 (q.ad.b 11), .int .u8 (q.ad.b 12), .int .u8 (q.ad.b 13), .int .u8 (q.ad.b 14), .int .u8 (q.ad.b 15), .int .i64 q.port] 86 0 0)] (pX p (if x.state = 4 then pSettle { x with rOver := true } else x) y) (pR b nv x))
      exact RC.use (RemoteEndR_any b nv x) hm2) (fun _ _ => ?_)
  repeat (first | (refine st ?_) | (refine stx ?_) | (refine sb ?_) | (intro _))
  refine z_ret1 tab_ok Try.func49 hb hk Try.results49 (.tmp rfl) (fun w hm => ?_)
  exact ⟨((if x.state = 4 then pSettle { x with rOver := true } else x), y), hy, hx.endR, by first | rfl | simp, hm.weaken (fun _ h => h) (List.Sublist.cons _ (List.Sublist.refl _))⟩
theorem does_m1 (p b : Nat) (na : Option Addr) (ncap : Nat) (ns : List Nm) (nv nvp : Value) (hnv : nv = .slice na ns.length ncap) (x : Px) (q : Qo) (hq : q.ok) (o : Own × Own) (hok : okX x o) (hx : Sm x nvp) (w : World) (h : Mem w ((pX p x o ++ pR b nv x).map (·.1)) (pX p x o ++ pR b nv x) w) (hnp : NmAt w ((pX p x o ++ pR b nv x).map (·.1)) x.names ns) (hnr : NmAt w ((pX p x o ++ pR b nv x).map (·.1)) nv ns) (hkd : q.kind.tmod 10 = (-1)) : Calls Try.prog 49 [fP p 0, fP b 0, .agg q.cells.toArray].toArray w fun e w' => ∃ g : Px × (Own × Own), okX g.1 g.2 ∧ Sm g.1 nvp ∧ e = .returned (.bool true) ∧ Mem w ((pX p x o ++ pR b nv x).map (·.1)) (pX p g.1 g.2 ++ pR b nv g.1) w' := by
  obtain ⟨hq1, hq2, hq3⟩ := hq
  have hu := hx.s0.ups
  have hd := hx.s0.downs
  have hgood : GoodN x := ⟨hx.s0.small, by omega, by omega, hx.s0.state⟩
  refine calls_of_z Try.func49 rfl Try.ntmps49 rfl h ?_; intro cs b' hb hk
  repeat (first | (refine st ?_) | (refine stx ?_) | (intro _))
  rename_i k5
  refine z_re 7 (.int .i64 (-1)) rfl (congrArg _ hkd) ?_
  refine z_re 12 (.bool true) rfl (congrArg _ ((congrArg (fun r : Int => decide (r < 0)) hkd).trans rfl)) ?_
  repeat (first | (refine st ?_) | (refine stx ?_) | (refine sb ?_) | (intro _))
  refine z_ret1 tab_ok Try.func49 hb hk Try.results49 (.tmp rfl) (fun w hm => ?_)
  exact ⟨(x, o), hok, hx, rfl, hm.weaken (fun _ h => h) (List.Sublist.cons _ (List.Sublist.refl _))⟩
theorem does_any (p b : Nat) (na : Option Addr) (ncap : Nat) (ns : List Nm) (nv nvp : Value) (hnv : nv = .slice na ns.length ncap) (x : Px) (q : Qo) (hq : q.ok) (o : Own × Own) (hok : okX x o) (hx : Sm x nvp) (w : World) (h : Mem w ((pX p x o ++ pR b nv x).map (·.1)) (pX p x o ++ pR b nv x) w) (hnp : NmAt w ((pX p x o ++ pR b nv x).map (·.1)) x.names ns) (hnr : NmAt w ((pX p x o ++ pR b nv x).map (·.1)) nv ns) : Calls Try.prog 49 [fP p 0, fP b 0, .agg q.cells.toArray].toArray w fun e w' => ∃ g : Px × (Own × Own), okX g.1 g.2 ∧ Sm g.1 nvp ∧ e = .returned (.bool true) ∧ Mem w ((pX p x o ++ pR b nv x).map (·.1)) (pX p g.1 g.2 ++ pR b nv g.1) w' := by
  have hr : q.kind.tmod 10 = (-9) ∨ q.kind.tmod 10 = (-8) ∨ q.kind.tmod 10 = (-7) ∨ q.kind.tmod 10 = (-6) ∨ q.kind.tmod 10 = (-5) ∨ q.kind.tmod 10 = (-4) ∨ q.kind.tmod 10 = (-3) ∨ q.kind.tmod 10 = (-2) ∨ q.kind.tmod 10 = (-1) ∨ q.kind.tmod 10 = 0 ∨ q.kind.tmod 10 = 1 ∨ q.kind.tmod 10 = 2 ∨ q.kind.tmod 10 = 3 ∨ q.kind.tmod 10 = 4 ∨ q.kind.tmod 10 = 5 ∨ q.kind.tmod 10 = 6 ∨ q.kind.tmod 10 = 7 ∨ q.kind.tmod 10 = 8 ∨ q.kind.tmod 10 = 9 := by
    have h1 := Int.lt_tmod_of_pos q.kind (b := 10) (by decide)
    have h2 := Int.tmod_lt_of_pos q.kind (b := 10) (by decide)
    omega
  rcases hr with hr | hr | hr | hr | hr | hr | hr | hr | hr | hr | hr | hr | hr | hr | hr | hr | hr | hr | hr
  · exact does_m9 p b na ncap ns nv nvp hnv x q hq o hok hx w h hnp hnr hr
  · exact does_m8 p b na ncap ns nv nvp hnv x q hq o hok hx w h hnp hnr hr
  · exact does_m7 p b na ncap ns nv nvp hnv x q hq o hok hx w h hnp hnr hr
  · exact does_m6 p b na ncap ns nv nvp hnv x q hq o hok hx w h hnp hnr hr
  · exact does_m5 p b na ncap ns nv nvp hnv x q hq o hok hx w h hnp hnr hr
  · exact does_m4 p b na ncap ns nv nvp hnv x q hq o hok hx w h hnp hnr hr
  · exact does_m3 p b na ncap ns nv nvp hnv x q hq o hok hx w h hnp hnr hr
  · exact does_m2 p b na ncap ns nv nvp hnv x q hq o hok hx w h hnp hnr hr
  · exact does_m1 p b na ncap ns nv nvp hnv x q hq o hok hx w h hnp hnr hr
  · exact does_0 p b na ncap ns nv nvp hnv x q hq o hok hx w h hnp hnr hr
  · exact does_1 p b na ncap ns nv nvp hnv x q hq o hok hx w h hnp hnr hr
  · exact does_2 p b na ncap ns nv nvp hnv x q hq o hok hx w h hnp hnr hr
  · exact does_3 p b na ncap ns nv nvp hnv x q hq o hok hx w h hnp hnr hr
  · exact does_4 p b na ncap ns nv nvp hnv x q hq o hok hx w h hnp hnr hr
  · exact does_5 p b na ncap ns nv nvp hnv x q hq o hok hx w h hnp hnr hr
  · exact does_6 p b na ncap ns nv nvp hnv x q hq o hok hx w h hnp hnr hr
  · exact does_7 p b na ncap ns nv nvp hnv x q hq o hok hx w h hnp hnr hr
  · exact does_8 p b na ncap ns nv nvp hnv x q hq o hok hx w h hnp hnr hr
  · exact does_9 p b na ncap ns nv nvp hnv x q hq o hok hx w h hnp hnr hr
end Go.Proofs.Ytabcaiecoiejkaa
