/- Walk of the law SocksWhole: it answers true. -/
import Derived.Test.YtabcaiecoiejkaaS21
import Derived.Test.YtabcaiecoiejkaaS13
set_option maxRecDepth 100000
set_option linter.unusedSimpArgs false
set_option linter.unusedVariables false
set_option maxHeartbeats 4000000
namespace Go.Proofs.Ytabcaiecoiejkaa
open Go K

theorem run_down (ns : List Nm) : ∀ (r : Nat) (x : Px), pRankN x ≤ r → (pRunN ns x).down.length + 10 * pRankN (pRunN ns x) ≤ x.down.length + 10 * pRankN x
  | 0, x, hr => by rw [pRunN_none (stepN_rank0 (x := x) (by omega))]; omega
  | r + 1, x, hr => by
    cases h : pStepN ns x with
    | none => rw [pRunN_none h]; omega
    | some y =>
      obtain ⟨f1, f2, f3⟩ := stepN_fol h
      have := run_down ns r y (by omega)
      have := f1.downs
      rw [pRunN_some h]
      omega
theorem ext_fol (z : Px) (m : List Int) : FolR z (ext z m) ∧ (ext z m).names = z.names ∧ (ext z m).state = z.state ∧ (ext z m).down = z.down ∧ (ext z m).up.length ≤ z.up.length + m.length ∧ pRankN (ext z m) = pRankN z ∧ (Small z.up → Small m → Small (ext z m).up) := by
  unfold ext
  split
  · exact ⟨⟨rfl, rfl, rfl⟩, rfl, rfl, rfl, by omega, rfl, fun h _ => h⟩
  · exact ⟨⟨rfl, rfl, rfl⟩, rfl, rfl, rfl, by show (z.up ++ m).length ≤ _; rw [List.length_append]; omega, rfl, fun h h' => h.app h'⟩
theorem client_ext (ns : List Nm) (z : Px) (s : ByteArray) (hq : pStepN ns z = none) (hc : z.cOver = false) (hr : s.size + z.up.length ≤ 4096) : pClientN ns z s = (pRunN ns (ext z (bL s)), if z.state = 5 then 0 else (s.size : Int)) := by
  have hl := bL_length s
  unfold pClientN ext
  by_cases h5 : z.state = 5
  · rw [if_pos (.inl h5), if_pos h5, if_pos h5, pRunN_none hq]
  · rw [if_neg (fun hh => hh.elim h5 (fun hh => by rw [hc] at hh; cases hh)), if_neg h5, if_neg h5]
    have h1 : min s.size (4096 - z.up.length) = s.size := by omega
    rw [h1, List.take_of_length_le (by omega)]
    rfl
theorem New_use {w0 w : World} {ks : List Nat} {L : Mm} {user pass : ByteArray} {v : Value} {ns : List Nm} (hm : Mem w0 ks L w) (hn : NmAt w [] v ns) (hsz : ns.length * 40 ≤ 140737488355328) :
    Calls Try.prog 34 [.agg #[.string user, .string pass, v]].toArray w fun e w' => ∃ g : Nat × Own, RowOk 18 g.2 ns.length (nmC ns) ∧ e = .returned (fP g.1 0) ∧ Mem w0 ks ((L ++ rowL 83 g.2 (nmC ns)) ++ pX g.1 (pxN user pass (sV g.2 ns.length)) (none, none)) w' := by
  refine (New_any user pass v ns w hn hsz).mono fun e w' ⟨g, hg, he, hm'⟩ => ⟨g, hg, he, ?_⟩
  have := hm.trans0 hm'
  rw [List.append_assoc]
  exact this.perm List.perm_append_comm
theorem remote_not (z : Px) (s : ByteArray) (h : z.state ≠ 4) : pRemote z s = (z, 0) := by
  unfold pRemote
  rw [if_neg (fun hh => h hh.1)]
theorem endR_not (z : Px) (h : z.relayed = false) : pEndR z = false := by
  unfold pEndR
  rw [h, Bool.and_false, Bool.and_false]
theorem bL_pieceX (s : ByteArray) (i j : Nat) : bL (s.extract i j) = ((bL s).drop i).take (j - i) := by
  unfold bL
  rw [← List.map_drop, ← List.map_take]
  congr 1
  simp [ByteArray.data_extract, List.take_drop]
theorem bL_getD (s : ByteArray) (i : Nat) (h : i < s.size) : (bL s).getD i 0 = bt s i := by
  rw [List.getD_eq_getElem?_getD, bL_get s i h]; rfl
theorem bL_one1 (s : ByteArray) (i : Nat) (h : i < s.size) : bL (s.extract i (i + 1)) = [bt s i] := by
  rw [bL_pieceX, show i + 1 - i = 1 by omega]
  have h1 : i < (bL s).length := by rw [bL_length]; exact h
  rw [List.drop_eq_getElem_cons h1]
  have := bL_get s i h
  rw [List.getElem?_eq_getElem h1] at this
  rw [Option.some.inj this]
  rfl
structure Wg where
  i : Nat
  z : Px
  y : Own × Own
def mW (kc p : Nat) (cv : List Value) (no : Own) (ns : List Nm) (g : Wg) : Mm := (((kc, .c cv 59 0 0) :: rowL 83 no (nmC ns)) ++ pX p g.z g.y)
theorem SocksWhole_any (user pass : ByteArray) (v : Value) (ns : List Nm) (s : ByteArray) (hs : s.size ≤ 1000000000000000) (w : World) (hn : NmAt w [] v ns) (hsz : ns.length * 40 ≤ 140737488355328) :
    Calls Try.prog 10 [.agg #[.string user, .string pass, v], .string s].toArray w fun e w' => e = .returned (.bool true) ∧ Mem w [] [] w' := by
  have hnl : ns.length ≤ 1000000000000000 := by omega
  refine calls_of_z Try.func10 rfl Try.ntmps10 rfl (Mem.refl w) ?_; intro cs b hb hk
  repeat (first | (refine st ?_) | (refine stx ?_) | (refine sb ?_) | (intro _))
  ((try (refine sg ?_)); (refine zx_call0 rfl fnc33 rfl rfl (fun w hm => awake22_any w) ?_))
  repeat (first | (refine st ?_) | (refine stx ?_) | (refine sb ?_) | (intro _))
  rename_i kc
  refine zx_call (Y := Nat × Own) (v := fun g => fP g.1 0) (Φ := fun g => RowOk 18 g.2 ns.length (nmC ns)) (L' := fun g => ((kc, .c [.string user, .string pass, v] 59 0 0) :: rowL 83 g.2 (nmC ns)) ++ pX g.1 (pxN user pass (sV g.2 ns.length)) (none, none)) rfl fnc34 rfl rfl (fun w1 hm1 => New_use hm1 (hn.step (ks1 := []) hm1 (fun k hk => by cases hk)) hsz) (fun g hno => ?_)
  obtain ⟨p, no⟩ := g
  simp only at hno
  repeat (first | (refine st ?_) | (refine stx ?_) | (refine sb ?_) | (intro _))
  generalize hx0 : pxN user pass (sV no ns.length) = x0
  have hx00 : okX x0 (none, none) := by rw [← hx0]; exact pxN_ok _ _ _
  have hWv0 : Wv ns x0 [] := by rw [← hx0]; exact wv0 ns _ _ _
  have hnm0 : x0.names = sV no ns.length := by rw [← hx0]; rfl
  have hrl0 : x0.relayed = false := by rw [← hx0]; rfl
  have hco0 : x0.cOver = false := by rw [← hx0]; rfl
  have hdn0 : x0.down.length + 10 * pRankN x0 ≤ 30 := by rw [← hx0]; exact Nat.le_refl _
  have hup0 : x0.up.length ≤ 0 := by rw [← hx0]; exact Nat.le_refl _
  refine z_loop (fun g : Wg => okX g.z g.y ∧ Wv ns g.z ((bL s).take g.i) ∧ g.i ≤ s.size ∧ g.i ≤ 700 ∧ g.z.relayed = false ∧ g.z.cOver = false ∧ g.z.names = sV no ns.length ∧ g.z.down.length + 10 * pRankN g.z ≤ 30 ∧ g.z.up.length ≤ g.i) (fun g => [(1, .string s), (6, fP p 0), (7, .int .i64 (g.i : Int))]) (mW kc p [.string user, .string pass, v] no ns) (fun g => s.size - g.i) ⟨0, x0, (none, none)⟩ ⟨hx00, hWv0, Nat.zero_le _, Nat.zero_le _, hrl0, hco0, hnm0, hdn0, hup0⟩ ⟨rfl, rfl, rfl, trivial⟩ (List.Sublist.refl _) ?_
  intro g hg ih
  obtain ⟨i, z, y⟩ := g
  obtain ⟨q1, q2, q3, q4, q5, q6, q7, q8, q9⟩ := hg
  simp only at q1 q2 q3 q4 q5 q6 q7 q8 q9
  refine z_weaken [(1, .string s), (6, fP p 0), (7, .int .i64 (i : Int))] (((kc, .c [.string user, .string pass, v] 59 0 0) :: rowL 83 no (nmC ns)) ++ pX p z y) ⟨rfl, rfl, rfl, trivial⟩ (List.Sublist.refl _) (fun _ h => h) ?_
  by_cases hi : i < s.size
  · by_cases h7 : i < 700
    · have h4 : z.state ≠ 4 := by rcases q2.st with h | h | h <;> omega
      have hRm : pRemote z ⟨#[120]⟩ = (z, 0) := remote_not z _ h4
      have hFR := FromRemote_any p z ⟨#[120]⟩ (by decide) (by omega)
      rw [hRm] at hFR
      have hER := EndRemote_any p z
      rw [endR_not z q5] at hER
      have hTA := Target_any p z
      repeat (first | (refine st ?_) | (refine stx ?_) | (refine sb ?_) | (intro _))
      refine zx_call (Y := Own × Own) (v := fun _ => .string noX) (Φ := fun y => okX z y) (L' := fun y => ((kc, .c [.string user, .string pass, v] 59 0 0) :: rowL 83 no (nmC ns)) ++ pX p z y) rfl fnc45 rfl rfl (fun w1 hm1 => PC.use (ToRemote_not p z h4 10) q1 hm1) (fun y1 hy1 => ?_)
      repeat (first | (refine st ?_) | (refine stx ?_) | (refine sb ?_) | (intro _))
      refine zx_call (Y := Own × Own) (v := fun _ => .int .i64 0) (Φ := fun y => okX z y) (L' := fun y => ((kc, .c [.string user, .string pass, v] 59 0 0) :: rowL 83 no (nmC ns)) ++ pX p z y) rfl fnc46 rfl rfl (fun w1 hm1 => PC.use hFR hy1 hm1) (fun y2 hy2 => ?_)
      repeat (first | (refine st ?_) | (refine stx ?_) | (refine sb ?_) | (intro _))
      ((try (refine sg ?_)); (refine zx_call0 rfl fnc47 rfl rfl (fun w hm => QC.use hER hy2 hm) ?_))
      repeat (first | (refine st ?_) | (refine stx ?_) | (refine sb ?_) | (intro _))
      by_cases h3 : z.state = 3
      · have hst := q2.st
        obtain ⟨_, w9, wp, wv, wn', wg, wt⟩ : z.state = 3 ∧ 9 ≤ ((bL s).take i).length ∧ 0 < z.tp ∧ z.ta.valid = true ∧ z.ta.none = false ∧ z.ta.group = false ∧ z.tp = ((bL s).take i).getD (((bL s).take i).length - 2) 0 * 256 + ((bL s).take i).getD (((bL s).take i).length - 1) 0 := by
          rcases hst with h | h | h
          · omega
          · exact h
          · omega
        rw [List.length_take, bL_length, show min i s.size = i by omega] at w9 wt
        rw [getD_take _ _ _ (by omega), getD_take _ _ _ (by omega), bL_getD s _ (by omega), bL_getD s _ (by omega)] at wt
        rw [if_pos h3, decide_eq_true h3] at hTA
        have hSt := State_any p z
        rw [h3] at hSt
        ((try (refine sg ?_)); (refine zx_call0 rfl fnc36 rfl rfl (fun w hm => QC.use hTA hy2 hm) ?_))
        repeat (first | (refine st ?_) | (refine stx ?_) | (refine sb ?_) | (intro _))
        ((try (refine sg ?_)); (refine zx_call0 rfl fnc37 rfl rfl (fun w hm => QC.use (R := _ :: _ :: _) hSt hy2 hm) ?_))
        repeat (first | (refine st ?_) | (refine stx ?_) | (refine sb ?_) | (intro _))
        ((try (refine sg ?_)); (refine zx_call0 rfl fnc48 rfl rfl (fun w hm => (by have := Valid_any z.ta w; rw [wv] at this; exact this)) ?_))
        repeat (first | (refine st ?_) | (refine stx ?_) | (refine sb ?_) | (intro _))
        ((try (refine sg ?_)); (refine zx_call0 rfl fnc42 rfl rfl (fun w hm => (by have := None_any z.ta w; rw [wn'] at this; exact this)) ?_))
        repeat (first | (refine st ?_) | (refine stx ?_) | (refine sb ?_) | (intro _))
        ((try (refine sg ?_)); (refine zx_call0 rfl fnc43 rfl rfl (fun w hm => (by have := Group_any z.ta w; rw [wg] at this; exact this)) ?_))
        repeat (first | (refine st ?_) | (refine stx ?_) | (refine sb ?_) | (intro _))
        ((try (refine sg ?_)); refine zx_idxN (i - 1) tab_ok rfl rfl rfl rfl rfl rfl (by first | omega | (simp only [IntKind.wrap_i64]; omega)) (by omega) ?_)
        repeat (first | (refine st ?_) | (refine stx ?_) | (refine sb ?_) | (intro _))
        ((try (refine sg ?_)); refine zx_idxN (i - 2) tab_ok rfl rfl rfl rfl rfl rfl (by first | omega | (simp only [IntKind.wrap_i64]; omega)) (by omega) ?_)
        repeat (first | (refine st ?_) | (refine stx ?_) | (refine sb ?_) | (intro _))
        refine z_ret1 tab_ok Try.func10 hb hk Try.results10 (.tmp rfl) (fun w hm => ?_)
        refine ⟨congrArg _ (congrArg _ ?_), hm.bare⟩
        have b1 : 0 ≤ bt s (i - 1) ∧ bt s (i - 1) ≤ 255 := by unfold bt; have := UInt8.toNat_lt (s.data.toList.getD (i - 1) 0); omega
        have b2 : 0 ≤ bt s (i - 2) ∧ bt s (i - 2) ≤ 255 := by unfold bt; have := UInt8.toNat_lt (s.data.toList.getD (i - 2) 0); omega
        rw [wr64 (x := bt s (i - 2)) (by omega) (by omega), wr64 (x := bt s (i - 1)) (by omega) (by omega), wr64 (x := 256 * bt s (i - 2)) (by omega) (by omega), wr64 (by omega) (by omega), wt, beq_iff_eq]
        omega
      · ((try (refine sg ?_)); (refine zx_call0 rfl fnc36 rfl rfl (fun w hm => QC.use (by rw [if_neg h3, decide_eq_false h3] at hTA; exact hTA) hy2 hm) ?_))
        repeat (first | (refine st ?_) | (refine stx ?_) | (refine sb ?_) | (intro _))
        ((try (refine sg ?_)); (refine zx_sliceN (i ) ( i + 1 ) tab_ok rfl rfl rfl rfl rfl rfl rfl (by first | rfl | omega | (simp only [IntKind.wrap_i64]; omega)) (by first | rfl | omega | (simp only [IntKind.wrap_i64]; omega)) (by omega) (by omega) ?_))
        have hce := client_ext ns z (s.extract i (i + 1)) q2.quiet q6 (by rw [ByteArray.size_extract]; omega)
        rw [bL_one1 s i hi] at hce
        have hsx : (s.extract i (i + 1)).size ≤ 1000000000000000 := by rw [ByteArray.size_extract]; omega
        have hgood : GoodN z := ⟨q2.small, by omega, by omega, by rcases q2.st with h | h | h <;> omega⟩
        have hFC := FromClientN_any ns p z (s.extract i (i + 1)) hgood hsx
        rw [hce] at hFC
        have hsm1 : Small [bt s i] := fun x hx => by rw [List.mem_singleton.1 hx]; unfold bt; have := UInt8.toNat_lt (s.data.toList.getD i 0); omega
        obtain ⟨e1, e2, e3, e4, e5, e6, e7⟩ := ext_fol z [bt s i]
        obtain ⟨r1, r2, r3, r4, r5, r6⟩ := run_fol ns 3 (ext z [bt s i]) (pRank3 _)
        have r7 := run_down ns 3 (ext z [bt s i]) (pRank3 _)
        have hW' := q2.next h3 (bt s i) (hsm1 _ (List.mem_singleton.2 rfl))
        rw [← bL_take s i hi] at hW'
        have hq5 : (pRunN ns (ext z [bt s i])).relayed = false := by rw [r1.relayed, e1.relayed]; exact q5
        have hq6 : (pRunN ns (ext z [bt s i])).cOver = false := by rw [r1.cOver, e1.cOver]; exact q6
        have hq7 : (pRunN ns (ext z [bt s i])).names = sV no ns.length := by rw [r2, e2]; exact q7
        have hq8 : (pRunN ns (ext z [bt s i])).down.length + 10 * pRankN (pRunN ns (ext z [bt s i])) ≤ 30 := by rw [e4, e6] at r7; omega
        have hq9 : (pRunN ns (ext z [bt s i])).up.length ≤ i + 1 := by rw [List.length_singleton] at e5; omega
        generalize pRunN ns (ext z [bt s i]) = z' at *
        rename_i kt
        refine zx_perm ((((kt, .c [.bool adr0.v6, .int .u8 (adr0.b 0), .int .u8 (adr0.b 1), .int .u8 (adr0.b 2), .int .u8 (adr0.b 3), .int .u8 (adr0.b 4), .int .u8 (adr0.b 5), .int .u8 (adr0.b 6), .int .u8 (adr0.b 7), .int .u8 (adr0.b 8), .int .u8 (adr0.b 9), .int .u8 (adr0.b 10), .int .u8 (adr0.b 11), .int .u8 (adr0.b 12), .int .u8 (adr0.b 13), .int .u8 (adr0.b 14), .int .u8 (adr0.b 15), .int .i64 0] 65 0 0) :: (kc, .c [.string user, .string pass, v] 59 0 0) :: rowL 83 no (nmC ns))) ++ pX p z y2) (List.Perm.refl _) ?_
        refine zx_call (Y := Own × Own) (v := fun _ => .int .i64 (if z.state = 5 then 0 else ((s.extract i (i + 1)).size : Int))) (Φ := fun y => okX z' y) (L' := fun y => (((kt, .c [.bool adr0.v6, .int .u8 (adr0.b 0), .int .u8 (adr0.b 1), .int .u8 (adr0.b 2), .int .u8 (adr0.b 3), .int .u8 (adr0.b 4), .int .u8 (adr0.b 5), .int .u8 (adr0.b 6), .int .u8 (adr0.b 7), .int .u8 (adr0.b 8), .int .u8 (adr0.b 9), .int .u8 (adr0.b 10), .int .u8 (adr0.b 11), .int .u8 (adr0.b 12), .int .u8 (adr0.b 13), .int .u8 (adr0.b 14), .int .u8 (adr0.b 15), .int .i64 0] 65 0 0) :: (kc, .c [.string user, .string pass, v] 59 0 0) :: rowL 83 no (nmC ns))) ++ pX p z' y) rfl fnc38 rfl rfl
          (fun w1 hm1 => PN.use hFC hy2 hm1 (nmAt_row hm1 (fun q hq => List.mem_cons_of_mem _ (List.mem_cons_of_mem _ hq)) hno hnl q7)) (fun y3 hy3 => ?_)
        repeat (first | (refine st ?_) | (refine stx ?_) | (refine sb ?_) | (intro _))
        refine z_re 7 (.int .i64 ((i + 1 : Nat) : Int)) rfl (congrArg _ (by rw [wr64 (by omega) (by omega)]; omega)) ?_
        refine z_weaken _ _ ?_ (List.Sublist.cons _ (List.Sublist.refl _)) (fun _ h => h) (ih ⟨i + 1, z', y3⟩ ⟨hy3, hW', hi, h7, hq5, hq6, hq7, hq8, hq9⟩ (by show s.size - (i + 1) < s.size - i; omega))
        exact ⟨rfl, rfl, rfl, trivial⟩
    · repeat (first | (refine st ?_) | (refine stx ?_) | (refine sb ?_) | (intro _))
      refine z_ret1 tab_ok Try.func10 hb hk Try.results10 (.tmp rfl) (fun w hm => ?_)
      exact ⟨rfl, hm.bare⟩
  · repeat (first | (refine st ?_) | (refine stx ?_) | (refine sb ?_) | (intro _))
    refine z_ret1 tab_ok Try.func10 hb hk Try.results10 (.tmp rfl) (fun w hm => ?_)
    exact ⟨rfl, hm.bare⟩
end Go.Proofs.Ytabcaiecoiejkaa
