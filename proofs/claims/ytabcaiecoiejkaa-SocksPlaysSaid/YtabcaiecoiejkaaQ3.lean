/- Walk of layer 22's feed: the bytes of a client, cut by raw numbers. Walk of the law SocksCuts: it answers true. -/
import Derived.Test.YtabcaiecoiejkaaQ2
set_option maxRecDepth 100000
set_option linter.unusedSimpArgs false
set_option linter.unusedVariables false
set_option maxHeartbeats 8000000
namespace Go.Proofs.Ytabcaiecoiejkaa
open Go K

theorem pick_any (x : Int) (n : Nat) (hx : okI x) (w : World) : Calls Try.prog 52 [.int .i64 x, .int .i64 ((n + 1 : Nat) : Int)].toArray w fun e w' => e = .returned (.int .i64 (pk x ((n + 1 : Nat) : Int))) ∧ Mem w [] [] w' := by
  obtain ⟨hx0, hx1⟩ := hx
  unfold pk
  by_cases h : x < 0
  · rw [if_pos h]
    refine calls_of_z Try.func52 rfl Try.ntmps52 rfl (Mem.refl w) ?_; intro cs b hb hk
    repeat (first | (refine st ?_) | (refine stx ?_) | (refine sb ?_) | (intro _))
    refine z_ret1 tab_ok Try.func52 hb hk Try.results52 (.tmp rfl) (fun w hm => ?_)
    exact ⟨by show Ending.returned (.int .i64 ((IntKind.i64.wrap (0 - IntKind.i64.wrap (x + 1))).tmod _)) = _; rw [wr64 (x := x + 1) (by omega) (by omega), wr64 (by omega) (by omega), Int.zero_sub]; rfl, hm.bare⟩
  · rw [if_neg h]
    refine calls_of_z Try.func52 rfl Try.ntmps52 rfl (Mem.refl w) ?_; intro cs b hb hk
    repeat (first | (refine st ?_) | (refine stx ?_) | (refine sb ?_) | (intro _))
    refine z_ret1 tab_ok Try.func52 hb hk Try.results52 (.tmp rfl) (fun w hm => ?_)
    exact ⟨rfl, hm.bare⟩
/-- what comes of the bytes l -/
def vv (ns : List Nm) (x0 : Px) (l : List Int) : Px := pRunN ns { x0 with up := l }
theorem vv_ext (ns : List Nm) (x0 : Px) (h0 : x0.state = 0) (l m : List Int) (hs : Small l) : pRunN ns (ext (vv ns x0 l) m) = vv ns x0 (l ++ m) := by
  have h1 := run_ext ns m 3 { x0 with up := l } (pRank3 _) hs
  have h2 : ext { x0 with up := l } m = { x0 with up := l ++ m } := by
    unfold ext
    rw [if_neg (show ¬ x0.state = 5 by omega)]
    rfl
  unfold vv
  rw [← h1, h2]
theorem dn_ext (d : List Int) (x : Px) (m : List Int) : dn d (ext x m) = ext (dn d x) m := by
  unfold ext
  have : (dn d x).state = x.state := rfl
  rw [this]
  split <;> rfl
theorem step_st {ns : List Nm} {x y : Px} (h : pStepN ns x = some y) : y.state = 5 ∨ y.state = 1 ∨ y.state = 2 ∨ y.state = 3 := by
  unfold pStepN at h
  split at h
  · have := (greetN_fol h).2; omega
  · split at h
    · have := (loginN_fol h).2; omega
    · split at h
      · have := (reqN_fol h).2; omega
      · cases h
theorem run_not4 (ns : List Nm) : ∀ (r : Nat) (x : Px), pRankN x ≤ r → x.state ≠ 4 → (pRunN ns x).state ≠ 4
  | 0, x, hr, h4 => by rw [pRunN_none (stepN_rank0 (x := x) (by omega))]; exact h4
  | r + 1, x, hr, h4 => by
    cases h : pStepN ns x with
    | none => rw [pRunN_none h]; exact h4
    | some y =>
      obtain ⟨f1, f2, f3⟩ := stepN_fol h
      have := step_st h
      rw [pRunN_some h]
      exact run_not4 ns r y (by omega) (by omega)
theorem vv_not4 (ns : List Nm) (x0 : Px) (h0 : x0.state = 0) (l : List Int) : (vv ns x0 l).state ≠ 4 := run_not4 ns 3 _ (pRank3 _) (by show x0.state ≠ 4; omega)
theorem vv_down (ns : List Nm) (x0 : Px) (h0 : x0.down = []) (l : List Int) : (vv ns x0 l).down.length ≤ 30 := by
  have h1 := run_down ns 3 { x0 with up := l } (pRank3 _)
  have h2 := pRank3 { x0 with up := l }
  have h3 : ({ x0 with up := l } : Px).down.length = 0 := by show x0.down.length = 0; rw [h0]; rfl
  unfold vv
  omega
theorem take_drop_add (l : List Int) (t n : Nat) : l.take t ++ (l.drop t).take n = l.take (t + n) := by
  rw [List.take_add]
/-- where a feed stands -/
structure Fd where
  t : Nat
  out : List Int
  z : Px
  y : Own × Own
structure Fi where
  i : Nat
  d : Fd
structure FdOk (ns : List Nm) (x0 : Px) (s : ByteArray) (d : Fd) : Prop where
  ok : okX d.z d.y
  v : dn d.out d.z = vv ns x0 ((bL s).take d.t)
  down : d.z.down = []
  le : d.t ≤ s.size
  all : d.t = s.size ∨ d.z.state = 5
/-- a session at its beginning -/
structure Fresh (x : Px) : Prop where
  state : x.state = 0
  up : x.up = []
  down : x.down = []
  cOver : x.cOver = false
theorem Px.up_same (x : Px) (h : x.up = []) : ({ x with up := [] } : Px) = x := by cases x; simp only at h; subst h; rfl
/-- a slice of ints lies in w -/
def IntsAt (w : World) (ks : List Nat) (a : Option Addr) (cs : List Int) : Prop := ∃ (b off : Nat), (cs = [] ∨ (a = some ⟨b, off, none⟩ ∧ b ∉ ks)) ∧ cs.length ≤ 1000000000000000 ∧ ∀ (i : Nat) m, cs[i]? = some m → okI m ∧ w.cell? ⟨b, off + i, none⟩ = some (.int .i64 m)
theorem feed_any (ns : List Nm) (p : Nat) (x0 : Px) (hf : Fresh x0) (s : ByteArray) (hs : s.size ≤ 4000) (a : Option Addr) (cs : List Int) (cap : Nat) (o : Own × Own) (hok : okX x0 o) (w : World) (h : Mem w (kX p x0 o) (pX p x0 o) w) (hnm : NmAt w (kX p x0 o) x0.names ns) (hcs : IntsAt w (kX p x0 o) a cs) :
    Calls Try.prog 35 [fP p 0, .string s, .slice a cs.length cap].toArray w fun e w' => ∃ d : Fd, FdOk ns x0 s d ∧ e = .returned (.tuple #[.string (ofInts d.out), .int .i64 (d.t : Int)]) ∧ Mem w (kX p x0 o) (pX p d.z d.y) w' := by
  obtain ⟨bc, off, hca, hcl, hcc⟩ := hcs
  have hx0 := hf.state
  have hxd := hf.down
  have hV0 : dn [] x0 = vv ns x0 ((bL s).take 0) := by
    unfold vv
    rw [List.take_zero, Px.up_same x0 hf.up, pRunN_none (step_nil hf.up)]
    rfl
  refine calls_of_z Try.func35 rfl Try.ntmps35 rfl h ?_; intro cs' b hb hk
  repeat (first | (refine st ?_) | (refine stx ?_) | (refine sb ?_) | (intro _))
  refine z_loop (fun g : Fi => okX g.d.z g.d.y ∧ dn g.d.out g.d.z = vv ns x0 ((bL s).take g.d.t) ∧ g.d.z.down = [] ∧ g.d.t ≤ s.size ∧ g.i ≤ g.d.t) (fun g => [(0, fP p 0), (1, .string s), (2, .slice a cs.length cap), (8, .string (ofInts g.d.out)), (9, .int .i64 (g.d.t : Int)), (10, .int .i64 (g.i : Int))]) (fun g => pX p g.d.z g.d.y) (fun g => s.size - g.d.t) ⟨0, ⟨0, [], x0, o⟩⟩ ⟨hok, hV0, hxd, Nat.zero_le _, Nat.le_refl _⟩ ⟨rfl, rfl, rfl, rfl, rfl, rfl, trivial⟩ (List.Sublist.refl _) ?_
  intro g hg ih
  obtain ⟨i, t, out, z, y⟩ := g
  obtain ⟨q1, hV, hdn, q4, q5⟩ := hg
  simp only at q1 hV hdn q4 q5
  refine z_weaken [(0, fP p 0), (1, .string s), (2, .slice a cs.length cap), (8, .string (ofInts out)), (9, .int .i64 (t : Int)), (10, .int .i64 (i : Int))] (pX p z y) ⟨rfl, rfl, rfl, rfl, rfl, rfl, trivial⟩ (List.Sublist.refl _) (fun _ h => h) ?_
  by_cases ht : t < s.size
  · have hq : pStepN ns z = none := by
      have h1 := run_quiet ns 3 { x0 with up := (bL s).take t } (pRank3 _)
      have h2 : pStepN ns (dn out z) = none := by rw [hV]; exact h1
      rw [step_dn] at h2
      cases hz : pStepN ns z with
      | none => rfl
      | some y => rw [hz] at h2; cases h2
    obtain ⟨f1, f2, f3, f4, f5, f6⟩ := run_fol ns 3 { x0 with up := (bL s).take t } (pRank3 _)
    have hfold : pRunN ns { x0 with up := (bL s).take t } = dn out z := hV.symm
    rw [hfold] at f1 f2 f3 f4 f6
    have hco : z.cOver = false := f1.cOver.trans hf.cOver
    have hnz : z.names = x0.names := f2
    have hsm : Small z.up := f3 ((bL_small s).take t)
    have hul : z.up.length ≤ t := by
      have : ({ x0 with up := (bL s).take t } : Px).up.length ≤ t := by show ((bL s).take t).length ≤ t; rw [List.length_take]; omega
      have h2 : (dn out z).up.length = z.up.length := rfl
      omega
    have h4 : z.state ≠ 4 := by
      have := vv_not4 ns x0 hx0 ((bL s).take t)
      rw [← hV] at this
      exact this
    have hout : out.length ≤ 30 := by
      have h1 := vv_down ns x0 hxd ((bL s).take t)
      rw [← hV] at h1
      have h2 : (dn out z).down.length = out.length + z.down.length := List.length_append
      omega
    have hgood : GoodN z := ⟨hsm, by omega, by rw [hdn]; exact Nat.zero_le _, f6 (.inl hx0)⟩
    clear f1 f2 f3 f4 f5 f6 hfold
    by_cases hcut : i < cs.length
    · obtain ⟨c, hc0⟩ : ∃ c, cs[i]? = some c := ⟨_, List.getElem?_eq_getElem hcut⟩
      obtain ⟨hci, hcc0⟩ := hcc i c hc0
      have hae : a = some ⟨bc, off, none⟩ ∧ bc ∉ kX p x0 o := by
        rcases hca with h | h
        · subst h; exact absurd hcut (Nat.not_lt_zero _)
        · exact h
      obtain ⟨rfl, hbk⟩ := hae
      obtain ⟨m, hm1⟩ : ∃ m : Nat, s.size - t = m + 1 := ⟨s.size - t - 1, by omega⟩
      have hpk := pk_range c ((m + 1 : Nat) : Int) (by omega)
      obtain ⟨n, hn⟩ : ∃ n : Nat, 1 + pk c ((m + 1 : Nat) : Int) = (n : Int) := ⟨(1 + pk c ((m + 1 : Nat) : Int)).toNat, by omega⟩
      have hn1 : 1 ≤ n := by omega
      have hn2 : t + n ≤ s.size := by omega
      repeat (first | (refine st ?_) | (refine stx ?_) | (intro _))
      refine zx_re 17 (.bool true) rfl (congrArg _ (decide_eq_true (by omega))) ?_
      repeat (first | (refine st ?_) | (refine stx ?_) | (intro _))
      refine z_re 26 (.bool true) rfl (congrArg _ (decide_eq_true (by rw [wr64 (x := (s.size : Int) + cs.length) (by omega) (by omega), wr64 (by omega) (by omega)]; omega))) ?_
      repeat (first | (refine st ?_) | (refine stx ?_) | (refine sb ?_) | (intro _))
      refine zx_idxA (sz := i * 1) tab_ok rfl rfl rfl rfl rfl rfl (by omega) (by omega) (by simp) ?_
      refine zx_loadB (v := .int .i64 c) tab_ok rfl rfl rfl rfl (by rw [Nat.mul_one]; exact hcc0) (by simp only; exact hbk) rfl ?_
      repeat (first | (refine st ?_) | (refine stx ?_) | (refine sb ?_) | (intro _))
      refine zx_re 41 (.int .i64 ((m + 1 : Nat) : Int)) rfl (congrArg _ (by rw [wr64 (by omega) (by omega)]; omega)) ?_
      ((try (refine sg ?_)); (refine zx_call0 rfl fnc52 rfl rfl (fun w hm => pick_any c m hci w) ?_))
      refine st ?_
      refine zx_re 43 (.int .i64 (n : Int)) rfl (congrArg _ (by rw [hn]; exact wr64 (by omega) (by omega))) ?_
      repeat (first | (refine st ?_) | (refine stx ?_) | (refine sb ?_) | (intro _))
      refine zx_re 11 (.int .i64 (n : Int)) rfl (by first | rfl | (refine congrArg _ ?_; rw [wr64 (by omega) (by omega)]; omega)) ?_
      refine zx_re 49 (.int .i64 ((t + n : Nat) : Int)) rfl (congrArg _ (by first | (rw [wr64 (x := (t : Int) + n) (by omega) (by omega)]; omega) | (rw [wr64 (x := (s.size : Int) - t) (by omega) (by omega), wr64 (by omega) (by omega)]; omega))) ?_
      ((try (refine sg ?_)); (refine zx_sliceN (t ) ( t + n ) tab_ok rfl rfl rfl rfl rfl rfl rfl (by first | rfl | omega | (simp only [IntKind.wrap_i64]; omega)) (by first | rfl | omega | (simp only [IntKind.wrap_i64]; omega)) (by omega) (by omega) ?_))
      have hsx : (s.extract t (t + n)).size = n := by rw [ByteArray.size_extract]; omega
      have hpc := bL_pieceX s t (t + n)
      rw [show t + n - t = n by omega] at hpc
      have hce := client_ext ns z (s.extract t (t + n)) hq hco (by rw [hsx]; omega)
      rw [hsx] at hce
      have hFC := FromClientN_any ns p z (s.extract t (t + n)) hgood (by rw [hsx]; omega)
      rw [hce] at hFC
      by_cases h5 : z.state = 5
      · have hz1 : pRunN ns (ext z (bL (s.extract t (t + n)))) = z := by unfold ext; rw [if_pos h5, pRunN_none hq]
        rw [hz1, if_pos h5] at hFC
        have hTC := ToClient_any p z 9999 0 (by rw [hdn]; rfl) (by rw [hdn]; show z.up.length + 0 ≤ _; omega)
        have hz2 : pSettle { z with down := z.down.drop 0 } = z := by unfold pSettle; rw [if_neg (fun hh => h4 hh.1)]; rfl
        rw [hz2, List.take_zero] at hTC
        refine zx_call (Y := Own × Own) (v := fun _ => .int .i64 0) (Φ := fun y => okX z y) (L' := fun y => [] ++ pX p z y) rfl fnc38 rfl rfl (fun w1 hm1 => PN.use (R := []) hFC q1 hm1 (by rw [hnz]; exact hnm.step hm1 (fun k hk => hk))) (fun y1 hy1 => ?_)
        repeat (first | (refine st ?_) | (refine stx ?_) | (refine sb ?_) | (intro _))
        refine zx_call (Y := Own × Own) (v := fun _ => .string (ofInts [])) (Φ := fun y => okX z y) (L' := fun y => [] ++ pX p z y) rfl fnc39 rfl rfl (fun w1 hm1 => PC.use (R := []) hTC hy1 hm1) (fun y2 hy2 => ?_)
        repeat (first | (refine st ?_) | (refine stx ?_) | (refine sb ?_) | (intro _))
        refine zx_cat rfl rfl rfl (by rw [ofInts_size, ofInts_size]; show out.length + 0 ≤ _; omega) rfl ?_
        refine zx_re 65 (.string (ofInts out)) rfl (congrArg _ (by rw [ofInts_app, List.append_nil])) ?_
        repeat (first | (refine st ?_) | (refine stx ?_) | (refine sb ?_) | (intro _))
        refine z_ret2 tab_ok Try.func35 hb hk Try.results35 (.tmp rfl) (.tmp rfl) (fun w hm => ?_)
        refine ⟨⟨t, out, z, y2⟩, ⟨hy2, hV, hdn, q4, .inr h5⟩, ?_, hm⟩
        exact congrArg _ (congrArg Value.tuple (by rw [wr64 (by omega) (by omega), Int.add_zero]))
      · rw [if_neg h5] at hFC
        generalize hz1 : pRunN ns (ext z (bL (s.extract t (t + n)))) = z1 at hFC
        obtain ⟨e1, e2, e3, e4, e5, e6, e7⟩ := ext_fol z (bL (s.extract t (t + n)))
        obtain ⟨_, _, _, r4, r5, _⟩ := run_fol ns 3 (ext z (bL (s.extract t (t + n)))) (pRank3 _)
        rw [hz1] at r4 r5
        have hpl : (bL (s.extract t (t + n))).length = n := by rw [bL_length, hsx]
        have hrk := pRank3 z
        rw [e4, e6, hdn] at r5
        have hz1u : z1.up.length ≤ 4000 := by rw [hpl] at e5; omega
        clear e1 e2 e3 e4 e5 e6 e7 r4
        have hV1 : dn out z1 = vv ns x0 ((bL s).take (t + n)) := by
          rw [← hz1, ← run_dn, dn_ext, hV, vv_ext ns x0 hx0 _ _ ((bL_small s).take _), hpc, take_drop_add]
        have h41 : z1.state ≠ 4 := by
          have := congrArg Px.state hV1
          have := vv_not4 ns x0 hx0 ((bL s).take (t + n))
          intro hh
          apply this
          rw [← hV1]; exact hh
        have hTC := ToClient_any p z1 9999 z1.down.length (by simp only [List.length_nil] at r5; omega) (by simp only [List.length_nil] at r5; omega)
        have hz2 : pSettle { z1 with down := z1.down.drop z1.down.length } = { z1 with down := [] } := by unfold pSettle; rw [if_neg (fun hh => h41 hh.1), List.drop_length]
        rw [hz2, List.take_length] at hTC
        refine zx_call (Y := Own × Own) (v := fun _ => .int .i64 (n : Int)) (Φ := fun y => okX z1 y) (L' := fun y => [] ++ pX p z1 y) rfl fnc38 rfl rfl (fun w1 hm1 => PN.use (R := []) hFC q1 hm1 (by rw [hnz]; exact hnm.step hm1 (fun k hk => hk))) (fun y1 hy1 => ?_)
        repeat (first | (refine st ?_) | (refine stx ?_) | (refine sb ?_) | (intro _))
        refine zx_call (Y := Own × Own) (v := fun _ => .string (ofInts z1.down)) (Φ := fun y => okX { z1 with down := [] } y) (L' := fun y => [] ++ pX p { z1 with down := [] } y) rfl fnc39 rfl rfl (fun w1 hm1 => PC.use (R := []) hTC hy1 hm1) (fun y2 hy2 => ?_)
        repeat (first | (refine st ?_) | (refine stx ?_) | (refine sb ?_) | (intro _))
        have hol : out.length + z1.down.length ≤ 30 := by
          have h1 := congrArg (fun x : Px => x.down.length) hV1
          have h2 := vv_down ns x0 hxd ((bL s).take (t + n))
          simp only [dn, List.length_append] at h1
          omega
        refine zx_cat rfl rfl rfl (by rw [ofInts_size, ofInts_size]; omega) rfl ?_
        refine zx_re 65 (.string (ofInts (out ++ z1.down))) rfl (congrArg _ (by rw [ofInts_app])) ?_
        repeat (first | (refine st ?_) | (refine stx ?_) | (refine sb ?_) | (intro _))
        refine z_re 9 (.int .i64 ((t + n : Nat) : Int)) rfl (congrArg _ (by rw [wr64 (by omega) (by omega)]; omega)) ?_
        refine z_re 10 (.int .i64 ((i + 1 : Nat) : Int)) rfl (congrArg _ (by rw [wr64 (by omega) (by omega)]; omega)) ?_
        refine z_weaken _ _ ?_ (List.Sublist.refl _) (fun _ h => h) (ih ⟨i + 1, ⟨t + n, out ++ z1.down, { z1 with down := [] }, y2⟩⟩ ⟨hy2, ?_, rfl, by show t + n ≤ s.size; omega, by show i + 1 ≤ t + n; omega⟩ (by show s.size - (t + n) < s.size - t; omega))
        · exact ⟨rfl, rfl, rfl, rfl, rfl, rfl, trivial⟩
        · show dn (out ++ z1.down) { z1 with down := [] } = _
          rw [← hV1]
          unfold dn
          simp only [List.append_nil]
    · obtain ⟨n, hn⟩ : ∃ n : Nat, n = s.size - t := ⟨_, rfl⟩
      have hn1 : 1 ≤ n := by omega
      have hn2 : t + n ≤ s.size := by omega
      repeat (first | (refine st ?_) | (refine stx ?_) | (intro _))
      refine zx_re 17 (.bool true) rfl (congrArg _ (decide_eq_true (by omega))) ?_
      repeat (first | (refine st ?_) | (refine stx ?_) | (intro _))
      refine z_re 26 (.bool true) rfl (congrArg _ (decide_eq_true (by rw [wr64 (x := (s.size : Int) + cs.length) (by omega) (by omega), wr64 (by omega) (by omega)]; omega))) ?_
      repeat (first | (refine st ?_) | (refine stx ?_) | (refine sb ?_) | (intro _))
      repeat (first | (refine st ?_) | (refine stx ?_) | (refine sb ?_) | (intro _))
      refine zx_re 11 (.int .i64 (n : Int)) rfl (by first | rfl | (refine congrArg _ ?_; rw [wr64 (by omega) (by omega)]; omega)) ?_
      refine zx_re 49 (.int .i64 ((t + n : Nat) : Int)) rfl (congrArg _ (by first | (rw [wr64 (x := (t : Int) + n) (by omega) (by omega)]; omega) | (rw [wr64 (x := (s.size : Int) - t) (by omega) (by omega), wr64 (by omega) (by omega)]; omega))) ?_
      ((try (refine sg ?_)); (refine zx_sliceN (t ) ( t + n ) tab_ok rfl rfl rfl rfl rfl rfl rfl (by first | rfl | omega | (simp only [IntKind.wrap_i64]; omega)) (by first | rfl | omega | (simp only [IntKind.wrap_i64]; omega)) (by omega) (by omega) ?_))
      have hsx : (s.extract t (t + n)).size = n := by rw [ByteArray.size_extract]; omega
      have hpc := bL_pieceX s t (t + n)
      rw [show t + n - t = n by omega] at hpc
      have hce := client_ext ns z (s.extract t (t + n)) hq hco (by rw [hsx]; omega)
      rw [hsx] at hce
      have hFC := FromClientN_any ns p z (s.extract t (t + n)) hgood (by rw [hsx]; omega)
      rw [hce] at hFC
      by_cases h5 : z.state = 5
      · have hz1 : pRunN ns (ext z (bL (s.extract t (t + n)))) = z := by unfold ext; rw [if_pos h5, pRunN_none hq]
        rw [hz1, if_pos h5] at hFC
        have hTC := ToClient_any p z 9999 0 (by rw [hdn]; rfl) (by rw [hdn]; show z.up.length + 0 ≤ _; omega)
        have hz2 : pSettle { z with down := z.down.drop 0 } = z := by unfold pSettle; rw [if_neg (fun hh => h4 hh.1)]; rfl
        rw [hz2, List.take_zero] at hTC
        refine zx_call (Y := Own × Own) (v := fun _ => .int .i64 0) (Φ := fun y => okX z y) (L' := fun y => [] ++ pX p z y) rfl fnc38 rfl rfl (fun w1 hm1 => PN.use (R := []) hFC q1 hm1 (by rw [hnz]; exact hnm.step hm1 (fun k hk => hk))) (fun y1 hy1 => ?_)
        repeat (first | (refine st ?_) | (refine stx ?_) | (refine sb ?_) | (intro _))
        refine zx_call (Y := Own × Own) (v := fun _ => .string (ofInts [])) (Φ := fun y => okX z y) (L' := fun y => [] ++ pX p z y) rfl fnc39 rfl rfl (fun w1 hm1 => PC.use (R := []) hTC hy1 hm1) (fun y2 hy2 => ?_)
        repeat (first | (refine st ?_) | (refine stx ?_) | (refine sb ?_) | (intro _))
        refine zx_cat rfl rfl rfl (by rw [ofInts_size, ofInts_size]; show out.length + 0 ≤ _; omega) rfl ?_
        refine zx_re 65 (.string (ofInts out)) rfl (congrArg _ (by rw [ofInts_app, List.append_nil])) ?_
        repeat (first | (refine st ?_) | (refine stx ?_) | (refine sb ?_) | (intro _))
        refine z_ret2 tab_ok Try.func35 hb hk Try.results35 (.tmp rfl) (.tmp rfl) (fun w hm => ?_)
        refine ⟨⟨t, out, z, y2⟩, ⟨hy2, hV, hdn, q4, .inr h5⟩, ?_, hm⟩
        exact congrArg _ (congrArg Value.tuple (by rw [wr64 (by omega) (by omega), Int.add_zero]))
      · rw [if_neg h5] at hFC
        generalize hz1 : pRunN ns (ext z (bL (s.extract t (t + n)))) = z1 at hFC
        obtain ⟨e1, e2, e3, e4, e5, e6, e7⟩ := ext_fol z (bL (s.extract t (t + n)))
        obtain ⟨_, _, _, r4, r5, _⟩ := run_fol ns 3 (ext z (bL (s.extract t (t + n)))) (pRank3 _)
        rw [hz1] at r4 r5
        have hpl : (bL (s.extract t (t + n))).length = n := by rw [bL_length, hsx]
        have hrk := pRank3 z
        rw [e4, e6, hdn] at r5
        have hz1u : z1.up.length ≤ 4000 := by rw [hpl] at e5; omega
        clear e1 e2 e3 e4 e5 e6 e7 r4
        have hV1 : dn out z1 = vv ns x0 ((bL s).take (t + n)) := by
          rw [← hz1, ← run_dn, dn_ext, hV, vv_ext ns x0 hx0 _ _ ((bL_small s).take _), hpc, take_drop_add]
        have h41 : z1.state ≠ 4 := by
          have := congrArg Px.state hV1
          have := vv_not4 ns x0 hx0 ((bL s).take (t + n))
          intro hh
          apply this
          rw [← hV1]; exact hh
        have hTC := ToClient_any p z1 9999 z1.down.length (by simp only [List.length_nil] at r5; omega) (by simp only [List.length_nil] at r5; omega)
        have hz2 : pSettle { z1 with down := z1.down.drop z1.down.length } = { z1 with down := [] } := by unfold pSettle; rw [if_neg (fun hh => h41 hh.1), List.drop_length]
        rw [hz2, List.take_length] at hTC
        refine zx_call (Y := Own × Own) (v := fun _ => .int .i64 (n : Int)) (Φ := fun y => okX z1 y) (L' := fun y => [] ++ pX p z1 y) rfl fnc38 rfl rfl (fun w1 hm1 => PN.use (R := []) hFC q1 hm1 (by rw [hnz]; exact hnm.step hm1 (fun k hk => hk))) (fun y1 hy1 => ?_)
        repeat (first | (refine st ?_) | (refine stx ?_) | (refine sb ?_) | (intro _))
        refine zx_call (Y := Own × Own) (v := fun _ => .string (ofInts z1.down)) (Φ := fun y => okX { z1 with down := [] } y) (L' := fun y => [] ++ pX p { z1 with down := [] } y) rfl fnc39 rfl rfl (fun w1 hm1 => PC.use (R := []) hTC hy1 hm1) (fun y2 hy2 => ?_)
        repeat (first | (refine st ?_) | (refine stx ?_) | (refine sb ?_) | (intro _))
        have hol : out.length + z1.down.length ≤ 30 := by
          have h1 := congrArg (fun x : Px => x.down.length) hV1
          have h2 := vv_down ns x0 hxd ((bL s).take (t + n))
          simp only [dn, List.length_append] at h1
          omega
        refine zx_cat rfl rfl rfl (by rw [ofInts_size, ofInts_size]; omega) rfl ?_
        refine zx_re 65 (.string (ofInts (out ++ z1.down))) rfl (congrArg _ (by rw [ofInts_app])) ?_
        repeat (first | (refine st ?_) | (refine stx ?_) | (refine sb ?_) | (intro _))
        refine z_re 9 (.int .i64 ((t + n : Nat) : Int)) rfl (congrArg _ (by rw [wr64 (by omega) (by omega)]; omega)) ?_
        refine z_re 10 (.int .i64 ((i + 1 : Nat) : Int)) rfl (congrArg _ (by rw [wr64 (by omega) (by omega)]; omega)) ?_
        refine z_weaken _ _ ?_ (List.Sublist.refl _) (fun _ h => h) (ih ⟨i + 1, ⟨t + n, out ++ z1.down, { z1 with down := [] }, y2⟩⟩ ⟨hy2, ?_, rfl, by show t + n ≤ s.size; omega, by show i + 1 ≤ t + n; omega⟩ (by show s.size - (t + n) < s.size - t; omega))
        · exact ⟨rfl, rfl, rfl, rfl, rfl, rfl, trivial⟩
        · show dn (out ++ z1.down) { z1 with down := [] } = _
          rw [← hV1]
          unfold dn
          simp only [List.append_nil]
  · repeat (first | (refine st ?_) | (refine stx ?_) | (refine sb ?_) | (intro _))
    refine z_ret2 tab_ok Try.func35 hb hk Try.results35 (.tmp rfl) (.tmp rfl) (fun w hm => ?_)
    exact ⟨⟨t, out, z, y⟩, ⟨q1, hV, hdn, q4, .inl (by show t = s.size; omega)⟩, rfl, hm⟩
end Go.Proofs.Ytabcaiecoiejkaa
namespace Go.Proofs.Ytabcaiecoiejkaa
open Go K

def nmv (v : Value) (x : Px) : Px := { x with names := v }
theorem greet_nv (v : Value) (x : Px) : pGreet (nmv v x) = (pGreet x).map (nmv v) := by
  unfold pGreet
  have h1 : (nmv v x).up = x.up := rfl
  have h2 : (nmv v x).user = x.user := rfl
  rw [h1, h2]
  repeat' split
  all_goals rfl
theorem login_nv (v : Value) (x : Px) : pLogin (nmv v x) = (pLogin x).map (nmv v) := by
  unfold pLogin
  have h1 : (nmv v x).up = x.up := rfl
  have h2 : (nmv v x).user = x.user := rfl
  have h4 : (nmv v x).pass = x.pass := rfl
  rw [h1, h2, h4]
  repeat' split
  all_goals rfl
theorem reqA_nv (v : Value) (x : Px) (a : Adr) (e : Nat) : pReqA (nmv v x) a e = (pReqA x a e).map (nmv v) := by
  unfold pReqA
  have h1 : (nmv v x).up = x.up := rfl
  rw [h1]
  repeat' split
  all_goals rfl
theorem reqNm_nv (v : Value) (x : Px) (a : Option Adr) (e : Nat) : pReqNm (nmv v x) a e = nmv v (pReqNm x a e) := by
  unfold pReqNm
  cases a with
  | none => rfl
  | some a =>
    simp only
    split <;> rfl
theorem req_nv (v : Value) (ns : List Nm) (x : Px) : pReqN ns (nmv v x) = (pReqN ns x).map (nmv v) := by
  unfold pReqN
  have h1 : (nmv v x).up = x.up := rfl
  have h2 : ∀ j, pBody (nmv v x) j = pBody x j := fun _ => rfl
  rw [h1, h2, h2]
  simp only [reqA_nv, reqNm_nv]
  repeat' split
  all_goals rfl
theorem step_nv (v : Value) (ns : List Nm) (x : Px) : pStepN ns (nmv v x) = (pStepN ns x).map (nmv v) := by
  unfold pStepN
  have h1 : (nmv v x).state = x.state := rfl
  rw [h1, greet_nv, login_nv, req_nv]
  repeat' split
  all_goals rfl
theorem st_nv (v : Value) (ns : List Nm) (x : Px) : pSt ns (nmv v x) = nmv v (pSt ns x) := by
  unfold pSt
  rw [step_nv]
  cases pStepN ns x <;> rfl
theorem run_nv (v : Value) (ns : List Nm) (x : Px) : pRunN ns (nmv v x) = nmv v (pRunN ns x) := by
  unfold pRunN
  rw [st_nv, st_nv, st_nv]
theorem vv_nv (ns : List Nm) (x : Px) (v : Value) (l : List Int) : vv ns (nmv v x) l = nmv v (vv ns x l) := run_nv v ns { x with up := l }
theorem feed_end {ns : List Nm} {x0 : Px} {s : ByteArray} {d : Fd} (h0 : x0.state = 0) (h : FdOk ns x0 s d) : dn d.out d.z = vv ns x0 (bL s) := by
  rcases h.all with ht | h5
  · rw [h.v, ht, List.take_of_length_le (by rw [bL_length]; exact Nat.le_refl _)]
  · have h1 := vv_ext ns x0 h0 ((bL s).take d.t) ((bL s).drop d.t) ((bL_small s).take _)
    rw [List.take_append_drop, ← h.v] at h1
    have h2 : ext (dn d.out d.z) ((bL s).drop d.t) = dn d.out d.z := by
      unfold ext
      rw [if_pos (show (dn d.out d.z).state = 5 from h5)]
    have h3 : pRankN (dn d.out d.z) = 0 := by
      have : (dn d.out d.z).state = 5 := h5
      unfold pRankN
      rw [this]; rfl
    rw [h2, pRunN_none (stepN_rank0 h3)] at h1
    exact h1
theorem IntsAt.stepNew {w0 w1 : World} {a : Option Addr} {cs : List Int} (h : IntsAt w0 [] a cs) {ks1 : List Nat} {R S : Mm} (hm : Mem w0 [] (R ++ S) w1) (hks : ks1 = S.map (·.1) := by rfl) : IntsAt w1 ks1 a cs := by
  obtain ⟨b, off, ha, hl, hc⟩ := h
  rcases ha with h0 | ⟨ha, hnb⟩
  · exact ⟨b, off, .inl h0, hl, by subst h0; intro i m hi; simp at hi⟩
  · cases hcs : cs with
    | nil => subst hcs; exact ⟨b, off, .inl rfl, hl, by intro i m hi; simp at hi⟩
    | cons m0 r =>
      subst hcs
      have h00 := (hc 0 m0 rfl).2
      have hlt := World.block_lt_of_cell? w0 _ h00
      refine ⟨b, off, .inr ⟨ha, fun hk => ?_⟩, hl, fun i m hi => ⟨(hc i m hi).1, hm.cellB (hc i m hi).2 (by simp)⟩⟩
      rw [hks] at hk
      obtain ⟨q, hq, hqe⟩ := List.mem_map.1 hk
      rcases hm.kept q (List.mem_append_right _ hq) with h2 | h2
      · cases h2
      · rw [hqe] at h2; simp only at hlt; omega
theorem feed_use {w0 w : World} {ks : List Nat} {R : Mm} {ns : List Nm} {p : Nat} {x0 : Px} {o : Own × Own} (hm : Mem w0 ks (R ++ pX p x0 o) w) (hf : Fresh x0) (s : ByteArray) (hs : s.size ≤ 4000) {a : Option Addr} {cs : List Int} {cap : Nat} (hok : okX x0 o) (hnm : NmAt w (kX p x0 o) x0.names ns) (hcs : IntsAt w (kX p x0 o) a cs) :
    Calls Try.prog 35 [fP p 0, .string s, .slice a cs.length cap].toArray w fun e w' => ∃ d : Fd, FdOk ns x0 s d ∧ e = .returned (.tuple #[.string (ofInts d.out), .int .i64 (d.t : Int)]) ∧ Mem w0 ks (R ++ pX p d.z d.y) w' := by
  have hm2 := hm.perm (L' := pX p x0 o ++ R) List.perm_append_comm
  refine (feed_any ns p x0 hf s hs a cs cap o hok w (Mem.now (S := pX p x0 o) (R := R) hm2) hnm hcs).mono fun e w' ⟨d, hd, he, hm'⟩ => ⟨d, hd, he, ?_⟩
  exact (Mem.call (S := pX p x0 o) (S' := pX p d.z d.y) (R := R) hm2 hm').perm List.perm_append_comm
theorem perm_swap (A P Q : Mm) : ((A ++ P) ++ Q).Perm ((A ++ Q) ++ P) := by
  rw [List.append_assoc, List.append_assoc]
  exact List.Perm.append_left A List.perm_append_comm
theorem perm_first (A P B Q : Mm) : (((A ++ P) ++ B) ++ Q).Perm (((A ++ B) ++ Q) ++ P) := ((perm_swap A P B).append_right Q).trans (perm_swap (A ++ B) P Q)
theorem SocksCuts_any (user pass : ByteArray) (v : Value) (ns : List Nm) (s : ByteArray) (hs : s.size ≤ 1000000000000000) (a : Option Addr) (ct : List Int) (cap : Nat) (w : World) (hn : NmAt w [] v ns) (hsz : ns.length * 40 ≤ 140737488355328) (hcs : IntsAt w [] a ct) :
    Calls Try.prog 8 [.agg #[.string user, .string pass, v], .string s, .slice a ct.length cap].toArray w fun e w' => e = .returned (.bool true) ∧ Mem w [] [] w' := by
  have hnl : ns.length ≤ 1000000000000000 := by omega
  refine calls_of_z Try.func8 rfl Try.ntmps8 rfl (Mem.refl w) ?_; intro cs b hb hk
  repeat (first | (refine st ?_) | (refine stx ?_) | (refine sb ?_) | (intro _))
  rename_i kc
  ((try (refine sg ?_)); (refine zx_call0 rfl fnc33 rfl rfl (fun w hm => awake22_any w) ?_))
  repeat (first | (refine st ?_) | (refine stx ?_) | (refine sb ?_) | (intro _))
  refine zx_call (Y := Nat × Own) (v := fun g => fP g.1 0) (Φ := fun g => RowOk 18 g.2 ns.length (nmC ns)) (L' := fun g => ((kc, .c [.string user, .string pass, v] 59 0 0) :: rowL 83 g.2 (nmC ns)) ++ pX g.1 (pxN user pass (sV g.2 ns.length)) (none, none)) rfl fnc34 rfl rfl (fun w1 hm1 => New_use hm1 (hn.step (ks1 := []) hm1 (fun k hk => by cases hk)) hsz) (fun g ho1 => ?_)
  obtain ⟨p, no1⟩ := g
  simp only at ho1
  repeat (first | (refine st ?_) | (refine stx ?_) | (refine sb ?_) | (intro _))
  refine zx_call (Y := Nat × Own) (v := fun g => fP g.1 0) (Φ := fun g => RowOk 18 g.2 ns.length (nmC ns)) (L' := fun g => (((kc, .c [.string user, .string pass, v] 59 0 0) :: rowL 83 no1 (nmC ns)) ++ pX p (pxN user pass (sV no1 ns.length)) (none, none)) ++ rowL 83 g.2 (nmC ns) ++ pX g.1 (pxN user pass (sV g.2 ns.length)) (none, none)) rfl fnc34 rfl rfl (fun w1 hm1 => New_use hm1 (hn.step (ks1 := []) hm1 (fun k hk => by cases hk)) hsz) (fun g ho2 => ?_)
  obtain ⟨q, no2⟩ := g
  simp only at ho2
  generalize hxp : pxN user pass (sV no1 ns.length) = xp
  generalize hxq : pxN user pass (sV no2 ns.length) = xq
  have okp : okX xp (none, none) := by rw [← hxp]; exact pxN_ok _ _ _
  have okq : okX xq (none, none) := by rw [← hxq]; exact pxN_ok _ _ _
  have hfp : Fresh xp := by rw [← hxp]; exact ⟨rfl, rfl, rfl, rfl⟩
  have hfq : Fresh xq := by rw [← hxq]; exact ⟨rfl, rfl, rfl, rfl⟩
  have hnp : xp.names = sV no1 ns.length := by rw [← hxp]; rfl
  have hnq : xq.names = sV no2 ns.length := by rw [← hxq]; rfl
  by_cases hbig : 4000 < s.size
  · have hs4 : (s.extract 0 4000).size ≤ 4000 := by rw [ByteArray.size_extract]; omega
    repeat (first | (refine st ?_) | (refine stx ?_) | (refine sb ?_) | (intro _))
    ((try (refine sg ?_)); (refine zx_sliceN (0 ) ( 4000 ) tab_ok rfl rfl rfl rfl rfl rfl rfl (by first | rfl | omega | (simp only [IntKind.wrap_i64]; omega)) (by first | rfl | omega | (simp only [IntKind.wrap_i64]; omega)) (by omega) (by omega) ?_))
    repeat (first | (refine st ?_) | (refine stx ?_) | (refine sb ?_) | (intro _))
    refine zx_call (Y := Fd) (v := fun d => .tuple #[.string (ofInts d.out), .int .i64 (d.t : Int)]) (Φ := fun d => FdOk ns xp (s.extract 0 4000) d) (L' := fun d => (((kc, .c [.string user, .string pass, v] 59 0 0) :: rowL 83 no1 (nmC ns)) ++ rowL 83 no2 (nmC ns)) ++ pX q xq (none, none) ++ pX p d.z d.y) rfl fnc35 rfl rfl
      (fun w1 hm1 => by
        have hm2 := hm1.perm (perm_first _ (pX p xp (none, none)) (rowL 83 no2 (nmC ns)) (pX q xq (none, none))).symm
        exact feed_use hm2 hfp (s.extract 0 4000) hs4 okp (by have := nmAt_row (ns := ns) hm2 (fun z hz => List.mem_append_left _ (List.mem_append_left _ (List.mem_cons_of_mem _ hz))) ho1 hnl hnp; exact this) ⟨0, 0, .inl rfl, Nat.zero_le _, fun i m hi => by simp at hi⟩ (a := none) (cs := []) (cap := 0)) (fun d1 hd1 => ?_)
    repeat (first | (refine st ?_) | (refine stx ?_) | (refine sb ?_) | (intro _))
    refine zx_call (Y := Fd) (v := fun d => .tuple #[.string (ofInts d.out), .int .i64 (d.t : Int)]) (Φ := fun d => FdOk ns xq (s.extract 0 4000) d) (L' := fun d => (((kc, .c [.string user, .string pass, v] 59 0 0) :: rowL 83 no1 (nmC ns)) ++ rowL 83 no2 (nmC ns)) ++ pX p d1.z d1.y ++ pX q d.z d.y) rfl fnc35 rfl rfl
      (fun w1 hm1 => by
        have hm2 := hm1.perm (perm_swap _ (pX p d1.z d1.y) (pX q xq (none, none)))
        exact feed_use hm2 hfq (s.extract 0 4000) hs4 okq (by have := nmAt_row (ns := ns) hm2 (fun z hz => List.mem_append_left _ (List.mem_append_right _ hz)) ho2 hnl hnq; exact this) (hcs.stepNew hm2)) (fun d2 hd2 => ?_)
    obtain ⟨t1, u1, z1, y1⟩ := d1
    obtain ⟨t2, u2, z2, y2⟩ := d2
    obtain ⟨g1, g2, g3, g4, g5⟩ : u2 = u1 ∧ z2.state = z1.state ∧ z2.ta = z1.ta ∧ z2.tp = z1.tp ∧ (t1 = t2 ∨ z1.state = 5) := by
      have h1 := feed_end hfp.state hd1
      have h2 := feed_end hfq.state hd2
      have h3 := vv_nv ns xp (sV no2 ns.length) (bL (s.extract 0 4000))
      have h4 : nmv (sV no2 ns.length) xp = xq := by rw [← hxp, ← hxq]; rfl
      rw [h4, ← h2, ← h1] at h3
      have e1 := congrArg Px.down h3
      have e2 := congrArg Px.state h3
      have e3 := congrArg Px.ta h3
      have e4 := congrArg Px.tp h3
      have e5 := hd1.down
      have e6 := hd2.down
      have e7 := hd1.all
      have e8 := hd2.all
      simp only [dn, nmv] at e1 e2 e3 e4
      simp only at e5 e6 e7 e8
      rw [e5, e6, List.append_nil, List.append_nil] at e1
      refine ⟨e1, e2, e3, e4, ?_⟩
      rw [e2] at e8
      rcases e7 with h | h
      · rcases e8 with h' | h'
        · exact .inl (by omega)
        · exact .inr h'
      · exact .inr h
    subst g1
    have hk1 := hd1.ok
    have hk2 := hd2.ok
    simp only at hk1 hk2
    have hT1 := Target_any p z1
    have hT2 := Target_any q z2
    rw [g2, g3, g4] at hT2
    have hS1 := State_any p z1
    have hS2 := State_any q z2
    rw [g2] at hS2
    generalize z1.state = st1 at hT1 hT2 hS1 hS2 g5
    generalize z1.ta = ta1 at hT1 hT2
    generalize z1.tp = tp1 at hT1 hT2
    repeat (first | (refine st ?_) | (refine stx ?_) | (refine sb ?_) | (intro _))
    obtain ⟨ep, hep⟩ : ∃ r : Adr × Int, (if st1 = 3 then epV ta1 tp1 else epV adr0 0) = epV r.1 r.2 := by
      by_cases h : st1 = 3
      · exact ⟨(ta1, tp1), by rw [if_pos h]⟩
      · exact ⟨(adr0, 0), by rw [if_neg h]⟩
    obtain ⟨ea, en⟩ := ep
    simp only at hep
    rw [hep] at hT1 hT2
    ((try (refine sg ?_)); (refine zx_call0 rfl fnc36 rfl rfl (fun w hm => QC.use hT1 hk1 (hm.perm (perm_swap _ _ _))) ?_))
    repeat (first | (refine st ?_) | (refine stx ?_) | (refine sb ?_) | (intro _))
    ((try (refine sg ?_)); (refine zx_call0 rfl fnc36 rfl rfl (fun w hm => QC.use (R := _ :: _) hT2 hk2 hm) ?_))
    repeat (first | (refine st ?_) | (refine stx ?_) | (refine sb ?_) | (intro _))
    refine zx_re 64 (.bool true) rfl (congrArg _ (decide_eq_true rfl)) ?_
    repeat (first | (refine st ?_) | (refine stx ?_) | (refine sb ?_) | (intro _))
    refine zx_re 69 (.bool true) rfl (congrArg _ (by simp)) ?_
    repeat (first | (refine st ?_) | (refine stx ?_) | (refine sb ?_) | (intro _))
    refine zx_re 74 (.bool true) rfl (congrArg _ (by simp)) ?_
    repeat (first | (refine st ?_) | (refine stx ?_) | (refine sb ?_) | (intro _))
    ((try (refine sg ?_)); (refine zx_call0 rfl fnc37 rfl rfl (fun w hm => QC.use (R := (_ :: _ :: _) ++ pX q z2 y2) hS1 hk1 (hm.perm (perm_swap (_ :: _ :: _) (pX q z2 y2) (pX p z1 y1)))) ?_))
    repeat (first | (refine st ?_) | (refine stx ?_) | (refine sb ?_) | (intro _))
    ((try (refine sg ?_)); (refine zx_call0 rfl fnc37 rfl rfl (fun w hm => QC.use (R := _ :: _ :: _) hS2 hk2 hm) ?_))
    repeat (first | (refine st ?_) | (refine stx ?_) | (refine sb ?_) | (intro _))
    refine zx_re 81 (.bool true) rfl (congrArg _ (by simp)) ?_
    by_cases ht : t1 = t2
    · subst ht
      repeat (first | (refine st ?_) | (refine stx ?_) | (refine sb ?_) | (intro _))
      refine z_ret1 tab_ok Try.func8 hb hk Try.results8 (.tmp rfl) (fun w hm => ?_)
      exact ⟨by first | rfl | (refine congrArg _ (congrArg _ ?_); simp), hm.bare⟩
    · have h5 : st1 = 5 := by
        rcases g5 with h | h
        · exact absurd h ht
        · exact h
      repeat (first | (refine st ?_) | (refine stx ?_) | (refine sb ?_) | (intro _))
      refine zx_re 85 (.bool false) rfl (congrArg _ (beq_eq_false_iff_ne.2 (by simp only; omega))) ?_
      repeat (first | (refine st ?_) | (refine stx ?_) | (refine sb ?_) | (intro _))
      ((try (refine sg ?_)); (refine zx_call0 rfl fnc37 rfl rfl (fun w hm => QC.use (R := (_ :: _ :: _) ++ pX q z2 y2) hS1 hk1 (hm.perm (perm_swap (_ :: _ :: _) (pX q z2 y2) (pX p z1 y1)))) ?_))
      repeat (first | (refine st ?_) | (refine stx ?_) | (refine sb ?_) | (intro _))
      refine z_ret1 tab_ok Try.func8 hb hk Try.results8 (.tmp rfl) (fun w hm => ?_)
      refine ⟨congrArg _ (congrArg _ ?_), hm.bare⟩
      subst h5
      rfl
  · have hs4 : s.size ≤ 4000 := by omega
    repeat (first | (refine st ?_) | (refine stx ?_) | (refine sb ?_) | (intro _))
    refine zx_call (Y := Fd) (v := fun d => .tuple #[.string (ofInts d.out), .int .i64 (d.t : Int)]) (Φ := fun d => FdOk ns xp s d) (L' := fun d => (((kc, .c [.string user, .string pass, v] 59 0 0) :: rowL 83 no1 (nmC ns)) ++ rowL 83 no2 (nmC ns)) ++ pX q xq (none, none) ++ pX p d.z d.y) rfl fnc35 rfl rfl
      (fun w1 hm1 => by
        have hm2 := hm1.perm (perm_first _ (pX p xp (none, none)) (rowL 83 no2 (nmC ns)) (pX q xq (none, none))).symm
        exact feed_use hm2 hfp s hs4 okp (by have := nmAt_row (ns := ns) hm2 (fun z hz => List.mem_append_left _ (List.mem_append_left _ (List.mem_cons_of_mem _ hz))) ho1 hnl hnp; exact this) ⟨0, 0, .inl rfl, Nat.zero_le _, fun i m hi => by simp at hi⟩ (a := none) (cs := []) (cap := 0)) (fun d1 hd1 => ?_)
    repeat (first | (refine st ?_) | (refine stx ?_) | (refine sb ?_) | (intro _))
    refine zx_call (Y := Fd) (v := fun d => .tuple #[.string (ofInts d.out), .int .i64 (d.t : Int)]) (Φ := fun d => FdOk ns xq s d) (L' := fun d => (((kc, .c [.string user, .string pass, v] 59 0 0) :: rowL 83 no1 (nmC ns)) ++ rowL 83 no2 (nmC ns)) ++ pX p d1.z d1.y ++ pX q d.z d.y) rfl fnc35 rfl rfl
      (fun w1 hm1 => by
        have hm2 := hm1.perm (perm_swap _ (pX p d1.z d1.y) (pX q xq (none, none)))
        exact feed_use hm2 hfq s hs4 okq (by have := nmAt_row (ns := ns) hm2 (fun z hz => List.mem_append_left _ (List.mem_append_right _ hz)) ho2 hnl hnq; exact this) (hcs.stepNew hm2)) (fun d2 hd2 => ?_)
    obtain ⟨t1, u1, z1, y1⟩ := d1
    obtain ⟨t2, u2, z2, y2⟩ := d2
    obtain ⟨g1, g2, g3, g4, g5⟩ : u2 = u1 ∧ z2.state = z1.state ∧ z2.ta = z1.ta ∧ z2.tp = z1.tp ∧ (t1 = t2 ∨ z1.state = 5) := by
      have h1 := feed_end hfp.state hd1
      have h2 := feed_end hfq.state hd2
      have h3 := vv_nv ns xp (sV no2 ns.length) (bL s)
      have h4 : nmv (sV no2 ns.length) xp = xq := by rw [← hxp, ← hxq]; rfl
      rw [h4, ← h2, ← h1] at h3
      have e1 := congrArg Px.down h3
      have e2 := congrArg Px.state h3
      have e3 := congrArg Px.ta h3
      have e4 := congrArg Px.tp h3
      have e5 := hd1.down
      have e6 := hd2.down
      have e7 := hd1.all
      have e8 := hd2.all
      simp only [dn, nmv] at e1 e2 e3 e4
      simp only at e5 e6 e7 e8
      rw [e5, e6, List.append_nil, List.append_nil] at e1
      refine ⟨e1, e2, e3, e4, ?_⟩
      rw [e2] at e8
      rcases e7 with h | h
      · rcases e8 with h' | h'
        · exact .inl (by omega)
        · exact .inr h'
      · exact .inr h
    subst g1
    have hk1 := hd1.ok
    have hk2 := hd2.ok
    simp only at hk1 hk2
    have hT1 := Target_any p z1
    have hT2 := Target_any q z2
    rw [g2, g3, g4] at hT2
    have hS1 := State_any p z1
    have hS2 := State_any q z2
    rw [g2] at hS2
    generalize z1.state = st1 at hT1 hT2 hS1 hS2 g5
    generalize z1.ta = ta1 at hT1 hT2
    generalize z1.tp = tp1 at hT1 hT2
    repeat (first | (refine st ?_) | (refine stx ?_) | (refine sb ?_) | (intro _))
    obtain ⟨ep, hep⟩ : ∃ r : Adr × Int, (if st1 = 3 then epV ta1 tp1 else epV adr0 0) = epV r.1 r.2 := by
      by_cases h : st1 = 3
      · exact ⟨(ta1, tp1), by rw [if_pos h]⟩
      · exact ⟨(adr0, 0), by rw [if_neg h]⟩
    obtain ⟨ea, en⟩ := ep
    simp only at hep
    rw [hep] at hT1 hT2
    ((try (refine sg ?_)); (refine zx_call0 rfl fnc36 rfl rfl (fun w hm => QC.use hT1 hk1 (hm.perm (perm_swap _ _ _))) ?_))
    repeat (first | (refine st ?_) | (refine stx ?_) | (refine sb ?_) | (intro _))
    ((try (refine sg ?_)); (refine zx_call0 rfl fnc36 rfl rfl (fun w hm => QC.use (R := _ :: _) hT2 hk2 hm) ?_))
    repeat (first | (refine st ?_) | (refine stx ?_) | (refine sb ?_) | (intro _))
    refine zx_re 64 (.bool true) rfl (congrArg _ (decide_eq_true rfl)) ?_
    repeat (first | (refine st ?_) | (refine stx ?_) | (refine sb ?_) | (intro _))
    refine zx_re 69 (.bool true) rfl (congrArg _ (by simp)) ?_
    repeat (first | (refine st ?_) | (refine stx ?_) | (refine sb ?_) | (intro _))
    refine zx_re 74 (.bool true) rfl (congrArg _ (by simp)) ?_
    repeat (first | (refine st ?_) | (refine stx ?_) | (refine sb ?_) | (intro _))
    ((try (refine sg ?_)); (refine zx_call0 rfl fnc37 rfl rfl (fun w hm => QC.use (R := (_ :: _ :: _) ++ pX q z2 y2) hS1 hk1 (hm.perm (perm_swap (_ :: _ :: _) (pX q z2 y2) (pX p z1 y1)))) ?_))
    repeat (first | (refine st ?_) | (refine stx ?_) | (refine sb ?_) | (intro _))
    ((try (refine sg ?_)); (refine zx_call0 rfl fnc37 rfl rfl (fun w hm => QC.use (R := _ :: _ :: _) hS2 hk2 hm) ?_))
    repeat (first | (refine st ?_) | (refine stx ?_) | (refine sb ?_) | (intro _))
    refine zx_re 81 (.bool true) rfl (congrArg _ (by simp)) ?_
    by_cases ht : t1 = t2
    · subst ht
      repeat (first | (refine st ?_) | (refine stx ?_) | (refine sb ?_) | (intro _))
      refine z_ret1 tab_ok Try.func8 hb hk Try.results8 (.tmp rfl) (fun w hm => ?_)
      exact ⟨by first | rfl | (refine congrArg _ (congrArg _ ?_); simp), hm.bare⟩
    · have h5 : st1 = 5 := by
        rcases g5 with h | h
        · exact absurd h ht
        · exact h
      repeat (first | (refine st ?_) | (refine stx ?_) | (refine sb ?_) | (intro _))
      refine zx_re 85 (.bool false) rfl (congrArg _ (beq_eq_false_iff_ne.2 (by simp only; omega))) ?_
      repeat (first | (refine st ?_) | (refine stx ?_) | (refine sb ?_) | (intro _))
      ((try (refine sg ?_)); (refine zx_call0 rfl fnc37 rfl rfl (fun w hm => QC.use (R := (_ :: _ :: _) ++ pX q z2 y2) hS1 hk1 (hm.perm (perm_swap (_ :: _ :: _) (pX q z2 y2) (pX p z1 y1)))) ?_))
      repeat (first | (refine st ?_) | (refine stx ?_) | (refine sb ?_) | (intro _))
      refine z_ret1 tab_ok Try.func8 hb hk Try.results8 (.tmp rfl) (fun w hm => ?_)
      refine ⟨congrArg _ (congrArg _ ?_), hm.bare⟩
      subst h5
      rfl

end Go.Proofs.Ytabcaiecoiejkaa
