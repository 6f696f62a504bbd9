/- Walk of the law SocksCuts: it answers true. -/
import Derived.Test.YtabcaiecoiejkaaS23
set_option maxRecDepth 100000
set_option linter.unusedSimpArgs false
set_option linter.unusedVariables false
set_option maxHeartbeats 8000000
namespace Go.Proofs.Ytabcaiecoiejkaa
open Go K

def nmv (v : Value) (x : Px) : Px := { x with names := v }
theorem greet_nv (v : Value) (x : Px) : pGreet (nmv v x) = (pGreet x).map (nmv v) := by
  unfold pGreet
  have h1 : (nmv v x).up = x.up := rfl
  have h2 : (nmv v x).user = x.user := rfl
  rw [h1, h2]
  repeat' split
  all_goals rfl
theorem login_nv (v : Value) (x : Px) : pLogin (nmv v x) = (pLogin x).map (nmv v) := by
  unfold pLogin
  have h1 : (nmv v x).up = x.up := rfl
  have h2 : (nmv v x).user = x.user := rfl
  have h4 : (nmv v x).pass = x.pass := rfl
  rw [h1, h2, h4]
  repeat' split
  all_goals rfl
theorem reqA_nv (v : Value) (x : Px) (a : Adr) (e : Nat) : pReqA (nmv v x) a e = (pReqA x a e).map (nmv v) := by
  unfold pReqA
  have h1 : (nmv v x).up = x.up := rfl
  rw [h1]
  repeat' split
  all_goals rfl
theorem reqNm_nv (v : Value) (x : Px) (a : Option Adr) (e : Nat) : pReqNm (nmv v x) a e = nmv v (pReqNm x a e) := by
  unfold pReqNm
  cases a with
  | none => rfl
  | some a =>
    simp only
    split <;> rfl
theorem req_nv (v : Value) (ns : List Nm) (x : Px) : pReqN ns (nmv v x) = (pReqN ns x).map (nmv v) := by
  unfold pReqN
  have h1 : (nmv v x).up = x.up := rfl
  have h2 : ∀ j, pBody (nmv v x) j = pBody x j := fun _ => rfl
  rw [h1, h2, h2]
  simp only [reqA_nv, reqNm_nv]
  repeat' split
  all_goals rfl
theorem step_nv (v : Value) (ns : List Nm) (x : Px) : pStepN ns (nmv v x) = (pStepN ns x).map (nmv v) := by
  unfold pStepN
  have h1 : (nmv v x).state = x.state := rfl
  rw [h1, greet_nv, login_nv, req_nv]
  repeat' split
  all_goals rfl
theorem st_nv (v : Value) (ns : List Nm) (x : Px) : pSt ns (nmv v x) = nmv v (pSt ns x) := by
  unfold pSt
  rw [step_nv]
  cases pStepN ns x <;> rfl
theorem run_nv (v : Value) (ns : List Nm) (x : Px) : pRunN ns (nmv v x) = nmv v (pRunN ns x) := by
  unfold pRunN
  rw [st_nv, st_nv, st_nv]
theorem vv_nv (ns : List Nm) (x : Px) (v : Value) (l : List Int) : vv ns (nmv v x) l = nmv v (vv ns x l) := run_nv v ns { x with up := l }
theorem feed_end {ns : List Nm} {x0 : Px} {s : ByteArray} {d : Fd} (h0 : x0.state = 0) (h : FdOk ns x0 s d) : dn d.out d.z = vv ns x0 (bL s) := by
  rcases h.all with ht | h5
  · rw [h.v, ht, List.take_of_length_le (by rw [bL_length]; exact Nat.le_refl _)]
  · have h1 := vv_ext ns x0 h0 ((bL s).take d.t) ((bL s).drop d.t) ((bL_small s).take _)
    rw [List.take_append_drop, ← h.v] at h1
    have h2 : ext (dn d.out d.z) ((bL s).drop d.t) = dn d.out d.z := by
      unfold ext
      rw [if_pos (show (dn d.out d.z).state = 5 from h5)]
    have h3 : pRankN (dn d.out d.z) = 0 := by
      have : (dn d.out d.z).state = 5 := h5
      unfold pRankN
      rw [this]; rfl
    rw [h2, pRunN_none (stepN_rank0 h3)] at h1
    exact h1
theorem IntsAt.stepNew {w0 w1 : World} {a : Option Addr} {cs : List Int} (h : IntsAt w0 [] a cs) {ks1 : List Nat} {R S : Mm} (hm : Mem w0 [] (R ++ S) w1) (hks : ks1 = S.map (·.1) := by rfl) : IntsAt w1 ks1 a cs := by
  obtain ⟨b, off, ha, hl, hc⟩ := h
  rcases ha with h0 | ⟨ha, hnb⟩
  · exact ⟨b, off, .inl h0, hl, by subst h0; intro i m hi; simp at hi⟩
  · cases hcs : cs with
    | nil => subst hcs; exact ⟨b, off, .inl rfl, hl, by intro i m hi; simp at hi⟩
    | cons m0 r =>
      subst hcs
      have h00 := (hc 0 m0 rfl).2
      have hlt := World.block_lt_of_cell? w0 _ h00
      refine ⟨b, off, .inr ⟨ha, fun hk => ?_⟩, hl, fun i m hi => ⟨(hc i m hi).1, hm.cellB (hc i m hi).2 (by simp)⟩⟩
      rw [hks] at hk
      obtain ⟨q, hq, hqe⟩ := List.mem_map.1 hk
      rcases hm.kept q (List.mem_append_right _ hq) with h2 | h2
      · cases h2
      · rw [hqe] at h2; simp only at hlt; omega
theorem feed_use {w0 w : World} {ks : List Nat} {R : Mm} {ns : List Nm} {p : Nat} {x0 : Px} {o : Own × Own} (hm : Mem w0 ks (R ++ pX p x0 o) w) (hf : Fresh x0) (s : ByteArray) (hs : s.size ≤ 4000) {a : Option Addr} {cs : List Int} {cap : Nat} (hok : okX x0 o) (hnm : NmAt w (kX p x0 o) x0.names ns) (hcs : IntsAt w (kX p x0 o) a cs) :
    Calls Try.prog 35 [fP p 0, .string s, .slice a cs.length cap].toArray w fun e w' => ∃ d : Fd, FdOk ns x0 s d ∧ e = .returned (.tuple #[.string (ofInts d.out), .int .i64 (d.t : Int)]) ∧ Mem w0 ks (R ++ pX p d.z d.y) w' := by
  have hm2 := hm.perm (L' := pX p x0 o ++ R) List.perm_append_comm
  refine (feed_any ns p x0 hf s hs a cs cap o hok w (Mem.now (S := pX p x0 o) (R := R) hm2) hnm hcs).mono fun e w' ⟨d, hd, he, hm'⟩ => ⟨d, hd, he, ?_⟩
  exact (Mem.call (S := pX p x0 o) (S' := pX p d.z d.y) (R := R) hm2 hm').perm List.perm_append_comm
theorem perm_swap (A P Q : Mm) : ((A ++ P) ++ Q).Perm ((A ++ Q) ++ P) := by
  rw [List.append_assoc, List.append_assoc]
  exact List.Perm.append_left A List.perm_append_comm
theorem perm_first (A P B Q : Mm) : (((A ++ P) ++ B) ++ Q).Perm (((A ++ B) ++ Q) ++ P) := ((perm_swap A P B).append_right Q).trans (perm_swap (A ++ B) P Q)
theorem SocksCuts_any (user pass : ByteArray) (v : Value) (ns : List Nm) (s : ByteArray) (hs : s.size ≤ 1000000000000000) (a : Option Addr) (ct : List Int) (cap : Nat) (w : World) (hn : NmAt w [] v ns) (hsz : ns.length * 40 ≤ 140737488355328) (hcs : IntsAt w [] a ct) :
    Calls Try.prog 8 [.agg #[.string user, .string pass, v], .string s, .slice a ct.length cap].toArray w fun e w' => e = .returned (.bool true) ∧ Mem w [] [] w' := by
  have hnl : ns.length ≤ 1000000000000000 := by omega
  refine calls_of_z Try.func8 rfl Try.ntmps8 rfl (Mem.refl w) ?_; intro cs b hb hk
  repeat (first | (refine st ?_) | (refine stx ?_) | (refine sb ?_) | (intro _))
  rename_i kc
  ((try (refine sg ?_)); (refine zx_call0 rfl fnc33 rfl rfl (fun w hm => awake22_any w) ?_))
  repeat (first | (refine st ?_) | (refine stx ?_) | (refine sb ?_) | (intro _))
  refine zx_call (Y := Nat × Own) (v := fun g => fP g.1 0) (Φ := fun g => RowOk 18 g.2 ns.length (nmC ns)) (L' := fun g => ((kc, .c [.string user, .string pass, v] 59 0 0) :: rowL 83 g.2 (nmC ns)) ++ pX g.1 (pxN user pass (sV g.2 ns.length)) (none, none)) rfl fnc34 rfl rfl (fun w1 hm1 => New_use hm1 (hn.step (ks1 := []) hm1 (fun k hk => by cases hk)) hsz) (fun g ho1 => ?_)
  obtain ⟨p, no1⟩ := g
  simp only at ho1
  repeat (first | (refine st ?_) | (refine stx ?_) | (refine sb ?_) | (intro _))
  refine zx_call (Y := Nat × Own) (v := fun g => fP g.1 0) (Φ := fun g => RowOk 18 g.2 ns.length (nmC ns)) (L' := fun g => (((kc, .c [.string user, .string pass, v] 59 0 0) :: rowL 83 no1 (nmC ns)) ++ pX p (pxN user pass (sV no1 ns.length)) (none, none)) ++ rowL 83 g.2 (nmC ns) ++ pX g.1 (pxN user pass (sV g.2 ns.length)) (none, none)) rfl fnc34 rfl rfl (fun w1 hm1 => New_use hm1 (hn.step (ks1 := []) hm1 (fun k hk => by cases hk)) hsz) (fun g ho2 => ?_)
  obtain ⟨q, no2⟩ := g
  simp only at ho2
  generalize hxp : pxN user pass (sV no1 ns.length) = xp
  generalize hxq : pxN user pass (sV no2 ns.length) = xq
  have okp : okX xp (none, none) := by rw [← hxp]; exact pxN_ok _ _ _
  have okq : okX xq (none, none) := by rw [← hxq]; exact pxN_ok _ _ _
  have hfp : Fresh xp := by rw [← hxp]; exact ⟨rfl, rfl, rfl, rfl⟩
  have hfq : Fresh xq := by rw [← hxq]; exact ⟨rfl, rfl, rfl, rfl⟩
  have hnp : xp.names = sV no1 ns.length := by rw [← hxp]; rfl
  have hnq : xq.names = sV no2 ns.length := by rw [← hxq]; rfl
  by_cases hbig : 4000 < s.size
  · have hs4 : (s.extract 0 4000).size ≤ 4000 := by rw [ByteArray.size_extract]; omega
    repeat (first | (refine st ?_) | (refine stx ?_) | (refine sb ?_) | (intro _))
    ((try (refine sg ?_)); (refine zx_sliceN (0 ) ( 4000 ) tab_ok rfl rfl rfl rfl rfl rfl rfl (by first | rfl | omega | (simp only [IntKind.wrap_i64]; omega)) (by first | rfl | omega | (simp only [IntKind.wrap_i64]; omega)) (by omega) (by omega) ?_))
    repeat (first | (refine st ?_) | (refine stx ?_) | (refine sb ?_) | (intro _))
    refine zx_call (Y := Fd) (v := fun d => .tuple #[.string (ofInts d.out), .int .i64 (d.t : Int)]) (Φ := fun d => FdOk ns xp (s.extract 0 4000) d) (L' := fun d => (((kc, .c [.string user, .string pass, v] 59 0 0) :: rowL 83 no1 (nmC ns)) ++ rowL 83 no2 (nmC ns)) ++ pX q xq (none, none) ++ pX p d.z d.y) rfl fnc35 rfl rfl
      (fun w1 hm1 => by
        have hm2 := hm1.perm (perm_first _ (pX p xp (none, none)) (rowL 83 no2 (nmC ns)) (pX q xq (none, none))).symm
        exact feed_use hm2 hfp (s.extract 0 4000) hs4 okp (by have := nmAt_row (ns := ns) hm2 (fun z hz => List.mem_append_left _ (List.mem_append_left _ (List.mem_cons_of_mem _ hz))) ho1 hnl hnp; exact this) ⟨0, 0, .inl rfl, Nat.zero_le _, fun i m hi => by simp at hi⟩ (a := none) (cs := []) (cap := 0)) (fun d1 hd1 => ?_)
    repeat (first | (refine st ?_) | (refine stx ?_) | (refine sb ?_) | (intro _))
    refine zx_call (Y := Fd) (v := fun d => .tuple #[.string (ofInts d.out), .int .i64 (d.t : Int)]) (Φ := fun d => FdOk ns xq (s.extract 0 4000) d) (L' := fun d => (((kc, .c [.string user, .string pass, v] 59 0 0) :: rowL 83 no1 (nmC ns)) ++ rowL 83 no2 (nmC ns)) ++ pX p d1.z d1.y ++ pX q d.z d.y) rfl fnc35 rfl rfl
      (fun w1 hm1 => by
        have hm2 := hm1.perm (perm_swap _ (pX p d1.z d1.y) (pX q xq (none, none)))
        exact feed_use hm2 hfq (s.extract 0 4000) hs4 okq (by have := nmAt_row (ns := ns) hm2 (fun z hz => List.mem_append_left _ (List.mem_append_right _ hz)) ho2 hnl hnq; exact this) (hcs.stepNew hm2)) (fun d2 hd2 => ?_)
    obtain ⟨t1, u1, z1, y1⟩ := d1
    obtain ⟨t2, u2, z2, y2⟩ := d2
    obtain ⟨g1, g2, g3, g4, g5⟩ : u2 = u1 ∧ z2.state = z1.state ∧ z2.ta = z1.ta ∧ z2.tp = z1.tp ∧ (t1 = t2 ∨ z1.state = 5) := by
      have h1 := feed_end hfp.state hd1
      have h2 := feed_end hfq.state hd2
      have h3 := vv_nv ns xp (sV no2 ns.length) (bL (s.extract 0 4000))
      have h4 : nmv (sV no2 ns.length) xp = xq := by rw [← hxp, ← hxq]; rfl
      rw [h4, ← h2, ← h1] at h3
      have e1 := congrArg Px.down h3
      have e2 := congrArg Px.state h3
      have e3 := congrArg Px.ta h3
      have e4 := congrArg Px.tp h3
      have e5 := hd1.down
      have e6 := hd2.down
      have e7 := hd1.all
      have e8 := hd2.all
      simp only [dn, nmv] at e1 e2 e3 e4
      simp only at e5 e6 e7 e8
      rw [e5, e6, List.append_nil, List.append_nil] at e1
      refine ⟨e1, e2, e3, e4, ?_⟩
      rw [e2] at e8
      rcases e7 with h | h
      · rcases e8 with h' | h'
        · exact .inl (by omega)
        · exact .inr h'
      · exact .inr h
    subst g1
    have hk1 := hd1.ok
    have hk2 := hd2.ok
    simp only at hk1 hk2
    have hT1 := Target_any p z1
    have hT2 := Target_any q z2
    rw [g2, g3, g4] at hT2
    have hS1 := State_any p z1
    have hS2 := State_any q z2
    rw [g2] at hS2
    generalize z1.state = st1 at hT1 hT2 hS1 hS2 g5
    generalize z1.ta = ta1 at hT1 hT2
    generalize z1.tp = tp1 at hT1 hT2
    repeat (first | (refine st ?_) | (refine stx ?_) | (refine sb ?_) | (intro _))
    obtain ⟨ep, hep⟩ : ∃ r : Adr × Int, (if st1 = 3 then epV ta1 tp1 else epV adr0 0) = epV r.1 r.2 := by
      by_cases h : st1 = 3
      · exact ⟨(ta1, tp1), by rw [if_pos h]⟩
      · exact ⟨(adr0, 0), by rw [if_neg h]⟩
    obtain ⟨ea, en⟩ := ep
    simp only at hep
    rw [hep] at hT1 hT2
    ((try (refine sg ?_)); (refine zx_call0 rfl fnc36 rfl rfl (fun w hm => QC.use hT1 hk1 (hm.perm (perm_swap _ _ _))) ?_))
    repeat (first | (refine st ?_) | (refine stx ?_) | (refine sb ?_) | (intro _))
    ((try (refine sg ?_)); (refine zx_call0 rfl fnc36 rfl rfl (fun w hm => QC.use (R := _ :: _) hT2 hk2 hm) ?_))
    repeat (first | (refine st ?_) | (refine stx ?_) | (refine sb ?_) | (intro _))
    refine zx_re 64 (.bool true) rfl (congrArg _ (decide_eq_true rfl)) ?_
    repeat (first | (refine st ?_) | (refine stx ?_) | (refine sb ?_) | (intro _))
    refine zx_re 69 (.bool true) rfl (congrArg _ (by simp)) ?_
    repeat (first | (refine st ?_) | (refine stx ?_) | (refine sb ?_) | (intro _))
    refine zx_re 74 (.bool true) rfl (congrArg _ (by simp)) ?_
    repeat (first | (refine st ?_) | (refine stx ?_) | (refine sb ?_) | (intro _))
    ((try (refine sg ?_)); (refine zx_call0 rfl fnc37 rfl rfl (fun w hm => QC.use (R := (_ :: _ :: _) ++ pX q z2 y2) hS1 hk1 (hm.perm (perm_swap (_ :: _ :: _) (pX q z2 y2) (pX p z1 y1)))) ?_))
    repeat (first | (refine st ?_) | (refine stx ?_) | (refine sb ?_) | (intro _))
    ((try (refine sg ?_)); (refine zx_call0 rfl fnc37 rfl rfl (fun w hm => QC.use (R := _ :: _ :: _) hS2 hk2 hm) ?_))
    repeat (first | (refine st ?_) | (refine stx ?_) | (refine sb ?_) | (intro _))
    refine zx_re 81 (.bool true) rfl (congrArg _ (by simp)) ?_
    by_cases ht : t1 = t2
    · subst ht
      repeat (first | (refine st ?_) | (refine stx ?_) | (refine sb ?_) | (intro _))
      refine z_ret1 tab_ok Try.func8 hb hk Try.results8 (.tmp rfl) (fun w hm => ?_)
      exact ⟨by first | rfl | (refine congrArg _ (congrArg _ ?_); simp), hm.bare⟩
    · have h5 : st1 = 5 := by
        rcases g5 with h | h
        · exact absurd h ht
        · exact h
      repeat (first | (refine st ?_) | (refine stx ?_) | (refine sb ?_) | (intro _))
      refine zx_re 85 (.bool false) rfl (congrArg _ (beq_eq_false_iff_ne.2 (by simp only; omega))) ?_
      repeat (first | (refine st ?_) | (refine stx ?_) | (refine sb ?_) | (intro _))
      ((try (refine sg ?_)); (refine zx_call0 rfl fnc37 rfl rfl (fun w hm => QC.use (R := (_ :: _ :: _) ++ pX q z2 y2) hS1 hk1 (hm.perm (perm_swap (_ :: _ :: _) (pX q z2 y2) (pX p z1 y1)))) ?_))
      repeat (first | (refine st ?_) | (refine stx ?_) | (refine sb ?_) | (intro _))
      refine z_ret1 tab_ok Try.func8 hb hk Try.results8 (.tmp rfl) (fun w hm => ?_)
      refine ⟨congrArg _ (congrArg _ ?_), hm.bare⟩
      subst h5
      rfl
  · have hs4 : s.size ≤ 4000 := by omega
    repeat (first | (refine st ?_) | (refine stx ?_) | (refine sb ?_) | (intro _))
    refine zx_call (Y := Fd) (v := fun d => .tuple #[.string (ofInts d.out), .int .i64 (d.t : Int)]) (Φ := fun d => FdOk ns xp s d) (L' := fun d => (((kc, .c [.string user, .string pass, v] 59 0 0) :: rowL 83 no1 (nmC ns)) ++ rowL 83 no2 (nmC ns)) ++ pX q xq (none, none) ++ pX p d.z d.y) rfl fnc35 rfl rfl
      (fun w1 hm1 => by
        have hm2 := hm1.perm (perm_first _ (pX p xp (none, none)) (rowL 83 no2 (nmC ns)) (pX q xq (none, none))).symm
        exact feed_use hm2 hfp s hs4 okp (by have := nmAt_row (ns := ns) hm2 (fun z hz => List.mem_append_left _ (List.mem_append_left _ (List.mem_cons_of_mem _ hz))) ho1 hnl hnp; exact this) ⟨0, 0, .inl rfl, Nat.zero_le _, fun i m hi => by simp at hi⟩ (a := none) (cs := []) (cap := 0)) (fun d1 hd1 => ?_)
    repeat (first | (refine st ?_) | (refine stx ?_) | (refine sb ?_) | (intro _))
    refine zx_call (Y := Fd) (v := fun d => .tuple #[.string (ofInts d.out), .int .i64 (d.t : Int)]) (Φ := fun d => FdOk ns xq s d) (L' := fun d => (((kc, .c [.string user, .string pass, v] 59 0 0) :: rowL 83 no1 (nmC ns)) ++ rowL 83 no2 (nmC ns)) ++ pX p d1.z d1.y ++ pX q d.z d.y) rfl fnc35 rfl rfl
      (fun w1 hm1 => by
        have hm2 := hm1.perm (perm_swap _ (pX p d1.z d1.y) (pX q xq (none, none)))
        exact feed_use hm2 hfq s hs4 okq (by have := nmAt_row (ns := ns) hm2 (fun z hz => List.mem_append_left _ (List.mem_append_right _ hz)) ho2 hnl hnq; exact this) (hcs.stepNew hm2)) (fun d2 hd2 => ?_)
    obtain ⟨t1, u1, z1, y1⟩ := d1
    obtain ⟨t2, u2, z2, y2⟩ := d2
    obtain ⟨g1, g2, g3, g4, g5⟩ : u2 = u1 ∧ z2.state = z1.state ∧ z2.ta = z1.ta ∧ z2.tp = z1.tp ∧ (t1 = t2 ∨ z1.state = 5) := by
      have h1 := feed_end hfp.state hd1
      have h2 := feed_end hfq.state hd2
      have h3 := vv_nv ns xp (sV no2 ns.length) (bL s)
      have h4 : nmv (sV no2 ns.length) xp = xq := by rw [← hxp, ← hxq]; rfl
      rw [h4, ← h2, ← h1] at h3
      have e1 := congrArg Px.down h3
      have e2 := congrArg Px.state h3
      have e3 := congrArg Px.ta h3
      have e4 := congrArg Px.tp h3
      have e5 := hd1.down
      have e6 := hd2.down
      have e7 := hd1.all
      have e8 := hd2.all
      simp only [dn, nmv] at e1 e2 e3 e4
      simp only at e5 e6 e7 e8
      rw [e5, e6, List.append_nil, List.append_nil] at e1
      refine ⟨e1, e2, e3, e4, ?_⟩
      rw [e2] at e8
      rcases e7 with h | h
      · rcases e8 with h' | h'
        · exact .inl (by omega)
        · exact .inr h'
      · exact .inr h
    subst g1
    have hk1 := hd1.ok
    have hk2 := hd2.ok
    simp only at hk1 hk2
    have hT1 := Target_any p z1
    have hT2 := Target_any q z2
    rw [g2, g3, g4] at hT2
    have hS1 := State_any p z1
    have hS2 := State_any q z2
    rw [g2] at hS2
    generalize z1.state = st1 at hT1 hT2 hS1 hS2 g5
    generalize z1.ta = ta1 at hT1 hT2
    generalize z1.tp = tp1 at hT1 hT2
    repeat (first | (refine st ?_) | (refine stx ?_) | (refine sb ?_) | (intro _))
    obtain ⟨ep, hep⟩ : ∃ r : Adr × Int, (if st1 = 3 then epV ta1 tp1 else epV adr0 0) = epV r.1 r.2 := by
      by_cases h : st1 = 3
      · exact ⟨(ta1, tp1), by rw [if_pos h]⟩
      · exact ⟨(adr0, 0), by rw [if_neg h]⟩
    obtain ⟨ea, en⟩ := ep
    simp only at hep
    rw [hep] at hT1 hT2
    ((try (refine sg ?_)); (refine zx_call0 rfl fnc36 rfl rfl (fun w hm => QC.use hT1 hk1 (hm.perm (perm_swap _ _ _))) ?_))
    repeat (first | (refine st ?_) | (refine stx ?_) | (refine sb ?_) | (intro _))
    ((try (refine sg ?_)); (refine zx_call0 rfl fnc36 rfl rfl (fun w hm => QC.use (R := _ :: _) hT2 hk2 hm) ?_))
    repeat (first | (refine st ?_) | (refine stx ?_) | (refine sb ?_) | (intro _))
    refine zx_re 64 (.bool true) rfl (congrArg _ (decide_eq_true rfl)) ?_
    repeat (first | (refine st ?_) | (refine stx ?_) | (refine sb ?_) | (intro _))
    refine zx_re 69 (.bool true) rfl (congrArg _ (by simp)) ?_
    repeat (first | (refine st ?_) | (refine stx ?_) | (refine sb ?_) | (intro _))
    refine zx_re 74 (.bool true) rfl (congrArg _ (by simp)) ?_
    repeat (first | (refine st ?_) | (refine stx ?_) | (refine sb ?_) | (intro _))
    ((try (refine sg ?_)); (refine zx_call0 rfl fnc37 rfl rfl (fun w hm => QC.use (R := (_ :: _ :: _) ++ pX q z2 y2) hS1 hk1 (hm.perm (perm_swap (_ :: _ :: _) (pX q z2 y2) (pX p z1 y1)))) ?_))
    repeat (first | (refine st ?_) | (refine stx ?_) | (refine sb ?_) | (intro _))
    ((try (refine sg ?_)); (refine zx_call0 rfl fnc37 rfl rfl (fun w hm => QC.use (R := _ :: _ :: _) hS2 hk2 hm) ?_))
    repeat (first | (refine st ?_) | (refine stx ?_) | (refine sb ?_) | (intro _))
    refine zx_re 81 (.bool true) rfl (congrArg _ (by simp)) ?_
    by_cases ht : t1 = t2
    · subst ht
      repeat (first | (refine st ?_) | (refine stx ?_) | (refine sb ?_) | (intro _))
      refine z_ret1 tab_ok Try.func8 hb hk Try.results8 (.tmp rfl) (fun w hm => ?_)
      exact ⟨by first | rfl | (refine congrArg _ (congrArg _ ?_); simp), hm.bare⟩
    · have h5 : st1 = 5 := by
        rcases g5 with h | h
        · exact absurd h ht
        · exact h
      repeat (first | (refine st ?_) | (refine stx ?_) | (refine sb ?_) | (intro _))
      refine zx_re 85 (.bool false) rfl (congrArg _ (beq_eq_false_iff_ne.2 (by simp only; omega))) ?_
      repeat (first | (refine st ?_) | (refine stx ?_) | (refine sb ?_) | (intro _))
      ((try (refine sg ?_)); (refine zx_call0 rfl fnc37 rfl rfl (fun w hm => QC.use (R := (_ :: _ :: _) ++ pX q z2 y2) hS1 hk1 (hm.perm (perm_swap (_ :: _ :: _) (pX q z2 y2) (pX p z1 y1)))) ?_))
      repeat (first | (refine st ?_) | (refine stx ?_) | (refine sb ?_) | (intro _))
      refine z_ret1 tab_ok Try.func8 hb hk Try.results8 (.tmp rfl) (fun w hm => ?_)
      refine ⟨congrArg _ (congrArg _ ?_), hm.bare⟩
      subst h5
      rfl

end Go.Proofs.Ytabcaiecoiejkaa
