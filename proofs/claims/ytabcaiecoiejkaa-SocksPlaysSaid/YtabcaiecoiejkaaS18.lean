/- Walk of package socks: FromClient of any session. -/
import Derived.Test.YtabcaiecoiejkaaS16
import Derived.Test.YtabcaiecoiejkaaS17
set_option maxRecDepth 100000
set_option linter.unusedSimpArgs false
set_option linter.unusedVariables false
set_option maxHeartbeats 8000000
namespace Go.Proofs.Ytabcaiecoiejkaa
open Go K

theorem PN.use {ns : List Nm} {f : Nat} {args : List Value} {p : Nat} {x x' : Px} {v : Value} (h : PN ns f args p x x' v) {w0 w : World} {ks : List Nat} {R : Mm} {o : Own × Own} (hok : okX x o) (hm : Mem w0 ks (R ++ pX p x o) w) (hn : NmAt w (kX p x o) x.names ns) :
    Calls Try.prog f args.toArray w fun e w' => ∃ y : Own × Own, okX x' y ∧ e = .returned v ∧ Mem w0 ks (R ++ pX p x' y) w' := by
  have hm2 := hm.perm (L' := pX p x o ++ R) List.perm_append_comm
  refine (h o w hok (Mem.now (S := pX p x o) (R := R) hm2) hn).mono fun e w' ⟨y, hy, he, hm'⟩ => ⟨y, hy, he, ?_⟩
  exact (Mem.call (S := pX p x o) (S' := pX p x' y) (R := R) hm2 hm').perm List.perm_append_comm
/-- y comes of x by a step -/
structure FolN (x y : Px) : Prop where
  small : Small x.up → Small y.up
  ups : y.up.length ≤ x.up.length
  downs : y.down.length ≤ x.down.length + 10
  names : y.names = x.names
  user : y.user = x.user
  pass : y.pass = x.pass
theorem folN_done (x : Px) : FolN x (pDone x) := ⟨fun _ => Small.nil, Nat.zero_le _, Nat.le_add_right _ _, rfl, rfl, rfl⟩
theorem folN_sayDone (x y : Px) (l : List Int) (hl : l.length ≤ 10) (h1 : y.down = x.down) (h2 : y.names = x.names) (h3 : y.user = x.user) (h4 : y.pass = x.pass) : FolN x (pDone (pSay y l)) :=
  ⟨fun _ => Small.nil, Nat.zero_le _, by show (y.down ++ l).length ≤ _; rw [List.length_append, h1]; omega, h2, h3, h4⟩
theorem folN_go (x y : Px) (l : List Int) (k : Nat) (hl : l.length ≤ 10) (h0 : y.up = x.up.drop k) (h1 : y.down = x.down ++ l) (h2 : y.names = x.names) (h3 : y.user = x.user) (h4 : y.pass = x.pass) : FolN x y :=
  ⟨fun hs => by rw [h0]; exact hs.drop _, by rw [h0, List.length_drop]; omega, by rw [h1, List.length_append]; omega, h2, h3, h4⟩
theorem greetN_fol {x y : Px} (h : pGreet x = some y) : FolN x y ∧ (y.state = 5 ∨ y.state = 1 ∨ y.state = 2) := by
  unfold pGreet at h
  split at h
  · cases h; exact ⟨folN_done x, .inl rfl⟩
  · split at h
    · split at h
      · split at h
        · cases h; exact ⟨folN_sayDone x _ _ (by decide) rfl rfl rfl rfl, .inl rfl⟩
        · cases h; exact ⟨folN_go x _ [5, 0] _ (by decide) rfl rfl rfl rfl rfl, .inr (.inr rfl)⟩
      · split at h
        · cases h; exact ⟨folN_sayDone x _ _ (by decide) rfl rfl rfl rfl, .inl rfl⟩
        · cases h; exact ⟨folN_go x _ [5, 2] _ (by decide) rfl rfl rfl rfl rfl, .inr (.inl rfl)⟩
    · cases h
theorem loginN_fol {x y : Px} (h : pLogin x = some y) : FolN x y ∧ (y.state = 5 ∨ y.state = 2) := by
  unfold pLogin at h
  split at h
  · cases h
  · split at h
    · cases h; exact ⟨folN_sayDone x x _ (by decide) rfl rfl rfl rfl, .inl rfl⟩
    · split at h
      · cases h
      · split at h
        · cases h; exact ⟨folN_go x _ [1, 0] _ (by decide) rfl rfl rfl rfl rfl, .inr rfl⟩
        · cases h; exact ⟨folN_sayDone x x _ (by decide) rfl rfl rfl rfl, .inl rfl⟩
theorem folN_fail (code : Int) (x : Px) : FolN x (pFail code x) := folN_sayDone x x _ (Nat.le_refl 10) rfl rfl rfl rfl
theorem folN_failE (code : Int) (x : Px) (e : Nat) : FolN x (pFail code (pEat x e)) := folN_sayDone x (pEat x e) _ (Nat.le_refl 10) rfl rfl rfl rfl
theorem folN_want (x : Px) (e : Nat) (a : Adr) (n : Int) : FolN x { pEat x e with ta := a, tp := n, state := 3 } := folN_go x _ [] (e + 2) (by decide) rfl (by rw [List.append_nil]; rfl) rfl rfl rfl
theorem reqAN_fol {x y : Px} {a : Adr} {e : Nat} (h : pReqA x a e = some y) : FolN x y ∧ (y.state = 5 ∨ y.state = 3) := by
  unfold pReqA at h
  split at h
  · cases h
  · split at h
    · cases h; exact ⟨folN_failE 1 x e, .inl rfl⟩
    · split at h
      · cases h; exact ⟨folN_failE 4 x e, .inl rfl⟩
      · cases h; exact ⟨folN_want x e _ _, .inr rfl⟩
theorem reqNm_fol (x : Px) (a : Option Adr) (e : Nat) : FolN x (pReqNm x a e) ∧ ((pReqNm x a e).state = 5 ∨ (pReqNm x a e).state = 3) := by
  unfold pReqNm
  split
  · exact ⟨folN_failE 4 x e, .inl rfl⟩
  · split
    · exact ⟨folN_want x e _ _, .inr rfl⟩
    · exact ⟨folN_failE 4 x e, .inl rfl⟩
theorem reqN_fol {ns : List Nm} {x y : Px} (h : pReqN ns x = some y) : FolN x y ∧ (y.state = 5 ∨ y.state = 3) := by
  unfold pReqN at h
  split at h
  · cases h
  · split at h
    · cases h; exact ⟨folN_fail 1 x, .inl rfl⟩
    · split at h
      · cases h; exact ⟨folN_fail 7 x, .inl rfl⟩
      · split at h
        · exact reqAN_fol h
        · split at h
          · exact reqAN_fol h
          · split at h
            · split at h
              · split at h
                · cases h; exact ⟨folN_failE 1 x _, .inl rfl⟩
                · cases h; exact reqNm_fol x _ _
              · cases h
            · cases h; exact ⟨folN_fail 8 x, .inl rfl⟩
/-- one step; none: there is not enough, or nothing to do -/
def pStepN (ns : List Nm) (x : Px) : Option Px := if x.state = 0 then pGreet x else if x.state = 1 then pLogin x else if x.state = 2 then pReqN ns x else none
def pRankN (x : Px) : Nat := if x.state = 0 then 3 else if x.state = 1 then 2 else if x.state = 2 then 1 else 0
def pSt (ns : List Nm) (x : Px) : Px := (pStepN ns x).getD x
/-- what comes of what the client has sent so far -/
def pRunN (ns : List Nm) (x : Px) : Px := pSt ns (pSt ns (pSt ns x))
theorem stepN_fol {ns : List Nm} {x y : Px} (h : pStepN ns x = some y) : FolN x y ∧ pRankN y < pRankN x ∧ (y.state = 1 ∨ y.state = 2 ∨ 3 ≤ y.state) := by
  unfold pStepN at h
  unfold pRankN
  split at h
  · rename_i h0
    obtain ⟨f1, f2⟩ := greetN_fol h
    rw [if_pos h0]
    refine ⟨f1, ?_, by omega⟩
    rcases f2 with e | e | e <;> rw [e] <;> decide
  · split at h
    · rename_i h0 h1
      obtain ⟨f1, f2⟩ := loginN_fol h
      rw [if_neg h0, if_pos h1]
      refine ⟨f1, ?_, by omega⟩
      rcases f2 with e | e <;> rw [e] <;> decide
    · split at h
      · rename_i h0 h1 h2
        obtain ⟨f1, f2⟩ := reqN_fol h
        rw [if_neg h0, if_neg h1, if_pos h2]
        refine ⟨f1, ?_, by omega⟩
        rcases f2 with e | e <;> rw [e] <;> decide
      · cases h
theorem stepN_rank0 {ns : List Nm} {x : Px} (h : pRankN x = 0) : pStepN ns x = none := by
  unfold pRankN at h
  unfold pStepN
  split at h
  · cases h
  · split at h
    · cases h
    · split at h
      · cases h
      · rename_i a b c
        rw [if_neg a, if_neg b, if_neg c]
theorem pSt_none {ns : List Nm} {x : Px} (h : pStepN ns x = none) : pSt ns x = x := by unfold pSt; rw [h]; rfl
theorem pSt_some {ns : List Nm} {x y : Px} (h : pStepN ns x = some y) : pSt ns x = y := by unfold pSt; rw [h]; rfl
theorem pRank3 (x : Px) : pRankN x ≤ 3 := by unfold pRankN; split <;> (try split) <;> (try split) <;> omega
theorem pRunN_none {ns : List Nm} {x : Px} (h : pStepN ns x = none) : pRunN ns x = x := by unfold pRunN; rw [pSt_none h, pSt_none h, pSt_none h]
theorem pRunN_some {ns : List Nm} {x y : Px} (h : pStepN ns x = some y) : pRunN ns x = pRunN ns y := by
  unfold pRunN
  rw [pSt_some h]
  have h1 := (stepN_fol h).2.1
  have h2 := pRank3 x
  cases hy : pStepN ns y with
  | none => rw [pSt_none hy, pSt_none hy, pSt_none hy]
  | some z =>
    rw [pSt_some hy]
    have h3 := (stepN_fol hy).2.1
    cases hz : pStepN ns z with
    | none => rw [pSt_none hz, pSt_none hz]
    | some u =>
      rw [pSt_some hz]
      have h4 := (stepN_fol hz).2.1
      rw [pSt_none (stepN_rank0 (by omega))]
def pClientN (ns : List Nm) (x : Px) (s : ByteArray) : Px × Int := if x.state = 5 ∨ x.cOver = true then (x, 0) else (pRunN ns { x with up := x.up ++ (bL s).take (min s.size (4096 - x.up.length)) }, (min s.size (4096 - x.up.length) : Nat))
structure GoodN (x : Px) : Prop where
  small : Small x.up
  ups : x.up.length ≤ 900000
  downs : x.down.length ≤ 900000
  state : x.state = 0 ∨ x.state = 1 ∨ x.state = 2 ∨ 3 ≤ x.state
theorem FromClientN_any (ns : List Nm) (p : Nat) (x : Px) (s : ByteArray) (hg : GoodN x) (hs : s.size ≤ 1000000000000000) : PN ns 38 [fP p 0, .string s] p x (pClientN ns x s).1 (.int .i64 (pClientN ns x s).2) := by
  intro o w hok h hnm
  unfold pClientN
  by_cases h5 : x.state = 5
  · rw [if_pos (.inl h5)]
    refine calls_of_z Try.func38 rfl Try.ntmps38 rfl h ?_; intro cs b hb hk
    repeat (first | (refine st ?_) | (refine stx ?_) | (refine sb ?_) | (intro _))
    refine z_ret1 tab_ok Try.func38 hb hk Try.results38 (.tmp rfl) (fun w hm => ?_)
    exact ⟨o, hok, rfl, hm⟩
  rcases Bool.eq_false_or_eq_true x.cOver with hc | hc
  · rw [if_pos (.inr hc)]
    refine calls_of_z Try.func38 rfl Try.ntmps38 rfl h ?_; intro cs b hb hk
    repeat (first | (refine st ?_) | (refine stx ?_) | (refine sb ?_) | (intro _))
    refine z_ret1 tab_ok Try.func38 hb hk Try.results38 (.tmp rfl) (fun w hm => ?_)
    exact ⟨o, hok, rfl, hm⟩
  rw [if_neg (fun hh => hh.elim h5 (fun hh => by rw [hc] at hh; cases hh))]
  generalize hn : min s.size (4096 - x.up.length) = n
  have hnl : ((bL s).take n).length = n := by rw [List.length_take, bL_length]; omega
  generalize hx1 : ({ x with up := x.up ++ (bL s).take n } : Px) = x1
  have hup1 : x1.up.length = x.up.length + n := by rw [← hx1]; show (x.up ++ (bL s).take n).length = _; rw [List.length_append, hnl]
  have hd1 : x1.down = x.down := by rw [← hx1]
  have hs1 : Small x1.up := by rw [← hx1]; exact hg.small.app ((bL_small s).take n)
  have hn1 : x1.names = x.names := by rw [← hx1]
  have hst1 : x1.state = x.state := by rw [← hx1]
  have hgs := hg.state
  have hgd := hg.downs
  have hgu := hg.ups
  refine calls_of_z Try.func38 rfl Try.ntmps38 rfl h ?_; intro cs b hb hk
  repeat (first | (refine st ?_) | (refine stx ?_) | (refine sb ?_) | (intro _))
  refine zx_s2b tab_ok rfl rfl rfl rfl rfl rfl ?_
  intro kb cap lo hi rst hcap
  refine zx_call (Y := Own × Own) (v := fun _ => .int .i64 (n : Int)) (Φ := fun y => okX x1 y) (L' := fun y => [(kb, Blk.c (byteCells s ++ rst) 5 lo hi)] ++ pX p x1 y) rfl fnc92 rfl rfl
    (fun w1 hm1 => by rw [← hx1]; exact offer_up_use (R := [(kb, Blk.c (byteCells s ++ rst) 5 lo hi)]) hok hm1 0 rfl (bL s) rst (by rw [bc_eq]) s.size cap n (bL_length s) (by omega) hn.symm hs (by omega)) (fun y hy => ?_)
  repeat (first | (refine sn ?_) | (refine stx ?_) | (refine sb ?_) | (intro _))
  refine z_loop (fun g : Px × (Own × Own) => okX g.1 g.2 ∧ Small g.1.up ∧ g.1.up.length ≤ 1000000 ∧ g.1.down.length + 20 * pRankN g.1 ≤ 950000 ∧ g.1.names = x.names ∧ (g.1.state = 0 ∨ g.1.state = 1 ∨ g.1.state = 2 ∨ 3 ≤ g.1.state) ∧ pRunN ns g.1 = pRunN ns x1)
    (fun _ => [(0, fP p 0), (5, .int .i64 (n : Int))]) (fun g => pX p g.1 g.2) (fun g => pRankN g.1) (x1, y) ⟨hy, hs1, by show x1.up.length ≤ _; omega, by
      show x1.down.length + 20 * pRankN x1 ≤ _
      have := pRank3 x1
      rw [hd1]; omega, hn1, by show x1.state = 0 ∨ x1.state = 1 ∨ x1.state = 2 ∨ 3 ≤ x1.state; rw [hst1]; exact hgs, rfl⟩ ⟨rfl, rfl, trivial⟩ (List.Sublist.cons _ (List.Sublist.refl _)) ?_
  intro g hgg ih
  obtain ⟨z, y'⟩ := g
  obtain ⟨q1, q2, q3, q4, q5, q7, q8⟩ := hgg
  simp only at q1 q2 q3 q4 q5 q7 q8
  refine z_weaken [(0, fP p 0), (5, .int .i64 (n : Int))] (pX p z y') ⟨rfl, rfl, trivial⟩ (List.Sublist.refl _) (fun _ h => h) ?_
  rcases q7 with hz | hz | hz | hz
  · have hrk : pRankN z = 3 := by unfold pRankN; rw [hz]; rfl
    have hSt : pStepN ns z = pGreet z := by unfold pStepN; rw [hz]; rfl
    repeat (first | (refine sn ?_) | (refine stx ?_) | (refine sb ?_) | (intro _))
    refine z_regionH [] (by rfl) follows_mixed (by simp) (m := 15) rfl ?_
    refine zh_take 0 (by kernel_rfl) rfl (by kernel_rfl) (by kernel_rfl) ?_ (by simp); (repeat (first | (refine sn ?_) | (refine stx ?_) | (refine sb ?_))); refine zh_took (by rfl) ?_
    refine zh_take 1 (by kernel_rfl) rfl (by kernel_rfl) (by kernel_rfl) ?_ (by simp); (repeat (first | (refine sn ?_) | (refine stx ?_) | (refine sb ?_))); refine zh_took (by rfl) ?_
    refine zh_take 2 (by kernel_rfl) rfl (by kernel_rfl) (by kernel_rfl) ?_ (by simp); (repeat (first | (refine sn ?_) | (refine stx ?_) | (refine sb ?_))); refine zh_took (by rfl) ?_
    refine zh_one 3 rfl (by kernel_rfl) ?_
    refine st ?_
    refine zx_re 30 (.int .i64 0) rfl (congrArg _ hz) ?_
    refine zh_oned (by rfl) (by simp) ?_
    refine zh_take 4 (by kernel_rfl) rfl (by kernel_rfl) (by kernel_rfl) ?_ (by simp); (repeat (first | (refine sn ?_) | (refine stx ?_) | (refine sb ?_))); refine zh_took (by rfl) ?_
    refine zh_take 5 (by kernel_rfl) rfl (by kernel_rfl) (by kernel_rfl) ?_ (by simp); (repeat (first | (refine sn ?_) | (refine stx ?_) | (refine sb ?_))); refine zh_took (by rfl) ?_
    refine zh_take 6 (by kernel_rfl) rfl (by kernel_rfl) (by kernel_rfl) ?_ (by simp)
    ((try (refine sg ?_)); (refine zx_call0 rfl fnc93 rfl rfl (fun w hm => steps_any w) ?_))
    refine zh_took (by rfl) ?_
    refine zh_take 7 (by kernel_rfl) rfl (by kernel_rfl) (by kernel_rfl) ?_ (by simp); (repeat (first | (refine sn ?_) | (refine stx ?_) | (refine sb ?_))); refine zh_took (by rfl) ?_
    refine zh_take 12 (by kernel_rfl) rfl (by kernel_rfl) (by kernel_rfl) ?_ (by simp); (repeat (first | (refine sn ?_) | (refine stx ?_) | (refine sb ?_))); refine zh_took (by rfl) ?_
    refine zh_take 8 (by kernel_rfl) rfl (by kernel_rfl) (by kernel_rfl) ?_ (by simp); (repeat (first | (refine sn ?_) | (refine stx ?_) | (refine sb ?_))); refine zh_took (by rfl) ?_
    refine zh_take 9 (by kernel_rfl) rfl (by kernel_rfl) (by kernel_rfl) ?_ (by simp); (repeat (first | (refine sn ?_) | (refine stx ?_) | (refine sb ?_))); refine zh_took (by rfl) ?_
    refine zh_one 10 rfl (by kernel_rfl) ?_
    refine st ?_
    refine zx_re 37 (.int .i64 0) rfl (congrArg _ hz) ?_
    refine zh_oned (by rfl) (by simp) ?_
    refine zh_take 11 (by kernel_rfl) rfl (by kernel_rfl) (by kernel_rfl) ?_ (by simp); (repeat (first | (refine sn ?_) | (refine stx ?_) | (refine sb ?_))); refine zh_took (by rfl) ?_
    refine zh_one 13 rfl (by kernel_rfl) ?_
    refine zx_callW (cap := []) (Y := Own × Own) (v := fun _ => .bool (pGreet z).isSome) (Φ := fun u => okX ((pGreet z).getD z) u) (L' := fun u => [] ++ pX p ((pGreet z).getD z) u) rfl rfl fnc123 rfl rfl (fun w1 hm1 => PC.use (R := []) (greet_any p z q2 q3 (by omega)) q1 hm1) (fun u hu => ?_)
    refine zh_oned (by rfl) (by simp) ?_
    refine zh_take 14 (by kernel_rfl) rfl (by kernel_rfl) (by kernel_rfl) ?_ (by simp); (repeat (first | (refine sn ?_) | (refine stx ?_) | (refine sb ?_))); refine zh_took (by rfl) ?_
    refine zh_end (by rfl) (by kernel_rfl) ?_
    cases hG : pGreet z with
    | none =>
      have hR : pRunN ns z = z := pRunN_none (hSt.trans hG)
      rw [hG] at hu
      rw [← q8, hR]
      refine z_re 41 (.bool false) rfl (by first | rfl | (rw [hG]; rfl)) ?_
      repeat (first | (refine st ?_) | (refine stx ?_) | (refine sb ?_) | (intro _))
      refine z_ret1 tab_ok Try.func38 hb hk Try.results38 (.tmp rfl) (fun w hm => ?_)
      exact ⟨u, hu, rfl, by first | exact hm | (rw [hG] at hm; exact hm)⟩
    | some z2 =>
      obtain ⟨f1, f2, f3⟩ := stepN_fol (hSt.trans hG)
      have hR : pRunN ns z2 = pRunN ns x1 := by rw [← q8]; exact (pRunN_some (hSt.trans hG)).symm
      rw [hG] at hu
      refine z_re 41 (.bool true) rfl (by first | rfl | (rw [hG]; rfl)) ?_
      refine z_mem (pX p z2 u) (by first | rfl | (rw [hG]; rfl)) ?_
      repeat (first | (refine st ?_) | (refine stx ?_) | (refine sb ?_) | (intro _))
      refine z_weaken _ _ ?_ (List.Sublist.refl _) (fun _ h => h) (ih (z2, u) ⟨hu, f1.small q2, Nat.le_trans f1.ups q3, by have := f1.downs; show z2.down.length + 20 * pRankN z2 ≤ _; omega, f1.names.trans q5, by show z2.state = 0 ∨ z2.state = 1 ∨ z2.state = 2 ∨ 3 ≤ z2.state; omega, hR⟩ (by show pRankN z2 < pRankN z; omega))
      exact ⟨rfl, rfl, trivial⟩
  · have hrk : pRankN z = 2 := by unfold pRankN; rw [hz]; rfl
    have hSt : pStepN ns z = pLogin z := by unfold pStepN; rw [hz]; rfl
    repeat (first | (refine sn ?_) | (refine stx ?_) | (refine sb ?_) | (intro _))
    refine z_regionH [] (by rfl) follows_mixed (by simp) (m := 15) rfl ?_
    refine zh_take 0 (by kernel_rfl) rfl (by kernel_rfl) (by kernel_rfl) ?_ (by simp); (repeat (first | (refine sn ?_) | (refine stx ?_) | (refine sb ?_))); refine zh_took (by rfl) ?_
    refine zh_take 1 (by kernel_rfl) rfl (by kernel_rfl) (by kernel_rfl) ?_ (by simp); (repeat (first | (refine sn ?_) | (refine stx ?_) | (refine sb ?_))); refine zh_took (by rfl) ?_
    refine zh_take 2 (by kernel_rfl) rfl (by kernel_rfl) (by kernel_rfl) ?_ (by simp); (repeat (first | (refine sn ?_) | (refine stx ?_) | (refine sb ?_))); refine zh_took (by rfl) ?_
    refine zh_one 3 rfl (by kernel_rfl) ?_
    refine st ?_
    refine zx_re 30 (.int .i64 1) rfl (congrArg _ hz) ?_
    refine zh_oned (by rfl) (by simp) ?_
    refine zh_take 4 (by kernel_rfl) rfl (by kernel_rfl) (by kernel_rfl) ?_ (by simp); (repeat (first | (refine sn ?_) | (refine stx ?_) | (refine sb ?_))); refine zh_took (by rfl) ?_
    refine zh_take 5 (by kernel_rfl) rfl (by kernel_rfl) (by kernel_rfl) ?_ (by simp); (repeat (first | (refine sn ?_) | (refine stx ?_) | (refine sb ?_))); refine zh_took (by rfl) ?_
    refine zh_take 6 (by kernel_rfl) rfl (by kernel_rfl) (by kernel_rfl) ?_ (by simp)
    ((try (refine sg ?_)); (refine zx_call0 rfl fnc93 rfl rfl (fun w hm => steps_any w) ?_))
    refine zh_took (by rfl) ?_
    refine zh_take 7 (by kernel_rfl) rfl (by kernel_rfl) (by kernel_rfl) ?_ (by simp); (repeat (first | (refine sn ?_) | (refine stx ?_) | (refine sb ?_))); refine zh_took (by rfl) ?_
    refine zh_take 12 (by kernel_rfl) rfl (by kernel_rfl) (by kernel_rfl) ?_ (by simp); (repeat (first | (refine sn ?_) | (refine stx ?_) | (refine sb ?_))); refine zh_took (by rfl) ?_
    refine zh_take 8 (by kernel_rfl) rfl (by kernel_rfl) (by kernel_rfl) ?_ (by simp); (repeat (first | (refine sn ?_) | (refine stx ?_) | (refine sb ?_))); refine zh_took (by rfl) ?_
    refine zh_take 9 (by kernel_rfl) rfl (by kernel_rfl) (by kernel_rfl) ?_ (by simp); (repeat (first | (refine sn ?_) | (refine stx ?_) | (refine sb ?_))); refine zh_took (by rfl) ?_
    refine zh_one 10 rfl (by kernel_rfl) ?_
    refine st ?_
    refine zx_re 37 (.int .i64 1) rfl (congrArg _ hz) ?_
    refine zh_oned (by rfl) (by simp) ?_
    refine zh_take 11 (by kernel_rfl) rfl (by kernel_rfl) (by kernel_rfl) ?_ (by simp); (repeat (first | (refine sn ?_) | (refine stx ?_) | (refine sb ?_))); refine zh_took (by rfl) ?_
    refine zh_one 13 rfl (by kernel_rfl) ?_
    refine zx_callW (cap := []) (Y := Own × Own) (v := fun _ => .bool (pLogin z).isSome) (Φ := fun u => okX ((pLogin z).getD z) u) (L' := fun u => [] ++ pX p ((pLogin z).getD z) u) rfl rfl fnc124 rfl rfl (fun w1 hm1 => PC.use (R := []) (login_any p z q2 q3 (by omega)) q1 hm1) (fun u hu => ?_)
    refine zh_oned (by rfl) (by simp) ?_
    refine zh_take 14 (by kernel_rfl) rfl (by kernel_rfl) (by kernel_rfl) ?_ (by simp); (repeat (first | (refine sn ?_) | (refine stx ?_) | (refine sb ?_))); refine zh_took (by rfl) ?_
    refine zh_end (by rfl) (by kernel_rfl) ?_
    cases hG : pLogin z with
    | none =>
      have hR : pRunN ns z = z := pRunN_none (hSt.trans hG)
      rw [hG] at hu
      rw [← q8, hR]
      refine z_re 41 (.bool false) rfl (by first | rfl | (rw [hG]; rfl)) ?_
      repeat (first | (refine st ?_) | (refine stx ?_) | (refine sb ?_) | (intro _))
      refine z_ret1 tab_ok Try.func38 hb hk Try.results38 (.tmp rfl) (fun w hm => ?_)
      exact ⟨u, hu, rfl, by first | exact hm | (rw [hG] at hm; exact hm)⟩
    | some z2 =>
      obtain ⟨f1, f2, f3⟩ := stepN_fol (hSt.trans hG)
      have hR : pRunN ns z2 = pRunN ns x1 := by rw [← q8]; exact (pRunN_some (hSt.trans hG)).symm
      rw [hG] at hu
      refine z_re 41 (.bool true) rfl (by first | rfl | (rw [hG]; rfl)) ?_
      refine z_mem (pX p z2 u) (by first | rfl | (rw [hG]; rfl)) ?_
      repeat (first | (refine st ?_) | (refine stx ?_) | (refine sb ?_) | (intro _))
      refine z_weaken _ _ ?_ (List.Sublist.refl _) (fun _ h => h) (ih (z2, u) ⟨hu, f1.small q2, Nat.le_trans f1.ups q3, by have := f1.downs; show z2.down.length + 20 * pRankN z2 ≤ _; omega, f1.names.trans q5, by show z2.state = 0 ∨ z2.state = 1 ∨ z2.state = 2 ∨ 3 ≤ z2.state; omega, hR⟩ (by show pRankN z2 < pRankN z; omega))
      exact ⟨rfl, rfl, trivial⟩
  · have hrk : pRankN z = 1 := by unfold pRankN; rw [hz]; rfl
    have hSt : pStepN ns z = pReqN ns z := by unfold pStepN; rw [hz]; rfl
    repeat (first | (refine sn ?_) | (refine stx ?_) | (refine sb ?_) | (intro _))
    refine z_regionH [] (by rfl) follows_mixed (by simp) (m := 15) rfl ?_
    refine zh_take 0 (by kernel_rfl) rfl (by kernel_rfl) (by kernel_rfl) ?_ (by simp); (repeat (first | (refine sn ?_) | (refine stx ?_) | (refine sb ?_))); refine zh_took (by rfl) ?_
    refine zh_take 1 (by kernel_rfl) rfl (by kernel_rfl) (by kernel_rfl) ?_ (by simp); (repeat (first | (refine sn ?_) | (refine stx ?_) | (refine sb ?_))); refine zh_took (by rfl) ?_
    refine zh_take 2 (by kernel_rfl) rfl (by kernel_rfl) (by kernel_rfl) ?_ (by simp); (repeat (first | (refine sn ?_) | (refine stx ?_) | (refine sb ?_))); refine zh_took (by rfl) ?_
    refine zh_one 3 rfl (by kernel_rfl) ?_
    refine st ?_
    refine zx_re 30 (.int .i64 2) rfl (congrArg _ hz) ?_
    refine zh_oned (by rfl) (by simp) ?_
    refine zh_take 4 (by kernel_rfl) rfl (by kernel_rfl) (by kernel_rfl) ?_ (by simp); (repeat (first | (refine sn ?_) | (refine stx ?_) | (refine sb ?_))); refine zh_took (by rfl) ?_
    refine zh_take 5 (by kernel_rfl) rfl (by kernel_rfl) (by kernel_rfl) ?_ (by simp); (repeat (first | (refine sn ?_) | (refine stx ?_) | (refine sb ?_))); refine zh_took (by rfl) ?_
    refine zh_take 6 (by kernel_rfl) rfl (by kernel_rfl) (by kernel_rfl) ?_ (by simp)
    ((try (refine sg ?_)); (refine zx_call0 rfl fnc93 rfl rfl (fun w hm => steps_any w) ?_))
    refine zh_took (by rfl) ?_
    refine zh_take 7 (by kernel_rfl) rfl (by kernel_rfl) (by kernel_rfl) ?_ (by simp); (repeat (first | (refine sn ?_) | (refine stx ?_) | (refine sb ?_))); refine zh_took (by rfl) ?_
    refine zh_take 12 (by kernel_rfl) rfl (by kernel_rfl) (by kernel_rfl) ?_ (by simp); (repeat (first | (refine sn ?_) | (refine stx ?_) | (refine sb ?_))); refine zh_took (by rfl) ?_
    refine zh_take 8 (by kernel_rfl) rfl (by kernel_rfl) (by kernel_rfl) ?_ (by simp); (repeat (first | (refine sn ?_) | (refine stx ?_) | (refine sb ?_))); refine zh_took (by rfl) ?_
    refine zh_take 9 (by kernel_rfl) rfl (by kernel_rfl) (by kernel_rfl) ?_ (by simp); (repeat (first | (refine sn ?_) | (refine stx ?_) | (refine sb ?_))); refine zh_took (by rfl) ?_
    refine zh_one 10 rfl (by kernel_rfl) ?_
    refine st ?_
    refine zx_re 37 (.int .i64 2) rfl (congrArg _ hz) ?_
    refine zh_oned (by rfl) (by simp) ?_
    refine zh_take 11 (by kernel_rfl) rfl (by kernel_rfl) (by kernel_rfl) ?_ (by simp); (repeat (first | (refine sn ?_) | (refine stx ?_) | (refine sb ?_))); refine zh_took (by rfl) ?_
    refine zh_one 13 rfl (by kernel_rfl) ?_
    refine zx_callW (cap := []) (Y := Own × Own) (v := fun _ => .bool (pReqN ns z).isSome) (Φ := fun u => okX ((pReqN ns z).getD z) u) (L' := fun u => [] ++ pX p ((pReqN ns z).getD z) u) rfl rfl fnc125 rfl rfl (fun w1 hm1 => PN.use (R := []) (requestN_any ns p z q2 q3 (by omega)) q1 hm1 (by rw [q5]; exact hnm.step hm1 (fun k hk => hk))) (fun u hu => ?_)
    refine zh_oned (by rfl) (by simp) ?_
    refine zh_take 14 (by kernel_rfl) rfl (by kernel_rfl) (by kernel_rfl) ?_ (by simp); (repeat (first | (refine sn ?_) | (refine stx ?_) | (refine sb ?_))); refine zh_took (by rfl) ?_
    refine zh_end (by rfl) (by kernel_rfl) ?_
    cases hG : pReqN ns z with
    | none =>
      have hR : pRunN ns z = z := pRunN_none (hSt.trans hG)
      rw [hG] at hu
      rw [← q8, hR]
      refine z_re 41 (.bool false) rfl (by first | rfl | (rw [hG]; rfl)) ?_
      repeat (first | (refine st ?_) | (refine stx ?_) | (refine sb ?_) | (intro _))
      refine z_ret1 tab_ok Try.func38 hb hk Try.results38 (.tmp rfl) (fun w hm => ?_)
      exact ⟨u, hu, rfl, by first | exact hm | (rw [hG] at hm; exact hm)⟩
    | some z2 =>
      obtain ⟨f1, f2, f3⟩ := stepN_fol (hSt.trans hG)
      have hR : pRunN ns z2 = pRunN ns x1 := by rw [← q8]; exact (pRunN_some (hSt.trans hG)).symm
      rw [hG] at hu
      refine z_re 41 (.bool true) rfl (by first | rfl | (rw [hG]; rfl)) ?_
      refine z_mem (pX p z2 u) (by first | rfl | (rw [hG]; rfl)) ?_
      repeat (first | (refine st ?_) | (refine stx ?_) | (refine sb ?_) | (intro _))
      refine z_weaken _ _ ?_ (List.Sublist.refl _) (fun _ h => h) (ih (z2, u) ⟨hu, f1.small q2, Nat.le_trans f1.ups q3, by have := f1.downs; show z2.down.length + 20 * pRankN z2 ≤ _; omega, f1.names.trans q5, by show z2.state = 0 ∨ z2.state = 1 ∨ z2.state = 2 ∨ 3 ≤ z2.state; omega, hR⟩ (by show pRankN z2 < pRankN z; omega))
      exact ⟨rfl, rfl, trivial⟩
  · have hR : pRunN ns z = z := pRunN_none (stepN_rank0 (by unfold pRankN; rw [if_neg (by omega), if_neg (by omega), if_neg (by omega)]))
    repeat (first | (refine st ?_) | (refine stx ?_) | (refine sb ?_) | (intro _))
    rw [← q8, hR]
    refine z_ret1 tab_ok Try.func38 hb hk Try.results38 (.tmp rfl) (fun w hm => ?_)
    exact ⟨y', q1, rfl, hm⟩
end Go.Proofs.Ytabcaiecoiejkaa
