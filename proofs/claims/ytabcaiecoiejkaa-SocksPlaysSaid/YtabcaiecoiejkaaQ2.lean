/- Plain laws of a session's steps: they hang on the bytes alone that stand first, however these came. No program in sight. Plain law of SocksWhole: what holds of a session that gets its bytes one by one. No program in sight. Walk of the law SocksWhole: it answers true. -/
import Derived.Test.YtabcaiecoiejkaaS18
import Derived.Test.YtabcaiecoiejkaaS19
import Derived.Test.YtabcaiecoiejkaaS13
set_option maxRecDepth 100000
set_option linter.unusedSimpArgs false
set_option linter.unusedVariables false
set_option maxHeartbeats 4000000
namespace Go.Proofs.Ytabcaiecoiejkaa
open Go K

theorem getD_app (l m : List Int) (i : Nat) (h : i < l.length) : (l ++ m).getD i 0 = l.getD i 0 := by
  rw [List.getD_eq_getElem?_getD, List.getD_eq_getElem?_getD, List.getElem?_append_left h]
theorem pField_ok {l : List Int} {a : Nat} (h : (pField l a).2.2 = true) : a < l.length ∧ (a : Int) + 1 + l.getD a 0 ≤ l.length ∧ pField l a = (ofInts ((l.drop (a + 1)).take (l.getD a 0).toNat), a + 1 + l.getD a 0, true) := by
  unfold pField at h ⊢
  split at h
  · cases h
  · rename_i hc
    rw [if_neg hc]
    refine ⟨by omega, by omega, rfl⟩
theorem pField_of {l : List Int} {a : Nat} (h1 : a < l.length) (h2 : (a : Int) + 1 + l.getD a 0 ≤ l.length) : pField l a = (ofInts ((l.drop (a + 1)).take (l.getD a 0).toNat), a + 1 + l.getD a 0, true) := by
  unfold pField
  rw [if_neg (by omega)]
theorem pField_app {l : List Int} (m : List Int) {a : Nat} (hs : Small l) (h : (pField l a).2.2 = true) : pField (l ++ m) a = pField l a := by
  obtain ⟨h1, h2, h3⟩ := pField_ok h
  have h4 := getD_small hs a
  have h5 := getD_app l m a h1
  rw [h3, pField_of (by rw [List.length_append]; omega) (by rw [List.length_append, h5]; omega), h5]
  rw [List.drop_append_of_le_length (by omega), List.take_append_of_le_length (by rw [List.length_drop]; omega)]
theorem pField_cut {l : List Int} {a e : Nat} (hs : Small l) (h : (pField l a).2.2 = true) (he : (pField l a).2.1 ≤ e) : pField (l.take e) a = pField l a := by
  obtain ⟨h1, h2, h3⟩ := pField_ok h
  have h4 := getD_small hs a
  rw [h3] at he
  simp only at he
  have h6 : a < (l.take e).length := by rw [List.length_take]; omega
  have h5 : (l.take e).getD a 0 = l.getD a 0 := by
    rw [← getD_app (l.take e) (l.drop e) a h6, List.take_append_drop]
  have h7 : (pField (l.take e) a).2.2 = true := by
    rw [pField_of h6 (by rw [h5, List.length_take]; omega)]
  rw [← pField_app (l.drop e) (hs.take e) h7, List.take_append_drop]
theorem pPass_app {l : List Int} (m : List Int) (hs : Small l) (h : (pPass l).2.2 = true) : (pField l 1).2.2 = true ∧ pPass l = pField l (pField l 1).2.1.toNat ∧ pPass (l ++ m) = pPass l := by
  unfold pPass at h ⊢
  split at h
  · rename_i h1
    have h2 := pField_app m hs h
    rw [pField_app m hs h1, if_pos h1, h2]
    exact ⟨h1, by first | rfl | rw [if_pos h1], by first | rfl | rw [if_pos h1]⟩
  · cases h
theorem pPort_app (l m : List Int) (e : Nat) (h : e + 2 ≤ l.length) : pPort (l ++ m) e = pPort l e := by
  unfold pPort
  rw [getD_app _ _ _ (by omega), getD_app _ _ _ (by omega)]
theorem body_app (l m : List Int) (j : Nat) (h : j + 4 ≤ l.length) : ((l ++ m).drop 4).take j = (l.drop 4).take j := by
  rw [List.drop_append_of_le_length (by omega), List.take_append_of_le_length (by rw [List.length_drop]; omega)]

/-- x with more bytes of the client behind -/
def more (x : Px) (m : List Int) : Px := { x with up := x.up ++ m }
/-- x with more bytes of the client behind; they come to nothing if it is done -/
def ext (x : Px) (m : List Int) : Px := if x.state = 5 then x else more x m
theorem more_done (x : Px) (m : List Int) : pDone (more x m) = pDone x := rfl
theorem ext_done (x : Px) (m : List Int) : ext (pDone x) m = pDone x := rfl

theorem greet_more {x y : Px} (m : List Int) (hs : Small x.up) (h : pGreet x = some y) : pGreet (more x m) = some (ext y m) := by
  unfold pGreet at h
  split at h
  · rename_i hc
    cases h
    unfold pGreet
    rw [if_pos ⟨by show 0 < (x.up ++ m).length; rw [List.length_append]; omega, by show (x.up ++ m).getD 0 0 ≠ 5; rw [getD_app _ _ _ hc.1]; exact hc.2⟩]
    rfl
  · rename_i hc
    split at h
    · rename_i hf
      obtain ⟨f1, f2, f3⟩ := pField_ok hf
      have hle := pField_le x.up 1 hs hf
      have hd : (x.up ++ m).drop (pField x.up 1).2.1.toNat = x.up.drop (pField x.up 1).2.1.toNat ++ m := List.drop_append_of_le_length (by omega)
      have hf' := pField_app m hs hf
      have hu : (more x m).up = x.up ++ m := rfl
      have hus : (more x m).user = x.user := rfl
      unfold pGreet
      rw [hu, hf', hus, hd, if_neg (fun hh => hc ⟨by omega, by have := hh.2; rwa [getD_app _ _ _ (by omega)] at this⟩), if_pos hf]
      split at h
      · rename_i hz
        rw [if_pos hz]
        split at h
        · rename_i hi
          cases h; rw [if_pos hi]; rfl
        · rename_i hi
          cases h; rw [if_neg hi]; rfl
      · rename_i hz
        rw [if_neg hz]
        split at h
        · rename_i hi
          cases h; rw [if_pos hi]; rfl
        · rename_i hi
          cases h; rw [if_neg hi]; rfl
    · cases h
theorem login_more {x y : Px} (m : List Int) (hs : Small x.up) (h : pLogin x = some y) : pLogin (more x m) = some (ext y m) := by
  have hu : (more x m).up = x.up ++ m := rfl
  unfold pLogin at h
  split at h
  · cases h
  · rename_i h0
    split at h
    · rename_i h1
      cases h
      unfold pLogin
      rw [hu, if_neg (by rw [List.length_append]; omega), if_pos (by rw [getD_app _ _ _ (by omega)]; exact h1)]
      rfl
    · rename_i h1
      split at h
      · cases h
      · rename_i h2
        have h2 : (pPass x.up).2.2 = true := by simpa using h2
        obtain ⟨p1, p2, p3⟩ := pPass_app m hs h2
        have p4 := pField_app m hs p1
        have p5 : (pPass x.up).2.1 ≤ x.up.length := by
          rw [p2] at h2 ⊢
          exact (pField_le x.up _ hs h2).2
        have hd : (x.up ++ m).drop (pPass x.up).2.1.toNat = x.up.drop (pPass x.up).2.1.toNat ++ m := List.drop_append_of_le_length (by omega)
        unfold pLogin
        rw [hu, if_neg (by rw [List.length_append]; omega), if_neg (by rw [getD_app _ _ _ (by omega)]; exact h1), p3, p4, if_neg (by rw [h2]; decide), hd]
        split at h
        · rename_i h3
          cases h
          rw [if_pos (show (pField x.up 1).1 = (more x m).user ∧ (pPass x.up).1 = (more x m).pass from h3)]
          rfl
        · rename_i h3
          cases h
          rw [if_neg (show ¬ ((pField x.up 1).1 = (more x m).user ∧ (pPass x.up).1 = (more x m).pass) from h3)]
          rfl
theorem fail_ext (code : Int) (x : Px) (m : List Int) : ext (pFail code x) m = pFail code x := rfl
theorem fail_more (code : Int) (x : Px) (m : List Int) : pFail code (more x m) = pFail code x := rfl
theorem eat_more (x : Px) (m : List Int) (e : Nat) (h : e + 2 ≤ x.up.length) : pEat (more x m) e = more (pEat x e) m := by
  unfold pEat more
  simp only
  rw [List.drop_append_of_le_length h]
theorem reqA_more {x y : Px} {a : Adr} {e : Nat} (m : List Int) (h : pReqA x a e = some y) : pReqA (more x m) a e = some (ext y m) := by
  unfold pReqA at h
  split at h
  · cases h
  · rename_i h0
    have hp := pPort_app x.up m e (by omega)
    have he := eat_more x m e (by omega)
    have hu : (more x m).up = x.up ++ m := rfl
    unfold pReqA
    rw [hu, if_neg (by rw [List.length_append]; omega), hp, he]
    split at h
    · rename_i h1
      cases h; rw [if_pos h1]; rfl
    · rename_i h1
      rw [if_neg h1]
      split at h
      · rename_i h2
        cases h; rw [if_pos h2]; rfl
      · rename_i h2
        cases h; rw [if_neg h2]; rfl
theorem reqNm_more (x : Px) (a : Option Adr) (e : Nat) (m : List Int) (h : e + 2 ≤ x.up.length) : pReqNm (more x m) a e = ext (pReqNm x a e) m := by
  have he := eat_more x m e h
  have hp := pPort_app x.up m e h
  have hu : (more x m).up = x.up ++ m := rfl
  unfold pReqNm
  cases a with
  | none => rw [he]; rfl
  | some a =>
    simp only
    rw [he, hu, hp]
    split
    · rfl
    · rfl
theorem reqA_len {x y : Px} {a : Adr} {e : Nat} (h : pReqA x a e = some y) : e + 2 ≤ x.up.length := by
  unfold pReqA at h
  split at h
  · cases h
  · omega
theorem req_more {ns : List Nm} {x y : Px} (m : List Int) (hs : Small x.up) (h : pReqN ns x = some y) : pReqN ns (more x m) = some (ext y m) := by
  have hu : (more x m).up = x.up ++ m := rfl
  unfold pReqN at h
  split at h
  · cases h
  · rename_i h4
    have g0 := getD_app x.up m 0 (by omega)
    have g1 := getD_app x.up m 1 (by omega)
    have g2 := getD_app x.up m 2 (by omega)
    have g3 := getD_app x.up m 3 (by omega)
    unfold pReqN
    rw [hu, if_neg (by rw [List.length_append]; omega), g0, g1, g2, g3]
    split at h
    · rename_i h5
      cases h; rw [if_pos h5]; rfl
    · rename_i h5
      rw [if_neg h5]
      split at h
      · rename_i h6
        cases h; rw [if_pos h6]; rfl
      · rename_i h6
        rw [if_neg h6]
        split at h
        · rename_i h7
          rw [if_pos h7]
          have hl := reqA_len h
          have hb : pBody (more x m) 4 = pBody x 4 := by unfold pBody; rw [hu, body_app _ _ _ (by omega)]
          rw [hb]; exact reqA_more m h
        · rename_i h7
          rw [if_neg h7]
          split at h
          · rename_i h8
            rw [if_pos h8]
            have hl := reqA_len h
            have hb : pBody (more x m) 16 = pBody x 16 := by unfold pBody; rw [hu, body_app _ _ _ (by omega)]
            rw [hb]; exact reqA_more m h
          · rename_i h8
            rw [if_neg h8]
            split at h
            · rename_i h9
              rw [if_pos h9]
              split at h
              · rename_i hc
                obtain ⟨hf, hl⟩ := hc
                have hle := pField_le x.up 4 hs hf
                have hf' := pField_app m hs hf
                rw [hf', if_pos ⟨hf, by rw [List.length_append]; omega⟩, pPort_app _ _ _ (by omega), eat_more x m _ (by omega)]
                split at h
                · rename_i h10
                  cases h; rw [if_pos h10]; rfl
                · rename_i h10
                  cases h; rw [if_neg h10, reqNm_more x _ _ m (by omega)]
              · cases h
            · rename_i h9
              cases h; rw [if_neg h9]; rfl
theorem step_more {ns : List Nm} {x y : Px} (m : List Int) (hs : Small x.up) (h : pStepN ns x = some y) : pStepN ns (more x m) = some (ext y m) := by
  have hst : (more x m).state = x.state := rfl
  unfold pStepN at h ⊢
  rw [hst]
  split at h
  · rename_i h0
    rw [if_pos h0]; exact greet_more m hs h
  · rename_i h0
    rw [if_neg h0]
    split at h
    · rename_i h1
      rw [if_pos h1]; exact login_more m hs h
    · rename_i h1
      rw [if_neg h1]
      split at h
      · rename_i h2
        rw [if_pos h2]; exact req_more m hs h
      · cases h
theorem step_low {ns : List Nm} {x y : Px} (h : pStepN ns x = some y) : x.state = 0 ∨ x.state = 1 ∨ x.state = 2 := by
  unfold pStepN at h
  split at h
  · exact .inl ‹_›
  · split at h
    · exact .inr (.inl ‹_›)
    · split at h
      · exact .inr (.inr ‹_›)
      · cases h
/-- what has come of some bytes and then of more is what comes of them all -/
theorem run_ext (ns : List Nm) (m : List Int) : ∀ (r : Nat) (x : Px), pRankN x ≤ r → Small x.up → pRunN ns (ext x m) = pRunN ns (ext (pRunN ns x) m)
  | 0, x, hr, _ => by rw [pRunN_none (stepN_rank0 (x := x) (by omega))]
  | r + 1, x, hr, hs => by
    cases h : pStepN ns x with
    | none => rw [pRunN_none h]
    | some y =>
      have hlow := step_low h
      obtain ⟨f1, f2, _⟩ := stepN_fol h
      have h1 : ext x m = more x m := by unfold ext; rw [if_neg (by omega)]
      rw [pRunN_some h, h1, pRunN_some (step_more m hs h)]
      exact run_ext ns m r y (by omega) (f1.small hs)
theorem run_quiet (ns : List Nm) : ∀ (r : Nat) (x : Px), pRankN x ≤ r → pStepN ns (pRunN ns x) = none
  | 0, x, hr => by rw [pRunN_none (stepN_rank0 (x := x) (by omega))]; exact stepN_rank0 (by omega)
  | r + 1, x, hr => by
    cases h : pStepN ns x with
    | none => rw [pRunN_none h]; exact h
    | some y =>
      obtain ⟨f1, f2, _⟩ := stepN_fol h
      rw [pRunN_some h]
      exact run_quiet ns r y (by omega)

/-- x with d ahead of what it has for the client -/
def dn (d : List Int) (x : Px) : Px := { x with down := d ++ x.down }
theorem dn_say (d l : List Int) (x : Px) : pSay (dn d x) l = dn d (pSay x l) := by unfold pSay dn; simp only; rw [List.append_assoc]
theorem dn_fail (d : List Int) (code : Int) (x : Px) : pFail code (dn d x) = dn d (pFail code x) := by unfold pFail; rw [dn_say]; rfl
theorem greet_dn (d : List Int) (x : Px) : pGreet (dn d x) = (pGreet x).map (dn d) := by
  unfold pGreet
  have h1 : (dn d x).up = x.up := rfl
  have h2 : (dn d x).user = x.user := rfl
  rw [h1, h2]
  repeat' split
  all_goals first
    | rfl
    | simp [dn, pDone, pSay, List.append_assoc]
theorem login_dn (d : List Int) (x : Px) : pLogin (dn d x) = (pLogin x).map (dn d) := by
  unfold pLogin
  have h1 : (dn d x).up = x.up := rfl
  have h2 : (dn d x).user = x.user := rfl
  have h4 : (dn d x).pass = x.pass := rfl
  rw [h1, h2, h4]
  repeat' split
  all_goals first
    | rfl
    | simp [dn, pDone, pSay, List.append_assoc]
theorem eat_dn (d : List Int) (x : Px) (e : Nat) : pEat (dn d x) e = dn d (pEat x e) := rfl
theorem reqA_dn (d : List Int) (x : Px) (a : Adr) (e : Nat) : pReqA (dn d x) a e = (pReqA x a e).map (dn d) := by
  unfold pReqA
  have h1 : (dn d x).up = x.up := rfl
  rw [h1, eat_dn, dn_fail, dn_fail]
  split
  · rfl
  · split
    · rfl
    · split <;> rfl
theorem reqNm_dn (d : List Int) (x : Px) (a : Option Adr) (e : Nat) : pReqNm (dn d x) a e = dn d (pReqNm x a e) := by
  unfold pReqNm
  cases a with
  | none => simp only; rw [eat_dn, dn_fail]
  | some a =>
    simp only
    rw [eat_dn, dn_fail]
    split <;> rfl
theorem req_dn (d : List Int) (ns : List Nm) (x : Px) : pReqN ns (dn d x) = (pReqN ns x).map (dn d) := by
  unfold pReqN
  have h1 : (dn d x).up = x.up := rfl
  have h2 : ∀ j, pBody (dn d x) j = pBody x j := fun _ => rfl
  rw [h1, h2, h2]
  simp only [eat_dn, dn_fail, reqA_dn, reqNm_dn]
  split
  · rfl
  · split
    · rfl
    · split
      · rfl
      · split
        · rfl
        · split
          · rfl
          · split
            · split
              · split <;> rfl
              · rfl
            · rfl
theorem step_dn (d : List Int) (ns : List Nm) (x : Px) : pStepN ns (dn d x) = (pStepN ns x).map (dn d) := by
  unfold pStepN
  have h1 : (dn d x).state = x.state := rfl
  rw [h1, greet_dn, login_dn, req_dn]
  split
  · rfl
  · split
    · rfl
    · split <;> rfl
theorem st_dn (d : List Int) (ns : List Nm) (x : Px) : pSt ns (dn d x) = dn d (pSt ns x) := by
  unfold pSt
  rw [step_dn]
  cases pStepN ns x <;> rfl
theorem run_dn (d : List Int) (ns : List Nm) (x : Px) : pRunN ns (dn d x) = dn d (pRunN ns x) := by
  unfold pRunN
  rw [st_dn, st_dn, st_dn]
/-- what a step leaves as it was -/
structure FolR (x y : Px) : Prop where
  relayed : y.relayed = x.relayed
  cOver : y.cOver = x.cOver
  rOver : y.rOver = x.rOver
theorem FolR.refl (x : Px) : FolR x x := ⟨rfl, rfl, rfl⟩
theorem greet_folR {x y : Px} (h : pGreet x = some y) : FolR x y := by
  unfold pGreet at h
  split at h
  · cases h; exact ⟨rfl, rfl, rfl⟩
  · split at h
    · split at h
      · split at h <;> (cases h; exact ⟨rfl, rfl, rfl⟩)
      · split at h <;> (cases h; exact ⟨rfl, rfl, rfl⟩)
    · cases h
theorem login_folR {x y : Px} (h : pLogin x = some y) : FolR x y := by
  unfold pLogin at h
  split at h
  · cases h
  · split at h
    · cases h; exact ⟨rfl, rfl, rfl⟩
    · split at h
      · cases h
      · split at h <;> (cases h; exact ⟨rfl, rfl, rfl⟩)
theorem reqA_folR {x y : Px} {a : Adr} {e : Nat} (h : pReqA x a e = some y) : FolR x y := by
  unfold pReqA at h
  split at h
  · cases h
  · split at h
    · cases h; exact ⟨rfl, rfl, rfl⟩
    · split at h <;> (cases h; exact ⟨rfl, rfl, rfl⟩)
theorem reqNm_folR (x : Px) (a : Option Adr) (e : Nat) : FolR x (pReqNm x a e) := by
  unfold pReqNm
  cases a with
  | none => exact ⟨rfl, rfl, rfl⟩
  | some a =>
    simp only
    split <;> exact ⟨rfl, rfl, rfl⟩
theorem req_folR {ns : List Nm} {x y : Px} (h : pReqN ns x = some y) : FolR x y := by
  unfold pReqN at h
  split at h
  · cases h
  · split at h
    · cases h; exact ⟨rfl, rfl, rfl⟩
    · split at h
      · cases h; exact ⟨rfl, rfl, rfl⟩
      · split at h
        · exact reqA_folR h
        · split at h
          · exact reqA_folR h
          · split at h
            · split at h
              · split at h
                · cases h; exact ⟨rfl, rfl, rfl⟩
                · cases h; exact reqNm_folR x _ _
              · cases h
            · cases h; exact ⟨rfl, rfl, rfl⟩
theorem step_folR {ns : List Nm} {x y : Px} (h : pStepN ns x = some y) : FolR x y := by
  unfold pStepN at h
  split at h
  · exact greet_folR h
  · split at h
    · exact login_folR h
    · split at h
      · exact req_folR h
      · cases h
theorem run_fol (ns : List Nm) : ∀ (r : Nat) (x : Px), pRankN x ≤ r → FolR x (pRunN ns x) ∧ (pRunN ns x).names = x.names ∧ (Small x.up → Small (pRunN ns x).up) ∧ (pRunN ns x).up.length ≤ x.up.length ∧ (pRunN ns x).down.length ≤ x.down.length + 10 * pRankN x ∧ ((x.state = 0 ∨ x.state = 1 ∨ x.state = 2 ∨ 3 ≤ x.state) → ((pRunN ns x).state = 0 ∨ (pRunN ns x).state = 1 ∨ (pRunN ns x).state = 2 ∨ 3 ≤ (pRunN ns x).state))
  | 0, x, hr => by
    rw [pRunN_none (stepN_rank0 (x := x) (by omega))]
    exact ⟨⟨rfl, rfl, rfl⟩, rfl, id, Nat.le_refl _, by omega, id⟩
  | r + 1, x, hr => by
    cases h : pStepN ns x with
    | none =>
      rw [pRunN_none h]
      exact ⟨⟨rfl, rfl, rfl⟩, rfl, id, Nat.le_refl _, by omega, id⟩
    | some y =>
      obtain ⟨f1, f2, f3⟩ := stepN_fol h
      have g := step_folR h
      obtain ⟨a1, a2, a3, a4, a5, a6⟩ := run_fol ns r y (by omega)
      rw [pRunN_some h]
      have := f1.ups
      have := f1.downs
      exact ⟨⟨a1.relayed.trans g.relayed, a1.cOver.trans g.cOver, a1.rOver.trans g.rOver⟩, a2.trans f1.names, fun hs => a3 (f1.small hs), by omega, by omega, fun _ => a6 (by omega)⟩
end Go.Proofs.Ytabcaiecoiejkaa
namespace Go.Proofs.Ytabcaiecoiejkaa
open Go K

theorem greet_some (x : Px) (h : (pField x.up 1).2.2 = true) : ∃ y, pGreet x = some y := by
  unfold pGreet
  split
  · exact ⟨_, rfl⟩
  · try rw [if_pos h]
    split
    · split <;> exact ⟨_, rfl⟩
    · split <;> exact ⟨_, rfl⟩
theorem login_some (x : Px) (h0 : x.up.length ≠ 0) (h : (pPass x.up).2.2 = true) : ∃ y, pLogin x = some y := by
  unfold pLogin
  rw [if_neg h0]
  split
  · exact ⟨_, rfl⟩
  · try rw [if_neg (by rw [h]; decide)]
    split <;> exact ⟨_, rfl⟩
theorem reqA_some (x : Px) (a : Adr) (e : Nat) (h : e + 2 ≤ x.up.length) : ∃ y, pReqA x a e = some y := by
  unfold pReqA
  rw [if_neg (by omega)]
  split
  · exact ⟨_, rfl⟩
  · split <;> exact ⟨_, rfl⟩
theorem req_some (ns : List Nm) (x : Px) (h0 : 4 ≤ x.up.length) (h1 : x.up.getD 3 0 = 1 → 10 ≤ x.up.length) (h4 : x.up.getD 3 0 = 4 → 22 ≤ x.up.length) (h3 : x.up.getD 3 0 = 3 → (pField x.up 4).2.2 = true ∧ (pField x.up 4).2.1 + 2 ≤ x.up.length) : ∃ y, pReqN ns x = some y := by
  unfold pReqN
  rw [if_neg (by omega)]
  split
  · exact ⟨_, rfl⟩
  · split
    · exact ⟨_, rfl⟩
    · split
      · exact reqA_some x _ _ (h1 ‹_›)
      · split
        · exact reqA_some x _ _ (h4 ‹_›)
        · split
          · try rw [if_pos (h3 ‹_›)]
            split <;> exact ⟨_, rfl⟩
          · exact ⟨_, rfl⟩
theorem getD_take (l : List Int) (e i : Nat) (h : i < e) : (l.take e).getD i 0 = l.getD i 0 := by
  rw [List.getD_eq_getElem?_getD, List.getD_eq_getElem?_getD, List.getElem?_take, if_pos h]
/-- what a step that goes on took, and that it was all that it wanted -/
structure Cut (ns : List Nm) (x y : Px) (e : Nat) : Prop where
  two : 2 ≤ e
  le : e ≤ x.up.length
  up : y.up = x.up.drop e
  cut : ∃ y', pStepN ns { x with up := x.up.take e } = some y'
  want : y.state = 3 → x.state = 2 ∧ 8 ≤ e ∧ y.tp = pPort x.up (e - 2) ∧ 0 < y.tp ∧ y.ta.valid = true ∧ y.ta.none = false ∧ y.ta.group = false
theorem greet_cut {x y : Px} (hs : Small x.up) (h : pGreet x = some y) (h5 : y.state ≠ 5) : ∃ e : Nat, 2 ≤ e ∧ e ≤ x.up.length ∧ y.up = x.up.drop e ∧ (∃ y', pGreet { x with up := x.up.take e } = some y') := by
  unfold pGreet at h
  split at h
  · cases h; exact absurd rfl h5
  · split at h
    · rename_i hf
      have hle := pField_le x.up 1 hs hf
      have hk : ∃ y', pGreet { x with up := x.up.take (pField x.up 1).2.1.toNat } = some y' := greet_some _ (by
        show (pField (x.up.take _) 1).2.2 = true
        rw [pField_cut hs hf (by omega)]; exact hf)
      refine ⟨(pField x.up 1).2.1.toNat, by omega, by omega, ?_, hk⟩
      split at h
      · split at h
        · cases h; exact absurd rfl h5
        · cases h; rfl
      · split at h
        · cases h; exact absurd rfl h5
        · cases h; rfl
    · cases h
theorem login_cut {x y : Px} (hs : Small x.up) (h : pLogin x = some y) (h5 : y.state ≠ 5) : ∃ e : Nat, 2 ≤ e ∧ e ≤ x.up.length ∧ y.up = x.up.drop e ∧ (∃ y', pLogin { x with up := x.up.take e } = some y') := by
  unfold pLogin at h
  split at h
  · cases h
  · split at h
    · cases h; exact absurd rfl h5
    · split at h
      · cases h
      · rename_i h2
        have h2 : (pPass x.up).2.2 = true := by simpa using h2
        obtain ⟨p1, p2, _⟩ := pPass_app [] hs h2
        have q1 := pField_le x.up 1 hs p1
        have h2' := h2
        rw [p2] at h2'
        have q2 := pField_le x.up _ hs h2'
        rw [← p2] at q2
        have hk : ∃ y', pLogin { x with up := x.up.take (pPass x.up).2.1.toNat } = some y' := login_some _ (by show (x.up.take _).length ≠ 0; rw [List.length_take]; omega) (by
          show (pPass (x.up.take _)).2.2 = true
          unfold pPass
          have r1 : pField (x.up.take (pPass x.up).2.1.toNat) 1 = pField x.up 1 := pField_cut hs p1 (by omega)
          have r2 : pField (x.up.take (pPass x.up).2.1.toNat) (pField x.up 1).2.1.toNat = pField x.up (pField x.up 1).2.1.toNat := pField_cut hs h2' (by rw [← p2]; omega)
          have r0 : pPass x.up = pField x.up (pField x.up 1).2.1.toNat := p2
          unfold pPass at r1 r2
          rw [r1, if_pos p1, r2]
          exact h2')
        refine ⟨(pPass x.up).2.1.toNat, by omega, by omega, ?_, hk⟩
        split at h
        · cases h; rfl
        · cases h; exact absurd rfl h5
theorem pPort_pos {l : List Int} (hs : Small l) (e : Nat) (h : pPort l e ≠ 0) : 0 < pPort l e := by
  have h1 := getD_small hs e
  have h2 := getD_small hs (e + 1)
  unfold pPort at h ⊢
  omega
theorem reqA_want {x y : Px} {a : Adr} {e : Nat} (hs : Small x.up) (hv : a.valid = true) (h : pReqA x a e = some y) (h5 : y.state ≠ 5) : e + 2 ≤ x.up.length ∧ y.up = x.up.drop (e + 2) ∧ y.tp = pPort x.up e ∧ 0 < y.tp ∧ y.ta.valid = true ∧ y.ta.none = false ∧ y.ta.group = false := by
  unfold pReqA at h
  split at h
  · cases h
  · split at h
    · cases h; exact absurd rfl h5
    · rename_i hp
      split at h
      · cases h; exact absurd rfl h5
      · rename_i hn
        cases h
        refine ⟨by omega, rfl, rfl, pPort_pos hs _ hp, hv, ?_, ?_⟩
        · show a.none = false
          cases hh : a.none
          · rfl
          · exact absurd (.inl hh) hn
        · show a.group = false
          cases hh : a.group
          · rfl
          · exact absurd (.inr hh) hn
theorem req_cut {ns : List Nm} {x y : Px} (hs : Small x.up) (h : pReqN ns x = some y) (h5 : y.state ≠ 5) : ∃ e : Nat, 8 ≤ e ∧ e ≤ x.up.length ∧ y.up = x.up.drop e ∧ (∃ y', pReqN ns { x with up := x.up.take e } = some y') ∧ y.tp = pPort x.up (e - 2) ∧ 0 < y.tp ∧ y.ta.valid = true ∧ y.ta.none = false ∧ y.ta.group = false := by
  unfold pReqN at h
  split at h
  · cases h
  · split at h
    · cases h; exact absurd rfl h5
    · split at h
      · cases h; exact absurd rfl h5
      · split at h
        · rename_i h1
          obtain ⟨r1, r2, r3⟩ := reqA_want hs (adr4_valid _) h h5
          refine ⟨10, by omega, by omega, r2, req_some ns _ ?_ ?_ ?_ ?_, r3⟩
          · show 4 ≤ (x.up.take 10).length; rw [List.length_take]; omega
          · intro _; show 10 ≤ (x.up.take 10).length; rw [List.length_take]; omega
          · intro hh; have hh : (x.up.take 10).getD 3 0 = 4 := hh; rw [getD_take _ _ _ (by omega)] at hh; omega
          · intro hh; have hh : (x.up.take 10).getD 3 0 = 3 := hh; rw [getD_take _ _ _ (by omega)] at hh; omega
        · split at h
          · rename_i h1 h2
            obtain ⟨r1, r2, r3⟩ := reqA_want hs (adr16_valid _) h h5
            refine ⟨22, by omega, by omega, r2, req_some ns _ ?_ ?_ ?_ ?_, r3⟩
            · show 4 ≤ (x.up.take 22).length; rw [List.length_take]; omega
            · intro hh; have hh : (x.up.take 22).getD 3 0 = 1 := hh; rw [getD_take _ _ _ (by omega)] at hh; omega
            · intro _; show 22 ≤ (x.up.take 22).length; rw [List.length_take]; omega
            · intro hh; have hh : (x.up.take 22).getD 3 0 = 3 := hh; rw [getD_take _ _ _ (by omega)] at hh; omega
          · split at h
            · rename_i h1 h2 h3
              split at h
              · rename_i hc
                obtain ⟨hf, hl⟩ := hc
                obtain ⟨f1, f2, f3⟩ := pField_ok hf
                have hle := pField_le x.up 4 hs hf
                generalize hg : (pField x.up 4).2.1.toNat = g at h
                have hge : (pField x.up 4).2.1 = (g : Int) := by omega
                split at h
                · cases h; exact absurd rfl h5
                · rename_i hb
                  have hb1 : (pField x.up 4).1 ≠ noX := fun hh => hb (.inl hh)
                  have hb2 : pPort x.up g ≠ 0 := fun hh => hb (.inr hh)
                  have h6 : 6 ≤ g := by
                    have h4 := getD_small hs 4
                    by_cases hz : x.up.getD 4 0 = 0
                    · rw [f3, hz] at hb1
                      exact absurd rfl hb1
                    · rw [f3] at hge
                      simp only at hge
                      omega
                  have hk : ∃ y', pReqN ns { x with up := x.up.take (g + 2) } = some y' := by
                    refine req_some ns _ ?_ ?_ ?_ ?_
                    · show 4 ≤ (x.up.take _).length; rw [List.length_take]; omega
                    · intro hh; have hh : (x.up.take (g + 2)).getD 3 0 = 1 := hh; rw [getD_take _ _ _ (by omega)] at hh; omega
                    · intro hh; have hh : (x.up.take (g + 2)).getD 3 0 = 4 := hh; rw [getD_take _ _ _ (by omega)] at hh; omega
                    · intro _
                      show (pField (x.up.take (g + 2)) 4).2.2 = true ∧ (pField (x.up.take (g + 2)) 4).2.1 + 2 ≤ (x.up.take (g + 2)).length
                      rw [pField_cut hs hf (by omega), List.length_take]
                      exact ⟨hf, by omega⟩
                  have hpos := pPort_pos hs g hb2
                  unfold pReqNm at h
                  split at h
                  · cases h; exact absurd rfl h5
                  · split at h
                    · rename_i hok
                      cases h
                      exact ⟨g + 2, by omega, by omega, rfl, hk, rfl, hpos, hok.1, hok.2.1, hok.2.2⟩
                    · cases h; exact absurd rfl h5
              · cases h
            · cases h; exact absurd rfl h5
theorem step_cut {ns : List Nm} {x y : Px} (hs : Small x.up) (h : pStepN ns x = some y) (h5 : y.state ≠ 5) : ∃ e : Nat, Cut ns x y e := by
  unfold pStepN at h
  split at h
  · rename_i h0
    obtain ⟨e, a1, a2, a3, a4⟩ := greet_cut hs h h5
    refine ⟨e, a1, a2, a3, ?_, fun hh => ?_⟩
    · unfold pStepN
      rw [if_pos (show ({ x with up := x.up.take e } : Px).state = 0 from h0)]; exact a4
    · have := (greetN_fol h).2; omega
  · rename_i h0
    split at h
    · rename_i h1
      obtain ⟨e, a1, a2, a3, a4⟩ := login_cut hs h h5
      refine ⟨e, a1, a2, a3, ?_, fun hh => ?_⟩
      · unfold pStepN
        rw [if_neg (show ¬ ({ x with up := x.up.take e } : Px).state = 0 from h0), if_pos (show ({ x with up := x.up.take e } : Px).state = 1 from h1)]; exact a4
      · have := (loginN_fol h).2; omega
    · rename_i h1
      split at h
      · rename_i h2
        obtain ⟨e, a1, a2, a3, a4, a5, a6, a7, a8, a9⟩ := req_cut hs h h5
        refine ⟨e, by omega, a2, a3, ?_, fun hh => ⟨h2, a1, a5, a6, a7, a8, a9⟩⟩
        unfold pStepN
        rw [if_neg (show ¬ ({ x with up := x.up.take e } : Px).state = 0 from h0), if_neg (show ¬ ({ x with up := x.up.take e } : Px).state = 1 from h1), if_pos (show ({ x with up := x.up.take e } : Px).state = 2 from h2)]; exact a4
      · cases h
theorem pField_nil (a : Nat) : (pField [] a).2.2 = false := rfl
theorem step_nil {ns : List Nm} {x : Px} (h : x.up = []) : pStepN ns x = none := by
  have h1 : pGreet x = none := by unfold pGreet; rw [h]; rfl
  have h2 : pLogin x = none := by unfold pLogin; rw [h]; rfl
  have h3 : pReqN ns x = none := by unfold pReqN; rw [h]; rfl
  unfold pStepN
  rw [h1, h2, h3]
  split
  · rfl
  · split
    · rfl
    · split <;> rfl
/-- what holds of a session that got the bytes l one by one -/
structure Wv (ns : List Nm) (z : Px) (l : List Int) : Prop where
  quiet : pStepN ns z = none
  small : Small z.up
  st : z.state = 5 ∨ (z.state = 3 ∧ 9 ≤ l.length ∧ 0 < z.tp ∧ z.ta.valid = true ∧ z.ta.none = false ∧ z.ta.group = false ∧ z.tp = l.getD (l.length - 2) 0 * 256 + l.getD (l.length - 1) 0) ∨
    ((z.state = 0 ∨ z.state = 1 ∨ z.state = 2) ∧ ∃ k, z.up = l.drop k ∧ k ≤ l.length ∧ (z.state ≠ 0 → 2 ≤ k))
theorem getD_drop (l : List Int) (k i : Nat) : (l.drop k).getD i 0 = l.getD (k + i) 0 := by
  rw [List.getD_eq_getElem?_getD, List.getD_eq_getElem?_getD, List.getElem?_drop]
theorem Wv.next {ns : List Nm} {z : Px} {l : List Int} (h : Wv ns z l) (h3 : z.state ≠ 3) (b : Int) (hb : 0 ≤ b ∧ b ≤ 255) : Wv ns (pRunN ns (ext z [b])) (l ++ [b]) := by
  rcases h.st with h5 | h3' | ⟨hst, k, hu, hk, hk2⟩
  · have he : ext z [b] = z := by unfold ext; rw [if_pos h5]
    rw [he, pRunN_none h.quiet]
    exact ⟨h.quiet, h.small, .inl h5⟩
  · exact absurd h3'.1 h3
  · have he : ext z [b] = more z [b] := by unfold ext; rw [if_neg (by omega)]
    rw [he]
    have hmu : (more z [b]).up = z.up ++ [b] := rfl
    have hms : (more z [b]).state = z.state := rfl
    have hsm : Small (more z [b]).up := h.small.app (fun x hx => by rw [List.mem_singleton.1 hx]; exact hb)
    have hup : (more z [b]).up = (l ++ [b]).drop k := by rw [hmu, hu, List.drop_append_of_le_length hk]
    cases hX : pStepN ns (more z [b]) with
    | none =>
      rw [pRunN_none hX]
      exact ⟨hX, hsm, .inr (.inr ⟨hst, k, hup, by rw [List.length_append]; omega, hk2⟩)⟩
    | some y =>
      rw [pRunN_some hX]
      obtain ⟨f1, f2, f3⟩ := stepN_fol hX
      by_cases h5 : y.state = 5
      · have hy : pStepN ns y = none := stepN_rank0 (by unfold pRankN; rw [h5]; rfl)
        rw [pRunN_none hy]
        exact ⟨hy, f1.small hsm, .inl h5⟩
      · obtain ⟨e, c1, c2, c3, ⟨y', c4⟩, c5⟩ := step_cut hsm hX h5
        rw [hmu, List.length_append, List.length_singleton] at c2
        have hall : e = z.up.length + 1 := by
          rcases Nat.lt_or_ge z.up.length e with hlt | hge
          · omega
          · exfalso
            have h1 : ({ more z [b] with up := (more z [b]).up.take e } : Px) = { z with up := z.up.take e } := by
              unfold more; simp only
              rw [List.take_append_of_le_length hge]
            rw [h1] at c4
            have h2 := step_more (z.up.drop e) (x := { z with up := z.up.take e }) (h.small.take e) c4
            have h3 : more { z with up := z.up.take e } (z.up.drop e) = z := by
              unfold more; simp only
              rw [List.take_append_drop]
            rw [h3, h.quiet] at h2
            cases h2
        have hy0 : y.up = [] := by rw [c3, hmu]; exact List.drop_of_length_le (by rw [List.length_append, List.length_singleton]; omega)
        have hy : pStepN ns y = none := step_nil hy0
        rw [pRunN_none hy]
        have hlen : z.up.length = l.length - k := by rw [hu, List.length_drop]
        refine ⟨hy, by rw [hy0]; exact Small.nil, .inr ?_⟩
        by_cases hy3 : y.state = 3
        · obtain ⟨d1, d2, d3, d4, d5⟩ := c5 hy3
          have hk2' := hk2 (by rw [hms] at d1; omega)
          refine .inl ⟨hy3, by rw [List.length_append, List.length_singleton]; omega, d4, d5.1, d5.2.1, d5.2.2, ?_⟩
          rw [d3, hup]
          unfold pPort
          rw [getD_drop, getD_drop, List.length_append, List.length_singleton, show k + (e - 2) = l.length + 1 - 2 by omega, show k + (e - 2 + 1) = l.length + 1 - 1 by omega]
        · have hr := pRank3 (more z [b])
          refine .inr ⟨?_, l.length + 1, ?_, by rw [List.length_append, List.length_singleton]; omega, fun _ => ?_⟩
          · rcases f3 with h | h | h
            · exact .inr (.inl h)
            · exact .inr (.inr h)
            · exfalso
              have g1 : y.state = 5 ∨ y.state = 1 ∨ y.state = 2 ∨ y.state = 3 := by
                unfold pStepN at hX
                split at hX
                · have := (greetN_fol hX).2; omega
                · split at hX
                  · have := (loginN_fol hX).2; omega
                  · split at hX
                    · have := (reqN_fol hX).2; omega
                    · cases hX
              omega
          · rw [hy0]; exact (List.drop_of_length_le (by rw [List.length_append, List.length_singleton]; omega)).symm
          · omega
theorem wv0 (ns : List Nm) (user pass : ByteArray) (nv : Value) : Wv ns (pxN user pass nv) [] := ⟨step_nil rfl, Small.nil, .inr (.inr ⟨.inl rfl, 0, rfl, Nat.le_refl _, fun h => absurd rfl h⟩)⟩
end Go.Proofs.Ytabcaiecoiejkaa
namespace Go.Proofs.Ytabcaiecoiejkaa
open Go K

theorem run_down (ns : List Nm) : ∀ (r : Nat) (x : Px), pRankN x ≤ r → (pRunN ns x).down.length + 10 * pRankN (pRunN ns x) ≤ x.down.length + 10 * pRankN x
  | 0, x, hr => by rw [pRunN_none (stepN_rank0 (x := x) (by omega))]; omega
  | r + 1, x, hr => by
    cases h : pStepN ns x with
    | none => rw [pRunN_none h]; omega
    | some y =>
      obtain ⟨f1, f2, f3⟩ := stepN_fol h
      have := run_down ns r y (by omega)
      have := f1.downs
      rw [pRunN_some h]
      omega
theorem ext_fol (z : Px) (m : List Int) : FolR z (ext z m) ∧ (ext z m).names = z.names ∧ (ext z m).state = z.state ∧ (ext z m).down = z.down ∧ (ext z m).up.length ≤ z.up.length + m.length ∧ pRankN (ext z m) = pRankN z ∧ (Small z.up → Small m → Small (ext z m).up) := by
  unfold ext
  split
  · exact ⟨⟨rfl, rfl, rfl⟩, rfl, rfl, rfl, by omega, rfl, fun h _ => h⟩
  · exact ⟨⟨rfl, rfl, rfl⟩, rfl, rfl, rfl, by show (z.up ++ m).length ≤ _; rw [List.length_append]; omega, rfl, fun h h' => h.app h'⟩
theorem client_ext (ns : List Nm) (z : Px) (s : ByteArray) (hq : pStepN ns z = none) (hc : z.cOver = false) (hr : s.size + z.up.length ≤ 4096) : pClientN ns z s = (pRunN ns (ext z (bL s)), if z.state = 5 then 0 else (s.size : Int)) := by
  have hl := bL_length s
  unfold pClientN ext
  by_cases h5 : z.state = 5
  · rw [if_pos (.inl h5), if_pos h5, if_pos h5, pRunN_none hq]
  · rw [if_neg (fun hh => hh.elim h5 (fun hh => by rw [hc] at hh; cases hh)), if_neg h5, if_neg h5]
    have h1 : min s.size (4096 - z.up.length) = s.size := by omega
    rw [h1, List.take_of_length_le (by omega)]
    rfl
theorem New_use {w0 w : World} {ks : List Nat} {L : Mm} {user pass : ByteArray} {v : Value} {ns : List Nm} (hm : Mem w0 ks L w) (hn : NmAt w [] v ns) (hsz : ns.length * 40 ≤ 140737488355328) :
    Calls Try.prog 34 [.agg #[.string user, .string pass, v]].toArray w fun e w' => ∃ g : Nat × Own, RowOk 18 g.2 ns.length (nmC ns) ∧ e = .returned (fP g.1 0) ∧ Mem w0 ks ((L ++ rowL 83 g.2 (nmC ns)) ++ pX g.1 (pxN user pass (sV g.2 ns.length)) (none, none)) w' := by
  refine (New_any user pass v ns w hn hsz).mono fun e w' ⟨g, hg, he, hm'⟩ => ⟨g, hg, he, ?_⟩
  have := hm.trans0 hm'
  rw [List.append_assoc]
  exact this.perm List.perm_append_comm
theorem remote_not (z : Px) (s : ByteArray) (h : z.state ≠ 4) : pRemote z s = (z, 0) := by
  unfold pRemote
  rw [if_neg (fun hh => h hh.1)]
theorem endR_not (z : Px) (h : z.relayed = false) : pEndR z = false := by
  unfold pEndR
  rw [h, Bool.and_false, Bool.and_false]
theorem bL_pieceX (s : ByteArray) (i j : Nat) : bL (s.extract i j) = ((bL s).drop i).take (j - i) := by
  unfold bL
  rw [← List.map_drop, ← List.map_take]
  congr 1
  simp [ByteArray.data_extract, List.take_drop]
theorem bL_getD (s : ByteArray) (i : Nat) (h : i < s.size) : (bL s).getD i 0 = bt s i := by
  rw [List.getD_eq_getElem?_getD, bL_get s i h]; rfl
theorem bL_one1 (s : ByteArray) (i : Nat) (h : i < s.size) : bL (s.extract i (i + 1)) = [bt s i] := by
  rw [bL_pieceX, show i + 1 - i = 1 by omega]
  have h1 : i < (bL s).length := by rw [bL_length]; exact h
  rw [List.drop_eq_getElem_cons h1]
  have := bL_get s i h
  rw [List.getElem?_eq_getElem h1] at this
  rw [Option.some.inj this]
  rfl
structure Wg where
  i : Nat
  z : Px
  y : Own × Own
def mW (kc p : Nat) (cv : List Value) (no : Own) (ns : List Nm) (g : Wg) : Mm := (((kc, .c cv 59 0 0) :: rowL 83 no (nmC ns)) ++ pX p g.z g.y)
theorem SocksWhole_any (user pass : ByteArray) (v : Value) (ns : List Nm) (s : ByteArray) (hs : s.size ≤ 1000000000000000) (w : World) (hn : NmAt w [] v ns) (hsz : ns.length * 40 ≤ 140737488355328) :
    Calls Try.prog 10 [.agg #[.string user, .string pass, v], .string s].toArray w fun e w' => e = .returned (.bool true) ∧ Mem w [] [] w' := by
  have hnl : ns.length ≤ 1000000000000000 := by omega
  refine calls_of_z Try.func10 rfl Try.ntmps10 rfl (Mem.refl w) ?_; intro cs b hb hk
  repeat (first | (refine st ?_) | (refine stx ?_) | (refine sb ?_) | (intro _))
  ((try (refine sg ?_)); (refine zx_call0 rfl fnc33 rfl rfl (fun w hm => awake22_any w) ?_))
  repeat (first | (refine st ?_) | (refine stx ?_) | (refine sb ?_) | (intro _))
  rename_i kc
  refine zx_call (Y := Nat × Own) (v := fun g => fP g.1 0) (Φ := fun g => RowOk 18 g.2 ns.length (nmC ns)) (L' := fun g => ((kc, .c [.string user, .string pass, v] 59 0 0) :: rowL 83 g.2 (nmC ns)) ++ pX g.1 (pxN user pass (sV g.2 ns.length)) (none, none)) rfl fnc34 rfl rfl (fun w1 hm1 => New_use hm1 (hn.step (ks1 := []) hm1 (fun k hk => by cases hk)) hsz) (fun g hno => ?_)
  obtain ⟨p, no⟩ := g
  simp only at hno
  repeat (first | (refine st ?_) | (refine stx ?_) | (refine sb ?_) | (intro _))
  generalize hx0 : pxN user pass (sV no ns.length) = x0
  have hx00 : okX x0 (none, none) := by rw [← hx0]; exact pxN_ok _ _ _
  have hWv0 : Wv ns x0 [] := by rw [← hx0]; exact wv0 ns _ _ _
  have hnm0 : x0.names = sV no ns.length := by rw [← hx0]; rfl
  have hrl0 : x0.relayed = false := by rw [← hx0]; rfl
  have hco0 : x0.cOver = false := by rw [← hx0]; rfl
  have hdn0 : x0.down.length + 10 * pRankN x0 ≤ 30 := by rw [← hx0]; exact Nat.le_refl _
  have hup0 : x0.up.length ≤ 0 := by rw [← hx0]; exact Nat.le_refl _
  refine z_loop (fun g : Wg => okX g.z g.y ∧ Wv ns g.z ((bL s).take g.i) ∧ g.i ≤ s.size ∧ g.i ≤ 700 ∧ g.z.relayed = false ∧ g.z.cOver = false ∧ g.z.names = sV no ns.length ∧ g.z.down.length + 10 * pRankN g.z ≤ 30 ∧ g.z.up.length ≤ g.i) (fun g => [(1, .string s), (6, fP p 0), (7, .int .i64 (g.i : Int))]) (mW kc p [.string user, .string pass, v] no ns) (fun g => s.size - g.i) ⟨0, x0, (none, none)⟩ ⟨hx00, hWv0, Nat.zero_le _, Nat.zero_le _, hrl0, hco0, hnm0, hdn0, hup0⟩ ⟨rfl, rfl, rfl, trivial⟩ (List.Sublist.refl _) ?_
  intro g hg ih
  obtain ⟨i, z, y⟩ := g
  obtain ⟨q1, q2, q3, q4, q5, q6, q7, q8, q9⟩ := hg
  simp only at q1 q2 q3 q4 q5 q6 q7 q8 q9
  refine z_weaken [(1, .string s), (6, fP p 0), (7, .int .i64 (i : Int))] (((kc, .c [.string user, .string pass, v] 59 0 0) :: rowL 83 no (nmC ns)) ++ pX p z y) ⟨rfl, rfl, rfl, trivial⟩ (List.Sublist.refl _) (fun _ h => h) ?_
  by_cases hi : i < s.size
  · by_cases h7 : i < 700
    · have h4 : z.state ≠ 4 := by rcases q2.st with h | h | h <;> omega
      have hRm : pRemote z ⟨#[120]⟩ = (z, 0) := remote_not z _ h4
      have hFR := FromRemote_any p z ⟨#[120]⟩ (by decide) (by omega)
      rw [hRm] at hFR
      have hER := EndRemote_any p z
      rw [endR_not z q5] at hER
      have hTA := Target_any p z
      repeat (first | (refine st ?_) | (refine stx ?_) | (refine sb ?_) | (intro _))
      refine zx_call (Y := Own × Own) (v := fun _ => .string noX) (Φ := fun y => okX z y) (L' := fun y => ((kc, .c [.string user, .string pass, v] 59 0 0) :: rowL 83 no (nmC ns)) ++ pX p z y) rfl fnc45 rfl rfl (fun w1 hm1 => PC.use (ToRemote_not p z h4 10) q1 hm1) (fun y1 hy1 => ?_)
      repeat (first | (refine st ?_) | (refine stx ?_) | (refine sb ?_) | (intro _))
      refine zx_call (Y := Own × Own) (v := fun _ => .int .i64 0) (Φ := fun y => okX z y) (L' := fun y => ((kc, .c [.string user, .string pass, v] 59 0 0) :: rowL 83 no (nmC ns)) ++ pX p z y) rfl fnc46 rfl rfl (fun w1 hm1 => PC.use hFR hy1 hm1) (fun y2 hy2 => ?_)
      repeat (first | (refine st ?_) | (refine stx ?_) | (refine sb ?_) | (intro _))
      ((try (refine sg ?_)); (refine zx_call0 rfl fnc47 rfl rfl (fun w hm => QC.use hER hy2 hm) ?_))
      repeat (first | (refine st ?_) | (refine stx ?_) | (refine sb ?_) | (intro _))
      by_cases h3 : z.state = 3
      · have hst := q2.st
        obtain ⟨_, w9, wp, wv, wn', wg, wt⟩ : z.state = 3 ∧ 9 ≤ ((bL s).take i).length ∧ 0 < z.tp ∧ z.ta.valid = true ∧ z.ta.none = false ∧ z.ta.group = false ∧ z.tp = ((bL s).take i).getD (((bL s).take i).length - 2) 0 * 256 + ((bL s).take i).getD (((bL s).take i).length - 1) 0 := by
          rcases hst with h | h | h
          · omega
          · exact h
          · omega
        rw [List.length_take, bL_length, show min i s.size = i by omega] at w9 wt
        rw [getD_take _ _ _ (by omega), getD_take _ _ _ (by omega), bL_getD s _ (by omega), bL_getD s _ (by omega)] at wt
        rw [if_pos h3, decide_eq_true h3] at hTA
        have hSt := State_any p z
        rw [h3] at hSt
        ((try (refine sg ?_)); (refine zx_call0 rfl fnc36 rfl rfl (fun w hm => QC.use hTA hy2 hm) ?_))
        repeat (first | (refine st ?_) | (refine stx ?_) | (refine sb ?_) | (intro _))
        ((try (refine sg ?_)); (refine zx_call0 rfl fnc37 rfl rfl (fun w hm => QC.use (R := _ :: _ :: _) hSt hy2 hm) ?_))
        repeat (first | (refine st ?_) | (refine stx ?_) | (refine sb ?_) | (intro _))
        ((try (refine sg ?_)); (refine zx_call0 rfl fnc48 rfl rfl (fun w hm => (by have := Valid_any z.ta w; rw [wv] at this; exact this)) ?_))
        repeat (first | (refine st ?_) | (refine stx ?_) | (refine sb ?_) | (intro _))
        ((try (refine sg ?_)); (refine zx_call0 rfl fnc42 rfl rfl (fun w hm => (by have := None_any z.ta w; rw [wn'] at this; exact this)) ?_))
        repeat (first | (refine st ?_) | (refine stx ?_) | (refine sb ?_) | (intro _))
        ((try (refine sg ?_)); (refine zx_call0 rfl fnc43 rfl rfl (fun w hm => (by have := Group_any z.ta w; rw [wg] at this; exact this)) ?_))
        repeat (first | (refine st ?_) | (refine stx ?_) | (refine sb ?_) | (intro _))
        ((try (refine sg ?_)); refine zx_idxN (i - 1) tab_ok rfl rfl rfl rfl rfl rfl (by first | omega | (simp only [IntKind.wrap_i64]; omega)) (by omega) ?_)
        repeat (first | (refine st ?_) | (refine stx ?_) | (refine sb ?_) | (intro _))
        ((try (refine sg ?_)); refine zx_idxN (i - 2) tab_ok rfl rfl rfl rfl rfl rfl (by first | omega | (simp only [IntKind.wrap_i64]; omega)) (by omega) ?_)
        repeat (first | (refine st ?_) | (refine stx ?_) | (refine sb ?_) | (intro _))
        refine z_ret1 tab_ok Try.func10 hb hk Try.results10 (.tmp rfl) (fun w hm => ?_)
        refine ⟨congrArg _ (congrArg _ ?_), hm.bare⟩
        have b1 : 0 ≤ bt s (i - 1) ∧ bt s (i - 1) ≤ 255 := by unfold bt; have := UInt8.toNat_lt (s.data.toList.getD (i - 1) 0); omega
        have b2 : 0 ≤ bt s (i - 2) ∧ bt s (i - 2) ≤ 255 := by unfold bt; have := UInt8.toNat_lt (s.data.toList.getD (i - 2) 0); omega
        rw [wr64 (x := bt s (i - 2)) (by omega) (by omega), wr64 (x := bt s (i - 1)) (by omega) (by omega), wr64 (x := 256 * bt s (i - 2)) (by omega) (by omega), wr64 (by omega) (by omega), wt, beq_iff_eq]
        omega
      · ((try (refine sg ?_)); (refine zx_call0 rfl fnc36 rfl rfl (fun w hm => QC.use (by rw [if_neg h3, decide_eq_false h3] at hTA; exact hTA) hy2 hm) ?_))
        repeat (first | (refine st ?_) | (refine stx ?_) | (refine sb ?_) | (intro _))
        ((try (refine sg ?_)); (refine zx_sliceN (i ) ( i + 1 ) tab_ok rfl rfl rfl rfl rfl rfl rfl (by first | rfl | omega | (simp only [IntKind.wrap_i64]; omega)) (by first | rfl | omega | (simp only [IntKind.wrap_i64]; omega)) (by omega) (by omega) ?_))
        have hce := client_ext ns z (s.extract i (i + 1)) q2.quiet q6 (by rw [ByteArray.size_extract]; omega)
        rw [bL_one1 s i hi] at hce
        have hsx : (s.extract i (i + 1)).size ≤ 1000000000000000 := by rw [ByteArray.size_extract]; omega
        have hgood : GoodN z := ⟨q2.small, by omega, by omega, by rcases q2.st with h | h | h <;> omega⟩
        have hFC := FromClientN_any ns p z (s.extract i (i + 1)) hgood hsx
        rw [hce] at hFC
        have hsm1 : Small [bt s i] := fun x hx => by rw [List.mem_singleton.1 hx]; unfold bt; have := UInt8.toNat_lt (s.data.toList.getD i 0); omega
        obtain ⟨e1, e2, e3, e4, e5, e6, e7⟩ := ext_fol z [bt s i]
        obtain ⟨r1, r2, r3, r4, r5, r6⟩ := run_fol ns 3 (ext z [bt s i]) (pRank3 _)
        have r7 := run_down ns 3 (ext z [bt s i]) (pRank3 _)
        have hW' := q2.next h3 (bt s i) (hsm1 _ (List.mem_singleton.2 rfl))
        rw [← bL_take s i hi] at hW'
        have hq5 : (pRunN ns (ext z [bt s i])).relayed = false := by rw [r1.relayed, e1.relayed]; exact q5
        have hq6 : (pRunN ns (ext z [bt s i])).cOver = false := by rw [r1.cOver, e1.cOver]; exact q6
        have hq7 : (pRunN ns (ext z [bt s i])).names = sV no ns.length := by rw [r2, e2]; exact q7
        have hq8 : (pRunN ns (ext z [bt s i])).down.length + 10 * pRankN (pRunN ns (ext z [bt s i])) ≤ 30 := by rw [e4, e6] at r7; omega
        have hq9 : (pRunN ns (ext z [bt s i])).up.length ≤ i + 1 := by rw [List.length_singleton] at e5; omega
        generalize pRunN ns (ext z [bt s i]) = z' at *
        rename_i kt
        refine zx_perm ((((kt, .c [.bool adr0.v6, .int .u8 (adr0.b 0), .int .u8 (adr0.b 1), .int .u8 (adr0.b 2), .int .u8 (adr0.b 3), .int .u8 (adr0.b 4), .int .u8 (adr0.b 5), .int .u8 (adr0.b 6), .int .u8 (adr0.b 7), .int .u8 (adr0.b 8), .int .u8 (adr0.b 9), .int .u8 (adr0.b 10), .int .u8 (adr0.b 11), .int .u8 (adr0.b 12), .int .u8 (adr0.b 13), .int .u8 (adr0.b 14), .int .u8 (adr0.b 15), .int .i64 0] 65 0 0) :: (kc, .c [.string user, .string pass, v] 59 0 0) :: rowL 83 no (nmC ns))) ++ pX p z y2) (List.Perm.refl _) ?_
        refine zx_call (Y := Own × Own) (v := fun _ => .int .i64 (if z.state = 5 then 0 else ((s.extract i (i + 1)).size : Int))) (Φ := fun y => okX z' y) (L' := fun y => (((kt, .c [.bool adr0.v6, .int .u8 (adr0.b 0), .int .u8 (adr0.b 1), .int .u8 (adr0.b 2), .int .u8 (adr0.b 3), .int .u8 (adr0.b 4), .int .u8 (adr0.b 5), .int .u8 (adr0.b 6), .int .u8 (adr0.b 7), .int .u8 (adr0.b 8), .int .u8 (adr0.b 9), .int .u8 (adr0.b 10), .int .u8 (adr0.b 11), .int .u8 (adr0.b 12), .int .u8 (adr0.b 13), .int .u8 (adr0.b 14), .int .u8 (adr0.b 15), .int .i64 0] 65 0 0) :: (kc, .c [.string user, .string pass, v] 59 0 0) :: rowL 83 no (nmC ns))) ++ pX p z' y) rfl fnc38 rfl rfl
          (fun w1 hm1 => PN.use hFC hy2 hm1 (nmAt_row hm1 (fun q hq => List.mem_cons_of_mem _ (List.mem_cons_of_mem _ hq)) hno hnl q7)) (fun y3 hy3 => ?_)
        repeat (first | (refine st ?_) | (refine stx ?_) | (refine sb ?_) | (intro _))
        refine z_re 7 (.int .i64 ((i + 1 : Nat) : Int)) rfl (congrArg _ (by rw [wr64 (by omega) (by omega)]; omega)) ?_
        refine z_weaken _ _ ?_ (List.Sublist.cons _ (List.Sublist.refl _)) (fun _ h => h) (ih ⟨i + 1, z', y3⟩ ⟨hy3, hW', hi, h7, hq5, hq6, hq7, hq8, hq9⟩ (by show s.size - (i + 1) < s.size - i; omega))
        exact ⟨rfl, rfl, rfl, trivial⟩
    · repeat (first | (refine st ?_) | (refine stx ?_) | (refine sb ?_) | (intro _))
      refine z_ret1 tab_ok Try.func10 hb hk Try.results10 (.tmp rfl) (fun w hm => ?_)
      exact ⟨rfl, hm.bare⟩
  · repeat (first | (refine st ?_) | (refine stx ?_) | (refine sb ?_) | (intro _))
    refine z_ret1 tab_ok Try.func10 hb hk Try.results10 (.tmp rfl) (fun w hm => ?_)
    exact ⟨rfl, hm.bare⟩
end Go.Proofs.Ytabcaiecoiejkaa
