/- Plain laws of a session's steps: they hang on the bytes alone that stand first, however these came. No program in sight. -/
import Derived.Test.YtabcaiecoiejkaaS18
set_option maxRecDepth 100000
set_option linter.unusedSimpArgs false
set_option linter.unusedVariables false
namespace Go.Proofs.Ytabcaiecoiejkaa
open Go K

theorem getD_app (l m : List Int) (i : Nat) (h : i < l.length) : (l ++ m).getD i 0 = l.getD i 0 := by
  rw [List.getD_eq_getElem?_getD, List.getD_eq_getElem?_getD, List.getElem?_append_left h]
theorem pField_ok {l : List Int} {a : Nat} (h : (pField l a).2.2 = true) : a < l.length ∧ (a : Int) + 1 + l.getD a 0 ≤ l.length ∧ pField l a = (ofInts ((l.drop (a + 1)).take (l.getD a 0).toNat), a + 1 + l.getD a 0, true) := by
  unfold pField at h ⊢
  split at h
  · cases h
  · rename_i hc
    rw [if_neg hc]
    refine ⟨by omega, by omega, rfl⟩
theorem pField_of {l : List Int} {a : Nat} (h1 : a < l.length) (h2 : (a : Int) + 1 + l.getD a 0 ≤ l.length) : pField l a = (ofInts ((l.drop (a + 1)).take (l.getD a 0).toNat), a + 1 + l.getD a 0, true) := by
  unfold pField
  rw [if_neg (by omega)]
theorem pField_app {l : List Int} (m : List Int) {a : Nat} (hs : Small l) (h : (pField l a).2.2 = true) : pField (l ++ m) a = pField l a := by
  obtain ⟨h1, h2, h3⟩ := pField_ok h
  have h4 := getD_small hs a
  have h5 := getD_app l m a h1
  rw [h3, pField_of (by rw [List.length_append]; omega) (by rw [List.length_append, h5]; omega), h5]
  rw [List.drop_append_of_le_length (by omega), List.take_append_of_le_length (by rw [List.length_drop]; omega)]
theorem pField_cut {l : List Int} {a e : Nat} (hs : Small l) (h : (pField l a).2.2 = true) (he : (pField l a).2.1 ≤ e) : pField (l.take e) a = pField l a := by
  obtain ⟨h1, h2, h3⟩ := pField_ok h
  have h4 := getD_small hs a
  rw [h3] at he
  simp only at he
  have h6 : a < (l.take e).length := by rw [List.length_take]; omega
  have h5 : (l.take e).getD a 0 = l.getD a 0 := by
    rw [← getD_app (l.take e) (l.drop e) a h6, List.take_append_drop]
  have h7 : (pField (l.take e) a).2.2 = true := by
    rw [pField_of h6 (by rw [h5, List.length_take]; omega)]
  rw [← pField_app (l.drop e) (hs.take e) h7, List.take_append_drop]
theorem pPass_app {l : List Int} (m : List Int) (hs : Small l) (h : (pPass l).2.2 = true) : (pField l 1).2.2 = true ∧ pPass l = pField l (pField l 1).2.1.toNat ∧ pPass (l ++ m) = pPass l := by
  unfold pPass at h ⊢
  split at h
  · rename_i h1
    have h2 := pField_app m hs h
    rw [pField_app m hs h1, if_pos h1, h2]
    exact ⟨h1, by first | rfl | rw [if_pos h1], by first | rfl | rw [if_pos h1]⟩
  · cases h
theorem pPort_app (l m : List Int) (e : Nat) (h : e + 2 ≤ l.length) : pPort (l ++ m) e = pPort l e := by
  unfold pPort
  rw [getD_app _ _ _ (by omega), getD_app _ _ _ (by omega)]
theorem body_app (l m : List Int) (j : Nat) (h : j + 4 ≤ l.length) : ((l ++ m).drop 4).take j = (l.drop 4).take j := by
  rw [List.drop_append_of_le_length (by omega), List.take_append_of_le_length (by rw [List.length_drop]; omega)]

/-- x with more bytes of the client behind -/
def more (x : Px) (m : List Int) : Px := { x with up := x.up ++ m }
/-- x with more bytes of the client behind; they come to nothing if it is done -/
def ext (x : Px) (m : List Int) : Px := if x.state = 5 then x else more x m
theorem more_done (x : Px) (m : List Int) : pDone (more x m) = pDone x := rfl
theorem ext_done (x : Px) (m : List Int) : ext (pDone x) m = pDone x := rfl

theorem greet_more {x y : Px} (m : List Int) (hs : Small x.up) (h : pGreet x = some y) : pGreet (more x m) = some (ext y m) := by
  unfold pGreet at h
  split at h
  · rename_i hc
    cases h
    unfold pGreet
    rw [if_pos ⟨by show 0 < (x.up ++ m).length; rw [List.length_append]; omega, by show (x.up ++ m).getD 0 0 ≠ 5; rw [getD_app _ _ _ hc.1]; exact hc.2⟩]
    rfl
  · rename_i hc
    split at h
    · rename_i hf
      obtain ⟨f1, f2, f3⟩ := pField_ok hf
      have hle := pField_le x.up 1 hs hf
      have hd : (x.up ++ m).drop (pField x.up 1).2.1.toNat = x.up.drop (pField x.up 1).2.1.toNat ++ m := List.drop_append_of_le_length (by omega)
      have hf' := pField_app m hs hf
      have hu : (more x m).up = x.up ++ m := rfl
      have hus : (more x m).user = x.user := rfl
      unfold pGreet
      rw [hu, hf', hus, hd, if_neg (fun hh => hc ⟨by omega, by have := hh.2; rwa [getD_app _ _ _ (by omega)] at this⟩), if_pos hf]
      split at h
      · rename_i hz
        rw [if_pos hz]
        split at h
        · rename_i hi
          cases h; rw [if_pos hi]; rfl
        · rename_i hi
          cases h; rw [if_neg hi]; rfl
      · rename_i hz
        rw [if_neg hz]
        split at h
        · rename_i hi
          cases h; rw [if_pos hi]; rfl
        · rename_i hi
          cases h; rw [if_neg hi]; rfl
    · cases h
theorem login_more {x y : Px} (m : List Int) (hs : Small x.up) (h : pLogin x = some y) : pLogin (more x m) = some (ext y m) := by
  have hu : (more x m).up = x.up ++ m := rfl
  unfold pLogin at h
  split at h
  · cases h
  · rename_i h0
    split at h
    · rename_i h1
      cases h
      unfold pLogin
      rw [hu, if_neg (by rw [List.length_append]; omega), if_pos (by rw [getD_app _ _ _ (by omega)]; exact h1)]
      rfl
    · rename_i h1
      split at h
      · cases h
      · rename_i h2
        have h2 : (pPass x.up).2.2 = true := by simpa using h2
        obtain ⟨p1, p2, p3⟩ := pPass_app m hs h2
        have p4 := pField_app m hs p1
        have p5 : (pPass x.up).2.1 ≤ x.up.length := by
          rw [p2] at h2 ⊢
          exact (pField_le x.up _ hs h2).2
        have hd : (x.up ++ m).drop (pPass x.up).2.1.toNat = x.up.drop (pPass x.up).2.1.toNat ++ m := List.drop_append_of_le_length (by omega)
        unfold pLogin
        rw [hu, if_neg (by rw [List.length_append]; omega), if_neg (by rw [getD_app _ _ _ (by omega)]; exact h1), p3, p4, if_neg (by rw [h2]; decide), hd]
        split at h
        · rename_i h3
          cases h
          rw [if_pos (show (pField x.up 1).1 = (more x m).user ∧ (pPass x.up).1 = (more x m).pass from h3)]
          rfl
        · rename_i h3
          cases h
          rw [if_neg (show ¬ ((pField x.up 1).1 = (more x m).user ∧ (pPass x.up).1 = (more x m).pass) from h3)]
          rfl
theorem fail_ext (code : Int) (x : Px) (m : List Int) : ext (pFail code x) m = pFail code x := rfl
theorem fail_more (code : Int) (x : Px) (m : List Int) : pFail code (more x m) = pFail code x := rfl
theorem eat_more (x : Px) (m : List Int) (e : Nat) (h : e + 2 ≤ x.up.length) : pEat (more x m) e = more (pEat x e) m := by
  unfold pEat more
  simp only
  rw [List.drop_append_of_le_length h]
theorem reqA_more {x y : Px} {a : Adr} {e : Nat} (m : List Int) (h : pReqA x a e = some y) : pReqA (more x m) a e = some (ext y m) := by
  unfold pReqA at h
  split at h
  · cases h
  · rename_i h0
    have hp := pPort_app x.up m e (by omega)
    have he := eat_more x m e (by omega)
    have hu : (more x m).up = x.up ++ m := rfl
    unfold pReqA
    rw [hu, if_neg (by rw [List.length_append]; omega), hp, he]
    split at h
    · rename_i h1
      cases h; rw [if_pos h1]; rfl
    · rename_i h1
      rw [if_neg h1]
      split at h
      · rename_i h2
        cases h; rw [if_pos h2]; rfl
      · rename_i h2
        cases h; rw [if_neg h2]; rfl
theorem reqNm_more (x : Px) (a : Option Adr) (e : Nat) (m : List Int) (h : e + 2 ≤ x.up.length) : pReqNm (more x m) a e = ext (pReqNm x a e) m := by
  have he := eat_more x m e h
  have hp := pPort_app x.up m e h
  have hu : (more x m).up = x.up ++ m := rfl
  unfold pReqNm
  cases a with
  | none => rw [he]; rfl
  | some a =>
    simp only
    rw [he, hu, hp]
    split
    · rfl
    · rfl
theorem reqA_len {x y : Px} {a : Adr} {e : Nat} (h : pReqA x a e = some y) : e + 2 ≤ x.up.length := by
  unfold pReqA at h
  split at h
  · cases h
  · omega
theorem req_more {ns : List Nm} {x y : Px} (m : List Int) (hs : Small x.up) (h : pReqN ns x = some y) : pReqN ns (more x m) = some (ext y m) := by
  have hu : (more x m).up = x.up ++ m := rfl
  unfold pReqN at h
  split at h
  · cases h
  · rename_i h4
    have g0 := getD_app x.up m 0 (by omega)
    have g1 := getD_app x.up m 1 (by omega)
    have g2 := getD_app x.up m 2 (by omega)
    have g3 := getD_app x.up m 3 (by omega)
    unfold pReqN
    rw [hu, if_neg (by rw [List.length_append]; omega), g0, g1, g2, g3]
    split at h
    · rename_i h5
      cases h; rw [if_pos h5]; rfl
    · rename_i h5
      rw [if_neg h5]
      split at h
      · rename_i h6
        cases h; rw [if_pos h6]; rfl
      · rename_i h6
        rw [if_neg h6]
        split at h
        · rename_i h7
          rw [if_pos h7]
          have hl := reqA_len h
          have hb : pBody (more x m) 4 = pBody x 4 := by unfold pBody; rw [hu, body_app _ _ _ (by omega)]
          rw [hb]; exact reqA_more m h
        · rename_i h7
          rw [if_neg h7]
          split at h
          · rename_i h8
            rw [if_pos h8]
            have hl := reqA_len h
            have hb : pBody (more x m) 16 = pBody x 16 := by unfold pBody; rw [hu, body_app _ _ _ (by omega)]
            rw [hb]; exact reqA_more m h
          · rename_i h8
            rw [if_neg h8]
            split at h
            · rename_i h9
              rw [if_pos h9]
              split at h
              · rename_i hc
                obtain ⟨hf, hl⟩ := hc
                have hle := pField_le x.up 4 hs hf
                have hf' := pField_app m hs hf
                rw [hf', if_pos ⟨hf, by rw [List.length_append]; omega⟩, pPort_app _ _ _ (by omega), eat_more x m _ (by omega)]
                split at h
                · rename_i h10
                  cases h; rw [if_pos h10]; rfl
                · rename_i h10
                  cases h; rw [if_neg h10, reqNm_more x _ _ m (by omega)]
              · cases h
            · rename_i h9
              cases h; rw [if_neg h9]; rfl
theorem step_more {ns : List Nm} {x y : Px} (m : List Int) (hs : Small x.up) (h : pStepN ns x = some y) : pStepN ns (more x m) = some (ext y m) := by
  have hst : (more x m).state = x.state := rfl
  unfold pStepN at h ⊢
  rw [hst]
  split at h
  · rename_i h0
    rw [if_pos h0]; exact greet_more m hs h
  · rename_i h0
    rw [if_neg h0]
    split at h
    · rename_i h1
      rw [if_pos h1]; exact login_more m hs h
    · rename_i h1
      rw [if_neg h1]
      split at h
      · rename_i h2
        rw [if_pos h2]; exact req_more m hs h
      · cases h
theorem step_low {ns : List Nm} {x y : Px} (h : pStepN ns x = some y) : x.state = 0 ∨ x.state = 1 ∨ x.state = 2 := by
  unfold pStepN at h
  split at h
  · exact .inl ‹_›
  · split at h
    · exact .inr (.inl ‹_›)
    · split at h
      · exact .inr (.inr ‹_›)
      · cases h
/-- what has come of some bytes and then of more is what comes of them all -/
theorem run_ext (ns : List Nm) (m : List Int) : ∀ (r : Nat) (x : Px), pRankN x ≤ r → Small x.up → pRunN ns (ext x m) = pRunN ns (ext (pRunN ns x) m)
  | 0, x, hr, _ => by rw [pRunN_none (stepN_rank0 (x := x) (by omega))]
  | r + 1, x, hr, hs => by
    cases h : pStepN ns x with
    | none => rw [pRunN_none h]
    | some y =>
      have hlow := step_low h
      obtain ⟨f1, f2, _⟩ := stepN_fol h
      have h1 : ext x m = more x m := by unfold ext; rw [if_neg (by omega)]
      rw [pRunN_some h, h1, pRunN_some (step_more m hs h)]
      exact run_ext ns m r y (by omega) (f1.small hs)
theorem run_quiet (ns : List Nm) : ∀ (r : Nat) (x : Px), pRankN x ≤ r → pStepN ns (pRunN ns x) = none
  | 0, x, hr => by rw [pRunN_none (stepN_rank0 (x := x) (by omega))]; exact stepN_rank0 (by omega)
  | r + 1, x, hr => by
    cases h : pStepN ns x with
    | none => rw [pRunN_none h]; exact h
    | some y =>
      obtain ⟨f1, f2, _⟩ := stepN_fol h
      rw [pRunN_some h]
      exact run_quiet ns r y (by omega)

/-- x with d ahead of what it has for the client -/
def dn (d : List Int) (x : Px) : Px := { x with down := d ++ x.down }
theorem dn_say (d l : List Int) (x : Px) : pSay (dn d x) l = dn d (pSay x l) := by unfold pSay dn; simp only; rw [List.append_assoc]
theorem dn_fail (d : List Int) (code : Int) (x : Px) : pFail code (dn d x) = dn d (pFail code x) := by unfold pFail; rw [dn_say]; rfl
theorem greet_dn (d : List Int) (x : Px) : pGreet (dn d x) = (pGreet x).map (dn d) := by
  unfold pGreet
  have h1 : (dn d x).up = x.up := rfl
  have h2 : (dn d x).user = x.user := rfl
  rw [h1, h2]
  repeat' split
  all_goals first
    | rfl
    | simp [dn, pDone, pSay, List.append_assoc]
theorem login_dn (d : List Int) (x : Px) : pLogin (dn d x) = (pLogin x).map (dn d) := by
  unfold pLogin
  have h1 : (dn d x).up = x.up := rfl
  have h2 : (dn d x).user = x.user := rfl
  have h4 : (dn d x).pass = x.pass := rfl
  rw [h1, h2, h4]
  repeat' split
  all_goals first
    | rfl
    | simp [dn, pDone, pSay, List.append_assoc]
theorem eat_dn (d : List Int) (x : Px) (e : Nat) : pEat (dn d x) e = dn d (pEat x e) := rfl
theorem reqA_dn (d : List Int) (x : Px) (a : Adr) (e : Nat) : pReqA (dn d x) a e = (pReqA x a e).map (dn d) := by
  unfold pReqA
  have h1 : (dn d x).up = x.up := rfl
  rw [h1, eat_dn, dn_fail, dn_fail]
  split
  · rfl
  · split
    · rfl
    · split <;> rfl
theorem reqNm_dn (d : List Int) (x : Px) (a : Option Adr) (e : Nat) : pReqNm (dn d x) a e = dn d (pReqNm x a e) := by
  unfold pReqNm
  cases a with
  | none => simp only; rw [eat_dn, dn_fail]
  | some a =>
    simp only
    rw [eat_dn, dn_fail]
    split <;> rfl
theorem req_dn (d : List Int) (ns : List Nm) (x : Px) : pReqN ns (dn d x) = (pReqN ns x).map (dn d) := by
  unfold pReqN
  have h1 : (dn d x).up = x.up := rfl
  have h2 : ∀ j, pBody (dn d x) j = pBody x j := fun _ => rfl
  rw [h1, h2, h2]
  simp only [eat_dn, dn_fail, reqA_dn, reqNm_dn]
  split
  · rfl
  · split
    · rfl
    · split
      · rfl
      · split
        · rfl
        · split
          · rfl
          · split
            · split
              · split <;> rfl
              · rfl
            · rfl
theorem step_dn (d : List Int) (ns : List Nm) (x : Px) : pStepN ns (dn d x) = (pStepN ns x).map (dn d) := by
  unfold pStepN
  have h1 : (dn d x).state = x.state := rfl
  rw [h1, greet_dn, login_dn, req_dn]
  split
  · rfl
  · split
    · rfl
    · split <;> rfl
theorem st_dn (d : List Int) (ns : List Nm) (x : Px) : pSt ns (dn d x) = dn d (pSt ns x) := by
  unfold pSt
  rw [step_dn]
  cases pStepN ns x <;> rfl
theorem run_dn (d : List Int) (ns : List Nm) (x : Px) : pRunN ns (dn d x) = dn d (pRunN ns x) := by
  unfold pRunN
  rw [st_dn, st_dn, st_dn]
/-- what a step leaves as it was -/
structure FolR (x y : Px) : Prop where
  relayed : y.relayed = x.relayed
  cOver : y.cOver = x.cOver
  rOver : y.rOver = x.rOver
theorem FolR.refl (x : Px) : FolR x x := ⟨rfl, rfl, rfl⟩
theorem greet_folR {x y : Px} (h : pGreet x = some y) : FolR x y := by
  unfold pGreet at h
  split at h
  · cases h; exact ⟨rfl, rfl, rfl⟩
  · split at h
    · split at h
      · split at h <;> (cases h; exact ⟨rfl, rfl, rfl⟩)
      · split at h <;> (cases h; exact ⟨rfl, rfl, rfl⟩)
    · cases h
theorem login_folR {x y : Px} (h : pLogin x = some y) : FolR x y := by
  unfold pLogin at h
  split at h
  · cases h
  · split at h
    · cases h; exact ⟨rfl, rfl, rfl⟩
    · split at h
      · cases h
      · split at h <;> (cases h; exact ⟨rfl, rfl, rfl⟩)
theorem reqA_folR {x y : Px} {a : Adr} {e : Nat} (h : pReqA x a e = some y) : FolR x y := by
  unfold pReqA at h
  split at h
  · cases h
  · split at h
    · cases h; exact ⟨rfl, rfl, rfl⟩
    · split at h <;> (cases h; exact ⟨rfl, rfl, rfl⟩)
theorem reqNm_folR (x : Px) (a : Option Adr) (e : Nat) : FolR x (pReqNm x a e) := by
  unfold pReqNm
  cases a with
  | none => exact ⟨rfl, rfl, rfl⟩
  | some a =>
    simp only
    split <;> exact ⟨rfl, rfl, rfl⟩
theorem req_folR {ns : List Nm} {x y : Px} (h : pReqN ns x = some y) : FolR x y := by
  unfold pReqN at h
  split at h
  · cases h
  · split at h
    · cases h; exact ⟨rfl, rfl, rfl⟩
    · split at h
      · cases h; exact ⟨rfl, rfl, rfl⟩
      · split at h
        · exact reqA_folR h
        · split at h
          · exact reqA_folR h
          · split at h
            · split at h
              · split at h
                · cases h; exact ⟨rfl, rfl, rfl⟩
                · cases h; exact reqNm_folR x _ _
              · cases h
            · cases h; exact ⟨rfl, rfl, rfl⟩
theorem step_folR {ns : List Nm} {x y : Px} (h : pStepN ns x = some y) : FolR x y := by
  unfold pStepN at h
  split at h
  · exact greet_folR h
  · split at h
    · exact login_folR h
    · split at h
      · exact req_folR h
      · cases h
theorem run_fol (ns : List Nm) : ∀ (r : Nat) (x : Px), pRankN x ≤ r → FolR x (pRunN ns x) ∧ (pRunN ns x).names = x.names ∧ (Small x.up → Small (pRunN ns x).up) ∧ (pRunN ns x).up.length ≤ x.up.length ∧ (pRunN ns x).down.length ≤ x.down.length + 10 * pRankN x ∧ ((x.state = 0 ∨ x.state = 1 ∨ x.state = 2 ∨ 3 ≤ x.state) → ((pRunN ns x).state = 0 ∨ (pRunN ns x).state = 1 ∨ (pRunN ns x).state = 2 ∨ 3 ≤ (pRunN ns x).state))
  | 0, x, hr => by
    rw [pRunN_none (stepN_rank0 (x := x) (by omega))]
    exact ⟨⟨rfl, rfl, rfl⟩, rfl, id, Nat.le_refl _, by omega, id⟩
  | r + 1, x, hr => by
    cases h : pStepN ns x with
    | none =>
      rw [pRunN_none h]
      exact ⟨⟨rfl, rfl, rfl⟩, rfl, id, Nat.le_refl _, by omega, id⟩
    | some y =>
      obtain ⟨f1, f2, f3⟩ := stepN_fol h
      have g := step_folR h
      obtain ⟨a1, a2, a3, a4, a5, a6⟩ := run_fol ns r y (by omega)
      rw [pRunN_some h]
      have := f1.ups
      have := f1.downs
      exact ⟨⟨a1.relayed.trans g.relayed, a1.cOver.trans g.cOver, a1.rOver.trans g.rOver⟩, a2.trans f1.names, fun hs => a3 (f1.small hs), by omega, by omega, fun _ => a6 (by omega)⟩
end Go.Proofs.Ytabcaiecoiejkaa
