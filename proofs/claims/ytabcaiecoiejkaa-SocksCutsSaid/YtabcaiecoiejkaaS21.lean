/- Plain law of SocksWhole: what holds of a session that gets its bytes one by one. No program in sight. -/
import Derived.Test.YtabcaiecoiejkaaS20
import Derived.Test.YtabcaiecoiejkaaS19
set_option maxRecDepth 100000
set_option linter.unusedSimpArgs false
set_option linter.unusedVariables false
namespace Go.Proofs.Ytabcaiecoiejkaa
open Go K

theorem greet_some (x : Px) (h : (pField x.up 1).2.2 = true) : ∃ y, pGreet x = some y := by
  unfold pGreet
  split
  · exact ⟨_, rfl⟩
  · try rw [if_pos h]
    split
    · split <;> exact ⟨_, rfl⟩
    · split <;> exact ⟨_, rfl⟩
theorem login_some (x : Px) (h0 : x.up.length ≠ 0) (h : (pPass x.up).2.2 = true) : ∃ y, pLogin x = some y := by
  unfold pLogin
  rw [if_neg h0]
  split
  · exact ⟨_, rfl⟩
  · try rw [if_neg (by rw [h]; decide)]
    split <;> exact ⟨_, rfl⟩
theorem reqA_some (x : Px) (a : Adr) (e : Nat) (h : e + 2 ≤ x.up.length) : ∃ y, pReqA x a e = some y := by
  unfold pReqA
  rw [if_neg (by omega)]
  split
  · exact ⟨_, rfl⟩
  · split <;> exact ⟨_, rfl⟩
theorem req_some (ns : List Nm) (x : Px) (h0 : 4 ≤ x.up.length) (h1 : x.up.getD 3 0 = 1 → 10 ≤ x.up.length) (h4 : x.up.getD 3 0 = 4 → 22 ≤ x.up.length) (h3 : x.up.getD 3 0 = 3 → (pField x.up 4).2.2 = true ∧ (pField x.up 4).2.1 + 2 ≤ x.up.length) : ∃ y, pReqN ns x = some y := by
  unfold pReqN
  rw [if_neg (by omega)]
  split
  · exact ⟨_, rfl⟩
  · split
    · exact ⟨_, rfl⟩
    · split
      · exact reqA_some x _ _ (h1 ‹_›)
      · split
        · exact reqA_some x _ _ (h4 ‹_›)
        · split
          · try rw [if_pos (h3 ‹_›)]
            split <;> exact ⟨_, rfl⟩
          · exact ⟨_, rfl⟩
theorem getD_take (l : List Int) (e i : Nat) (h : i < e) : (l.take e).getD i 0 = l.getD i 0 := by
  rw [List.getD_eq_getElem?_getD, List.getD_eq_getElem?_getD, List.getElem?_take, if_pos h]
/-- what a step that goes on took, and that it was all that it wanted -/
structure Cut (ns : List Nm) (x y : Px) (e : Nat) : Prop where
  two : 2 ≤ e
  le : e ≤ x.up.length
  up : y.up = x.up.drop e
  cut : ∃ y', pStepN ns { x with up := x.up.take e } = some y'
  want : y.state = 3 → x.state = 2 ∧ 8 ≤ e ∧ y.tp = pPort x.up (e - 2) ∧ 0 < y.tp ∧ y.ta.valid = true ∧ y.ta.none = false ∧ y.ta.group = false
theorem greet_cut {x y : Px} (hs : Small x.up) (h : pGreet x = some y) (h5 : y.state ≠ 5) : ∃ e : Nat, 2 ≤ e ∧ e ≤ x.up.length ∧ y.up = x.up.drop e ∧ (∃ y', pGreet { x with up := x.up.take e } = some y') := by
  unfold pGreet at h
  split at h
  · cases h; exact absurd rfl h5
  · split at h
    · rename_i hf
      have hle := pField_le x.up 1 hs hf
      have hk : ∃ y', pGreet { x with up := x.up.take (pField x.up 1).2.1.toNat } = some y' := greet_some _ (by
        show (pField (x.up.take _) 1).2.2 = true
        rw [pField_cut hs hf (by omega)]; exact hf)
      refine ⟨(pField x.up 1).2.1.toNat, by omega, by omega, ?_, hk⟩
      split at h
      · split at h
        · cases h; exact absurd rfl h5
        · cases h; rfl
      · split at h
        · cases h; exact absurd rfl h5
        · cases h; rfl
    · cases h
theorem login_cut {x y : Px} (hs : Small x.up) (h : pLogin x = some y) (h5 : y.state ≠ 5) : ∃ e : Nat, 2 ≤ e ∧ e ≤ x.up.length ∧ y.up = x.up.drop e ∧ (∃ y', pLogin { x with up := x.up.take e } = some y') := by
  unfold pLogin at h
  split at h
  · cases h
  · split at h
    · cases h; exact absurd rfl h5
    · split at h
      · cases h
      · rename_i h2
        have h2 : (pPass x.up).2.2 = true := by simpa using h2
        obtain ⟨p1, p2, _⟩ := pPass_app [] hs h2
        have q1 := pField_le x.up 1 hs p1
        have h2' := h2
        rw [p2] at h2'
        have q2 := pField_le x.up _ hs h2'
        rw [← p2] at q2
        have hk : ∃ y', pLogin { x with up := x.up.take (pPass x.up).2.1.toNat } = some y' := login_some _ (by show (x.up.take _).length ≠ 0; rw [List.length_take]; omega) (by
          show (pPass (x.up.take _)).2.2 = true
          unfold pPass
          have r1 : pField (x.up.take (pPass x.up).2.1.toNat) 1 = pField x.up 1 := pField_cut hs p1 (by omega)
          have r2 : pField (x.up.take (pPass x.up).2.1.toNat) (pField x.up 1).2.1.toNat = pField x.up (pField x.up 1).2.1.toNat := pField_cut hs h2' (by rw [← p2]; omega)
          have r0 : pPass x.up = pField x.up (pField x.up 1).2.1.toNat := p2
          unfold pPass at r1 r2
          rw [r1, if_pos p1, r2]
          exact h2')
        refine ⟨(pPass x.up).2.1.toNat, by omega, by omega, ?_, hk⟩
        split at h
        · cases h; rfl
        · cases h; exact absurd rfl h5
theorem pPort_pos {l : List Int} (hs : Small l) (e : Nat) (h : pPort l e ≠ 0) : 0 < pPort l e := by
  have h1 := getD_small hs e
  have h2 := getD_small hs (e + 1)
  unfold pPort at h ⊢
  omega
theorem reqA_want {x y : Px} {a : Adr} {e : Nat} (hs : Small x.up) (hv : a.valid = true) (h : pReqA x a e = some y) (h5 : y.state ≠ 5) : e + 2 ≤ x.up.length ∧ y.up = x.up.drop (e + 2) ∧ y.tp = pPort x.up e ∧ 0 < y.tp ∧ y.ta.valid = true ∧ y.ta.none = false ∧ y.ta.group = false := by
  unfold pReqA at h
  split at h
  · cases h
  · split at h
    · cases h; exact absurd rfl h5
    · rename_i hp
      split at h
      · cases h; exact absurd rfl h5
      · rename_i hn
        cases h
        refine ⟨by omega, rfl, rfl, pPort_pos hs _ hp, hv, ?_, ?_⟩
        · show a.none = false
          cases hh : a.none
          · rfl
          · exact absurd (.inl hh) hn
        · show a.group = false
          cases hh : a.group
          · rfl
          · exact absurd (.inr hh) hn
theorem req_cut {ns : List Nm} {x y : Px} (hs : Small x.up) (h : pReqN ns x = some y) (h5 : y.state ≠ 5) : ∃ e : Nat, 8 ≤ e ∧ e ≤ x.up.length ∧ y.up = x.up.drop e ∧ (∃ y', pReqN ns { x with up := x.up.take e } = some y') ∧ y.tp = pPort x.up (e - 2) ∧ 0 < y.tp ∧ y.ta.valid = true ∧ y.ta.none = false ∧ y.ta.group = false := by
  unfold pReqN at h
  split at h
  · cases h
  · split at h
    · cases h; exact absurd rfl h5
    · split at h
      · cases h; exact absurd rfl h5
      · split at h
        · rename_i h1
          obtain ⟨r1, r2, r3⟩ := reqA_want hs (adr4_valid _) h h5
          refine ⟨10, by omega, by omega, r2, req_some ns _ ?_ ?_ ?_ ?_, r3⟩
          · show 4 ≤ (x.up.take 10).length; rw [List.length_take]; omega
          · intro _; show 10 ≤ (x.up.take 10).length; rw [List.length_take]; omega
          · intro hh; have hh : (x.up.take 10).getD 3 0 = 4 := hh; rw [getD_take _ _ _ (by omega)] at hh; omega
          · intro hh; have hh : (x.up.take 10).getD 3 0 = 3 := hh; rw [getD_take _ _ _ (by omega)] at hh; omega
        · split at h
          · rename_i h1 h2
            obtain ⟨r1, r2, r3⟩ := reqA_want hs (adr16_valid _) h h5
            refine ⟨22, by omega, by omega, r2, req_some ns _ ?_ ?_ ?_ ?_, r3⟩
            · show 4 ≤ (x.up.take 22).length; rw [List.length_take]; omega
            · intro hh; have hh : (x.up.take 22).getD 3 0 = 1 := hh; rw [getD_take _ _ _ (by omega)] at hh; omega
            · intro _; show 22 ≤ (x.up.take 22).length; rw [List.length_take]; omega
            · intro hh; have hh : (x.up.take 22).getD 3 0 = 3 := hh; rw [getD_take _ _ _ (by omega)] at hh; omega
          · split at h
            · rename_i h1 h2 h3
              split at h
              · rename_i hc
                obtain ⟨hf, hl⟩ := hc
                obtain ⟨f1, f2, f3⟩ := pField_ok hf
                have hle := pField_le x.up 4 hs hf
                generalize hg : (pField x.up 4).2.1.toNat = g at h
                have hge : (pField x.up 4).2.1 = (g : Int) := by omega
                split at h
                · cases h; exact absurd rfl h5
                · rename_i hb
                  have hb1 : (pField x.up 4).1 ≠ noX := fun hh => hb (.inl hh)
                  have hb2 : pPort x.up g ≠ 0 := fun hh => hb (.inr hh)
                  have h6 : 6 ≤ g := by
                    have h4 := getD_small hs 4
                    by_cases hz : x.up.getD 4 0 = 0
                    · rw [f3, hz] at hb1
                      exact absurd rfl hb1
                    · rw [f3] at hge
                      simp only at hge
                      omega
                  have hk : ∃ y', pReqN ns { x with up := x.up.take (g + 2) } = some y' := by
                    refine req_some ns _ ?_ ?_ ?_ ?_
                    · show 4 ≤ (x.up.take _).length; rw [List.length_take]; omega
                    · intro hh; have hh : (x.up.take (g + 2)).getD 3 0 = 1 := hh; rw [getD_take _ _ _ (by omega)] at hh; omega
                    · intro hh; have hh : (x.up.take (g + 2)).getD 3 0 = 4 := hh; rw [getD_take _ _ _ (by omega)] at hh; omega
                    · intro _
                      show (pField (x.up.take (g + 2)) 4).2.2 = true ∧ (pField (x.up.take (g + 2)) 4).2.1 + 2 ≤ (x.up.take (g + 2)).length
                      rw [pField_cut hs hf (by omega), List.length_take]
                      exact ⟨hf, by omega⟩
                  have hpos := pPort_pos hs g hb2
                  unfold pReqNm at h
                  split at h
                  · cases h; exact absurd rfl h5
                  · split at h
                    · rename_i hok
                      cases h
                      exact ⟨g + 2, by omega, by omega, rfl, hk, rfl, hpos, hok.1, hok.2.1, hok.2.2⟩
                    · cases h; exact absurd rfl h5
              · cases h
            · cases h; exact absurd rfl h5
theorem step_cut {ns : List Nm} {x y : Px} (hs : Small x.up) (h : pStepN ns x = some y) (h5 : y.state ≠ 5) : ∃ e : Nat, Cut ns x y e := by
  unfold pStepN at h
  split at h
  · rename_i h0
    obtain ⟨e, a1, a2, a3, a4⟩ := greet_cut hs h h5
    refine ⟨e, a1, a2, a3, ?_, fun hh => ?_⟩
    · unfold pStepN
      rw [if_pos (show ({ x with up := x.up.take e } : Px).state = 0 from h0)]; exact a4
    · have := (greetN_fol h).2; omega
  · rename_i h0
    split at h
    · rename_i h1
      obtain ⟨e, a1, a2, a3, a4⟩ := login_cut hs h h5
      refine ⟨e, a1, a2, a3, ?_, fun hh => ?_⟩
      · unfold pStepN
        rw [if_neg (show ¬ ({ x with up := x.up.take e } : Px).state = 0 from h0), if_pos (show ({ x with up := x.up.take e } : Px).state = 1 from h1)]; exact a4
      · have := (loginN_fol h).2; omega
    · rename_i h1
      split at h
      · rename_i h2
        obtain ⟨e, a1, a2, a3, a4, a5, a6, a7, a8, a9⟩ := req_cut hs h h5
        refine ⟨e, by omega, a2, a3, ?_, fun hh => ⟨h2, a1, a5, a6, a7, a8, a9⟩⟩
        unfold pStepN
        rw [if_neg (show ¬ ({ x with up := x.up.take e } : Px).state = 0 from h0), if_neg (show ¬ ({ x with up := x.up.take e } : Px).state = 1 from h1), if_pos (show ({ x with up := x.up.take e } : Px).state = 2 from h2)]; exact a4
      · cases h
theorem pField_nil (a : Nat) : (pField [] a).2.2 = false := rfl
theorem step_nil {ns : List Nm} {x : Px} (h : x.up = []) : pStepN ns x = none := by
  have h1 : pGreet x = none := by unfold pGreet; rw [h]; rfl
  have h2 : pLogin x = none := by unfold pLogin; rw [h]; rfl
  have h3 : pReqN ns x = none := by unfold pReqN; rw [h]; rfl
  unfold pStepN
  rw [h1, h2, h3]
  split
  · rfl
  · split
    · rfl
    · split <;> rfl
/-- what holds of a session that got the bytes l one by one -/
structure Wv (ns : List Nm) (z : Px) (l : List Int) : Prop where
  quiet : pStepN ns z = none
  small : Small z.up
  st : z.state = 5 ∨ (z.state = 3 ∧ 9 ≤ l.length ∧ 0 < z.tp ∧ z.ta.valid = true ∧ z.ta.none = false ∧ z.ta.group = false ∧ z.tp = l.getD (l.length - 2) 0 * 256 + l.getD (l.length - 1) 0) ∨
    ((z.state = 0 ∨ z.state = 1 ∨ z.state = 2) ∧ ∃ k, z.up = l.drop k ∧ k ≤ l.length ∧ (z.state ≠ 0 → 2 ≤ k))
theorem getD_drop (l : List Int) (k i : Nat) : (l.drop k).getD i 0 = l.getD (k + i) 0 := by
  rw [List.getD_eq_getElem?_getD, List.getD_eq_getElem?_getD, List.getElem?_drop]
theorem Wv.next {ns : List Nm} {z : Px} {l : List Int} (h : Wv ns z l) (h3 : z.state ≠ 3) (b : Int) (hb : 0 ≤ b ∧ b ≤ 255) : Wv ns (pRunN ns (ext z [b])) (l ++ [b]) := by
  rcases h.st with h5 | h3' | ⟨hst, k, hu, hk, hk2⟩
  · have he : ext z [b] = z := by unfold ext; rw [if_pos h5]
    rw [he, pRunN_none h.quiet]
    exact ⟨h.quiet, h.small, .inl h5⟩
  · exact absurd h3'.1 h3
  · have he : ext z [b] = more z [b] := by unfold ext; rw [if_neg (by omega)]
    rw [he]
    have hmu : (more z [b]).up = z.up ++ [b] := rfl
    have hms : (more z [b]).state = z.state := rfl
    have hsm : Small (more z [b]).up := h.small.app (fun x hx => by rw [List.mem_singleton.1 hx]; exact hb)
    have hup : (more z [b]).up = (l ++ [b]).drop k := by rw [hmu, hu, List.drop_append_of_le_length hk]
    cases hX : pStepN ns (more z [b]) with
    | none =>
      rw [pRunN_none hX]
      exact ⟨hX, hsm, .inr (.inr ⟨hst, k, hup, by rw [List.length_append]; omega, hk2⟩)⟩
    | some y =>
      rw [pRunN_some hX]
      obtain ⟨f1, f2, f3⟩ := stepN_fol hX
      by_cases h5 : y.state = 5
      · have hy : pStepN ns y = none := stepN_rank0 (by unfold pRankN; rw [h5]; rfl)
        rw [pRunN_none hy]
        exact ⟨hy, f1.small hsm, .inl h5⟩
      · obtain ⟨e, c1, c2, c3, ⟨y', c4⟩, c5⟩ := step_cut hsm hX h5
        rw [hmu, List.length_append, List.length_singleton] at c2
        have hall : e = z.up.length + 1 := by
          rcases Nat.lt_or_ge z.up.length e with hlt | hge
          · omega
          · exfalso
            have h1 : ({ more z [b] with up := (more z [b]).up.take e } : Px) = { z with up := z.up.take e } := by
              unfold more; simp only
              rw [List.take_append_of_le_length hge]
            rw [h1] at c4
            have h2 := step_more (z.up.drop e) (x := { z with up := z.up.take e }) (h.small.take e) c4
            have h3 : more { z with up := z.up.take e } (z.up.drop e) = z := by
              unfold more; simp only
              rw [List.take_append_drop]
            rw [h3, h.quiet] at h2
            cases h2
        have hy0 : y.up = [] := by rw [c3, hmu]; exact List.drop_of_length_le (by rw [List.length_append, List.length_singleton]; omega)
        have hy : pStepN ns y = none := step_nil hy0
        rw [pRunN_none hy]
        have hlen : z.up.length = l.length - k := by rw [hu, List.length_drop]
        refine ⟨hy, by rw [hy0]; exact Small.nil, .inr ?_⟩
        by_cases hy3 : y.state = 3
        · obtain ⟨d1, d2, d3, d4, d5⟩ := c5 hy3
          have hk2' := hk2 (by rw [hms] at d1; omega)
          refine .inl ⟨hy3, by rw [List.length_append, List.length_singleton]; omega, d4, d5.1, d5.2.1, d5.2.2, ?_⟩
          rw [d3, hup]
          unfold pPort
          rw [getD_drop, getD_drop, List.length_append, List.length_singleton, show k + (e - 2) = l.length + 1 - 2 by omega, show k + (e - 2 + 1) = l.length + 1 - 1 by omega]
        · have hr := pRank3 (more z [b])
          refine .inr ⟨?_, l.length + 1, ?_, by rw [List.length_append, List.length_singleton]; omega, fun _ => ?_⟩
          · rcases f3 with h | h | h
            · exact .inr (.inl h)
            · exact .inr (.inr h)
            · exfalso
              have g1 : y.state = 5 ∨ y.state = 1 ∨ y.state = 2 ∨ y.state = 3 := by
                unfold pStepN at hX
                split at hX
                · have := (greetN_fol hX).2; omega
                · split at hX
                  · have := (loginN_fol hX).2; omega
                  · split at hX
                    · have := (reqN_fol hX).2; omega
                    · cases hX
              omega
          · rw [hy0]; exact (List.drop_of_length_le (by rw [List.length_append, List.length_singleton]; omega)).symm
          · omega
theorem wv0 (ns : List Nm) (user pass : ByteArray) (nv : Value) : Wv ns (pxN user pass nv) [] := ⟨step_nil rfl, Small.nil, .inr (.inr ⟨.inl rfl, 0, rfl, Nat.le_refl _, fun h => absurd rfl h⟩)⟩
end Go.Proofs.Ytabcaiecoiejkaa
