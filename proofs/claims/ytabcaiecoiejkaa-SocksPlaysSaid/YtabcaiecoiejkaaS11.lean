/- Walk of the law SocksFails: it answers true. -/
import Derived.Test.YtabcaiecoiejkaaS10
set_option maxRecDepth 100000
set_option linter.unusedSimpArgs false
set_option linter.unusedVariables false
set_option maxHeartbeats 8000000
namespace Go.Proofs.Ytabcaiecoiejkaa
open Go K

theorem bL_ofIntsX (l : List Int) (hl : Small l) : bL (ofInts l) = l := by
  unfold bL ofInts
  simp only [List.map_map]
  apply List.ext_getElem?
  intro i
  rw [List.getElem?_map]
  cases hg : l[i]? with
  | none => rfl
  | some v =>
    have hv := hl v (List.mem_of_getElem? hg)
    have : (UInt8.ofNat v.toNat).toNat = v.toNat := by
      rw [UInt8.toNat_ofNat']
      exact Nat.mod_eq_of_lt (by omega)
    show some (((UInt8.ofNat v.toNat).toNat : Nat) : Int) = some v
    rw [this]
    congr 1
    omega
theorem bt_ofIntsX (l : List Int) (i : Nat) (hl : Small l) : bt (ofInts l) i = l.getD i 0 := by
  have hz := ofInts_size l
  by_cases h : i < l.length
  · have h1 := bL_ofIntsX l hl
    have h2 := bL_get (ofInts l) i (by omega)
    rw [h1, List.getElem?_eq_getElem h] at h2
    rw [List.getD_eq_getElem?_getD, List.getElem?_eq_getElem h]
    exact (Option.some.inj h2).symm
  · unfold bt
    rw [List.getD_eq_getElem?_getD, List.getElem?_eq_none (by rw [Array.length_toList]; show (ofInts l).size ≤ i; omega), List.getD_eq_getElem?_getD, List.getElem?_eq_none (by omega)]
    rfl
theorem four_eq {a b c d : Int} (h : Small [a, b, c, d]) : adr4 (ofInts [a, b, c, d]) = v4 a b c d := by
  unfold adr4 v4
  rw [bt_ofIntsX _ 0 h, bt_ofIntsX _ 1 h, bt_ofIntsX _ 2 h, bt_ofIntsX _ 3 h]
  rfl
def six (l : List Int) : Adr := ⟨true, fun i => l.getD i 0⟩
theorem six_eq {l : List Int} (h : Small l) : adr16 (ofInts l) = six l := by
  unfold adr16 six
  congr 1
  funext i
  exact bt_ofIntsX l i h
/-- a session that greeted -/
def pxA : Px := ⟨noX, noX, .slice none 0 0, 2, [], [], false, false, false, adr0, 0⟩
def pxB : Px := ⟨noX, noX, .slice none 0 0, 2, [], [5, 0], false, false, false, adr0, 0⟩
def s3 : ByteArray := ⟨#[5, 1, 0]⟩
theorem client3 : pClient px0 s3 = (pxB, 3) := by kernel_rfl
theorem settleB : pSettle { pxB with down := pxB.down.drop 2 } = pxA := by kernel_rfl
theorem FC_3 (p : Nat) : PC 38 [fP p 0, .string s3] p px0 pxB (.int .i64 3) := by
  have := FromClient_any p px0 s3 good_px0 (by decide)
  rw [client3] at this
  exact this
theorem TC_B (p : Nat) : PC 39 [fP p 0, .int .i64 2] p pxB pxA (.string ⟨#[5, 0]⟩) := by
  have := ToClient_any p pxB 2 2 (by decide) (by decide)
  rw [settleB] at this
  exact this
theorem good_pxA : Good pxA := ⟨Small.nil, Nat.zero_le _, Nat.zero_le _, rfl, rfl, .inr (.inl rfl)⟩
/-- a session that greeted, and what has come since -/
def pxU (l : List Int) : Px := ⟨noX, noX, .slice none 0 0, 2, l, [], false, false, false, adr0, 0⟩
/-- what a session that greeted does with bytes -/
theorem clientA (l : List Int) (h : Small l) (hl : l.length ≤ 4096) : pClient pxA (ofInts l) = ((pReq (pxU l)).getD (pxU l), (l.length : Int)) := by
  have hb := bL_ofIntsX l h
  have hz := ofInts_size l
  have e : min (ofInts l).size (4096 - pxA.up.length) = l.length := by show min (ofInts l).size (4096 - 0) = _; omega
  unfold pClient
  rw [if_neg (by decide), hb, e, List.take_of_length_le (Nat.le_refl _)]
  rfl
/-- a failed session: what it says -/
def pFailed (code : Int) : Px := ⟨noX, noX, .slice none 0 0, 5, [], [5, code, 0, 1, 0, 0, 0, 0, 0, 0], false, false, false, adr0, 0⟩
def pFailedE : Px := ⟨noX, noX, .slice none 0 0, 5, [], [], false, false, false, adr0, 0⟩
def pWant (a : Adr) (n : Int) : Px := ⟨noX, noX, .slice none 0 0, 3, [], [], false, false, false, a, n⟩
theorem port_put (n : Int) (h0 : 0 ≤ n) (h1 : n ≤ 65535) : byt n 1 * 256 + byt n 0 = n := by
  unfold byt
  simp only [show (256 : Int) ^ 1 = 256 from rfl, show (256 : Int) ^ 0 = 1 from rfl]
  omega
/-- the request that the law makes, by its kind -/
def req4 (h0 h1 h2 n b0 b1 b2 b3 : Int) : List Int := [h0, h1, h2, 1, b0, b1, b2, b3, byt n 1, byt n 0]
def req6 (h0 h1 h2 n : Int) (l : List Int) : List Int := h0 :: h1 :: h2 :: 4 :: (l ++ [byt n 1, byt n 0])
def req3 (h0 h1 h2 n : Int) : List Int := [h0, h1, h2, 3, 4, 110, 111, 110, 101, byt n 1, byt n 0]
def req0 (h0 h1 h2 h3 n : Int) : List Int := [h0, h1, h2, h3, byt n 1, byt n 0]
theorem len4 (a b c d : Int) (r : List Int) : ¬ (a :: b :: c :: d :: r).length < 4 := by simp
theorem Rq1 {h0 h1 h2 h3 : Int} {r : List Int} (h : h0 ≠ 5 ∨ h2 ≠ 0) : pReq (pxU (h0 :: h1 :: h2 :: h3 :: r)) = some (pFailed 1) := by
  unfold pReq
  exact (if_neg (len4 _ _ _ _ _)).trans ((if_pos h).trans rfl)
theorem ok02 : ¬ ((5 : Int) ≠ 5 ∨ (0 : Int) ≠ 0) := by decide
theorem ok1 : ¬ ((1 : Int) ≠ 1) := by decide
theorem Rq7 {h1 h3 : Int} {r : List Int} (h : h1 ≠ 1) : pReq (pxU (5 :: h1 :: 0 :: h3 :: r)) = some (pFailed 7) := by
  unfold pReq
  exact (if_neg (len4 _ _ _ _ _)).trans ((if_neg ok02).trans ((if_pos h).trans rfl))
theorem Rq8 {h3 : Int} {r : List Int} (h : h3 ≠ 1) (h' : h3 ≠ 3) (h'' : h3 ≠ 4) : pReq (pxU (5 :: 1 :: 0 :: h3 :: r)) = some (pFailed 8) := by
  unfold pReq
  exact (if_neg (len4 _ _ _ _ _)).trans ((if_neg ok02).trans ((if_neg ok1).trans ((if_neg h).trans ((if_neg h'').trans ((if_neg h').trans rfl)))))
theorem Rq4 (n b0 b1 b2 b3 : Int) (h0 : 0 ≤ n) (h1 : n ≤ 65535) (hb : Small [b0, b1, b2, b3]) :
    pReq (pxU (req4 5 1 0 n b0 b1 b2 b3)) = some (if n = 0 then pFailed 1 else if (v4 b0 b1 b2 b3).none = true ∨ (v4 b0 b1 b2 b3).group = true then pFailed 4 else pWant (v4 b0 b1 b2 b3) n) := by
  have hp : pPort (pxU (req4 5 1 0 n b0 b1 b2 b3)).up 8 = n := port_put n h0 h1
  have hbd : pBody (pxU (req4 5 1 0 n b0 b1 b2 b3)) 4 = ofInts [b0, b1, b2, b3] := rfl
  unfold pReq
  refine (if_neg (len4 _ _ _ _ _)).trans ((if_neg ok02).trans ((if_neg ok1).trans ((if_pos rfl).trans ?_)))
  rw [hbd, four_eq hb]
  unfold pReqA
  refine (if_neg (show ¬ (10 : Nat) < 8 + 2 by decide)).trans ?_
  rw [hp]
  by_cases e : n = 0
  · rw [if_pos e, if_pos e]; rfl
  · rw [if_neg e, if_neg e]
    by_cases e2 : (v4 b0 b1 b2 b3).none = true ∨ (v4 b0 b1 b2 b3).group = true
    · rw [if_pos e2, if_pos e2]; rfl
    · rw [if_neg e2, if_neg e2]; rfl
theorem Rq6 (n c0 c1 c2 c3 c4 c5 c6 c7 c8 c9 c10 c11 c12 c13 c14 c15 : Int) (h0 : 0 ≤ n) (h1 : n ≤ 65535) (hb : Small [c0, c1, c2, c3, c4, c5, c6, c7, c8, c9, c10, c11, c12, c13, c14, c15]) :
    pReq (pxU (req6 5 1 0 n [c0, c1, c2, c3, c4, c5, c6, c7, c8, c9, c10, c11, c12, c13, c14, c15])) = some (if n = 0 then pFailed 1 else if (six [c0, c1, c2, c3, c4, c5, c6, c7, c8, c9, c10, c11, c12, c13, c14, c15]).none = true ∨ (six [c0, c1, c2, c3, c4, c5, c6, c7, c8, c9, c10, c11, c12, c13, c14, c15]).group = true then pFailed 4 else pWant (six [c0, c1, c2, c3, c4, c5, c6, c7, c8, c9, c10, c11, c12, c13, c14, c15]) n) := by
  have hp : pPort (pxU (req6 5 1 0 n [c0, c1, c2, c3, c4, c5, c6, c7, c8, c9, c10, c11, c12, c13, c14, c15])).up 20 = n := port_put n h0 h1
  have hbd : pBody (pxU (req6 5 1 0 n [c0, c1, c2, c3, c4, c5, c6, c7, c8, c9, c10, c11, c12, c13, c14, c15])) 16 = ofInts [c0, c1, c2, c3, c4, c5, c6, c7, c8, c9, c10, c11, c12, c13, c14, c15] := rfl
  have k41 : ¬ (4 : Int) = 1 := by decide
  unfold pReq
  refine (if_neg (len4 _ _ _ _ _)).trans ((if_neg ok02).trans ((if_neg ok1).trans ((if_neg k41).trans ((if_pos rfl).trans ?_))))
  rw [hbd, six_eq hb]
  unfold pReqA
  refine (if_neg (show ¬ (22 : Nat) < 20 + 2 by decide)).trans ?_
  rw [hp]
  by_cases e : n = 0
  · rw [if_pos e, if_pos e]; rfl
  · rw [if_neg e, if_neg e]
    by_cases e2 : (six [c0, c1, c2, c3, c4, c5, c6, c7, c8, c9, c10, c11, c12, c13, c14, c15]).none = true ∨ (six [c0, c1, c2, c3, c4, c5, c6, c7, c8, c9, c10, c11, c12, c13, c14, c15]).group = true
    · rw [if_pos e2, if_pos e2]; rfl
    · rw [if_neg e2, if_neg e2]; rfl
theorem Rq3 (n : Int) (h0 : 0 ≤ n) (h1 : n ≤ 65535) : pReq (pxU (req3 5 1 0 n)) = some (if n = 0 then pFailed 1 else pFailed 4) := by
  have hp : pPort (pxU (req3 5 1 0 n)).up 9 = n := port_put n h0 h1
  have hf : pField (pxU (req3 5 1 0 n)).up 4 = (ofInts [110, 111, 110, 101], 9, true) := rfl
  have hne : ¬ ofInts [110, 111, 110, 101] = noX := by decide
  have k31 : ¬ (3 : Int) = 1 := by decide
  have k34 : ¬ (3 : Int) = 4 := by decide
  unfold pReq
  refine (if_neg (len4 _ _ _ _ _)).trans ((if_neg ok02).trans ((if_neg ok1).trans ((if_neg k31).trans ((if_neg k34).trans ((if_pos rfl).trans ?_)))))
  rw [hf]
  refine (if_pos (show true = true ∧ (9 : Int) + 2 ≤ (11 : Nat) from ⟨rfl, by decide⟩)).trans ?_
  show (if ofInts [110, 111, 110, 101] = noX ∨ pPort (pxU (req3 5 1 0 n)).up 9 = 0 then some (pFailed 1) else some (pFailed 4)) = _
  rw [hp]
  by_cases e : n = 0
  · rw [if_pos (.inr e), if_pos e]
  · rw [if_neg (fun hh => hh.elim hne e), if_neg e]
end Go.Proofs.Ytabcaiecoiejkaa

