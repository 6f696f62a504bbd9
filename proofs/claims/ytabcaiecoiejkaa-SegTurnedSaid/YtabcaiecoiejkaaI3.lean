/- The plain law of layer 18's turned byte: bytes of which one was changed are refused. -/
import Derived.Test.YtabcaiecoiejkaaH5
set_option maxRecDepth 100000
set_option linter.unusedSimpArgs false
set_option linter.unusedVariables false
set_option maxHeartbeats 800000
namespace Go.Proofs.Ytabcaiecoiejkaa
open Go K

def turned (x : ByteArray) (k : Nat) (v : Int) : ByteArray := x.extract 0 k ++ ofInts [v] ++ x.extract (k + 1) x.size
theorem bL_extract (x : ByteArray) (i j : Nat) : bL (x.extract i j) = ((bL x).drop i).take (j - i) := by
  unfold bL
  rw [Lib.extract_data, List.map_take, List.map_drop]
theorem bL_one (v : Int) (h0 : 0 ≤ v) (h1 : v ≤ 255) : bL (ofInts [v]) = [v] := by
  apply List.ext_getElem?
  intro i
  have hs : Small [v] := by intro x hx; simp only [List.mem_cons, List.not_mem_nil, or_false] at hx; subst hx; exact ⟨h0, h1⟩
  cases i with
  | zero =>
    rw [bL_get _ 0 (by rw [ofInts_size]; exact Nat.one_pos), bt_ofInts [v] 0 Nat.one_pos hs]
    rfl
  | succ n =>
    rw [List.getElem?_eq_none (by rw [bL_length, ofInts_size]; simp), List.getElem?_eq_none (by simp)]
theorem bL_turned (x : ByteArray) (k : Nat) (v : Int) (hk : k < x.size) (h0 : 0 ≤ v) (h1 : v ≤ 255) : bL (turned x k v) = (bL x).set k v := by
  unfold turned
  rw [bL_append, bL_append, bL_extract, bL_extract, bL_one v h0 h1, List.set_eq_take_append_cons_drop, if_pos (by rw [bL_length]; exact hk), List.drop_zero, Nat.sub_zero, List.append_assoc]
  congr 1
  rw [List.singleton_append, List.take_of_length_le (by rw [List.length_drop, bL_length]; exact Nat.le_refl _)]
theorem size_turned (x : ByteArray) (k : Nat) (v : Int) (hk : k < x.size) : (turned x k v).size = x.size := by
  unfold turned
  rw [ByteArray.size_append, ByteArray.size_append, ByteArray.size_extract, ByteArray.size_extract, ofInts_size, List.length_singleton]
  omega
theorem bt_bL (x : ByteArray) (i : Nat) (h : i < x.size) : bt x i = (bL x).getD i 0 := by
  rw [List.getD_eq_getElem?_getD, bL_get x i h]; rfl
theorem bt_turned (x : ByteArray) (k i : Nat) (v : Int) (hk : k < x.size) (hi : i < x.size) (h0 : 0 ≤ v) (h1 : v ≤ 255) : bt (turned x k v) i = if i = k then v else bt x i := by
  rw [bt_bL _ _ (by rw [size_turned x k v hk]; exact hi), bL_turned x k v hk h0 h1, bt_bL _ _ hi, List.getD_eq_getElem?_getD, List.getElem?_set, List.getD_eq_getElem?_getD]
  by_cases e : i = k
  · subst e
    rw [if_pos rfl, if_pos rfl, if_pos (by rw [bL_length]; exact hi)]; rfl
  · rw [if_neg (fun h => e h.symm), if_neg e]
theorem acc_set : ∀ (od : Bool) (l : List Int) (k : Nat) (v : Int), k < l.length → ∃ c : Int, (c = 1 ∨ c = 256) ∧ acc od (l.set k v) = acc od l + (v - l.getD k 0) * c
  | od, [], k, v, h => absurd h (by simp)
  | od, x :: l, 0, v, _ => by
    refine ⟨bif od then 1 else 256, by cases od <;> simp, ?_⟩
    simp only [List.set_cons_zero, acc, List.getD_cons_zero]
    cases od <;> simp only [cond_true, cond_false] <;> omega
  | od, x :: l, k + 1, v, h => by
    obtain ⟨c, hc, he⟩ := acc_set (!od) l k v (by simpa using h)
    refine ⟨c, hc, ?_⟩
    simp only [List.set_cons_succ, acc, List.getD_cons_succ]
    rw [he]
    omega
theorem csum_inj {x y : Int} (hx : 0 ≤ x) (hy : 0 ≤ y) (h : csum x = csum y) (h1 : x - y < 65535) (h2 : y - x < 65535) : x = y := by
  unfold csum at h
  by_cases e : x = 0 <;> by_cases e' : y = 0
  · omega
  · rw [if_pos e, if_neg e'] at h; omega
  · rw [if_neg e, if_pos e'] at h; omega
  · rw [if_neg e, if_neg e'] at h; omega
/-- one byte changed: another checksum -/
theorem csum_set (l : List Int) (k : Nat) (v : Int) (hl : Small l) (hk : k < l.length) (h0 : 0 ≤ v) (h1 : v ≤ 255) (hne : v ≠ l.getD k 0) : csum (acc false (l.set k v)) ≠ csum (acc false l) := by
  intro h
  obtain ⟨c, hc, he⟩ := acc_set false l k v hk
  have hx : 0 ≤ l.getD k 0 ∧ l.getD k 0 ≤ 255 := by
    rw [List.getD_eq_getElem?_getD, List.getElem?_eq_getElem hk]
    exact hl _ (List.getElem_mem hk)
  have hs : Small (l.set k v) := by
    intro x hx
    rcases List.mem_or_eq_of_mem_set hx with h | h
    · exact hl x h
    · subst h; exact ⟨h0, h1⟩
  have r1 := acc_range false l hl
  have r2 := acc_range false _ hs
  have := csum_inj r2.1 r1.1 h (by rcases hc with rfl | rfl <;> omega) (by rcases hc with rfl | rfl <;> omega)
  rcases hc with rfl | rfl <;> omega
theorem flat_three (p q r : ByteArray) : flat [p, q, r] = bL p ++ (bL q ++ bL r) := by
  simp only [flat, List.flatMap_cons, List.flatMap_nil, List.append_nil]
/-- what right bytes hold: the checksum fits -/
theorem sum_fits (a a' : Adr) (x : ByteArray) (s : Sg) (h : sparse a a' x = (s, 0)) : 20 ≤ x.size ∧ x.size ≤ 65515 ∧ ssum a a' (x.extract 0 16) (x.extract 18 x.size) = getN x 16 2 := by
  unfold sparse at h
  split at h
  · split at h
    · exact absurd (congrArg Prod.snd h) (by simp)
    · split at h
      · exact absurd (congrArg Prod.snd h) (by simp)
      · split at h
        · exact absurd (congrArg Prod.snd h) (by simp)
        · rename_i h1 h2 h3
          refine ⟨by omega, ?_, ?_⟩
          · by_cases e : 65515 < x.size
            · exact absurd (.inl e) h3
            · omega
          · exact Classical.byContradiction fun e => h3 (.inr e)
  · exact absurd (congrArg Prod.snd h) (by simp)
theorem turned_bad (a a' : Adr) (x : ByteArray) (s : Sg) (k : Nat) (v : Int) (he : ends a a' = true) (hp : sparse a a' x = (s, 0)) (hk : k < x.size) (h0 : 0 ≤ v) (h1 : v ≤ 255) (hne : v ≠ bt x k) :
    (sparse a a' (turned x k v)).2 = 73 ∨ (sparse a a' (turned x k v)).2 = 72 := by
  obtain ⟨h20, hb, hc⟩ := sum_fits a a' x s hp
  have hsz := size_turned x k v hk
  have hbl := bL_turned x k v hk h0 h1
  have key : ssum a a' ((turned x k v).extract 0 16) ((turned x k v).extract 18 (turned x k v).size) ≠ getN (turned x k v) 16 2 := by
    rw [hsz]
    have e16 : (x.extract 0 16).size = 16 := by rw [ByteArray.size_extract]; omega
    have e16' : ((turned x k v).extract 0 16).size = 16 := by rw [ByteArray.size_extract]; omega
    have e18 : (x.extract 18 x.size).size = x.size - 18 := by rw [ByteArray.size_extract]; omega
    have e18' : ((turned x k v).extract 18 x.size).size = x.size - 18 := by rw [ByteArray.size_extract]; omega
    have b1 : bL ((turned x k v).extract 0 16) = ((bL x).set k v).take 16 := by rw [bL_extract, hbl, List.drop_zero]
    have b1o : bL (x.extract 0 16) = (bL x).take 16 := by rw [bL_extract, List.drop_zero]
    have b2 : bL ((turned x k v).extract 18 x.size) = ((bL x).set k v).drop 18 := by rw [bL_extract, hbl, List.take_of_length_le (by rw [List.length_drop, List.length_set, bL_length]; exact Nat.le_refl _)]
    have b2o : bL (x.extract 18 x.size) = (bL x).drop 18 := by rw [bL_extract, List.take_of_length_le (by rw [List.length_drop, bL_length]; exact Nat.le_refl _)]
    have g16 := bt_turned x k 16 v hk (by omega) h0 h1
    have g17 := bt_turned x k 17 v hk (by omega) h0 h1
    have gY : getN (turned x k v) 16 2 = (0 * 256 + bt (turned x k v) 16) * 256 + bt (turned x k v) 17 := rfl
    have gX : getN x 16 2 = (0 * 256 + bt x 16) * 256 + bt x 17 := rfl
    have r16 := bt_range x 16
    have r17 := bt_range x 17
    unfold ssum at hc ⊢
    rw [e16, e18] at hc
    rw [e16', e18']
    generalize pseudo a a' 6 (((16 : Nat) : Int) + 2 + ((x.size - 18 : Nat) : Int)) = ps at hc ⊢
    rw [flat_three, b1o, b2o] at hc
    rw [flat_three, b1, b2]
    have hsm : Small (bL ps ++ ((bL x).take 16 ++ (bL x).drop 18)) := by
      intro y hy
      rcases List.mem_append.1 hy with h | h
      · exact bL_small ps y h
      · rcases List.mem_append.1 h with h | h
        · exact bL_small x y (List.mem_of_mem_take h)
        · exact bL_small x y (List.mem_of_mem_drop h)
    have hlx := bL_length x
    have hbk : bt x k = (bL x).getD k 0 := bt_bL x k hk
    by_cases k16 : k < 16
    · have e1 : ((bL x).set k v).take 16 = ((bL x).take 16).set k v := by rw [List.take_set]
      have e2 : ((bL x).set k v).drop 18 = (bL x).drop 18 := by rw [List.drop_set_of_lt (by omega)]
      rw [e1, e2]
      have e3 : bL ps ++ (((bL x).take 16).set k v ++ (bL x).drop 18) = (bL ps ++ ((bL x).take 16 ++ (bL x).drop 18)).set (ps.size + k) v := by
        rw [List.set_append_right _ _ (by rw [bL_length]; omega), bL_length, show ps.size + k - ps.size = k from by omega, List.set_append_left _ _ (by rw [List.length_take]; omega)]
      rw [e3]
      have hd : (bL ps ++ ((bL x).take 16 ++ (bL x).drop 18)).getD (ps.size + k) 0 = bt x k := by
        rw [hbk, List.getD_eq_getElem?_getD, List.getElem?_append_right (by rw [bL_length]; omega), bL_length, show ps.size + k - ps.size = k from by omega, List.getElem?_append_left (by rw [List.length_take]; omega), List.getElem?_take_of_lt k16, List.getD_eq_getElem?_getD]
      have := csum_set (bL ps ++ ((bL x).take 16 ++ (bL x).drop 18)) (ps.size + k) v hsm (by rw [List.length_append, List.length_append, List.length_take, bL_length]; omega) h0 h1 (by rw [hd]; exact hne)
      rw [if_neg (by omega)] at g16 g17
      rw [gY, g16, g17, ← gX, ← hc]
      omega
    · by_cases k18 : 18 ≤ k
      · have e1 : ((bL x).set k v).take 16 = (bL x).take 16 := by rw [List.take_set_of_le (by omega)]
        have e2 : ((bL x).set k v).drop 18 = ((bL x).drop 18).set (k - 18) v := by rw [List.drop_set, if_neg (by omega)]
        rw [e1, e2]
        have lt16 : ((bL x).take 16).length = 16 := by rw [List.length_take]; omega
        have e3 : bL ps ++ ((bL x).take 16 ++ ((bL x).drop 18).set (k - 18) v) = (bL ps ++ ((bL x).take 16 ++ (bL x).drop 18)).set (ps.size + (16 + (k - 18))) v := by
          rw [List.set_append_right _ _ (by rw [bL_length]; omega), bL_length, show ps.size + (16 + (k - 18)) - ps.size = 16 + (k - 18) from by omega, List.set_append_right _ _ (by rw [lt16]; omega), lt16, show 16 + (k - 18) - 16 = k - 18 from by omega]
        rw [e3]
        have hd : (bL ps ++ ((bL x).take 16 ++ (bL x).drop 18)).getD (ps.size + (16 + (k - 18))) 0 = bt x k := by
          rw [hbk, List.getD_eq_getElem?_getD, List.getElem?_append_right (by rw [bL_length]; omega), bL_length, show ps.size + (16 + (k - 18)) - ps.size = 16 + (k - 18) from by omega, List.getElem?_append_right (by rw [lt16]; omega), lt16, List.getElem?_drop, List.getD_eq_getElem?_getD, show 18 + (16 + (k - 18) - 16) = k from by omega]
        have := csum_set (bL ps ++ ((bL x).take 16 ++ (bL x).drop 18)) (ps.size + (16 + (k - 18))) v hsm (by rw [List.length_append, List.length_append, List.length_drop, lt16, bL_length]; omega) h0 h1 (by rw [hd]; exact hne)
        rw [if_neg (by omega)] at g16 g17
        rw [gY, g16, g17, ← gX, ← hc]
        omega
      · have e1 : ((bL x).set k v).take 16 = (bL x).take 16 := by rw [List.take_set_of_le (by omega)]
        have e2 : ((bL x).set k v).drop 18 = (bL x).drop 18 := by rw [List.drop_set_of_lt (by omega)]
        rw [e1, e2, hc, gY, gX, g16, g17]
        by_cases e : k = 16
        · subst e; rw [if_pos rfl, if_neg (by omega)]; omega
        · have e' : k = 17 := by omega
          subst e'; rw [if_neg (by omega), if_pos rfl]; omega
  unfold sparse
  rw [if_pos he, if_neg (by omega)]
  by_cases hh : shead (turned x k v) < 20 ∨ (turned x k v).size < shead (turned x k v)
  · rw [if_pos hh]; exact .inr rfl
  · rw [if_neg hh, if_pos (.inr key)]; exact .inl rfl
theorem xor_ne (a b : Int) (h1 : 0 ≤ a) (h2 : a ≤ 255) (h3 : 0 < b) (h4 : b ≤ 255) : bits .xor .u8 a b ≠ a ∧ 0 ≤ bits .xor .u8 a b ∧ bits .xor .u8 a b ≤ 255 := by
  rw [u8_xor a b h1 (by omega) (by omega) (by omega)]
  have hx : a.toNat ^^^ b.toNat < 2 ^ 8 := Nat.xor_lt_two_pow (by omega) (by omega)
  refine ⟨fun h => ?_, by omega, by omega⟩
  have h5 : a.toNat ^^^ b.toNat = a.toNat ^^^ 0 := by rw [Nat.xor_zero]; omega
  have h6 : b.toNat = 0 := by
    have h7 := congrArg (fun x => a.toNat ^^^ x) h5
    simpa [← Nat.xor_assoc] using h7
  omega
end Go.Proofs.Ytabcaiecoiejkaa
