/- The plain law of layer 18's bytes: what is built is read again as it was. -/
import Derived.Test.YtabcaiecoiejkaaG6
set_option maxRecDepth 100000
set_option linter.unusedSimpArgs false
set_option linter.unusedVariables false
set_option maxHeartbeats 800000
namespace Go.Proofs.Ytabcaiecoiejkaa
open Go K

theorem bt_put (v : Int) (k i : Nat) (h : i < k) : bt (putB v k) i = byt v (k - 1 - i) := by
  have hs : Small (putL v k) := by
    intro x hx
    induction k with
    | zero => simp [putL] at hx
    | succ n ih => 
      simp only [putL, List.mem_cons] at hx
      rcases hx with rfl | hx
      · exact ⟨(byt_range _ _).1, (byt_range _ _).2⟩
      · by_cases hn : i < n
        · exact ih hn hx
        · clear ih h
          induction n with
          | zero => simp [putL] at hx
          | succ m ih2 =>
            simp only [putL, List.mem_cons] at hx
            rcases hx with rfl | hx
            · exact ⟨(byt_range _ _).1, (byt_range _ _).2⟩
            · exact ih2 hx (by omega)
  have e0 := bt_ofInts (putL v k) i (by rw [putL_length]; exact h) hs
  rw [putB, e0]
  clear e0 hs
  induction k generalizing i with
  | zero => omega
  | succ n ih =>
    cases i with
    | zero => simp [putL]
    | succ j =>
      simp only [putL, List.getElem_cons_succ]
      rw [ih j (by omega)]
      congr 1
      omega
theorem getN_put1 (v : Int) (h0 : 0 ≤ v) (h1 : v ≤ 255) : getN (putB v 1) 0 1 = v := by
  rw [getN_one, bt_put v 1 0 (by omega)]
  unfold byt
  simp only [Nat.sub_self, Nat.sub_zero, Int.pow_zero, Int.ediv_one]
  omega
theorem getN_put4 (v : Int) (h0 : 0 ≤ v) (h1 : v ≤ 4294967295) : getN (putB v 4) 0 4 = v := by
  show ((((0 * 256 + bt (putB v 4) 0) * 256 + bt (putB v 4) 1) * 256 + bt (putB v 4) 2) * 256 + bt (putB v 4) 3) = v
  rw [bt_put v 4 0 (by omega), bt_put v 4 1 (by omega), bt_put v 4 2 (by omega), bt_put v 4 3 (by omega)]
  show ((((0 * 256 + byt v 3) * 256 + byt v 2) * 256 + byt v 1) * 256 + byt v 0) = v
  simp only [byt, show (256 : Int) ^ 3 = 16777216 from rfl, show (256 : Int) ^ 2 = 65536 from rfl, show (256 : Int) ^ 1 = 256 from rfl, show (256 : Int) ^ 0 = 1 from rfl]
  omega
theorem skp (v : Int) (k : Nat) (Y : ByteArray) (a n : Nat) : getN (putB v k ++ Y) (k + a) n = getN Y a n := by
  have := getN_right (putB v k) Y a n
  rwa [putB_size] at this
theorem fld (v : Int) (k : Nat) (Y : ByteArray) (h : getN (putB v k) 0 k = v) : getN (putB v k ++ Y) 0 k = v := by
  rw [getN_left _ _ _ _ (by rw [putB_size]; omega), h]
theorem ext_mid (p q r : ByteArray) (i j : Nat) (hi : i = p.size) (hj : j = p.size + q.size) : (p ++ (q ++ r)).extract i j = q := by
  subst hi hj
  rw [ext_right p (q ++ r) q.size, ext_left]
theorem ext_tail (p q : ByteArray) (i j : Nat) (hi : i = p.size) (hj : j = p.size + q.size) : (p ++ q).extract i j = q := by
  have := ext_mid p q ByteArray.empty i j hi hj
  rwa [ByteArray.append_empty] at this
theorem sread_fuel (x : ByteArray) : ∀ (n m i : Nat) (s : Sg), x.size - i ≤ n → x.size - i ≤ m → sread x n i s = sread x m i s
  | 0, 0, _, _, _, _ => rfl
  | 0, m + 1, i, s, h1, _ => by rw [sread, sread, if_pos (by omega)]
  | n + 1, 0, i, s, _, h2 => by rw [sread, sread, if_pos (by omega)]
  | n + 1, m + 1, i, s, h1, h2 => by
    rw [sread, sread]
    have hb := bt_range x (i + 1)
    by_cases c : x.size ≤ i
    · rw [if_pos c, if_pos c]
    rw [if_neg c, if_neg c, sread_fuel x n m (i + 1) s (by omega) (by omega), sread_fuel x n m (i + 4) _ (by omega) (by omega), sread_fuel x n m (i + 3) _ (by omega) (by omega)]
    by_cases e : x.size ≤ i + 1 ∨ bt x (i + 1) < 2 ∨ (x.size : Int) - i < bt x (i + 1)
    · rw [if_pos e, if_pos e]
    rw [if_neg e, if_neg e, sread_fuel x n m (i + (bt x (i + 1)).toNat) s (by omega) (by omega)]
theorem sread_shift (p q : ByteArray) : ∀ (n i : Nat) (s : Sg), sread (p ++ q) n (p.size + i) s = sread q n i s
  | 0, _, _ => rfl
  | n + 1, i, s => by
    rw [sread, sread, ByteArray.size_append, bt_right, Nat.add_assoc p.size i 1, Nat.add_assoc p.size i 2, Nat.add_assoc p.size i 3, Nat.add_assoc p.size i 4, bt_right, bt_right, getN_right,
      sread_shift p q n (i + 1), sread_shift p q n (i + 4), sread_shift p q n (i + 3), Nat.add_assoc p.size i (bt q (i + 1)).toNat, sread_shift p q n (i + (bt q (i + 1)).toNat)]
    have e : (((p.size + q.size : Nat) : Int) - ((p.size + i : Nat) : Int)) = (q.size : Int) - i := by omega
    simp only [Nat.add_le_add_iff_left, e]
/-- an option that tells the greatest size -/
theorem sread_mss (m : Int) (q : ByteArray) (n : Nat) (s : Sg) (h0 : 0 ≤ m) (h1 : m ≤ 65535) : sread (⟨#[2, 4]⟩ ++ putB m 2 ++ q) (n + 1) 0 s = sread q n 0 { s with mss := m } := by
  have z2 : (ByteArray.mk #[2, 4]).size = 2 := rfl
  have hp : (⟨#[2, 4]⟩ ++ putB m 2 : ByteArray).size = 4 := by rw [ByteArray.size_append, putB_size]; rfl
  have hz : (⟨#[2, 4]⟩ ++ putB m 2 ++ q : ByteArray).size = 4 + q.size := by rw [ByteArray.size_append, hp]
  have b0 : bt (⟨#[2, 4]⟩ ++ putB m 2 ++ q) 0 = 2 := by rw [bt_left _ _ _ (by omega), bt_left _ _ _ (by omega)]; rfl
  have b1 : bt (⟨#[2, 4]⟩ ++ putB m 2 ++ q) (0 + 1) = 4 := by rw [bt_left _ _ _ (by omega), bt_left _ _ _ (by omega)]; rfl
  have g2 : getN (⟨#[2, 4]⟩ ++ putB m 2 ++ q) (0 + 2) 2 = m := by
    rw [getN_left _ _ _ _ (by omega)]
    have := getN_right ⟨#[2, 4]⟩ (putB m 2) 0 2
    rw [z2] at this
    exact this.trans (getN_put m h0 h1)
  rw [sread, if_neg (by omega), b0, if_neg (by omega), if_neg (by omega), b1, if_neg (by omega), if_pos rfl, if_pos rfl, g2]
  have := sread_shift (⟨#[2, 4]⟩ ++ putB m 2) q n 0 { s with mss := m }
  rwa [hp] at this
theorem sread_scale (c : Int) (q : ByteArray) (n : Nat) (s : Sg) (h0 : 0 ≤ c) (h1 : c ≤ 14) : sread (⟨#[1, 3, 3]⟩ ++ putB c 1 ++ q) (n + 2) 0 s = sread q n 0 { s with scale := c } := by
  have z3 : (ByteArray.mk #[1, 3, 3]).size = 3 := rfl
  have hp : (⟨#[1, 3, 3]⟩ ++ putB c 1 : ByteArray).size = 4 := by rw [ByteArray.size_append, putB_size]; rfl
  have hz : (⟨#[1, 3, 3]⟩ ++ putB c 1 ++ q : ByteArray).size = 4 + q.size := by rw [ByteArray.size_append, hp]
  have b0 : bt (⟨#[1, 3, 3]⟩ ++ putB c 1 ++ q) 0 = 1 := by rw [bt_left _ _ _ (by omega), bt_left _ _ _ (by omega)]; rfl
  have b1 : bt (⟨#[1, 3, 3]⟩ ++ putB c 1 ++ q) (0 + 1) = 3 := by rw [bt_left _ _ _ (by omega), bt_left _ _ _ (by omega)]; rfl
  have b2 : bt (⟨#[1, 3, 3]⟩ ++ putB c 1 ++ q) (0 + 1 + 1) = 3 := by rw [bt_left _ _ _ (by omega), bt_left _ _ _ (by omega)]; rfl
  have g3 : bt (⟨#[1, 3, 3]⟩ ++ putB c 1 ++ q) (0 + 1 + 2) = c := by
    rw [bt_left _ _ _ (by omega)]
    have := bt_right ⟨#[1, 3, 3]⟩ (putB c 1) 0
    rw [z3] at this
    have h := getN_put1 c h0 (by omega)
    rw [getN_one] at h
    exact this.trans h
  rw [sread, if_neg (by omega), b0, if_neg (by omega), if_pos rfl, sread, if_neg (by omega), b1, if_neg (by omega), if_neg (by omega), b2, if_neg (by omega), if_neg (by omega), if_pos rfl, if_pos rfl, g3, if_neg (by omega)]
  have := sread_shift (⟨#[1, 3, 3]⟩ ++ putB c 1) q n 0 { s with scale := c }
  rwa [hp] at this
theorem sread_end (n : Nat) (s : Sg) : sread noB n 0 s = (s, true) := by
  cases n with
  | zero => rfl
  | succ n => rw [sread, if_pos (show noB.size ≤ 0 from Nat.le_refl _)]
/-- the options of a right segment, as built, are read as they were -/
theorem sread_opt (s : Sg) (n : Nat) (hg : SRight s) (hn : 3 ≤ n) : sread (sopt s) n 0 { s with mss := 0, scale := -1 } = (s, true) := by
  obtain ⟨h1, h2, h3, h4, h5, h6, h7, h8, h9, h10, h11, h12⟩ := hg
  obtain ⟨m, rfl⟩ : ∃ m, n = m + 3 := ⟨n - 3, by omega⟩
  have hB : ∀ x : ByteArray, x ++ noB = x := fun x => ByteArray.append_empty
  have hE : ∀ x : ByteArray, noB ++ x = x := fun x => ByteArray.empty_append
  unfold sopt sopt1
  by_cases hm : 0 < s.mss <;> by_cases hs : 0 ≤ s.scale
  · rw [if_pos hs, if_pos hm, sread_mss s.mss _ (m + 2) _ h7 h8, ← hB (⟨#[1, 3, 3]⟩ ++ putB s.scale 1), sread_scale s.scale noB m _ hs h12, sread_end]
  · have e : s.scale = -1 := by omega
    rw [if_neg hs, if_pos hm, ← hB (⟨#[2, 4]⟩ ++ putB s.mss 2), sread_mss s.mss _ (m + 2) _ h7 h8, sread_end, ← e]
  · have e : s.mss = 0 := by omega
    rw [if_pos hs, if_neg hm, hE, ← hB (⟨#[1, 3, 3]⟩ ++ putB s.scale 1), sread_scale s.scale noB (m + 1) _ hs h12, sread_end, ← e]
  · have e : s.mss = 0 := by omega
    have e' : s.scale = -1 := by omega
    rw [if_neg hs, if_neg hm, sread_end, ← e, ← e']
end Go.Proofs.Ytabcaiecoiejkaa
