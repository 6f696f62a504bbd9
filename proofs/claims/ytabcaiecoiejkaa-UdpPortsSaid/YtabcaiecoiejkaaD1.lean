/- The plain law of layer 16's bytes: what is built is read again, whatever stands behind. -/
import Derived.Test.YtabcaiecoiejkaaB5
set_option maxRecDepth 100000
set_option linter.unusedSimpArgs false
set_option linter.unusedVariables false
namespace Go.Proofs.Ytabcaiecoiejkaa
open Go K

theorem app_list (p q : ByteArray) : (p ++ q).data.toList = p.data.toList ++ q.data.toList := by
  rw [ByteArray.data_append, Array.toList_append]
theorem bt_right (p q : ByteArray) (i : Nat) : bt (p ++ q) (p.size + i) = bt q i := by
  unfold bt
  rw [app_list, List.getD_eq_getElem?_getD, List.getD_eq_getElem?_getD, List.getElem?_append_right (by rw [Array.length_toList]; exact Nat.le_add_right _ _), Array.length_toList]
  rw [show p.size + i - p.data.size = i from by show p.size + i - p.size = i; omega]
theorem bt_left (p q : ByteArray) (i : Nat) (h : i < p.size) : bt (p ++ q) i = bt p i := by
  unfold bt
  rw [app_list, List.getD_eq_getElem?_getD, List.getD_eq_getElem?_getD, List.getElem?_append_left (by rw [Array.length_toList]; exact h)]
theorem getN_right (p q : ByteArray) (a : Nat) : ∀ n, getN (p ++ q) (p.size + a) n = getN q a n
  | 0 => rfl
  | n + 1 => by rw [getN, getN, getN_right p q a n, Nat.add_assoc, bt_right]
theorem getN_left (p q : ByteArray) (a : Nat) : ∀ n, a + n ≤ p.size → getN (p ++ q) a n = getN p a n
  | 0, _ => rfl
  | n + 1, h => by rw [getN, getN, getN_left p q a n (by omega), bt_left _ _ _ (by omega)]
theorem getN_put (v : Int) (h0 : 0 ≤ v) (h1 : v ≤ 65535) : getN (putB v 2) 0 2 = v := by
  have hs : Small (putL v 2) := by
    intro x hx
    simp only [putL, List.mem_cons, List.not_mem_nil, or_false] at hx
    rcases hx with rfl | rfl <;> exact ⟨(byt_range _ _).1, (byt_range _ _).2⟩
  have e0 := bt_ofInts (putL v 2) 0 (by rw [putL_length]; decide) hs
  have e1 := bt_ofInts (putL v 2) 1 (by rw [putL_length]; decide) hs
  simp only [getN, putB]
  rw [e0, e1]
  simp only [putL, byt, List.getElem_cons_zero, List.getElem_cons_succ]
  omega
theorem ext_left (p q : ByteArray) : (p ++ q).extract 0 p.size = p := by
  apply ByteArray.ext
  apply Array.ext'
  rw [Lib.extract_data, app_list, List.drop_zero, Nat.sub_zero]
  exact List.take_left' (by rw [Array.length_toList]; rfl)
theorem ext_right (p q : ByteArray) (j : Nat) : (p ++ q).extract p.size (p.size + j) = q.extract 0 j := by
  apply ByteArray.ext
  apply Array.ext'
  rw [Lib.extract_data, Lib.extract_data, app_list, List.drop_zero, List.drop_left' (by rw [Array.length_toList]; rfl)]
  congr 1
  omega
theorem round (a a' : Adr) (s d : Int) (x y : ByteArray) (hg : UGood a a' s d) (hl : x.size ≤ 65507) : uparse a a' (ubytes a a' s d x ++ y) = ((s, d, x), 0) := by
  obtain ⟨he, hs0, hs1, hd0, hd1⟩ := hg
  have hf := ufirst_size s d x
  have hu := usum_range a a' (ufirst s d x) x
  generalize hU : usum a a' (ufirst s d x) x = u at hu
  generalize hF : ufirst s d x = f at hf
  have hB : ubytes a a' s d x ++ y = f ++ (putB u 2 ++ (x ++ y)) := by
    rw [ubytes, hF, show usum a a' f x = u from by rw [← hF]; exact hU, ByteArray.append_assoc, ByteArray.append_assoc]
  have hF' : f = putB s 2 ++ (putB d 2 ++ putB (8 + x.size) 2) := by rw [← hF, ufirst, ByteArray.append_assoc]
  have p2 : ∀ v, (putB v 2).size = 2 := fun v => putB_size v 2
  have g0 : getN f 0 2 = s := by rw [hF', getN_left _ _ _ _ (by rw [p2]; decide), getN_put s hs0 hs1]
  have g2 : getN f 2 2 = d := by
    have := getN_right (putB s 2) (putB d 2 ++ putB (8 + x.size) 2) 0 2
    rw [p2] at this
    rw [hF', this, getN_left _ _ _ _ (by rw [p2]; decide), getN_put d hd0 hd1]
  have g4 : getN f 4 2 = 8 + x.size := by
    have h1 := getN_right (putB s 2) (putB d 2 ++ putB (8 + x.size) 2) 2 2
    have h2 := getN_right (putB d 2) (putB (8 + x.size) 2) 0 2
    rw [p2] at h1 h2
    rw [hF', h1, h2, getN_put _ (by omega) (by omega)]
  have G0 : getN (f ++ (putB u 2 ++ (x ++ y))) 0 2 = s := by rw [getN_left _ _ _ _ (by omega), g0]
  have G2 : getN (f ++ (putB u 2 ++ (x ++ y))) 2 2 = d := by rw [getN_left _ _ _ _ (by omega), g2]
  have G4 : getN (f ++ (putB u 2 ++ (x ++ y))) 4 2 = 8 + x.size := by rw [getN_left _ _ _ _ (by omega), g4]
  have G6 : getN (f ++ (putB u 2 ++ (x ++ y))) 6 2 = u := by
    have h1 := getN_right f (putB u 2 ++ (x ++ y)) 0 2
    rw [hf] at h1
    rw [h1, getN_left _ _ _ _ (by rw [p2]; decide), getN_put u (by omega) (by omega)]
  have E6 : (f ++ (putB u 2 ++ (x ++ y))).extract 0 6 = f := by
    have := ext_left f (putB u 2 ++ (x ++ y))
    rwa [hf] at this
  have E8 : (f ++ (putB u 2 ++ (x ++ y))).extract 8 (8 + x.size) = x := by
    have h1 := ext_right (f ++ putB u 2) (x ++ y) x.size
    rw [ByteArray.size_append, hf, p2] at h1
    rw [← ByteArray.append_assoc, h1, ext_left]
  have hsz : (f ++ (putB u 2 ++ (x ++ y))).size = 8 + x.size + y.size := by
    rw [ByteArray.size_append, ByteArray.size_append, ByteArray.size_append, hf, p2]; omega
  have hN : (8 + (x.size : Int)).toNat = 8 + x.size := by omega
  rw [hB]
  unfold uparse
  rw [if_pos he, if_neg (by omega), G4, if_neg (by rw [hsz]; omega), G6, hN, E6, E8, if_neg (fun h => h.2 (by rw [← hF, hU])), G0, G2]
end Go.Proofs.Ytabcaiecoiejkaa
