/- Plain words: a number's bytes, the number that bytes make, the checksum; no program in sight. -/
import Derived.Test.YtabcaiecoiejkaaK8
import Derived.Laws.BitsAllLaws
set_option maxRecDepth 100000
set_option linter.unusedVariables false
namespace Go.Proofs.Ytabcaiecoiejkaa
open Go K

/-- byte number k of x, counted from the lowest -/
def byt (x : Int) (k : Nat) : Int := x / 256 ^ k % 256
theorem byt_range (x : Int) (k : Nat) : 0 ≤ byt x k ∧ byt x k ≤ 255 := by unfold byt; omega
/-- x in so many bytes, the highest first -/
def putL (x : Int) : Nat → List Int
  | 0 => []
  | k + 1 => byt x k :: putL x k
def putB (x : Int) (k : Nat) : ByteArray := ofInts (putL x k)
theorem putL_length (x : Int) : ∀ k, (putL x k).length = k
  | 0 => rfl
  | k + 1 => by simp [putL, putL_length x k]
theorem wrap_byt (x : Int) (k : Nat) : IntKind.u8.wrap (x.fdiv (256 ^ k)) = byt x k := by
  rw [Int.fdiv_eq_ediv_of_nonneg _ (Int.pow_nonneg (by omega)), IntKind.wrap_u8]
  rfl
theorem byt0 (x : Int) : IntKind.u8.wrap (x.fdiv 1) = byt x 0 := wrap_byt x 0
theorem byt1 (x : Int) : IntKind.u8.wrap (x.fdiv 256) = byt x 1 := wrap_byt x 1
theorem byt2 (x : Int) : IntKind.u8.wrap (x.fdiv 65536) = byt x 2 := wrap_byt x 2
theorem byt3 (x : Int) : IntKind.u8.wrap (x.fdiv 16777216) = byt x 3 := wrap_byt x 3

theorem ofInts_size (l : List Int) : (ofInts l).size = l.length := by simp [ofInts, ByteArray.size]

theorem putB_size (x : Int) (k : Nat) : (putB x k).size = k := by rw [putB, ofInts_size, putL_length]
theorem byt_wrap (x : Int) (k : Nat) (h0 : 0 ≤ x) (h1 : x < 18446744073709551616) : IntKind.u64.wrap x = x := wru64 h0 (by omega)

/-- the number that n bytes from 'at_' on make -/
def getN (s : ByteArray) (at_ : Nat) : Nat → Int
  | 0 => 0
  | n + 1 => getN s at_ n * 256 + bt s (at_ + n)
theorem getN_range (s : ByteArray) (a : Nat) : ∀ n, 0 ≤ getN s a n ∧ getN s a n < 256 ^ n
  | 0 => by simp [getN]
  | n + 1 => by
    have h := getN_range s a n
    have h2 := bt_range s (a + n)
    unfold getN
    rw [Int.pow_succ]
    omega
theorem or_byte (x b : Int) (h0 : 0 ≤ x) (h1 : x < 72057594037927936) (hb : 0 ≤ b) (hb1 : b ≤ 255) : bits .or .u64 (x * 256) b = x * 256 + b := by
  obtain ⟨m, rfl⟩ := Int.eq_ofNat_of_zero_le h0
  obtain ⟨r, rfl⟩ := Int.eq_ofNat_of_zero_le hb
  have hr : r < 2 ^ 8 := by omega
  have e : (m * 256) ||| r = m * 256 + r := by
    have := Nat.shiftLeft_add_eq_or_of_lt hr m
    rw [Nat.shiftLeft_eq] at this
    exact this.symm
  have h := u64_or_nat (m * 256) r (by omega) (by omega)
  rw [e] at h
  have e2 : ((m * 256 : Nat) : Int) = (m : Int) * 256 := by omega
  rw [e2] at h
  rw [h]
  omega
theorem get_step (s : ByteArray) (a n : Nat) (hn : n < 8) : bits .or .u64 (IntKind.u64.wrap (getN s a n * 256)) (IntKind.u64.wrap (bt s (a + n))) = getN s a (n + 1) := by
  have h := getN_range s a n
  have hb := bt_range s (a + n)
  have hp : (256 : Int) ^ n ≤ 256 ^ 7 := by exact_mod_cast Nat.pow_le_pow_right (show 0 < 256 by omega) (show n ≤ 7 by omega)
  have h7 : (256 : Int) ^ 7 = 72057594037927936 := by decide
  rw [wru64 (x := bt s (a + n)) (by omega) (by omega), wru64 (by omega) (by omega), or_byte _ _ h.1 (by omega) hb.1 hb.2]
  rfl
theorem getR_step (s : ByteArray) (a n : Nat) (hn : n < 8) : IntKind.u64.wrap (IntKind.u64.wrap (getN s a n * 256) + IntKind.u64.wrap (bt s (a + n))) = getN s a (n + 1) := by
  have h := getN_range s a n
  have hb := bt_range s (a + n)
  have hp : (256 : Int) ^ n ≤ 256 ^ 7 := by exact_mod_cast Nat.pow_le_pow_right (show 0 < 256 by omega) (show n ≤ 7 by omega)
  have h7 : (256 : Int) ^ 7 = 72057594037927936 := by decide
  rw [wru64 (x := bt s (a + n)) (by omega) (by omega), wru64 (x := getN s a n * 256) (by omega) (by omega), wru64 (by omega) (by omega)]
  rfl

/-! ### the checksum -/
/-- the sum of all bytes, those at even places times 256 -/
def acc : Bool → List Int → Int
  | _, [] => 0
  | od, x :: r => (bif od then x else x * 256) + acc (!od) r
def par (l : List Int) : Bool := decide (l.length % 2 = 1)
theorem par_cons (x : Int) (l : List Int) : par (x :: l) = !par l := by
  unfold par
  rw [List.length_cons]
  by_cases h : l.length % 2 = 1 <;> simp [h] <;> omega
theorem acc_append : ∀ (od : Bool) (l m : List Int), acc od (l ++ m) = acc od l + acc (od ^^ par l) m
  | od, [], m => by simp [acc, par]
  | od, x :: l, m => by
    rw [List.cons_append, acc, acc, acc_append (!od) l m, par_cons]
    have : (!od ^^ par l) = (od ^^ !par l) := by cases od <;> cases par l <;> rfl
    rw [this]
    omega
theorem acc_snoc (l : List Int) (x : Int) : acc false (l ++ [x]) = acc false l + (bif par l then x else x * 256) := by
  rw [acc_append]
  simp [acc]
theorem par_snoc (l : List Int) (x : Int) : par (l ++ [x]) = !par l := by
  unfold par
  rw [List.length_append, List.length_singleton]
  by_cases h : l.length % 2 = 1 <;> simp [h] <;> omega
def Small (l : List Int) : Prop := ∀ x ∈ l, 0 ≤ x ∧ x ≤ 255
theorem acc_range : ∀ (od : Bool) (l : List Int), Small l → 0 ≤ acc od l ∧ acc od l ≤ 65280 * l.length
  | od, [], _ => ⟨Int.le_refl 0, by show (0 : Int) ≤ 65280 * ((0 : Nat) : Int); omega⟩
  | od, x :: l, h => by
    have h1 := acc_range (!od) l (fun y hy => h y (List.mem_cons_of_mem _ hy))
    have h2 := h x (List.mem_cons_self ..)
    rw [acc, List.length_cons]
    cases od <;> simp only [cond_true, cond_false] at * <;> omega
/-- the bytes of a string, as numbers -/
def bL (s : ByteArray) : List Int := s.data.toList.map fun u => (u.toNat : Int)
theorem bL_length (s : ByteArray) : (bL s).length = s.size := by rw [bL, List.length_map, Array.length_toList]; rfl
theorem bL_small (s : ByteArray) : Small (bL s) := by
  intro x hx
  obtain ⟨u, _, rfl⟩ := List.mem_map.1 hx
  have := u.toNat_lt
  omega
theorem bL_get (s : ByteArray) (i : Nat) (h : i < s.size) : (bL s)[i]? = some (bt s i) := by
  have h' : i < s.data.toList.length := by rw [Array.length_toList]; exact h
  unfold bL bt
  rw [List.getElem?_map, List.getD_eq_getElem?_getD, List.getElem?_eq_getElem h']
  rfl
theorem bL_take (s : ByteArray) (i : Nat) (h : i < s.size) : (bL s).take (i + 1) = (bL s).take i ++ [bt s i] := by
  rw [List.take_add_one, bL_get s i h]
  rfl
def flat (ss : List ByteArray) : List Int := ss.flatMap bL
theorem flat_snoc (ss : List ByteArray) (s : ByteArray) : flat (ss ++ [s]) = flat ss ++ bL s := by simp [flat]
theorem flat_small (ss : List ByteArray) : Small (flat ss) := by
  intro x hx
  obtain ⟨s, _, h⟩ := List.mem_flatMap.1 hx
  exact bL_small s x h
theorem flat_take {ss : List ByteArray} {i : Nat} {s : ByteArray} (h : ss[i]? = some s) : flat (ss.take (i + 1)) = flat (ss.take i) ++ bL s := by
  rw [List.take_add_one, h]
  exact flat_snoc _ s
theorem flat_le {ss : List ByteArray} {i : Nat} {s : ByteArray} (h : ss[i]? = some s) : (flat (ss.take i)).length + s.size ≤ (flat ss).length := by
  have h1 := flat_take h
  have h2 : (flat (ss.take (i + 1))).length ≤ (flat ss).length := by
    have : flat ss = flat (ss.take (i + 1)) ++ flat (ss.drop (i + 1)) := by
      unfold flat
      rw [← List.flatMap_append, List.take_append_drop]
    rw [this, List.length_append]
    omega
  rw [h1, List.length_append, bL_length] at h2
  exact h2
/-- the sum, brought into two bytes -/
def csum (x : Int) : Int := if x = 0 then 0 else (x - 1) % 65535 + 1
theorem csum_small {x : Int} (h0 : 0 ≤ x) (h1 : x ≤ 65535) : csum x = x := by
  unfold csum
  split <;> omega
theorem csum_range {x : Int} : 0 ≤ csum x ∧ csum x ≤ 65535 := by
  unfold csum
  split <;> omega
theorem csum_fold {x : Int} (h : 65535 < x) : csum (x / 65536 + x % 65536) = csum x := by
  unfold csum
  rw [if_neg (by omega), if_neg (by omega)]
  omega
theorem csum_add {x y : Int} (hx : 0 ≤ x) (hy : 0 ≤ y) (hy' : y ≤ 65535) : csum (x + y) = if csum x + y > 65535 then csum x + y - 65535 else csum x + y := by
  unfold csum
  by_cases hx0 : x = 0
  · subst hx0
    rw [if_pos rfl]
    by_cases hy0 : y = 0
    · subst hy0; rw [if_pos (by omega), if_neg (by omega)]; omega
    · rw [if_neg (by omega), if_neg (by omega)]; omega
  · rw [if_neg hx0, if_neg (by omega)]
    by_cases hg : (x - 1) % 65535 + 1 + y > 65535
    · rw [if_pos hg]; omega
    · rw [if_neg hg]; omega
theorem and_65535 (x : Int) (h0 : 0 ≤ x) (h1 : x < 18446744073709551616) : bits .and .u64 x 65535 = x % 65536 := by
  obtain ⟨m, rfl⟩ := Int.eq_ofNat_of_zero_le h0
  have h := u64_and_nat m 65535 (by omega) (by omega)
  have e : m &&& 65535 = m % 65536 := Nat.and_two_pow_sub_one_eq_mod m 16
  rw [e] at h
  have e2 : ((65535 : Nat) : Int) = 65535 := rfl
  rw [e2] at h
  rw [h]
  omega
end Go.Proofs.Ytabcaiecoiejkaa
