/- Plain facts on the bits of a number of 64 bits: when the flags of one are among those of another. -/
import Derived.Laws.BitsAllLaws
import Derived.IntWalk
set_option maxRecDepth 100000
namespace Go.Proofs.Ytabcaiecoiejkaa
open Go
theorem i64_toNat (x : BitVec 64) : IntKind.i64.wrap (x.toNat : Int) = x.toInt := by
  have h := x.isLt
  rw [IntKind.wrap_i64, BitVec.toInt_eq_toNat_cond]
  split <;> omega
theorem ofInt64 (f : Int) (h0 : -9223372036854775808 ≤ f) (h1 : f ≤ 9223372036854775807) : (BitVec.ofInt 64 f).toInt = f := by
  rw [BitVec.toInt_ofInt, Int.bmod_def]
  split <;> omega
theorem and_i64 (a b : Int) : bits .and .i64 a b = (BitVec.ofInt 64 a &&& BitVec.ofInt 64 b).toInt := by
  show IntKind.i64.wrap ((BitVec.ofInt 64 a &&& BitVec.ofInt 64 b).toNat : Int) = _
  exact i64_toNat _
def hasBit (f : Int) (k : Nat) : Bool := (BitVec.ofInt 64 f).getLsbD k
theorem ofInt_pow (k : Nat) : BitVec.ofInt 64 (2 ^ k) = BitVec.twoPow 64 k := by
  have e : ((2 : Int) ^ k) = ((2 ^ k : Nat) : Int) := by simp
  rw [e, BitVec.ofInt_natCast]
  apply BitVec.eq_of_toNat_eq
  rw [BitVec.toNat_ofNat, BitVec.toNat_twoPow]
theorem bit_iff (f : Int) (k : Nat) (hk : k < 63) : bits .and .i64 f (2 ^ k) = 0 ↔ hasBit f k = false := by
  rw [and_i64, ofInt_pow, BitVec.and_twoPow]
  show _ ↔ (BitVec.ofInt 64 f).getLsbD k = false
  cases h : (BitVec.ofInt 64 f).getLsbD k
  · simp
  · simp only [if_true, Bool.true_eq_false, iff_false]
    intro h0
    have : BitVec.twoPow 64 k = 0#64 := BitVec.eq_of_toInt_eq (by rw [h0]; rfl)
    have h2 := congrArg BitVec.toNat this
    rw [BitVec.toNat_twoPow_of_lt (by omega)] at h2
    have := Nat.two_pow_pos k
    simp at h2
theorem and_eq_iff (s f : Int) (h0 : -9223372036854775808 ≤ f) (h1 : f ≤ 9223372036854775807) : bits .and .i64 s f = f ↔ ∀ k, k < 64 → hasBit f k = true → hasBit s k = true := by
  rw [and_i64]
  have e : ((BitVec.ofInt 64 s &&& BitVec.ofInt 64 f).toInt = f) ↔ (BitVec.ofInt 64 s &&& BitVec.ofInt 64 f) = BitVec.ofInt 64 f := by
    constructor
    · intro h; exact BitVec.eq_of_toInt_eq (by rw [h, ofInt64 f h0 h1])
    · intro h; rw [h, ofInt64 f h0 h1]
  rw [e]
  constructor
  · intro h k _ hf
    have := congrArg (fun x : BitVec 64 => x.getLsbD k) h
    simp only [BitVec.getLsbD_and] at this
    unfold hasBit at hf ⊢
    rw [hf] at this
    simpa using this
  · intro h
    apply BitVec.eq_of_getLsbD_eq
    intro k hk
    rw [BitVec.getLsbD_and]
    have := h k hk
    unfold hasBit at this
    cases hf : (BitVec.ofInt 64 f).getLsbD k
    · simp
    · rw [this hf]; rfl
theorem neg_iff (f : Int) (h0 : -9223372036854775808 ≤ f) (h1 : f ≤ 9223372036854775807) : f < 0 ↔ hasBit f 63 = true := by
  have h := BitVec.msb_eq_toInt (x := BitVec.ofInt 64 f)
  rw [ofInt64 f h0 h1, BitVec.msb_eq_getLsbD_last] at h
  show _ ↔ (BitVec.ofInt 64 f).getLsbD 63 = true
  rw [h]
  simp
theorem flags_iff (s f : Int) (h0 : -9223372036854775808 ≤ f) (h1 : f ≤ 9223372036854775807) (g0 : -9223372036854775808 ≤ s) (g1 : s ≤ 9223372036854775807) :
    bits .and .i64 s f = f ↔ (∀ k, k < 63 → ¬ (bits .and .i64 f (2 ^ k) ≠ 0 ∧ bits .and .i64 s (2 ^ k) = 0)) ∧ ¬ (f < 0 ∧ 0 ≤ s) := by
  rw [and_eq_iff s f h0 h1]
  have hn : ¬ (f < 0 ∧ 0 ≤ s) ↔ (hasBit f 63 = true → hasBit s 63 = true) := by
    rw [← neg_iff f h0 h1, ← neg_iff s g0 g1]
    omega
  rw [hn]
  constructor
  · intro h
    refine ⟨fun k hk hh => ?_, h 63 (by omega)⟩
    rw [bit_iff s k hk, Ne, bit_iff f k hk] at hh
    have := h k (by omega) (by simpa using hh.1)
    rw [this] at hh
    exact absurd hh.2 (by simp)
  · intro h k hk hf
    by_cases e : k = 63
    · subst e; exact h.2 hf
    · have h3 := h.1 k (by omega)
      rw [bit_iff s k (by omega), Ne, bit_iff f k (by omega)] at h3
      rw [hf] at h3
      cases hs : hasBit s k
      · exact absurd ⟨by simp, hs⟩ h3
      · rfl
end Go.Proofs.Ytabcaiecoiejkaa
