/- Walk of the law SocksFails: it answers true. -/
import Derived.Test.YtabcaiecoiejkaaS11
set_option maxRecDepth 100000
set_option linter.unusedSimpArgs false
set_option linter.unusedVariables false
set_option maxHeartbeats 8000000
namespace Go.Proofs.Ytabcaiecoiejkaa
open Go K

section
variable {c : Cx} {q : Bool} {n : Nat} {F : Fr} {w0 : World} {ks : List Nat} {L : Mm} {D : List Deferred} {ops : Array Oper} {i : Nat} {l : List Oper}
theorem z_join1 {k : List Item} {i1 : Item} {G : Type} (Φ : G → Prop) (F' : G → Fr) (L' : G → Mm) (h1 : ∀ g, Φ g → Z c n (F' g) w0 ks (L' g) D k) (h2 : ∀ k', (∀ g, Φ g → Z c n (F' g) w0 ks (L' g) D k') → Z c n F w0 ks L D (i1 :: k')) : Z c n F w0 ks L D (i1 :: k) := h2 k h1
theorem zx_join2 {k : List Item} {i1 i2 : Item} {G : Type} (Φ : G → Prop) (F' : G → Fr) (L' : G → Mm) (h1 : ∀ g, Φ g → Z c n (F' g) w0 ks (L' g) D k) (h2 : ∀ k', (∀ g, Φ g → Z c n (F' g) w0 ks (L' g) D k') → ZX c q n F w0 ks L D ops i l (i1 :: i2 :: k')) : ZX c q n F w0 ks L D ops i l (i1 :: i2 :: k) := h2 k h1
end
theorem tm_range (x : Int) : -65535 ≤ x.tmod 65536 ∧ x.tmod 65536 ≤ 65535 := by
  rcases Int.le_total 0 x with h | h
  · rw [Int.tmod_eq_emod_of_nonneg h]; omega
  · have h1 := Int.neg_tmod (-x) 65536
    rw [Int.neg_neg] at h1
    rw [h1, Int.tmod_eq_emod_of_nonneg (by omega)]
    omega
theorem ofInts_app (l m : List Int) : ofInts l ++ ofInts m = ofInts (l ++ m) := by
  unfold ofInts
  apply ByteArray.ext
  rw [ByteArray.data_append]
  apply Array.ext'
  simp
theorem FC_req (p : Nat) (l : List Int) (x : Px) (hs : Small l) (hl : l.length ≤ 4096) (h : pReq (pxU l) = some x) : PC 38 [fP p 0, .string (ofInts l)] p pxA x (.int .i64 ((l.length : Nat) : Int)) := by
  have := FromClient_any p pxA (ofInts l) good_pxA (by rw [ofInts_size]; omega)
  rw [clientA l hs hl, h] at this
  exact this
theorem TC_fail (p : Nat) (code : Int) : PC 39 [fP p 0, .int .i64 99] p (pFailed code) pFailedE (.string (ofInts (failL code))) := by
  have := ToClient_any p (pFailed code) 99 10 (by show (10 : Int) = min (max 99 0) 10; decide) (by show 0 + 10 ≤ 1000000000; decide)
  rw [show pSettle { pFailed code with down := (pFailed code).down.drop 10 } = pFailedE from rfl] at this
  exact this
theorem TC_want (p : Nat) (a : Adr) (n : Int) : PC 39 [fP p 0, .int .i64 99] p (pWant a n) (pWant a n) (.string noX) := by
  have := ToClient_any p (pWant a n) 99 0 (by show (0 : Int) = min (max 99 0) 0; decide) (by show 0 + 0 ≤ 1000000000; decide)
  rw [show pSettle { pWant a n with down := (pWant a n).down.drop 0 } = pWant a n from rfl] at this
  exact this
theorem fail_str (code : Int) (h : IntKind.u8.wrap code = code) : (⟨#[5]⟩ : ByteArray) ++ ofInts [IntKind.u8.wrap code] ++ ⟨#[0, 1, 0, 0, 0, 0, 0, 0]⟩ = ofInts (failL code) := by
  rw [h, show (⟨#[5]⟩ : ByteArray) = ofInts [5] from by decide, show (⟨#[0, 1, 0, 0, 0, 0, 0, 0]⟩ : ByteArray) = ofInts [0, 1, 0, 0, 0, 0, 0, 0] from by decide, ofInts_app, ofInts_app]
  rfl
def rR (k3 k5 : Nat) (hd : List Int) (l : List Int) : Mm := [(k5, .c (u8s l) 22 0 0), (k3, .c (u8s hd) 70 0 0)]
end Go.Proofs.Ytabcaiecoiejkaa
