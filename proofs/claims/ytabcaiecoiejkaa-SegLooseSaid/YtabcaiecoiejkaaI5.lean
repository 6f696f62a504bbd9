/- The plain law of layer 18's loose bytes: the two bytes behind the checksum, and an option that nobody knows, count for nothing. -/
import Derived.Test.YtabcaiecoiejkaaH5
set_option maxRecDepth 100000
set_option linter.unusedSimpArgs false
set_option linter.unusedVariables false
set_option maxHeartbeats 800000
namespace Go.Proofs.Ytabcaiecoiejkaa
open Go K

/-- the bytes with the loose ones put in, the checksum 0 -/
def lrest (s : Sg) (a y : Int) : ByteArray := ofInts [y, a] ++ (ofInts [9, 4, a, y] ++ sopt s) ++ s.data
def lzero (s : Sg) (a y : Int) : ByteArray := sfirstL s (slong s + 4) ++ zz ++ lrest s a y
def lbytes (c c' : Adr) (s : Sg) (a y : Int) : ByteArray := sfirstL s (slong s + 4) ++ putB (ssum c c' (sfirstL s (slong s + 4)) (lrest s a y)) 2 ++ lrest s a y
theorem small4 {a y : Int} (ha : 0 ≤ a ∧ a ≤ 255) (hy : 0 ≤ y ∧ y ≤ 255) : Small [9, 4, a, y] := by
  intro x hx
  simp only [List.mem_cons, List.not_mem_nil, or_false] at hx
  omega
theorem lrest_size (s : Sg) (a y : Int) : (lrest s a y).size = 6 + (sopt s).size + s.data.size := by
  simp only [lrest, ByteArray.size_append, ofInts_size, List.length_cons, List.length_nil]; omega
theorem lzero_size (s : Sg) (a y : Int) : (lzero s a y).size = 24 + (sopt s).size + s.data.size := by
  simp only [lzero, ByteArray.size_append, sfirstL_size, lrest_size, show zz.size = 2 from rfl]; omega
theorem sread_loose (s : Sg) (a y : Int) (ha : 0 ≤ a ∧ a ≤ 255) (hy : 0 ≤ y ∧ y ≤ 255) (hg : SRight s) :
    sread (ofInts [9, 4, a, y] ++ sopt s) (ofInts [9, 4, a, y] ++ sopt s).size 0 { s with mss := 0, scale := -1 } = (s, true) := by
  have hp : (ofInts [9, 4, a, y]).size = 4 := by rw [ofInts_size]; rfl
  have hs := small4 ha hy
  have hz : (ofInts [9, 4, a, y] ++ sopt s).size = 4 + (sopt s).size := by rw [ByteArray.size_append, hp]
  have b0 : bt (ofInts [9, 4, a, y] ++ sopt s) 0 = 9 := by rw [bt_left _ _ _ (by omega), bt_ofInts [9, 4, a, y] 0 (by simp) hs]; rfl
  have b1 : bt (ofInts [9, 4, a, y] ++ sopt s) (0 + 1) = 4 := by rw [bt_left _ _ _ (by omega), bt_ofInts [9, 4, a, y] 1 (by simp) hs]; rfl
  rw [hz, show 4 + (sopt s).size = (3 + (sopt s).size) + 1 from by omega]
  rw [sread, if_neg (by omega), b0, if_neg (by omega), if_neg (by omega), b1, if_neg (by omega), if_neg (by omega), if_neg (by omega)]
  have := sread_shift (ofInts [9, 4, a, y]) (sopt s) (3 + (sopt s).size) 0 { s with mss := 0, scale := -1 }
  rw [hp] at this
  exact this.trans (sread_opt s _ hg (by omega))
theorem loose_ok (c c' : Adr) (s : Sg) (a y : Int) (he : ends c c' = true) (hg : SRight s) (hs : SRange s) (hb : slong s + s.data.size ≤ 60000) (ha : 0 ≤ a ∧ a ≤ 255) (hy : 0 ≤ y ∧ y ≤ 255) : sparse c c' (lbytes c c' s a y) = (s, 0) := by
  have ho := sopt_size s
  have hz : (ofInts [9, 4, a, y] ++ sopt s).size = 4 + (sopt s).size := by rw [ByteArray.size_append, ofInts_size]; rfl
  have hl : slong s = 20 + (sopt s).size := rfl
  exact sparse_gen c c' s (slong s + 4) (ofInts [y, a]) (ofInts [9, 4, a, y] ++ sopt s) he hg hs.1 hs.2.1 hs.2.2.1 hs.2.2.2 (by rw [ofInts_size]; rfl) (by rw [hz, hl]; omega) (by rw [hz]; omega) (by rw [hz]; omega) (by rw [hz]; omega) (sread_loose s a y ha hy hg)
/-- the built bytes, in pieces -/
def p12 (s : Sg) : ByteArray := putB s.src 2 ++ putB s.dst 2 ++ putB s.seq 4 ++ putB s.ack 4
theorem p12_size (s : Sg) : (p12 s).size = 12 := by simp [p12, ByteArray.size_append, putB_size]
theorem sbytes_cut (c c' : Adr) (s : Sg) : (sbytes c c' s).extract 0 12 = p12 s ∧ (sbytes c c' s).extract 13 16 = putB s.flags 1 ++ putB s.win 2 ∧ (sbytes c c' s).extract 20 (sbytes c c' s).size = sopt s ++ s.data := by
  generalize hu : ssum c c' (sfirst s) (srest s) = u
  have hX : sbytes c c' s = p12 s ++ putB (slong s * 4) 1 ++ (putB s.flags 1 ++ putB s.win 2) ++ (putB u 2 ++ zz) ++ (sopt s ++ s.data) := by
    unfold sbytes; rw [hu]; simp only [sfirst, srest, p12, ByteArray.append_assoc]; rfl
  have hp := p12_size s
  have hz : zz.size = 2 := rfl
  rw [hX]
  refine ⟨?_, ?_, ?_⟩
  · rw [show p12 s ++ putB (slong s * 4) 1 ++ (putB s.flags 1 ++ putB s.win 2) ++ (putB u 2 ++ zz) ++ (sopt s ++ s.data) = p12 s ++ (putB (slong s * 4) 1 ++ (putB s.flags 1 ++ putB s.win 2) ++ (putB u 2 ++ zz) ++ (sopt s ++ s.data)) from by simp only [ByteArray.append_assoc], ← hp]
    exact ext_left _ _
  · rw [show p12 s ++ putB (slong s * 4) 1 ++ (putB s.flags 1 ++ putB s.win 2) ++ (putB u 2 ++ zz) ++ (sopt s ++ s.data) = (p12 s ++ putB (slong s * 4) 1) ++ ((putB s.flags 1 ++ putB s.win 2) ++ ((putB u 2 ++ zz) ++ (sopt s ++ s.data))) from by simp only [ByteArray.append_assoc]]
    exact ext_mid _ _ _ _ _ (by rw [ByteArray.size_append, hp, putB_size]) (by simp only [ByteArray.size_append, hp, putB_size])
  · refine ext_tail _ _ _ _ ?_ ?_
    · simp only [ByteArray.size_append, hp, putB_size, hz]
    · simp only [ByteArray.size_append, hp, putB_size, hz]
theorem one_put (v : Int) (h0 : 0 ≤ v) (h1 : v ≤ 255) : ofInts [v] = putB v 1 := by
  unfold putB putL putL byt
  rw [Int.pow_zero, Int.ediv_one]
  congr 2
  omega
theorem lzero_eq (c c' : Adr) (s : Sg) (a y : Int) (hb : slong s ≤ 40) :
    (sbytes c c' s).extract 0 12 ++ ofInts [(slong s + 4) * 4] ++ (sbytes c c' s).extract 13 16 ++ ⟨#[0, 0]⟩ ++ ofInts [y, a] ++ ofInts [9, 4, a, y] ++ (sbytes c c' s).extract 20 (sbytes c c' s).size = lzero s a y := by
  obtain ⟨h1, h2, h3⟩ := sbytes_cut c c' s
  have hl : slong s = 20 + (sopt s).size := rfl
  rw [h1, h2, h3, one_put _ (by omega) (by omega)]
  simp only [lzero, lrest, sfirstL, p12, ByteArray.append_assoc]
  rfl
theorem lbytes_eq (c c' : Adr) (s : Sg) (a y u : Int) : (lzero s a y).extract 0 16 ++ putB u 2 ++ (lzero s a y).extract 18 (lzero s a y).size = sfirstL s (slong s + 4) ++ putB u 2 ++ lrest s a y := by
  have hf := sfirstL_size s (slong s + 4)
  have h1 : (lzero s a y).extract 0 16 = sfirstL s (slong s + 4) := by
    rw [lzero, ByteArray.append_assoc, ← hf]; exact ext_left _ _
  have h2 : (lzero s a y).extract 18 (lzero s a y).size = lrest s a y := by
    unfold lzero
    refine ext_tail _ _ _ _ ?_ ?_ <;> simp only [ByteArray.size_append, hf, show zz.size = 2 from rfl]
  rw [h1, h2]
theorem slong_le (s : Sg) : 20 ≤ slong s ∧ slong s ≤ 28 ∧ slong s % 4 = 0 := by
  have := sopt_size s
  unfold slong
  omega
theorem sbytes_head (c c' : Adr) (s : Sg) : bt (sbytes c c' s) 12 = slong s * 4 := by
  have hp := p12_size s
  have hl := slong_le s
  have hX : sbytes c c' s = p12 s ++ (putB (slong s * 4) 1 ++ (putB s.flags 1 ++ putB s.win 2 ++ putB (ssum c c' (sfirst s) (srest s)) 2 ++ srest s)) := by
    unfold sbytes
    generalize ssum c c' (sfirst s) (srest s) = u
    simp only [sfirst, p12, ByteArray.append_assoc]
  have := bt_right (p12 s) (putB (slong s * 4) 1 ++ (putB s.flags 1 ++ putB s.win 2 ++ putB (ssum c c' (sfirst s) (srest s)) 2 ++ srest s)) 0
  rw [hp] at this
  rw [hX, show (12 : Nat) = 12 + 0 from rfl, this, bt_left _ _ _ (by rw [putB_size]; decide), ← getN_one, getN_put1 _ (by omega) (by omega)]
end Go.Proofs.Ytabcaiecoiejkaa
