/- Walk of layer 16's reference: Parse. -/
import Derived.Test.YtabcaiecoiejkaaB4
import Derived.Test.YtabcaiecoiejkaaA7
import Derived.Lib.Hide
set_option maxRecDepth 100000
set_option linter.unusedSimpArgs false
set_option linter.unusedVariables false
set_option maxHeartbeats 800000
namespace Go.Proofs.Ytabcaiecoiejkaa
open Go K

theorem ext_ext (x : ByteArray) (n i j : Nat) (h : j ≤ n) : (x.extract 0 n).extract i j = x.extract i j := by
  apply ByteArray.ext
  apply Array.ext'
  rw [Lib.extract_data, Lib.extract_data, Lib.extract_data, List.drop_zero, Nat.sub_zero, List.drop_take, List.take_take]
  congr 1
  omega

theorem ParseR16_any (a a' : Adr) (x : ByteArray) (w : World) (hx : x.size ≤ 1000000000000000) :
    Calls Try.prog 21 [a.val, a'.val, .string x].toArray w fun e w' => e = .returned (uparseV (uparse a a' x)) ∧ Mem w [] [] w' := by
  cases he : ends a a' with
  | false =>
    rw [uparse, he, if_neg (by simp)]
    refine calls_of_z Try.func21 rfl Try.ntmps21 rfl (Mem.refl w) ?_; intro cs b hb hk
    repeat (first | (refine st ?_) | (refine sb ?_) | (intro _))
    ((try (refine sg ?_)); (refine zx_call0 rfl fnc73 rfl rfl (fun w hm => endsR16_any a a' w) ?_))
    repeat (first | (refine st ?_) | (refine sb ?_) | (intro _))
    first | (refine z_ret2A tab_ok Try.func21 hb hk Try.results21 0 rfl rfl rfl rfl rfl rfl rfl (fun w hm => ?_)) | (refine z_ret2A tab_ok Try.func21 hb hk Try.results21 1 rfl rfl rfl rfl rfl rfl rfl (fun w hm => ?_)) | (refine z_ret2A tab_ok Try.func21 hb hk Try.results21 2 rfl rfl rfl rfl rfl rfl rfl (fun w hm => ?_)) | (refine z_ret2A tab_ok Try.func21 hb hk Try.results21 3 rfl rfl rfl rfl rfl rfl rfl (fun w hm => ?_)) | (refine z_ret2A tab_ok Try.func21 hb hk Try.results21 4 rfl rfl rfl rfl rfl rfl rfl (fun w hm => ?_))
    exact ⟨rfl, hm.bare⟩
  | true =>
    rw [uparse, he, if_pos rfl]
    refine calls_of_z Try.func21 rfl Try.ntmps21 rfl (Mem.refl w) ?_; intro cs b hb hk
    repeat (first | (refine st ?_) | (refine sb ?_) | (intro _))
    ((try (refine sg ?_)); (refine zx_call0 rfl fnc73 rfl rfl (fun w hm => endsR16_any a a' w) ?_))
    repeat (first | (refine st ?_) | (refine sb ?_) | (intro _))
    by_cases h8 : x.size < 8
    · rw [if_pos h8]
      repeat (first | (refine st ?_) | (refine sb ?_) | (intro _))
      first | (refine z_ret2A tab_ok Try.func21 hb hk Try.results21 0 rfl rfl rfl rfl rfl rfl rfl (fun w hm => ?_)) | (refine z_ret2A tab_ok Try.func21 hb hk Try.results21 1 rfl rfl rfl rfl rfl rfl rfl (fun w hm => ?_)) | (refine z_ret2A tab_ok Try.func21 hb hk Try.results21 2 rfl rfl rfl rfl rfl rfl rfl (fun w hm => ?_)) | (refine z_ret2A tab_ok Try.func21 hb hk Try.results21 3 rfl rfl rfl rfl rfl rfl rfl (fun w hm => ?_)) | (refine z_ret2A tab_ok Try.func21 hb hk Try.results21 4 rfl rfl rfl rfl rfl rfl rfl (fun w hm => ?_))
      exact ⟨rfl, hm.bare⟩
    · rw [if_neg h8]
      have hr0 := getN_range x 0 2
      have hr2 := getN_range x 2 2
      have hr4 := getN_range x 4 2
      have hr6 := getN_range x 6 2
      have e2 : (256 : Int) ^ 2 = 65536 := by decide
      have w0' : IntKind.i64.wrap (getN x 0 2) = getN x 0 2 := wr64 (by omega) (by omega)
      have w2' : IntKind.i64.wrap (getN x 2 2) = getN x 2 2 := wr64 (by omega) (by omega)
      have w4' : IntKind.i64.wrap (getN x 4 2) = getN x 4 2 := wr64 (by omega) (by omega)
      have w6' : IntKind.i64.wrap (getN x 6 2) = getN x 6 2 := wr64 (by omega) (by omega)
      repeat (first | (refine st ?_) | (refine sb ?_) | (intro _))
      ((try (refine sg ?_)); (refine zx_call0 rfl fnc78 rfl rfl (fun w hm => GetR2_any x 0 w (by omega) (by omega)) ?_))
      repeat (first | (refine st ?_) | (refine sb ?_) | (intro _))
      ((try (refine sg ?_)); (refine zx_call0 rfl fnc78 rfl rfl (fun w hm => GetR2_any x 2 w (by omega) (by omega)) ?_))
      repeat (first | (refine st ?_) | (refine sb ?_) | (intro _))
      ((try (refine sg ?_)); (refine zx_call0 rfl fnc78 rfl rfl (fun w hm => GetR2_any x 4 w (by omega) (by omega)) ?_))
      repeat (first | (refine st ?_) | (refine sb ?_) | (intro _))
      ((try (refine sg ?_)); (refine zx_call0 rfl fnc78 rfl rfl (fun w hm => GetR2_any x 6 w (by omega) (by omega)) ?_))
      repeat (first | (refine st ?_) | (refine sb ?_) | (intro _))
      by_cases hl : getN x 4 2 < 8 ∨ (x.size : Int) < getN x 4 2
      · rw [if_pos hl]
        by_cases h1 : getN x 4 2 < 8
        · repeat (first | (refine st ?_) | (refine sb ?_) | (intro _))
          first | (refine z_ret2A tab_ok Try.func21 hb hk Try.results21 0 rfl rfl rfl rfl rfl rfl rfl (fun w hm => ?_)) | (refine z_ret2A tab_ok Try.func21 hb hk Try.results21 1 rfl rfl rfl rfl rfl rfl rfl (fun w hm => ?_)) | (refine z_ret2A tab_ok Try.func21 hb hk Try.results21 2 rfl rfl rfl rfl rfl rfl rfl (fun w hm => ?_)) | (refine z_ret2A tab_ok Try.func21 hb hk Try.results21 3 rfl rfl rfl rfl rfl rfl rfl (fun w hm => ?_)) | (refine z_ret2A tab_ok Try.func21 hb hk Try.results21 4 rfl rfl rfl rfl rfl rfl rfl (fun w hm => ?_))
          exact ⟨rfl, hm.bare⟩
        · have h2 : (x.size : Int) < getN x 4 2 := by omega
          repeat (first | (refine st ?_) | (refine sb ?_) | (intro _))
          first | (refine z_ret2A tab_ok Try.func21 hb hk Try.results21 0 rfl rfl rfl rfl rfl rfl rfl (fun w hm => ?_)) | (refine z_ret2A tab_ok Try.func21 hb hk Try.results21 1 rfl rfl rfl rfl rfl rfl rfl (fun w hm => ?_)) | (refine z_ret2A tab_ok Try.func21 hb hk Try.results21 2 rfl rfl rfl rfl rfl rfl rfl (fun w hm => ?_)) | (refine z_ret2A tab_ok Try.func21 hb hk Try.results21 3 rfl rfl rfl rfl rfl rfl rfl (fun w hm => ?_)) | (refine z_ret2A tab_ok Try.func21 hb hk Try.results21 4 rfl rfl rfl rfl rfl rfl rfl (fun w hm => ?_))
          exact ⟨rfl, hm.bare⟩
      · rw [if_neg hl]
        have h1 : ¬ getN x 4 2 < 8 := fun h => hl (.inl h)
        have h2 : ¬ (x.size : Int) < getN x 4 2 := fun h => hl (.inr h)
        obtain ⟨n, hn⟩ : ∃ n : Nat, getN x 4 2 = n := Int.eq_ofNat_of_zero_le hr4.1
        rw [hn] at h1 h2 hr4 w4' ⊢
        rw [Int.toNat_natCast]
        have hxs : (x.extract 0 n).size = n := by rw [ByteArray.size_extract]; omega
        have hf6 : (x.extract 0 6).size = 6 := by rw [ByteArray.size_extract]; omega
        have hd8 : (x.extract 8 n).size ≤ 65527 := by rw [ByteArray.size_extract]; omega
        have q1 := ext_ext x n 0 6 (by omega)
        have q2 := ext_ext x n 8 n (Nat.le_refl _)
        repeat (first | (refine st ?_) | (refine sb ?_) | (intro _))
        ((try (refine sg ?_)); (refine zx_sliceN (0 ) ( n ) tab_ok rfl rfl rfl rfl rfl rfl rfl (by first | rfl | omega | (simp only [IntKind.wrap_i64]; omega)) (by first | rfl | omega | (simp only [IntKind.wrap_i64]; omega)) (by omega) (by omega) ?_))
        repeat (first | (refine st ?_) | (refine sb ?_) | (intro _))
        have hzz : (x.extract 0 6 ++ zz).size = 8 := by rw [ByteArray.size_append, hf6]; rfl
        by_cases hq : getN x 6 2 ≠ 0 ∨ a.v6 = true
        · by_cases hc : getN x 6 2 = usum a a' (x.extract 0 6) (x.extract 8 n)
          · rw [if_neg (fun h => h.2 hc)]
            have hc' : usum a a' (x.extract 0 6) (x.extract 8 n) = IntKind.i64.wrap (getN x 6 2) := by rw [w6']; exact hc.symm
            clear hc
            by_cases hz : getN x 6 2 = 0
            · have h6 : a.v6 = true := hq.resolve_left (fun h => h hz)
              have H := Lib.hid hc'
              clear hc'
              repeat (first | (refine st ?_) | (refine sb ?_) | (intro _))
              ((try (refine sg ?_)); (refine zx_sliceN (0 ) ( 6 ) tab_ok rfl rfl rfl rfl rfl rfl rfl (by first | rfl | omega | (simp only [IntKind.wrap_i64]; omega)) (by first | rfl | omega | (simp only [IntKind.wrap_i64]; omega)) (by omega) (by omega) ?_))
              refine zx_re 70 (.string (x.extract 0 6)) rfl (congrArg _ q1) ?_
              refine zx_cat rfl rfl rfl (by rw [hf6]; decide) rfl ?_
              refine zx_re 71 (.string (x.extract 0 6 ++ zz)) rfl rfl ?_
              repeat (first | (refine st ?_) | (refine sb ?_) | (intro _))
              ((try (refine sg ?_)); (refine zx_sliceN (8 ) ( n ) tab_ok rfl rfl rfl rfl rfl rfl rfl (by first | rfl | omega | (simp only [IntKind.wrap_i64]; omega)) (by first | rfl | omega | (simp only [IntKind.wrap_i64]; omega)) (by omega) (by omega) ?_))
              refine zx_re 73 (.string (x.extract 8 n)) rfl (congrArg _ q2) ?_
              repeat (first | (refine st ?_) | (refine sb ?_) | (intro _))
              ((try (refine sg ?_)); (refine zx_call0 rfl fnc75 rfl rfl (fun w hm => checkU16_any a a' (x.extract 0 6) (x.extract 8 n) w he hf6 hd8) ?_))
              repeat (first | (refine st ?_) | (intro _))
              refine z_condKF rfl (bne_ff H.out) ?_
              repeat (first | (refine st ?_) | (refine sb ?_) | (intro _))
              ((try (refine sg ?_)); (refine zx_sliceN (8 ) ( n ) tab_ok rfl rfl rfl rfl rfl rfl rfl (by first | rfl | omega | (simp only [IntKind.wrap_i64]; omega)) (by first | rfl | omega | (simp only [IntKind.wrap_i64]; omega)) (by omega) (by omega) ?_))
              repeat (first | (refine st ?_) | (refine sb ?_) | (intro _))
              first | (refine z_ret2A tab_ok Try.func21 hb hk Try.results21 0 rfl rfl rfl rfl rfl rfl rfl (fun w hm => ?_)) | (refine z_ret2A tab_ok Try.func21 hb hk Try.results21 1 rfl rfl rfl rfl rfl rfl rfl (fun w hm => ?_)) | (refine z_ret2A tab_ok Try.func21 hb hk Try.results21 2 rfl rfl rfl rfl rfl rfl rfl (fun w hm => ?_)) | (refine z_ret2A tab_ok Try.func21 hb hk Try.results21 3 rfl rfl rfl rfl rfl rfl rfl (fun w hm => ?_)) | (refine z_ret2A tab_ok Try.func21 hb hk Try.results21 4 rfl rfl rfl rfl rfl rfl rfl (fun w hm => ?_))
              refine ⟨?_, hm.bare⟩
              show Ending.returned (.tuple #[udpV (IntKind.i64.wrap (getN x 0 2)) (IntKind.i64.wrap (getN x 2 2)) ((x.extract 0 n).extract 8 n), .int .i64 0]) = _
              rw [w0', w2', q2]
              rfl
            · skip
              have H := Lib.hid hc'
              clear hc'
              repeat (first | (refine st ?_) | (refine sb ?_) | (intro _))
              ((try (refine sg ?_)); (refine zx_sliceN (0 ) ( 6 ) tab_ok rfl rfl rfl rfl rfl rfl rfl (by first | rfl | omega | (simp only [IntKind.wrap_i64]; omega)) (by first | rfl | omega | (simp only [IntKind.wrap_i64]; omega)) (by omega) (by omega) ?_))
              refine zx_re 70 (.string (x.extract 0 6)) rfl (congrArg _ q1) ?_
              refine zx_cat rfl rfl rfl (by rw [hf6]; decide) rfl ?_
              refine zx_re 71 (.string (x.extract 0 6 ++ zz)) rfl rfl ?_
              repeat (first | (refine st ?_) | (refine sb ?_) | (intro _))
              ((try (refine sg ?_)); (refine zx_sliceN (8 ) ( n ) tab_ok rfl rfl rfl rfl rfl rfl rfl (by first | rfl | omega | (simp only [IntKind.wrap_i64]; omega)) (by first | rfl | omega | (simp only [IntKind.wrap_i64]; omega)) (by omega) (by omega) ?_))
              refine zx_re 73 (.string (x.extract 8 n)) rfl (congrArg _ q2) ?_
              repeat (first | (refine st ?_) | (refine sb ?_) | (intro _))
              ((try (refine sg ?_)); (refine zx_call0 rfl fnc75 rfl rfl (fun w hm => checkU16_any a a' (x.extract 0 6) (x.extract 8 n) w he hf6 hd8) ?_))
              repeat (first | (refine st ?_) | (intro _))
              refine z_condKF rfl (bne_ff H.out) ?_
              repeat (first | (refine st ?_) | (refine sb ?_) | (intro _))
              ((try (refine sg ?_)); (refine zx_sliceN (8 ) ( n ) tab_ok rfl rfl rfl rfl rfl rfl rfl (by first | rfl | omega | (simp only [IntKind.wrap_i64]; omega)) (by first | rfl | omega | (simp only [IntKind.wrap_i64]; omega)) (by omega) (by omega) ?_))
              repeat (first | (refine st ?_) | (refine sb ?_) | (intro _))
              first | (refine z_ret2A tab_ok Try.func21 hb hk Try.results21 0 rfl rfl rfl rfl rfl rfl rfl (fun w hm => ?_)) | (refine z_ret2A tab_ok Try.func21 hb hk Try.results21 1 rfl rfl rfl rfl rfl rfl rfl (fun w hm => ?_)) | (refine z_ret2A tab_ok Try.func21 hb hk Try.results21 2 rfl rfl rfl rfl rfl rfl rfl (fun w hm => ?_)) | (refine z_ret2A tab_ok Try.func21 hb hk Try.results21 3 rfl rfl rfl rfl rfl rfl rfl (fun w hm => ?_)) | (refine z_ret2A tab_ok Try.func21 hb hk Try.results21 4 rfl rfl rfl rfl rfl rfl rfl (fun w hm => ?_))
              refine ⟨?_, hm.bare⟩
              show Ending.returned (.tuple #[udpV (IntKind.i64.wrap (getN x 0 2)) (IntKind.i64.wrap (getN x 2 2)) ((x.extract 0 n).extract 8 n), .int .i64 0]) = _
              rw [w0', w2', q2]
              rfl
          · rw [if_pos ⟨hq, hc⟩]
            have hc' : usum a a' (x.extract 0 6) (x.extract 8 n) ≠ IntKind.i64.wrap (getN x 6 2) := by rw [w6']; exact fun h => hc h.symm
            clear hc
            by_cases hz : getN x 6 2 = 0
            · have h6 : a.v6 = true := hq.resolve_left (fun h => h hz)
              have H := Lib.hid hc'
              clear hc'
              repeat (first | (refine st ?_) | (refine sb ?_) | (intro _))
              ((try (refine sg ?_)); (refine zx_sliceN (0 ) ( 6 ) tab_ok rfl rfl rfl rfl rfl rfl rfl (by first | rfl | omega | (simp only [IntKind.wrap_i64]; omega)) (by first | rfl | omega | (simp only [IntKind.wrap_i64]; omega)) (by omega) (by omega) ?_))
              refine zx_re 70 (.string (x.extract 0 6)) rfl (congrArg _ q1) ?_
              refine zx_cat rfl rfl rfl (by rw [hf6]; decide) rfl ?_
              refine zx_re 71 (.string (x.extract 0 6 ++ zz)) rfl rfl ?_
              repeat (first | (refine st ?_) | (refine sb ?_) | (intro _))
              ((try (refine sg ?_)); (refine zx_sliceN (8 ) ( n ) tab_ok rfl rfl rfl rfl rfl rfl rfl (by first | rfl | omega | (simp only [IntKind.wrap_i64]; omega)) (by first | rfl | omega | (simp only [IntKind.wrap_i64]; omega)) (by omega) (by omega) ?_))
              refine zx_re 73 (.string (x.extract 8 n)) rfl (congrArg _ q2) ?_
              repeat (first | (refine st ?_) | (refine sb ?_) | (intro _))
              ((try (refine sg ?_)); (refine zx_call0 rfl fnc75 rfl rfl (fun w hm => checkU16_any a a' (x.extract 0 6) (x.extract 8 n) w he hf6 hd8) ?_))
              repeat (first | (refine st ?_) | (intro _))
              refine z_condKT rfl (bne_tt H.out) ?_
              repeat (first | (refine st ?_) | (refine sb ?_) | (intro _))
              first | (refine z_ret2A tab_ok Try.func21 hb hk Try.results21 0 rfl rfl rfl rfl rfl rfl rfl (fun w hm => ?_)) | (refine z_ret2A tab_ok Try.func21 hb hk Try.results21 1 rfl rfl rfl rfl rfl rfl rfl (fun w hm => ?_)) | (refine z_ret2A tab_ok Try.func21 hb hk Try.results21 2 rfl rfl rfl rfl rfl rfl rfl (fun w hm => ?_)) | (refine z_ret2A tab_ok Try.func21 hb hk Try.results21 3 rfl rfl rfl rfl rfl rfl rfl (fun w hm => ?_)) | (refine z_ret2A tab_ok Try.func21 hb hk Try.results21 4 rfl rfl rfl rfl rfl rfl rfl (fun w hm => ?_))
              exact ⟨rfl, hm.bare⟩
            · skip
              have H := Lib.hid hc'
              clear hc'
              repeat (first | (refine st ?_) | (refine sb ?_) | (intro _))
              ((try (refine sg ?_)); (refine zx_sliceN (0 ) ( 6 ) tab_ok rfl rfl rfl rfl rfl rfl rfl (by first | rfl | omega | (simp only [IntKind.wrap_i64]; omega)) (by first | rfl | omega | (simp only [IntKind.wrap_i64]; omega)) (by omega) (by omega) ?_))
              refine zx_re 70 (.string (x.extract 0 6)) rfl (congrArg _ q1) ?_
              refine zx_cat rfl rfl rfl (by rw [hf6]; decide) rfl ?_
              refine zx_re 71 (.string (x.extract 0 6 ++ zz)) rfl rfl ?_
              repeat (first | (refine st ?_) | (refine sb ?_) | (intro _))
              ((try (refine sg ?_)); (refine zx_sliceN (8 ) ( n ) tab_ok rfl rfl rfl rfl rfl rfl rfl (by first | rfl | omega | (simp only [IntKind.wrap_i64]; omega)) (by first | rfl | omega | (simp only [IntKind.wrap_i64]; omega)) (by omega) (by omega) ?_))
              refine zx_re 73 (.string (x.extract 8 n)) rfl (congrArg _ q2) ?_
              repeat (first | (refine st ?_) | (refine sb ?_) | (intro _))
              ((try (refine sg ?_)); (refine zx_call0 rfl fnc75 rfl rfl (fun w hm => checkU16_any a a' (x.extract 0 6) (x.extract 8 n) w he hf6 hd8) ?_))
              repeat (first | (refine st ?_) | (intro _))
              refine z_condKT rfl (bne_tt H.out) ?_
              repeat (first | (refine st ?_) | (refine sb ?_) | (intro _))
              first | (refine z_ret2A tab_ok Try.func21 hb hk Try.results21 0 rfl rfl rfl rfl rfl rfl rfl (fun w hm => ?_)) | (refine z_ret2A tab_ok Try.func21 hb hk Try.results21 1 rfl rfl rfl rfl rfl rfl rfl (fun w hm => ?_)) | (refine z_ret2A tab_ok Try.func21 hb hk Try.results21 2 rfl rfl rfl rfl rfl rfl rfl (fun w hm => ?_)) | (refine z_ret2A tab_ok Try.func21 hb hk Try.results21 3 rfl rfl rfl rfl rfl rfl rfl (fun w hm => ?_)) | (refine z_ret2A tab_ok Try.func21 hb hk Try.results21 4 rfl rfl rfl rfl rfl rfl rfl (fun w hm => ?_))
              exact ⟨rfl, hm.bare⟩
        · rw [if_neg (fun h => hq h.1)]
          have hz : getN x 6 2 = 0 := Classical.byContradiction fun h => hq (.inl h)
          have h6 : a.v6 = false := by
            cases h : a.v6
            · rfl
            · exact absurd (.inr h) hq
          repeat (first | (refine st ?_) | (refine sb ?_) | (intro _))
          ((try (refine sg ?_)); (refine zx_sliceN (8 ) ( n ) tab_ok rfl rfl rfl rfl rfl rfl rfl (by first | rfl | omega | (simp only [IntKind.wrap_i64]; omega)) (by first | rfl | omega | (simp only [IntKind.wrap_i64]; omega)) (by omega) (by omega) ?_))
          repeat (first | (refine st ?_) | (refine sb ?_) | (intro _))
          first | (refine z_ret2A tab_ok Try.func21 hb hk Try.results21 0 rfl rfl rfl rfl rfl rfl rfl (fun w hm => ?_)) | (refine z_ret2A tab_ok Try.func21 hb hk Try.results21 1 rfl rfl rfl rfl rfl rfl rfl (fun w hm => ?_)) | (refine z_ret2A tab_ok Try.func21 hb hk Try.results21 2 rfl rfl rfl rfl rfl rfl rfl (fun w hm => ?_)) | (refine z_ret2A tab_ok Try.func21 hb hk Try.results21 3 rfl rfl rfl rfl rfl rfl rfl (fun w hm => ?_)) | (refine z_ret2A tab_ok Try.func21 hb hk Try.results21 4 rfl rfl rfl rfl rfl rfl rfl (fun w hm => ?_))
          refine ⟨?_, hm.bare⟩
          show Ending.returned (.tuple #[udpV (IntKind.i64.wrap (getN x 0 2)) (IntKind.i64.wrap (getN x 2 2)) ((x.extract 0 n).extract 8 n), .int .i64 0]) = _
          rw [w0', w2', q2]
          rfl
end Go.Proofs.Ytabcaiecoiejkaa
