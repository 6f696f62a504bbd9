/- Walk of layer 18's reference: options. -/
import Derived.Test.YtabcaiecoiejkaaG1
set_option maxRecDepth 100000
set_option linter.unusedSimpArgs false
set_option linter.unusedVariables false
set_option maxHeartbeats 1600000
namespace Go.Proofs.Ytabcaiecoiejkaa
open Go K

def sg0 : Sg := ⟨0, 0, 0, 0, 0, 0, 0, 0, noB⟩
theorem tail_size (x : ByteArray) (i : Nat) : (x.extract i x.size).size = x.size - i := by rw [ByteArray.size_extract]; omega
theorem tail_list (x : ByteArray) (i : Nat) : (x.extract i x.size).data.toList = x.data.toList.drop i := by
  rw [Lib.extract_data, List.take_of_length_le]
  rw [List.length_drop, Array.length_toList]
  exact Nat.le_refl _
theorem bt_tail (x : ByteArray) (i j : Nat) : bt (x.extract i x.size) j = bt x (i + j) := by
  unfold bt
  rw [tail_list, List.getD_eq_getElem?_getD, List.getD_eq_getElem?_getD, List.getElem?_drop]
theorem getN_tail (x : ByteArray) (i a : Nat) : ∀ n, getN (x.extract i x.size) a n = getN x (i + a) n
  | 0 => rfl
  | n + 1 => by rw [getN, getN, getN_tail x i a n, bt_tail, Nat.add_assoc]
theorem tail_tail (x : ByteArray) (i k : Nat) : (x.extract i x.size).extract k (x.extract i x.size).size = x.extract (i + k) x.size := by
  apply ByteArray.ext
  apply Array.ext'
  rw [tail_list, tail_list, tail_list, List.drop_drop]
theorem tail_zero (x : ByteArray) : x.extract 0 x.size = x := by
  apply ByteArray.ext
  apply Array.ext'
  rw [tail_list, List.drop_zero]

theorem options_any (s : Sg) (x : ByteArray) (w : World) (hx : x.size ≤ 1000000000000000) :
    Calls Try.prog 90 [s.val, .string x].toArray w fun e w' => e = .returned (.tuple #[(sread x x.size 0 s).1.val, .bool (sread x x.size 0 s).2]) ∧ Mem w [] [] w' := by
  refine calls_of_z Try.func90 rfl Try.ntmps90 rfl (Mem.refl w) ?_; intro cs b hb hk
  repeat (first | (refine st ?_) | (intro _))
  refine z_re 1 (.string (x.extract 0 x.size)) rfl (congrArg _ (tail_zero x).symm) ?_
  rename_i q r
  refine z_loop (fun g : Nat × Nat × Sg => g.2.1 ≤ x.size ∧ x.size - g.2.1 ≤ g.1 ∧ sread x g.1 g.2.1 g.2.2 = sread x x.size 0 s) (fun g => [(1, .string (x.extract g.2.1 x.size)), (2, ptr q), (4, ptr r)]) (fun g => [(r, .c sg0.cells 39 0 0), pG q g.2.2]) (fun g => g.1) (x.size, 0, s) ⟨Nat.zero_le _, Nat.le_refl _, rfl⟩ (by refine ⟨rfl, rfl, rfl, trivial⟩) (List.Sublist.refl _) ?_
  intro g hg ih
  obtain ⟨n, i, s'⟩ := g
  obtain ⟨h1, h2, h3⟩ := hg
  simp only at h1 h2 h3
  have hys := tail_size x i
  have b0 := bt_tail x i 0
  have b1 := bt_tail x i 1
  have b2 := bt_tail x i 2
  have g2 := getN_tail x i 2 2
  have t1 := tail_tail x i
  rw [Nat.add_zero] at b0
  refine z_weaken [(1, .string (x.extract i x.size)), (2, ptr q), (4, ptr r)] [(r, .c sg0.cells 39 0 0), pG q s'] ⟨rfl, rfl, rfl, trivial⟩ (List.Sublist.refl _) (fun _ h => h) ?_
  generalize hy : x.extract i x.size = y at *
  have hbi := bt_range y 0
  have hbi1 := bt_range y 1
  have hbi2 := bt_range y 2
  have hr2 := getN_range y 2 2
  have wb1 : IntKind.i64.wrap (bt y 1) = bt y 1 := wr64 (by omega) (by omega)
  have wb2 : IntKind.i64.wrap (bt y 2) = bt y 2 := wr64 (by omega) (by omega)
  by_cases hi : i < x.size
  · obtain ⟨n, rfl⟩ : ∃ m, n = m + 1 := ⟨n - 1, by omega⟩
    have hE := h3
    rw [sread, if_neg (by omega), ← b0, ← b1, ← b2, ← g2] at hE
    repeat (first | (refine st ?_) | (refine sb ?_) | (intro _))
    ((try (refine sg ?_)); refine zx_idxN (0) tab_ok rfl rfl rfl rfl rfl rfl (by first | omega | (simp only [IntKind.wrap_i64]; omega)) (by omega) ?_)
    repeat (first | (refine st ?_) | (refine sb ?_) | (intro _))
    by_cases c0 : bt y 0 = 0
    · rw [if_pos c0] at hE
      repeat (first | (refine st ?_) | (refine sb ?_) | (intro _))
      first | (refine z_ret2A tab_ok Try.func90 hb hk Try.results90 0 rfl rfl rfl rfl rfl rfl rfl (fun w hm => ?_)) | (refine z_ret2A tab_ok Try.func90 hb hk Try.results90 1 rfl rfl rfl rfl rfl rfl rfl (fun w hm => ?_)) | (refine z_ret2A tab_ok Try.func90 hb hk Try.results90 2 rfl rfl rfl rfl rfl rfl rfl (fun w hm => ?_)) | (refine z_ret2A tab_ok Try.func90 hb hk Try.results90 3 rfl rfl rfl rfl rfl rfl rfl (fun w hm => ?_)) | (refine z_ret2A tab_ok Try.func90 hb hk Try.results90 4 rfl rfl rfl rfl rfl rfl rfl (fun w hm => ?_))
      rw [← hE]
      exact ⟨rfl, hm.bare⟩
    rw [if_neg c0] at hE
    repeat (first | (refine st ?_) | (refine sb ?_) | (intro _))
    ((try (refine sg ?_)); refine zx_idxN (0) tab_ok rfl rfl rfl rfl rfl rfl (by first | omega | (simp only [IntKind.wrap_i64]; omega)) (by omega) ?_)
    repeat (first | (refine st ?_) | (refine sb ?_) | (intro _))
    by_cases c1 : bt y 0 = 1
    · rw [if_pos c1] at hE
      repeat (first | (refine st ?_) | (refine sb ?_) | (intro _))
      ((try (refine sg ?_)); (refine zx_sliceN (1 ) ( y.size ) tab_ok rfl rfl rfl rfl rfl rfl rfl (by first | rfl | omega | (simp only [IntKind.wrap_i64]; omega)) (by first | rfl | omega | (simp only [IntKind.wrap_i64]; omega)) (by omega) (by omega) ?_))
      repeat (first | (refine st ?_) | (refine sb ?_) | (intro _))
      refine z_re 1 (.string (x.extract (i + 1) x.size)) rfl (congrArg _ (t1 1)) ?_
      refine z_weaken _ _ ?_ (List.Sublist.refl _) (fun _ h => h) (ih (n, i + 1, s') ⟨by show i + 1 ≤ x.size; omega, by show x.size - (i + 1) ≤ n; omega, hE⟩ (Nat.lt_succ_self _))
      exact ⟨rfl, rfl, rfl, trivial⟩
    rw [if_neg c1] at hE
    repeat (first | (refine st ?_) | (refine sb ?_) | (intro _))
    by_cases e1 : x.size ≤ i + 1
    · rw [if_pos (.inl e1)] at hE
      repeat (first | (refine st ?_) | (refine sb ?_) | (intro _))
      first | (refine z_ret2A tab_ok Try.func90 hb hk Try.results90 0 rfl rfl rfl rfl rfl rfl rfl (fun w hm => ?_)) | (refine z_ret2A tab_ok Try.func90 hb hk Try.results90 1 rfl rfl rfl rfl rfl rfl rfl (fun w hm => ?_)) | (refine z_ret2A tab_ok Try.func90 hb hk Try.results90 2 rfl rfl rfl rfl rfl rfl rfl (fun w hm => ?_)) | (refine z_ret2A tab_ok Try.func90 hb hk Try.results90 3 rfl rfl rfl rfl rfl rfl rfl (fun w hm => ?_)) | (refine z_ret2A tab_ok Try.func90 hb hk Try.results90 4 rfl rfl rfl rfl rfl rfl rfl (fun w hm => ?_))
      rw [← hE]
      exact ⟨rfl, hm.bare⟩
    repeat (first | (refine st ?_) | (refine sb ?_) | (intro _))
    ((try (refine sg ?_)); refine zx_idxN (1) tab_ok rfl rfl rfl rfl rfl rfl (by first | omega | (simp only [IntKind.wrap_i64]; omega)) (by omega) ?_)
    repeat (first | (refine st ?_) | (refine sb ?_) | (intro _))
    by_cases e2 : bt y 1 < 2
    · rw [if_pos (.inr (.inl e2))] at hE
      repeat (first | (refine st ?_) | (refine sb ?_) | (intro _))
      first | (refine z_ret2A tab_ok Try.func90 hb hk Try.results90 0 rfl rfl rfl rfl rfl rfl rfl (fun w hm => ?_)) | (refine z_ret2A tab_ok Try.func90 hb hk Try.results90 1 rfl rfl rfl rfl rfl rfl rfl (fun w hm => ?_)) | (refine z_ret2A tab_ok Try.func90 hb hk Try.results90 2 rfl rfl rfl rfl rfl rfl rfl (fun w hm => ?_)) | (refine z_ret2A tab_ok Try.func90 hb hk Try.results90 3 rfl rfl rfl rfl rfl rfl rfl (fun w hm => ?_)) | (refine z_ret2A tab_ok Try.func90 hb hk Try.results90 4 rfl rfl rfl rfl rfl rfl rfl (fun w hm => ?_))
      rw [← hE]
      exact ⟨rfl, hm.bare⟩
    repeat (first | (refine st ?_) | (refine sb ?_) | (intro _))
    ((try (refine sg ?_)); refine zx_idxN (1) tab_ok rfl rfl rfl rfl rfl rfl (by first | omega | (simp only [IntKind.wrap_i64]; omega)) (by omega) ?_)
    repeat (first | (refine st ?_) | (refine sb ?_) | (intro _))
    by_cases e3 : (x.size : Int) - i < bt y 1
    · rw [if_pos (.inr (.inr e3))] at hE
      repeat (first | (refine st ?_) | (refine sb ?_) | (intro _))
      first | (refine z_ret2A tab_ok Try.func90 hb hk Try.results90 0 rfl rfl rfl rfl rfl rfl rfl (fun w hm => ?_)) | (refine z_ret2A tab_ok Try.func90 hb hk Try.results90 1 rfl rfl rfl rfl rfl rfl rfl (fun w hm => ?_)) | (refine z_ret2A tab_ok Try.func90 hb hk Try.results90 2 rfl rfl rfl rfl rfl rfl rfl (fun w hm => ?_)) | (refine z_ret2A tab_ok Try.func90 hb hk Try.results90 3 rfl rfl rfl rfl rfl rfl rfl (fun w hm => ?_)) | (refine z_ret2A tab_ok Try.func90 hb hk Try.results90 4 rfl rfl rfl rfl rfl rfl rfl (fun w hm => ?_))
      rw [← hE]
      exact ⟨rfl, hm.bare⟩
    rw [if_neg (by omega)] at hE
    repeat (first | (refine st ?_) | (refine sb ?_) | (intro _))
    ((try (refine sg ?_)); refine zx_idxN (1) tab_ok rfl rfl rfl rfl rfl rfl (by first | omega | (simp only [IntKind.wrap_i64]; omega)) (by omega) ?_)
    repeat (first | (refine st ?_) | (refine sb ?_) | (intro _))
    refine zx_re 6 (.int .i64 (bt y 1)) rfl (congrArg _ wb1) ?_
    repeat (first | (refine st ?_) | (refine sb ?_) | (intro _))
    ((try (refine sg ?_)); refine zx_idxN (0) tab_ok rfl rfl rfl rfl rfl rfl (by first | omega | (simp only [IntKind.wrap_i64]; omega)) (by omega) ?_)
    repeat (first | (refine st ?_) | (refine sb ?_) | (intro _))
    by_cases c2 : bt y 0 = 2
    · rw [if_pos c2] at hE
      repeat (first | (refine st ?_) | (refine sb ?_) | (intro _))
      by_cases e4 : bt y 1 = 4
      · rw [if_pos e4] at hE
        repeat (first | (refine st ?_) | (refine sb ?_) | (intro _))
        ((try (refine sg ?_)); (refine zx_call0 rfl fnc89 rfl rfl (fun w hm => getSR2_any y 2 w (by omega) (by omega)) ?_))
        repeat (first | (refine st ?_) | (refine sb ?_) | (intro _))
        ((try (refine sg ?_)); refine zx_idxN (0) tab_ok rfl rfl rfl rfl rfl rfl (by first | omega | (simp only [IntKind.wrap_i64]; omega)) (by omega) ?_)
        repeat (first | (refine st ?_) | (refine sb ?_) | (intro _))
        ((try (refine sg ?_)); (refine zx_sliceN (4 ) ( y.size ) tab_ok rfl rfl rfl rfl rfl rfl rfl (by first | rfl | omega | (simp only [IntKind.wrap_i64]; omega)) (by first | rfl | omega | (simp only [IntKind.wrap_i64]; omega)) (by omega) (by omega) ?_))
        repeat (first | (refine st ?_) | (refine sb ?_) | (intro _))
        refine z_re 1 (.string (x.extract (i + 4) x.size)) rfl (congrArg _ (t1 4)) ?_
        refine z_weaken _ _ ?_ (List.Sublist.refl _) (fun _ h => h) (ih (n, i + 4, { s' with mss := getN y 2 2 }) ⟨by show i + 4 ≤ x.size; omega, by show x.size - (i + 4) ≤ n; omega, hE⟩ (Nat.lt_succ_self _))
        exact ⟨rfl, rfl, rfl, trivial⟩
      · rw [if_neg e4] at hE
        repeat (first | (refine st ?_) | (refine sb ?_) | (intro _))
        first | (refine z_ret2A tab_ok Try.func90 hb hk Try.results90 0 rfl rfl rfl rfl rfl rfl rfl (fun w hm => ?_)) | (refine z_ret2A tab_ok Try.func90 hb hk Try.results90 1 rfl rfl rfl rfl rfl rfl rfl (fun w hm => ?_)) | (refine z_ret2A tab_ok Try.func90 hb hk Try.results90 2 rfl rfl rfl rfl rfl rfl rfl (fun w hm => ?_)) | (refine z_ret2A tab_ok Try.func90 hb hk Try.results90 3 rfl rfl rfl rfl rfl rfl rfl (fun w hm => ?_)) | (refine z_ret2A tab_ok Try.func90 hb hk Try.results90 4 rfl rfl rfl rfl rfl rfl rfl (fun w hm => ?_))
        rw [← hE]
        exact ⟨rfl, hm.bare⟩
    rw [if_neg c2] at hE
    repeat (first | (refine st ?_) | (refine sb ?_) | (intro _))
    ((try (refine sg ?_)); refine zx_idxN (0) tab_ok rfl rfl rfl rfl rfl rfl (by first | omega | (simp only [IntKind.wrap_i64]; omega)) (by omega) ?_)
    repeat (first | (refine st ?_) | (refine sb ?_) | (intro _))
    by_cases c3 : bt y 0 = 3
    · rw [if_pos c3] at hE
      repeat (first | (refine st ?_) | (refine sb ?_) | (intro _))
      by_cases e4 : bt y 1 = 3
      · rw [if_pos e4] at hE
        repeat (first | (refine st ?_) | (refine sb ?_) | (intro _))
        ((try (refine sg ?_)); refine zx_idxN (2) tab_ok rfl rfl rfl rfl rfl rfl (by first | omega | (simp only [IntKind.wrap_i64]; omega)) (by omega) ?_)
        repeat (first | (refine st ?_) | (refine sb ?_) | (intro _))
        by_cases e5 : 14 < bt y 2
        · rw [if_pos e5] at hE
          repeat (first | (refine st ?_) | (refine sb ?_) | (intro _))
          ((try (refine sg ?_)); (refine zx_sliceN (3 ) ( y.size ) tab_ok rfl rfl rfl rfl rfl rfl rfl (by first | rfl | omega | (simp only [IntKind.wrap_i64]; omega)) (by first | rfl | omega | (simp only [IntKind.wrap_i64]; omega)) (by omega) (by omega) ?_))
          repeat (first | (refine st ?_) | (refine sb ?_) | (intro _))
          refine z_re 1 (.string (x.extract (i + 3) x.size)) rfl (congrArg _ (t1 3)) ?_
          refine z_weaken _ _ ?_ (List.Sublist.refl _) (fun _ h => h) (ih (n, i + 3, { s' with scale := 14 }) ⟨by show i + 3 ≤ x.size; omega, by show x.size - (i + 3) ≤ n; omega, hE⟩ (Nat.lt_succ_self _))
          exact ⟨rfl, rfl, rfl, trivial⟩
        · rw [if_neg e5] at hE
          repeat (first | (refine st ?_) | (refine sb ?_) | (intro _))
          ((try (refine sg ?_)); (refine zx_sliceN (3 ) ( y.size ) tab_ok rfl rfl rfl rfl rfl rfl rfl (by first | rfl | omega | (simp only [IntKind.wrap_i64]; omega)) (by first | rfl | omega | (simp only [IntKind.wrap_i64]; omega)) (by omega) (by omega) ?_))
          repeat (first | (refine st ?_) | (refine sb ?_) | (intro _))
          refine z_mem [(r, .c sg0.cells 39 0 0), pG q { s' with scale := bt y 2 }] (congrArg (fun m => [(r, .c sg0.cells 39 0 0), pG q { s' with scale := m }]) wb2) ?_
          refine z_re 1 (.string (x.extract (i + 3) x.size)) rfl (congrArg _ (t1 3)) ?_
          refine z_weaken _ _ ?_ (List.Sublist.refl _) (fun _ h => h) (ih (n, i + 3, { s' with scale := bt y 2 }) ⟨by show i + 3 ≤ x.size; omega, by show x.size - (i + 3) ≤ n; omega, hE⟩ (Nat.lt_succ_self _))
          exact ⟨rfl, rfl, rfl, trivial⟩
      · rw [if_neg e4] at hE
        repeat (first | (refine st ?_) | (refine sb ?_) | (intro _))
        first | (refine z_ret2A tab_ok Try.func90 hb hk Try.results90 0 rfl rfl rfl rfl rfl rfl rfl (fun w hm => ?_)) | (refine z_ret2A tab_ok Try.func90 hb hk Try.results90 1 rfl rfl rfl rfl rfl rfl rfl (fun w hm => ?_)) | (refine z_ret2A tab_ok Try.func90 hb hk Try.results90 2 rfl rfl rfl rfl rfl rfl rfl (fun w hm => ?_)) | (refine z_ret2A tab_ok Try.func90 hb hk Try.results90 3 rfl rfl rfl rfl rfl rfl rfl (fun w hm => ?_)) | (refine z_ret2A tab_ok Try.func90 hb hk Try.results90 4 rfl rfl rfl rfl rfl rfl rfl (fun w hm => ?_))
        rw [← hE]
        exact ⟨rfl, hm.bare⟩
    rw [if_neg c3] at hE
    repeat (first | (refine st ?_) | (refine sb ?_) | (intro _))
    ((try (refine sg ?_)); (refine zx_sliceN ((bt y 1).toNat ) ( y.size ) tab_ok rfl rfl rfl rfl rfl rfl rfl (by first | rfl | omega | (simp only [IntKind.wrap_i64]; omega)) (by first | rfl | omega | (simp only [IntKind.wrap_i64]; omega)) (by omega) (by omega) ?_))
    repeat (first | (refine st ?_) | (refine sb ?_) | (intro _))
    refine z_re 1 (.string (x.extract (i + (bt y 1).toNat) x.size)) rfl (congrArg _ (t1 (bt y 1).toNat)) ?_
    refine z_weaken _ _ ?_ (List.Sublist.refl _) (fun _ h => h) (ih (n, i + (bt y 1).toNat, s') ⟨by show i + (bt y 1).toNat ≤ x.size; omega, by show x.size - (i + (bt y 1).toNat) ≤ n; omega, hE⟩ (Nat.lt_succ_self _))
    exact ⟨rfl, rfl, rfl, trivial⟩
  · have hE : (s', true) = sread x x.size 0 s := by rw [← h3]; cases n with | zero => rfl | succ n => rw [sread, if_pos (by omega)]
    repeat (first | (refine st ?_) | (refine sb ?_) | (intro _))
    first | (refine z_ret2A tab_ok Try.func90 hb hk Try.results90 0 rfl rfl rfl rfl rfl rfl rfl (fun w hm => ?_)) | (refine z_ret2A tab_ok Try.func90 hb hk Try.results90 1 rfl rfl rfl rfl rfl rfl rfl (fun w hm => ?_)) | (refine z_ret2A tab_ok Try.func90 hb hk Try.results90 2 rfl rfl rfl rfl rfl rfl rfl (fun w hm => ?_)) | (refine z_ret2A tab_ok Try.func90 hb hk Try.results90 3 rfl rfl rfl rfl rfl rfl rfl (fun w hm => ?_)) | (refine z_ret2A tab_ok Try.func90 hb hk Try.results90 4 rfl rfl rfl rfl rfl rfl rfl (fun w hm => ?_))
    rw [← hE]
    exact ⟨rfl, hm.bare⟩
end Go.Proofs.Ytabcaiecoiejkaa
