/- Walk of layer 18's reference: Parse. -/
import Derived.Test.YtabcaiecoiejkaaG5
import Derived.Test.YtabcaiecoiejkaaG3
set_option maxRecDepth 100000
set_option linter.unusedSimpArgs false
set_option linter.unusedVariables false
set_option maxHeartbeats 1600000
namespace Go.Proofs.Ytabcaiecoiejkaa
open Go K

theorem shead_eqR2 (x : ByteArray) : IntKind.i64.wrap (IntKind.i64.wrap ((IntKind.i64.wrap (bt x 12)).tdiv 16) * 4) = (shead x : Int) := by
  have := bt_range x 12
  rw [wr64 (x := bt x 12) (by omega) (by omega), Int.tdiv_eq_ediv_of_nonneg (by omega), wr64 (x := bt x 12 / 16) (by omega) (by omega), wr64 (by omega) (by omega)]
  unfold shead
  omega
theorem ParseR18_any (a a' : Adr) (x : ByteArray) (w : World) (hx : x.size ≤ 1000000000000000) :
    Calls Try.prog 26 [a.val, a'.val, .string x].toArray w fun e w' => e = .returned (sparseV (sparse a a' x)) ∧ Mem w [] [] w' := by
  cases he : ends a a' with
  | false =>
    rw [sparse, he, if_neg (by simp)]
    refine calls_of_z Try.func26 rfl Try.ntmps26 rfl (Mem.refl w) ?_; intro cs b hb hk
    repeat (first | (refine st ?_) | (refine sb ?_) | (intro _))
    ((try (refine sg ?_)); (refine zx_call0 rfl fnc83 rfl rfl (fun w hm => endsR18_any a a' w) ?_))
    repeat (first | (refine st ?_) | (refine sb ?_) | (intro _))
    first | (refine z_ret2A tab_ok Try.func26 hb hk Try.results26 0 rfl rfl rfl rfl rfl rfl rfl (fun w hm => ?_)) | (refine z_ret2A tab_ok Try.func26 hb hk Try.results26 1 rfl rfl rfl rfl rfl rfl rfl (fun w hm => ?_)) | (refine z_ret2A tab_ok Try.func26 hb hk Try.results26 2 rfl rfl rfl rfl rfl rfl rfl (fun w hm => ?_)) | (refine z_ret2A tab_ok Try.func26 hb hk Try.results26 3 rfl rfl rfl rfl rfl rfl rfl (fun w hm => ?_)) | (refine z_ret2A tab_ok Try.func26 hb hk Try.results26 4 rfl rfl rfl rfl rfl rfl rfl (fun w hm => ?_))
    exact ⟨rfl, hm.bare⟩
  | true =>
    rw [sparse, he, if_pos rfl]
    refine calls_of_z Try.func26 rfl Try.ntmps26 rfl (Mem.refl w) ?_; intro cs b hb hk
    repeat (first | (refine st ?_) | (refine sb ?_) | (intro _))
    rename_i p3 p4 r
    ((try (refine sg ?_)); (refine zx_call0 rfl fnc83 rfl rfl (fun w hm => endsR18_any a a' w) ?_))
    repeat (first | (refine st ?_) | (refine sb ?_) | (intro _))
    by_cases h8 : x.size < 20
    · rw [if_pos h8]
      repeat (first | (refine st ?_) | (refine sb ?_) | (intro _))
      first | (refine z_ret2A tab_ok Try.func26 hb hk Try.results26 0 rfl rfl rfl rfl rfl rfl rfl (fun w hm => ?_)) | (refine z_ret2A tab_ok Try.func26 hb hk Try.results26 1 rfl rfl rfl rfl rfl rfl rfl (fun w hm => ?_)) | (refine z_ret2A tab_ok Try.func26 hb hk Try.results26 2 rfl rfl rfl rfl rfl rfl rfl (fun w hm => ?_)) | (refine z_ret2A tab_ok Try.func26 hb hk Try.results26 3 rfl rfl rfl rfl rfl rfl rfl (fun w hm => ?_)) | (refine z_ret2A tab_ok Try.func26 hb hk Try.results26 4 rfl rfl rfl rfl rfl rfl rfl (fun w hm => ?_))
      exact ⟨rfl, hm.bare⟩
    · rw [if_neg h8]
      have hsl := shead_le x
      have hse := shead_eqR2 x
      repeat (first | (refine st ?_) | (refine sb ?_) | (intro _))
      ((try (refine sg ?_)); refine zx_idxN (12) tab_ok rfl rfl rfl rfl rfl rfl (by first | omega | (simp only [IntKind.wrap_i64]; omega)) (by omega) ?_)
      repeat (first | (refine st ?_) | (intro _))
      generalize hh : shead x = h at hsl hse ⊢
      refine zx_re 9 (.int .i64 (h : Int)) rfl (congrArg _ hse) ?_
      refine zx_re 30 (.bool (decide ((h : Int) < 20))) rfl (congrArg (fun z : Int => Value.bool (decide (z < 20))) hse) ?_
      by_cases hl : h < 20 ∨ x.size < h
      · rw [if_pos hl]
        by_cases h1 : h < 20
        · repeat (first | (refine st ?_) | (refine sb ?_) | (intro _))
          first | (refine z_ret2A tab_ok Try.func26 hb hk Try.results26 0 rfl rfl rfl rfl rfl rfl rfl (fun w hm => ?_)) | (refine z_ret2A tab_ok Try.func26 hb hk Try.results26 1 rfl rfl rfl rfl rfl rfl rfl (fun w hm => ?_)) | (refine z_ret2A tab_ok Try.func26 hb hk Try.results26 2 rfl rfl rfl rfl rfl rfl rfl (fun w hm => ?_)) | (refine z_ret2A tab_ok Try.func26 hb hk Try.results26 3 rfl rfl rfl rfl rfl rfl rfl (fun w hm => ?_)) | (refine z_ret2A tab_ok Try.func26 hb hk Try.results26 4 rfl rfl rfl rfl rfl rfl rfl (fun w hm => ?_))
          exact ⟨rfl, hm.bare⟩
        · have h2 : x.size < h := by omega
          repeat (first | (refine st ?_) | (refine sb ?_) | (intro _))
          first | (refine z_ret2A tab_ok Try.func26 hb hk Try.results26 0 rfl rfl rfl rfl rfl rfl rfl (fun w hm => ?_)) | (refine z_ret2A tab_ok Try.func26 hb hk Try.results26 1 rfl rfl rfl rfl rfl rfl rfl (fun w hm => ?_)) | (refine z_ret2A tab_ok Try.func26 hb hk Try.results26 2 rfl rfl rfl rfl rfl rfl rfl (fun w hm => ?_)) | (refine z_ret2A tab_ok Try.func26 hb hk Try.results26 3 rfl rfl rfl rfl rfl rfl rfl (fun w hm => ?_)) | (refine z_ret2A tab_ok Try.func26 hb hk Try.results26 4 rfl rfl rfl rfl rfl rfl rfl (fun w hm => ?_))
          exact ⟨rfl, hm.bare⟩
      · rw [if_neg hl]
        have h1 : ¬ h < 20 := fun h => hl (.inl h)
        have h2 : ¬ x.size < h := fun h => hl (.inr h)
        have hf6 : (x.extract 0 16).size = 16 := by rw [ByteArray.size_extract]; omega
        have hd8 : (x.extract 18 x.size).size = x.size - 18 := by rw [ByteArray.size_extract]; omega
        have hrg := ssum_range a a' (x.extract 0 16) (x.extract 18 x.size)
        have hzs : (x.extract 0 16 ++ zz).size = 18 := by rw [ByteArray.size_append, hf6]; rfl
        by_cases hb6 : 65515 < x.size
        · rw [if_pos (.inl hb6)]
          repeat (first | (refine st ?_) | (refine sb ?_) | (intro _))
          first | (refine z_ret2A tab_ok Try.func26 hb hk Try.results26 0 rfl rfl rfl rfl rfl rfl rfl (fun w hm => ?_)) | (refine z_ret2A tab_ok Try.func26 hb hk Try.results26 1 rfl rfl rfl rfl rfl rfl rfl (fun w hm => ?_)) | (refine z_ret2A tab_ok Try.func26 hb hk Try.results26 2 rfl rfl rfl rfl rfl rfl rfl (fun w hm => ?_)) | (refine z_ret2A tab_ok Try.func26 hb hk Try.results26 3 rfl rfl rfl rfl rfl rfl rfl (fun w hm => ?_)) | (refine z_ret2A tab_ok Try.func26 hb hk Try.results26 4 rfl rfl rfl rfl rfl rfl rfl (fun w hm => ?_))
          exact ⟨rfl, hm.bare⟩
        · by_cases hc : ssum a a' (x.extract 0 16) (x.extract 18 x.size) = getN x 16 2
          · rw [if_neg (fun h => h.elim hb6 (fun h => h hc))]
            repeat (first | (refine st ?_) | (refine sb ?_) | (intro _))
            ((try (refine sg ?_)); (refine zx_sliceN (0 ) ( 16 ) tab_ok rfl rfl rfl rfl rfl rfl rfl (by first | rfl | omega | (simp only [IntKind.wrap_i64]; omega)) (by first | rfl | omega | (simp only [IntKind.wrap_i64]; omega)) (by omega) (by omega) ?_))
            refine zx_cat rfl rfl rfl (by rw [hf6]; decide) rfl ?_
            refine zx_re 45 (.string (x.extract 0 16 ++ zz)) rfl rfl ?_
            repeat (first | (refine st ?_) | (refine sb ?_) | (intro _))
            ((try (refine sg ?_)); (refine zx_sliceN (18 ) ( x.size ) tab_ok rfl rfl rfl rfl rfl rfl rfl (by first | rfl | omega | (simp only [IntKind.wrap_i64]; omega)) (by first | rfl | omega | (simp only [IntKind.wrap_i64]; omega)) (by omega) (by omega) ?_))
            repeat (first | (refine st ?_) | (refine sb ?_) | (intro _))
            ((try (refine sg ?_)); (refine zx_call0 rfl fnc86 rfl rfl (fun w hm => checkS18_any a a' (x.extract 0 16) (x.extract 18 x.size) w he hf6 (by omega)) ?_))
            repeat (first | (refine st ?_) | (refine sb ?_) | (intro _))
            ((try (refine sg ?_)); (refine zx_call0 rfl fnc89 rfl rfl (fun w hm => getSR2_any x 16 w (by omega) (by omega)) ?_))
            repeat (first | (refine sn ?_) | (refine sb ?_) | (intro _))
            have hr0 := getN_range x 0 2
            have hr2 := getN_range x 2 2
            have hr4 := getN_range x 4 4
            have hr8 := getN_range x 8 4
            have hb13 := bt_range x 13
            have e4 : (256 : Int) ^ 4 = 4294967296 := by decide
            refine z_weaken [(2, .string x), (6, ptr r), (9, .int .i64 (h : Int))] [(r, .c sg0.cells 39 0 0)] ⟨rfl, rfl, rfl, trivial⟩ (List.Sublist.cons_cons _ (List.nil_sublist _)) (fun _ h => h) ?_
            refine z_regionH [(r, .c sg0.cells 39 0 0)] (by rfl) follows_mixed (List.Sublist.refl _) (m := 21) rfl ?_
            refine zh_take 0 (by kernel_rfl) rfl (by kernel_rfl) (by kernel_rfl) ?_ (by simp); (repeat (first | (refine sn ?_) | (refine sb ?_))); refine zh_took (by rfl) ?_
            refine zh_take 1 (by kernel_rfl) rfl (by kernel_rfl) (by kernel_rfl) ?_ (by simp)
            ((try (refine sg ?_)); (refine zx_call0 rfl fnc89 rfl rfl (fun w hm => getSR2_any x 0 w (by omega) (by omega)) ?_))
            refine zh_took (by rfl) ?_
            refine zh_take 2 (by kernel_rfl) rfl (by kernel_rfl) (by kernel_rfl) ?_ (by simp); (repeat (first | (refine sn ?_) | (refine sb ?_))); refine zh_took (by rfl) ?_
            refine zh_take 3 (by kernel_rfl) rfl (by kernel_rfl) (by kernel_rfl) ?_ (by simp)
            ((try (refine sg ?_)); (refine zx_call0 rfl fnc89 rfl rfl (fun w hm => getSR2_any x 2 w (by omega) (by omega)) ?_))
            refine zh_took (by rfl) ?_
            refine zh_take 4 (by kernel_rfl) rfl (by kernel_rfl) (by kernel_rfl) ?_ (by simp); (repeat (first | (refine sn ?_) | (refine sb ?_))); refine zh_took (by rfl) ?_
            refine zh_take 5 (by kernel_rfl) rfl (by kernel_rfl) (by kernel_rfl) ?_ (by simp)
            ((try (refine sg ?_)); (refine zx_call0 rfl fnc89 rfl rfl (fun w hm => getSR4_any x 4 w (by omega) (by omega)) ?_))
            refine zh_took (by rfl) ?_
            refine zh_take 6 (by kernel_rfl) rfl (by kernel_rfl) (by kernel_rfl) ?_ (by simp); (repeat (first | (refine sn ?_) | (refine sb ?_))); refine zh_took (by rfl) ?_
            refine zh_take 7 (by kernel_rfl) rfl (by kernel_rfl) (by kernel_rfl) ?_ (by simp); (repeat (first | (refine sn ?_) | (refine sb ?_))); refine zh_took (by rfl) ?_
            refine zh_take 8 (by kernel_rfl) rfl (by kernel_rfl) (by kernel_rfl) ?_ (by simp)
            ((try (refine sg ?_)); (refine zx_call0 rfl fnc89 rfl rfl (fun w hm => getSR4_any x 8 w (by omega) (by omega)) ?_))
            refine zh_took (by rfl) ?_
            refine zh_take 9 (by kernel_rfl) rfl (by kernel_rfl) (by kernel_rfl) ?_ (by simp); (repeat (first | (refine sn ?_) | (refine sb ?_))); refine zh_took (by rfl) ?_
            refine zh_take 10 (by kernel_rfl) rfl (by kernel_rfl) (by kernel_rfl) ?_ (by simp); (repeat (first | (refine sn ?_) | (refine sb ?_))); refine zh_took (by rfl) ?_
            refine zh_take 11 (by kernel_rfl) rfl (by kernel_rfl) (by kernel_rfl) ?_ (by simp)
            ((try (refine sg ?_)); refine zx_idxN (13) tab_ok rfl rfl rfl rfl rfl rfl (by first | omega | (simp only [IntKind.wrap_i64]; omega)) (by omega) ?_)
            refine zh_took (by rfl) ?_
            refine zh_take 12 (by kernel_rfl) rfl (by kernel_rfl) (by kernel_rfl) ?_ (by simp); (repeat (first | (refine sn ?_) | (refine sb ?_))); refine zh_took (by rfl) ?_
            refine zh_take 13 (by kernel_rfl) rfl (by kernel_rfl) (by kernel_rfl) ?_ (by simp); (repeat (first | (refine sn ?_) | (refine sb ?_))); refine zh_took (by rfl) ?_
            refine zh_take 14 (by kernel_rfl) rfl (by kernel_rfl) (by kernel_rfl) ?_ (by simp)
            ((try (refine sg ?_)); (refine zx_call0 rfl fnc89 rfl rfl (fun w hm => getSR2_any x 14 w (by omega) (by omega)) ?_))
            refine zh_took (by rfl) ?_
            refine zh_take 15 (by kernel_rfl) rfl (by kernel_rfl) (by kernel_rfl) ?_ (by simp); (repeat (first | (refine sn ?_) | (refine sb ?_))); refine zh_took (by rfl) ?_
            refine zh_take 16 (by kernel_rfl) rfl (by kernel_rfl) (by kernel_rfl) ?_ (by simp); (repeat (first | (refine sn ?_) | (refine sb ?_))); refine zh_took (by rfl) ?_
            refine zh_take 17 (by kernel_rfl) rfl (by kernel_rfl) (by kernel_rfl) ?_ (by simp)
            ((try (refine sg ?_)); (refine zx_sliceN (h ) ( x.size ) tab_ok rfl rfl rfl rfl rfl rfl rfl (by first | rfl | omega | (simp only [IntKind.wrap_i64]; omega)) (by first | rfl | omega | (simp only [IntKind.wrap_i64]; omega)) (by omega) (by omega) ?_))
            refine zh_took (by rfl) ?_
            refine zh_take 18 (by kernel_rfl) rfl (by kernel_rfl) (by kernel_rfl) ?_ (by simp); (repeat (first | (refine sn ?_) | (refine sb ?_))); refine zh_took (by rfl) ?_
            refine zh_one 19 rfl (by kernel_rfl) ?_
            refine st ?_
            intro g
            refine zh_oned (by rfl) (by simp) ?_
            refine zh_one 20 rfl (by kernel_rfl) ?_
            refine st ?_
            refine zh_oned (by rfl) (by simp) ?_
            refine zh_end (by rfl) (by kernel_rfl) ?_
            have q4 : IntKind.u32.wrap (getN x 4 4) = getN x 4 4 := wru32 (by omega) (by omega)
            have q8 : IntKind.u32.wrap (getN x 8 4) = getN x 8 4 := wru32 (by omega) (by omega)
            have q13 : IntKind.i64.wrap (bt x 13) = getN x 13 1 := by rw [getN_one, wr64 (by omega) (by omega)]
            refine z_mem [pG g (sfields x h), (r, .c sg0.cells 39 0 0)] (by rw [q4, q8, q13]; rfl) ?_
            have hso : sopts x = x.extract 20 h := by rw [sopts, hh]
            rw [hso]
            have hos : (x.extract 20 h).size ≤ 1000 := by rw [ByteArray.size_extract]; omega
            refine z_weaken [(2, .string x), (6, ptr r), (9, .int .i64 (h : Int)), (10, ptr g)] _ ⟨rfl, rfl, rfl, rfl, trivial⟩ (List.Sublist.refl _) (fun _ h => h) ?_
            repeat (first | (refine sn ?_) | (intro _))
            generalize hR : sread (x.extract 20 h) (x.extract 20 h).size 0 (sfields x h) = R
            have hO : ∀ w, Calls Try.prog 90 [(sfields x h).val, .string (x.extract 20 h)].toArray w fun e w' => e = .returned (.tuple #[R.1.val, .bool R.2]) ∧ Mem w [] [] w' := fun w => hR ▸ options_any (sfields x h) (x.extract 20 h) w (by omega)
            refine z_regionH [pG g (sfields x h), (r, .c sg0.cells 39 0 0)] (by rfl) follows_mixed (List.Sublist.refl _) (m := 11) rfl ?_
            refine zh_take 0 (by kernel_rfl) rfl (by kernel_rfl) (by kernel_rfl) ?_ (by simp); (repeat (first | (refine sn ?_) | (refine sb ?_))); refine zh_took (by rfl) ?_
            refine zh_take 1 (by kernel_rfl) rfl (by kernel_rfl) (by kernel_rfl) ?_ (by simp); (repeat (first | (refine sn ?_) | (refine sb ?_))); refine zh_took (by rfl) ?_
            refine zh_take 2 (by kernel_rfl) rfl (by kernel_rfl) (by kernel_rfl) ?_ (by simp); (repeat (first | (refine sn ?_) | (refine sb ?_))); refine zh_took (by rfl) ?_
            refine zh_take 3 (by kernel_rfl) rfl (by kernel_rfl) (by kernel_rfl) ?_ (by simp)
            ((try (refine sg ?_)); (refine zx_sliceN (20 ) ( h ) tab_ok rfl rfl rfl rfl rfl rfl rfl (by first | rfl | omega | (simp only [IntKind.wrap_i64]; omega)) (by first | rfl | omega | (simp only [IntKind.wrap_i64]; omega)) (by omega) (by omega) ?_))
            refine zh_took (by rfl) ?_
            refine zh_take 4 (by kernel_rfl) rfl (by kernel_rfl) (by kernel_rfl) ?_ (by simp)
            ((try (refine sg ?_)); (refine zx_call0 rfl fnc90 rfl rfl (fun w hm => hO w) ?_))
            refine zh_took (by rfl) ?_
            refine zh_take 5 (by kernel_rfl) rfl (by kernel_rfl) (by kernel_rfl) ?_ (by simp); (repeat (first | (refine sn ?_) | (refine sb ?_))); refine zh_took (by rfl) ?_
            refine zh_take 6 (by kernel_rfl) rfl (by kernel_rfl) (by kernel_rfl) ?_ (by simp); (repeat (first | (refine sn ?_) | (refine sb ?_))); refine zh_took (by rfl) ?_
            refine zh_take 7 (by kernel_rfl) rfl (by kernel_rfl) (by kernel_rfl) ?_ (by simp); (repeat (first | (refine sn ?_) | (refine sb ?_))); refine zh_took (by rfl) ?_
            refine zh_one 8 rfl (by kernel_rfl) ?_
            refine st ?_
            intro g2
            refine zh_oned (by rfl) (by simp) ?_
            refine zh_one 9 rfl (by kernel_rfl) ?_
            refine st ?_
            refine zh_oned (by rfl) (by simp) ?_
            refine zh_one 10 rfl (by kernel_rfl) ?_
            refine st ?_
            refine zh_oned (by rfl) (by simp) ?_
            refine zh_end (by rfl) (by kernel_rfl) ?_
            cases hR2 : R.2 with
            | true =>
              rw [if_pos rfl]
              repeat (first | (refine st ?_) | (refine sb ?_) | (intro _))
              first | (refine z_ret2A tab_ok Try.func26 hb hk Try.results26 0 rfl rfl rfl rfl rfl rfl rfl (fun w hm => ?_)) | (refine z_ret2A tab_ok Try.func26 hb hk Try.results26 1 rfl rfl rfl rfl rfl rfl rfl (fun w hm => ?_)) | (refine z_ret2A tab_ok Try.func26 hb hk Try.results26 2 rfl rfl rfl rfl rfl rfl rfl (fun w hm => ?_)) | (refine z_ret2A tab_ok Try.func26 hb hk Try.results26 3 rfl rfl rfl rfl rfl rfl rfl (fun w hm => ?_)) | (refine z_ret2A tab_ok Try.func26 hb hk Try.results26 4 rfl rfl rfl rfl rfl rfl rfl (fun w hm => ?_))
              exact ⟨rfl, hm.bare⟩
            | false =>
              rw [if_neg (by simp)]
              repeat (first | (refine st ?_) | (refine sb ?_) | (intro _))
              first | (refine z_ret2A tab_ok Try.func26 hb hk Try.results26 0 rfl rfl rfl rfl rfl rfl rfl (fun w hm => ?_)) | (refine z_ret2A tab_ok Try.func26 hb hk Try.results26 1 rfl rfl rfl rfl rfl rfl rfl (fun w hm => ?_)) | (refine z_ret2A tab_ok Try.func26 hb hk Try.results26 2 rfl rfl rfl rfl rfl rfl rfl (fun w hm => ?_)) | (refine z_ret2A tab_ok Try.func26 hb hk Try.results26 3 rfl rfl rfl rfl rfl rfl rfl (fun w hm => ?_)) | (refine z_ret2A tab_ok Try.func26 hb hk Try.results26 4 rfl rfl rfl rfl rfl rfl rfl (fun w hm => ?_))
              exact ⟨rfl, hm.bare⟩
          · rw [if_pos (.inr hc)]
            repeat (first | (refine st ?_) | (refine sb ?_) | (intro _))
            ((try (refine sg ?_)); (refine zx_sliceN (0 ) ( 16 ) tab_ok rfl rfl rfl rfl rfl rfl rfl (by first | rfl | omega | (simp only [IntKind.wrap_i64]; omega)) (by first | rfl | omega | (simp only [IntKind.wrap_i64]; omega)) (by omega) (by omega) ?_))
            refine zx_cat rfl rfl rfl (by rw [hf6]; decide) rfl ?_
            refine zx_re 45 (.string (x.extract 0 16 ++ zz)) rfl rfl ?_
            repeat (first | (refine st ?_) | (refine sb ?_) | (intro _))
            ((try (refine sg ?_)); (refine zx_sliceN (18 ) ( x.size ) tab_ok rfl rfl rfl rfl rfl rfl rfl (by first | rfl | omega | (simp only [IntKind.wrap_i64]; omega)) (by first | rfl | omega | (simp only [IntKind.wrap_i64]; omega)) (by omega) (by omega) ?_))
            repeat (first | (refine st ?_) | (refine sb ?_) | (intro _))
            ((try (refine sg ?_)); (refine zx_call0 rfl fnc86 rfl rfl (fun w hm => checkS18_any a a' (x.extract 0 16) (x.extract 18 x.size) w he hf6 (by omega)) ?_))
            repeat (first | (refine st ?_) | (refine sb ?_) | (intro _))
            ((try (refine sg ?_)); (refine zx_call0 rfl fnc89 rfl rfl (fun w hm => getSR2_any x 16 w (by omega) (by omega)) ?_))
            repeat (first | (refine st ?_) | (refine sb ?_) | (intro _))
            first | (refine z_ret2A tab_ok Try.func26 hb hk Try.results26 0 rfl rfl rfl rfl rfl rfl rfl (fun w hm => ?_)) | (refine z_ret2A tab_ok Try.func26 hb hk Try.results26 1 rfl rfl rfl rfl rfl rfl rfl (fun w hm => ?_)) | (refine z_ret2A tab_ok Try.func26 hb hk Try.results26 2 rfl rfl rfl rfl rfl rfl rfl (fun w hm => ?_)) | (refine z_ret2A tab_ok Try.func26 hb hk Try.results26 3 rfl rfl rfl rfl rfl rfl rfl (fun w hm => ?_)) | (refine z_ret2A tab_ok Try.func26 hb hk Try.results26 4 rfl rfl rfl rfl rfl rfl rfl (fun w hm => ?_))
            exact ⟨rfl, hm.bare⟩
end Go.Proofs.Ytabcaiecoiejkaa
