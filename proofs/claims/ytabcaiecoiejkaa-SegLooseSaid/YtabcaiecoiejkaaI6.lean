/- Walk of the law SegLoose: it answers true. -/
import Derived.Test.YtabcaiecoiejkaaI5
import Derived.Test.YtabcaiecoiejkaaK12
set_option maxRecDepth 100000
set_option linter.unusedSimpArgs false
set_option linter.unusedVariables false
set_option maxHeartbeats 1600000
namespace Go.Proofs.Ytabcaiecoiejkaa
open Go K

theorem wru8b (x : Int) : 0 ≤ IntKind.u8.wrap x ∧ IntKind.u8.wrap x ≤ 255 := by rw [IntKind.wrap_u8]; omega
theorem head_q (l : Int) (h : l = 20 ∨ l = 24 ∨ l = 28) : IntKind.u8.wrap (IntKind.i64.wrap (IntKind.i64.wrap ((IntKind.i64.wrap (l + 4)).tdiv 4) * 16)) = (l + 4) * 4 := by
  rcases h with rfl | rfl | rfl <;> decide
theorem SegLoose_any (a a' : Adr) (s : Sg) (at_ by_ : Int) (w : World) (hx : s.data.size ≤ 1000000000000000) (hs : SRange s) :
    Calls Try.prog 7 [.agg (a.cells ++ a'.cells).toArray, s.val, .agg #[.int .i64 at_, .int .i64 by_]].toArray w fun e w' => e = .returned (.bool true) ∧ Mem w [] [] w' := by
  have hr : ∃ r, sbuild a a' s = r := ⟨_, rfl⟩
  obtain ⟨r, hr⟩ := hr
  have hB : ∀ w, Calls Try.prog 23 [a.val, a'.val, s.val].toArray w fun e w' => e = .returned (.tuple #[.string r.1, .int .i64 r.2]) ∧ Mem w [] [] w' := fun w => hr ▸ BuildS_any a a' s w hx hs.1 hs.2.1 hs.2.2.1 hs.2.2.2
  refine calls_of_z Try.func7 rfl Try.ntmps7 rfl (Mem.refl w) ?_; intro cs b hb hk
  repeat (first | (refine st ?_) | (intro _))
  rename_i p3 p4 p5
  ((try (refine sg ?_)); (refine zx_call0 rfl fnc22 rfl rfl (fun w hm => awake18_any w) ?_))
  repeat (first | (refine st ?_) | (intro _))
  ((try (refine sg ?_)); (refine zx_call0 rfl fnc23 rfl rfl (fun w hm => hB w) ?_))
  by_cases hz : r.2 = 0
  · have hgl := sbuild_ok (a := a) (a' := a') (s := s) (by rw [hr]; exact hz)
    rw [hr] at hgl
    obtain ⟨g1, g2, g3, g4⟩ := hgl
    by_cases h6 : 60000 < r.1.size
    · repeat (first | (refine st ?_) | (refine sb ?_) | (intro _))
      refine z_ret1 tab_ok Try.func7 hb hk Try.results7 (.tmp rfl) (fun w hm => ?_)
      exact ⟨rfl, hm.bare⟩
    · have hsz : r.1.size = 20 + (sopt s).size + s.data.size := by rw [g4, sbytes_size]
      have hlg : slong s = 20 + (sopt s).size := rfl
      have ho := sopt_size s
      obtain ⟨e1, e2, e3⟩ := ends_iff.1 g1
      have hhd : bt r.1 12 = slong s * 4 := by rw [g4]; exact sbytes_head a a' s
      have hh := shead_eqR2 r.1
      have hh2 : (shead r.1 : Int) = slong s := by rw [shead, hhd]; omega
      have hA := wru8b at_
      have hY := wru8b by_
      generalize hAA : IntKind.u8.wrap at_ = A at hA
      generalize hYY : IntKind.u8.wrap by_ = Y at hY
      have hlz := lzero_eq a a' s A Y (by omega)
      rw [← g4] at hlz
      have hls := lzero_size s A Y
      have hu := ssum_range a a' (sfirstL s (slong s + 4)) (lrest s A Y)
      have hck : scheck a a' (lzero s A Y) = ssum a a' (sfirstL s (slong s + 4)) (lrest s A Y) := scheck_eq a a' _ _ (sfirstL_size s _)
      have hlb := lbytes_eq a a' s A Y (ssum a a' (sfirstL s (slong s + 4)) (lrest s A Y))
      have hok : sparse a a' (lbytes a a' s A Y) = (s, 0) := loose_ok a a' s A Y g1 g2 hs (by omega) hA hY
      have hlbs : (lbytes a a' s A Y).size ≤ 100000 := by
        unfold lbytes; rw [ByteArray.size_append, ByteArray.size_append, sfirstL_size, putB_size, lrest_size]; omega
      have hps := pseudo_size a a' 6 (lzero s A Y).size
      repeat (first | (refine st ?_) | (refine sb ?_) | (intro _))
      ((try (refine sg ?_)); refine zx_idxN (12) tab_ok rfl rfl rfl rfl rfl rfl (by first | omega | (simp only [IntKind.wrap_i64]; omega)) (by omega) ?_)
      repeat (first | (refine st ?_) | (intro _))
      refine z_re 10 (.int .i64 (slong s)) rfl (congrArg _ (hh.trans hh2)) ?_
      refine z_re 43 (.bool (decide (slong s > 36))) rfl (congrArg (fun z : Int => Value.bool (decide (z > 36))) (hh.trans hh2)) ?_
      refine z_weaken [(3, ptr p3), (4, ptr p4), (5, ptr p5), (7, .bool true), (8, .string r.1), (10, .int .i64 (slong s)), (43, .bool (decide (slong s > 36)))] _ ⟨rfl, rfl, rfl, rfl, rfl, rfl, rfl, trivial⟩ (List.Sublist.refl _) (fun _ h => h) ?_
      repeat (first | (refine sn ?_) | (refine sb ?_) | (intro _))
      refine z_re 11 (.string (ofInts [9, 4, A, Y])) rfl (by rw [hAA, hYY]) ?_
      refine z_weaken [(3, ptr p3), (4, ptr p4), (5, ptr p5), (7, .bool true), (8, .string r.1), (10, .int .i64 (slong s)), (11, .string (ofInts [9, 4, A, Y]))] [(p5, .c [.int .i64 at_, .int .i64 by_] 45 0 0), (p4, .c s.cells 39 0 0), (p3, .c (a.cells ++ a'.cells) 36 0 0)] ⟨rfl, rfl, rfl, rfl, rfl, rfl, rfl, trivial⟩ (List.Sublist.cons _ (List.Sublist.refl _)) (fun _ h => h) ?_
      refine z_regionH [(p5, .c [.int .i64 at_, .int .i64 by_] 45 0 0), (p4, .c s.cells 39 0 0), (p3, .c (a.cells ++ a'.cells) 36 0 0)] (by rfl) follows_mixed (List.Sublist.refl _) (m := 29) rfl ?_
      have x1 : (r.1.extract 0 12).size ≤ 12 := by rw [ByteArray.size_extract]; omega
      have x2 : (r.1.extract 13 16).size ≤ 3 := by rw [ByteArray.size_extract]; omega
      have x3 : (r.1.extract 20 r.1.size).size ≤ 70000 := by rw [ByteArray.size_extract]; omega
      have oi : ∀ l : List Int, (ofInts l).size = l.length := ofInts_size
      have x4 : (ByteArray.mk #[0, 0]).size = 2 := rfl
      refine zh_take 0 (by kernel_rfl) rfl (by kernel_rfl) (by kernel_rfl) ?_ (by simp); (repeat (first | (refine sn ?_) | (refine sb ?_))); refine zh_took (by rfl) ?_
      refine zh_take 1 (by kernel_rfl) rfl (by kernel_rfl) (by kernel_rfl) ?_ (by simp)
      ((try (refine sg ?_)); (refine zx_sliceN (0 ) ( 12 ) tab_ok rfl rfl rfl rfl rfl rfl rfl (by first | rfl | omega | (simp only [IntKind.wrap_i64]; omega)) (by first | rfl | omega | (simp only [IntKind.wrap_i64]; omega)) (by omega) (by omega) ?_))
      refine zh_took (by rfl) ?_
      refine zh_take 2 (by kernel_rfl) rfl (by kernel_rfl) (by kernel_rfl) ?_ (by simp); (repeat (first | (refine sn ?_) | (refine sb ?_))); refine zh_took (by rfl) ?_
      refine zh_take 3 (by kernel_rfl) rfl (by kernel_rfl) (by kernel_rfl) ?_ (by simp); (repeat (first | (refine sn ?_) | (refine sb ?_))); refine zh_took (by rfl) ?_
      refine zh_take 4 (by kernel_rfl) rfl (by kernel_rfl) (by kernel_rfl) ?_ (by simp); (repeat (first | (refine sn ?_) | (refine sb ?_))); refine zh_took (by rfl) ?_
      refine zh_take 5 (by kernel_rfl) rfl (by kernel_rfl) (by kernel_rfl) ?_ (by simp); (repeat (first | (refine sn ?_) | (refine sb ?_))); refine zh_took (by rfl) ?_
      refine zh_take 6 (by kernel_rfl) rfl (by kernel_rfl) (by kernel_rfl) ?_ (by simp)
      refine st ?_
      refine zx_re 59 (.int .u8 ((slong s + 4) * 4)) rfl (congrArg _ (head_q (slong s) (by omega))) ?_
      refine zh_took (by rfl) ?_
      refine zh_take 10 (by kernel_rfl) rfl (by kernel_rfl) (by kernel_rfl) ?_ (by simp); (repeat (first | (refine sn ?_) | (refine sb ?_))); refine zh_took (by rfl) ?_
      refine zh_take 11 (by kernel_rfl) rfl (by kernel_rfl) (by kernel_rfl) ?_ (by simp)
      ((try (refine sg ?_)); (refine zx_sliceN (13 ) ( 16 ) tab_ok rfl rfl rfl rfl rfl rfl rfl (by first | rfl | omega | (simp only [IntKind.wrap_i64]; omega)) (by first | rfl | omega | (simp only [IntKind.wrap_i64]; omega)) (by omega) (by omega) ?_))
      refine zh_took (by rfl) ?_
      refine zh_take 14 (by kernel_rfl) rfl (by kernel_rfl) (by kernel_rfl) ?_ (by simp); (repeat (first | (refine sn ?_) | (refine sb ?_))); refine zh_took (by rfl) ?_
      refine zh_take 15 (by kernel_rfl) rfl (by kernel_rfl) (by kernel_rfl) ?_ (by simp); (repeat (first | (refine sn ?_) | (refine sb ?_))); refine zh_took (by rfl) ?_
      refine zh_take 16 (by kernel_rfl) rfl (by kernel_rfl) (by kernel_rfl) ?_ (by simp)
      refine st ?_
      refine zx_re 69 (.int .u8 Y) rfl (congrArg _ hYY) ?_
      refine zh_took (by rfl) ?_
      refine zh_take 17 (by kernel_rfl) rfl (by kernel_rfl) (by kernel_rfl) ?_ (by simp); (repeat (first | (refine sn ?_) | (refine sb ?_))); refine zh_took (by rfl) ?_
      refine zh_take 18 (by kernel_rfl) rfl (by kernel_rfl) (by kernel_rfl) ?_ (by simp); (repeat (first | (refine sn ?_) | (refine sb ?_))); refine zh_took (by rfl) ?_
      refine zh_take 19 (by kernel_rfl) rfl (by kernel_rfl) (by kernel_rfl) ?_ (by simp)
      refine st ?_
      refine zx_re 72 (.int .u8 A) rfl (congrArg _ hAA) ?_
      refine zh_took (by rfl) ?_
      refine zh_take 23 (by kernel_rfl) rfl (by kernel_rfl) (by kernel_rfl) ?_ (by simp); (repeat (first | (refine sn ?_) | (refine sb ?_))); refine zh_took (by rfl) ?_
      refine zh_take 25 (by kernel_rfl) rfl (by kernel_rfl) (by kernel_rfl) ?_ (by simp); (repeat (first | (refine sn ?_) | (refine sb ?_))); refine zh_took (by rfl) ?_
      refine zh_take 26 (by kernel_rfl) rfl (by kernel_rfl) (by kernel_rfl) ?_ (by simp)
      ((try (refine sg ?_)); (refine zx_sliceN (20 ) ( r.1.size ) tab_ok rfl rfl rfl rfl rfl rfl rfl (by first | rfl | omega | (simp only [IntKind.wrap_i64]; omega)) (by first | rfl | omega | (simp only [IntKind.wrap_i64]; omega)) (by omega) (by omega) ?_))
      refine zh_took (by rfl) ?_
      have hP : ∀ w, Calls Try.prog 25 [a.val, a'.val, .string (lbytes a a' s A Y)].toArray w fun e w' => e = .returned (sparseV (s, 0)) ∧ Mem w [] [] w' := fun w => hok ▸ ParseS_any a a' (lbytes a a' s A Y) w (by omega)
      refine zh_two 7 20 rfl rfl (by kernel_rfl) ?_ ?_
      · refine st ?_
        intro k7
        refine zh_oned (by rfl) (by simp) ?_
        refine zh_grow [(k7, .c [.int .u8 ((slong s + 4) * 4)] 5 0 0), (p5, .c [.int .i64 at_, .int .i64 by_] 45 0 0), (p4, .c s.cells 39 0 0), (p3, .c (a.cells ++ a'.cells) 36 0 0)] (by simp) (List.Sublist.refl _) ?_
        refine zh_take 8 (by kernel_rfl) rfl (by kernel_rfl) (by kernel_rfl) ?_ (by simp); (repeat (first | (refine sn ?_) | (refine sb ?_))); refine zh_took (by rfl) ?_
        refine zh_take 9 (by kernel_rfl) rfl (by kernel_rfl) (by kernel_rfl) ?_ (by simp)
        refine zx_cat rfl rfl rfl (by simp only [ByteArray.size_append, oi, List.length_cons, List.length_nil]; omega) rfl ?_
        refine zh_took (by rfl) ?_
        refine zh_take 12 (by kernel_rfl) rfl (by kernel_rfl) (by kernel_rfl) ?_ (by simp)
        refine zx_cat rfl rfl rfl (by simp only [ByteArray.size_append, oi, List.length_cons, List.length_nil]; omega) rfl ?_
        refine zh_took (by rfl) ?_
        refine zh_take 13 (by kernel_rfl) rfl (by kernel_rfl) (by kernel_rfl) ?_ (by simp)
        refine zx_cat rfl rfl rfl (by simp only [ByteArray.size_append, oi, List.length_cons, List.length_nil]; omega) rfl ?_
        refine zh_took (by rfl) ?_
        refine zh_one 20 rfl (by kernel_rfl) ?_
        refine st ?_
        intro k20
        refine zh_oned (by rfl) (by simp) ?_
        refine zh_grow _ (by simp) (List.Sublist.refl _) ?_
        refine zh_take 21 (by kernel_rfl) rfl (by kernel_rfl) (by kernel_rfl) ?_ (by simp); (repeat (first | (refine sn ?_) | (refine sb ?_))); refine zh_took (by rfl) ?_
        refine zh_take 22 (by kernel_rfl) rfl (by kernel_rfl) (by kernel_rfl) ?_ (by simp)
        refine zx_cat rfl rfl rfl (by simp only [ByteArray.size_append, oi, List.length_cons, List.length_nil]; omega) rfl ?_
        refine zh_took (by rfl) ?_
        refine zh_take 24 (by kernel_rfl) rfl (by kernel_rfl) (by kernel_rfl) ?_ (by simp)
        refine zx_cat rfl rfl rfl (by simp only [ByteArray.size_append, oi, List.length_cons, List.length_nil]; omega) rfl ?_
        refine zh_took (by rfl) ?_
        refine zh_take 27 (by kernel_rfl) rfl (by kernel_rfl) (by kernel_rfl) ?_ (by simp)
        refine zx_cat rfl rfl rfl (by simp only [ByteArray.size_append, oi, List.length_cons, List.length_nil]; omega) rfl ?_
        refine zh_took (by rfl) ?_
        refine zh_take 28 (by kernel_rfl) rfl (by kernel_rfl) (by kernel_rfl) ?_ (by simp); (repeat (first | (refine sn ?_) | (refine sb ?_))); refine zh_took (by rfl) ?_
        refine zh_end (by rfl) (by kernel_rfl) ?_
        refine z_re 12 (.string (lzero s A Y)) rfl (congrArg _ hlz) ?_
        refine z_weaken [(3, ptr p3), (4, ptr p4), (7, .bool true), (12, .string (lzero s A Y))] [(p4, .c s.cells 39 0 0), (p3, .c (a.cells ++ a'.cells) 36 0 0)] ⟨rfl, rfl, rfl, rfl, trivial⟩ (List.Sublist.cons _ (List.Sublist.cons _ (List.Sublist.cons _ (List.Sublist.refl _)))) (fun _ h => h) ?_
        repeat (first | (refine st ?_) | (intro _))
        ((try (refine sg ?_)); (refine zx_call0 rfl fnc31 rfl rfl (fun w hm => Pseudo_any a a' 6 (lzero s A Y).size w e1 e2 e3 (by omega) (by omega) (by omega) (by omega)) ?_))
        repeat (first | (refine st ?_) | (intro _))
        ((try (refine sg ?_)); (refine zx_call0 rfl fnc30 rfl rfl (fun w hm => Sum_any [pseudo a a' 6 (lzero s A Y).size, lzero s A Y] _ 0 2 w (strs_cell hm 0 rfl) (by rw [flat2]; omega) (by simp)) ?_))
        refine zx_re 90 (.int .i64 (ssum a a' (sfirstL s (slong s + 4)) (lrest s A Y))) rfl (congrArg _ hck) ?_
        repeat (first | (refine st ?_) | (refine sb ?_) | (intro _))
        ((try (refine sg ?_)); (refine zx_sliceN (0 ) ( 16 ) tab_ok rfl rfl rfl rfl rfl rfl rfl (by first | rfl | omega | (simp only [IntKind.wrap_i64]; omega)) (by first | rfl | omega | (simp only [IntKind.wrap_i64]; omega)) (by omega) (by omega) ?_))
        repeat (first | (refine st ?_) | (refine sb ?_) | (intro _))
        refine zx_re 94 (.int .u64 (ssum a a' (sfirstL s (slong s + 4)) (lrest s A Y))) rfl (congrArg _ (wru64 hu.1 (by omega))) ?_
        ((try (refine sg ?_)); (refine zx_call0 rfl fnc32 rfl rfl (fun w hm => Put2_any _ w) ?_))
        have x5 : ((lzero s A Y).extract 0 16).size ≤ 16 := by rw [ByteArray.size_extract]; omega
        have x6 : ((lzero s A Y).extract 18 (lzero s A Y).size).size ≤ 80000 := by rw [ByteArray.size_extract]; omega
        repeat (first | (refine st ?_) | (refine sb ?_) | (intro _))
        ((try (refine sg ?_)); (refine zx_sliceN (18 ) ( (lzero s A Y).size ) tab_ok rfl rfl rfl rfl rfl rfl rfl (by first | rfl | omega | (simp only [IntKind.wrap_i64]; omega)) (by first | rfl | omega | (simp only [IntKind.wrap_i64]; omega)) (by omega) (by omega) ?_))
        repeat (first | (refine st ?_) | (refine sb ?_) | (intro _))
        refine zx_re 105 (.string (lbytes a a' s A Y)) rfl (congrArg _ hlb) ?_
        ((try (refine sg ?_)); (refine zx_call0 rfl fnc25 rfl rfl (fun w hm => hP w) ?_))
        repeat (first | (refine st ?_) | (refine sb ?_) | (intro _))
        refine z_ret1 tab_ok Try.func7 hb hk Try.results7 (.tmp rfl) (fun w hm => ?_)
        exact ⟨by simp, hm.bare⟩
      · refine st ?_
        intro k20
        refine zh_oned (by rfl) (by simp) ?_
        refine zh_grow [(k20, .c [.int .u8 Y, .int .u8 A] 5 0 0), (p5, .c [.int .i64 at_, .int .i64 by_] 45 0 0), (p4, .c s.cells 39 0 0), (p3, .c (a.cells ++ a'.cells) 36 0 0)] (by simp) (List.Sublist.refl _) ?_
        refine zh_take 21 (by kernel_rfl) rfl (by kernel_rfl) (by kernel_rfl) ?_ (by simp); (repeat (first | (refine sn ?_) | (refine sb ?_))); refine zh_took (by rfl) ?_
        refine zh_one 7 rfl (by kernel_rfl) ?_
        refine st ?_
        intro k7
        refine zh_oned (by rfl) (by simp) ?_
        refine zh_grow _ (by simp) (List.Sublist.refl _) ?_
        refine zh_take 8 (by kernel_rfl) rfl (by kernel_rfl) (by kernel_rfl) ?_ (by simp); (repeat (first | (refine sn ?_) | (refine sb ?_))); refine zh_took (by rfl) ?_
        refine zh_take 9 (by kernel_rfl) rfl (by kernel_rfl) (by kernel_rfl) ?_ (by simp)
        refine zx_cat rfl rfl rfl (by simp only [ByteArray.size_append, oi, List.length_cons, List.length_nil]; omega) rfl ?_
        refine zh_took (by rfl) ?_
        refine zh_take 12 (by kernel_rfl) rfl (by kernel_rfl) (by kernel_rfl) ?_ (by simp)
        refine zx_cat rfl rfl rfl (by simp only [ByteArray.size_append, oi, List.length_cons, List.length_nil]; omega) rfl ?_
        refine zh_took (by rfl) ?_
        refine zh_take 13 (by kernel_rfl) rfl (by kernel_rfl) (by kernel_rfl) ?_ (by simp)
        refine zx_cat rfl rfl rfl (by simp only [ByteArray.size_append, oi, List.length_cons, List.length_nil]; omega) rfl ?_
        refine zh_took (by rfl) ?_
        refine zh_take 22 (by kernel_rfl) rfl (by kernel_rfl) (by kernel_rfl) ?_ (by simp)
        refine zx_cat rfl rfl rfl (by simp only [ByteArray.size_append, oi, List.length_cons, List.length_nil]; omega) rfl ?_
        refine zh_took (by rfl) ?_
        refine zh_take 24 (by kernel_rfl) rfl (by kernel_rfl) (by kernel_rfl) ?_ (by simp)
        refine zx_cat rfl rfl rfl (by simp only [ByteArray.size_append, oi, List.length_cons, List.length_nil]; omega) rfl ?_
        refine zh_took (by rfl) ?_
        refine zh_take 27 (by kernel_rfl) rfl (by kernel_rfl) (by kernel_rfl) ?_ (by simp)
        refine zx_cat rfl rfl rfl (by simp only [ByteArray.size_append, oi, List.length_cons, List.length_nil]; omega) rfl ?_
        refine zh_took (by rfl) ?_
        refine zh_take 28 (by kernel_rfl) rfl (by kernel_rfl) (by kernel_rfl) ?_ (by simp); (repeat (first | (refine sn ?_) | (refine sb ?_))); refine zh_took (by rfl) ?_
        refine zh_end (by rfl) (by kernel_rfl) ?_
        refine z_re 12 (.string (lzero s A Y)) rfl (congrArg _ hlz) ?_
        refine z_weaken [(3, ptr p3), (4, ptr p4), (7, .bool true), (12, .string (lzero s A Y))] [(p4, .c s.cells 39 0 0), (p3, .c (a.cells ++ a'.cells) 36 0 0)] ⟨rfl, rfl, rfl, rfl, trivial⟩ (List.Sublist.cons _ (List.Sublist.cons _ (List.Sublist.cons _ (List.Sublist.refl _)))) (fun _ h => h) ?_
        repeat (first | (refine st ?_) | (intro _))
        ((try (refine sg ?_)); (refine zx_call0 rfl fnc31 rfl rfl (fun w hm => Pseudo_any a a' 6 (lzero s A Y).size w e1 e2 e3 (by omega) (by omega) (by omega) (by omega)) ?_))
        repeat (first | (refine st ?_) | (intro _))
        ((try (refine sg ?_)); (refine zx_call0 rfl fnc30 rfl rfl (fun w hm => Sum_any [pseudo a a' 6 (lzero s A Y).size, lzero s A Y] _ 0 2 w (strs_cell hm 0 rfl) (by rw [flat2]; omega) (by simp)) ?_))
        refine zx_re 90 (.int .i64 (ssum a a' (sfirstL s (slong s + 4)) (lrest s A Y))) rfl (congrArg _ hck) ?_
        repeat (first | (refine st ?_) | (refine sb ?_) | (intro _))
        ((try (refine sg ?_)); (refine zx_sliceN (0 ) ( 16 ) tab_ok rfl rfl rfl rfl rfl rfl rfl (by first | rfl | omega | (simp only [IntKind.wrap_i64]; omega)) (by first | rfl | omega | (simp only [IntKind.wrap_i64]; omega)) (by omega) (by omega) ?_))
        repeat (first | (refine st ?_) | (refine sb ?_) | (intro _))
        refine zx_re 94 (.int .u64 (ssum a a' (sfirstL s (slong s + 4)) (lrest s A Y))) rfl (congrArg _ (wru64 hu.1 (by omega))) ?_
        ((try (refine sg ?_)); (refine zx_call0 rfl fnc32 rfl rfl (fun w hm => Put2_any _ w) ?_))
        have x5 : ((lzero s A Y).extract 0 16).size ≤ 16 := by rw [ByteArray.size_extract]; omega
        have x6 : ((lzero s A Y).extract 18 (lzero s A Y).size).size ≤ 80000 := by rw [ByteArray.size_extract]; omega
        repeat (first | (refine st ?_) | (refine sb ?_) | (intro _))
        ((try (refine sg ?_)); (refine zx_sliceN (18 ) ( (lzero s A Y).size ) tab_ok rfl rfl rfl rfl rfl rfl rfl (by first | rfl | omega | (simp only [IntKind.wrap_i64]; omega)) (by first | rfl | omega | (simp only [IntKind.wrap_i64]; omega)) (by omega) (by omega) ?_))
        repeat (first | (refine st ?_) | (refine sb ?_) | (intro _))
        refine zx_re 105 (.string (lbytes a a' s A Y)) rfl (congrArg _ hlb) ?_
        ((try (refine sg ?_)); (refine zx_call0 rfl fnc25 rfl rfl (fun w hm => hP w) ?_))
        repeat (first | (refine st ?_) | (refine sb ?_) | (intro _))
        refine z_ret1 tab_ok Try.func7 hb hk Try.results7 (.tmp rfl) (fun w hm => ?_)
        exact ⟨by simp, hm.bare⟩
  · repeat (first | (refine st ?_) | (refine sb ?_) | (intro _))
    refine z_ret1 tab_ok Try.func7 hb hk Try.results7 (.tmp rfl) (fun w hm => ?_)
    exact ⟨rfl, hm.bare⟩
end Go.Proofs.Ytabcaiecoiejkaa
