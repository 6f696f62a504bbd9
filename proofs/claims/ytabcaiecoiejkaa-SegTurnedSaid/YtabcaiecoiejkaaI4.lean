/- Walk of the law SegTurned: it answers true. -/
import Derived.Test.YtabcaiecoiejkaaI3
import Derived.Test.YtabcaiecoiejkaaK12
set_option maxRecDepth 100000
set_option linter.unusedSimpArgs false
set_option linter.unusedVariables false
set_option maxHeartbeats 1600000
namespace Go.Proofs.Ytabcaiecoiejkaa
open Go K

theorem wru8 (x : Int) : 0 ≤ IntKind.u8.wrap x ∧ IntKind.u8.wrap x ≤ 255 := by rw [IntKind.wrap_u8]; omega
theorem SegTurned_any (a a' : Adr) (s : Sg) (at_ by_ : Int) (w : World) (hx : s.data.size ≤ 1000000000000000) (hs : SRange s) (ha : -9223372036854775808 ≤ at_ ∧ at_ ≤ 9223372036854775807) :
    Calls Try.prog 5 [.agg (a.cells ++ a'.cells).toArray, s.val, .agg #[.int .i64 at_, .int .i64 by_]].toArray w fun e w' => e = .returned (.bool true) ∧ Mem w [] [] w' := by
  have hr : ∃ r, sbuild a a' s = r := ⟨_, rfl⟩
  obtain ⟨r, hr⟩ := hr
  have hB : ∀ w, Calls Try.prog 23 [a.val, a'.val, s.val].toArray w fun e w' => e = .returned (.tuple #[.string r.1, .int .i64 r.2]) ∧ Mem w [] [] w' := fun w => hr ▸ BuildS_any a a' s w hx hs.1 hs.2.1 hs.2.2.1 hs.2.2.2
  refine calls_of_z Try.func5 rfl Try.ntmps5 rfl (Mem.refl w) ?_; intro cs b hb hk
  repeat (first | (refine st ?_) | (intro _))
  rename_i p3 p4 p5
  ((try (refine sg ?_)); (refine zx_call0 rfl fnc22 rfl rfl (fun w hm => awake18_any w) ?_))
  repeat (first | (refine st ?_) | (intro _))
  ((try (refine sg ?_)); (refine zx_call0 rfl fnc23 rfl rfl (fun w hm => hB w) ?_))
  by_cases hz : r.2 = 0
  · have hgl := sbuild_ok (a := a) (a' := a') (s := s) (by rw [hr]; exact hz)
    rw [hr] at hgl
    obtain ⟨g1, g2, g3, g4⟩ := hgl
    have hsz : r.1.size ≤ 65515 := by rw [g4]; exact sbytes_le a a' s g3
    have hsz2 : 20 ≤ r.1.size := by rw [g4, sbytes_size]; omega
    have hrd : sparse a a' r.1 = (s, 0) := by rw [g4]; exact roundS a a' s g1 g2 hs.1 hs.2.1 hs.2.2.1 hs.2.2.2 g3
    have hne : decide (r.1 = ByteArray.mk #[]) = false := decide_eq_false (fun h => by rw [h] at hsz2; exact absurd hsz2 (by decide))
    obtain ⟨n, hn⟩ : ∃ n, r.1.size = n + 1 := ⟨r.1.size - 1, by omega⟩
    have hn' : (r.1.size : Int) = Int.ofNat (n + 1) := by rw [hn]; rfl
    have hu8 := wru8 by_
    by_cases hneg : at_ < 0
    · have e1 : IntKind.i64.wrap (0 - (IntKind.i64.wrap (at_ + 1))) = Int.ofNat (-(at_ + 1)).toNat := by rw [wr64 (x := at_ + 1) (by omega) (by omega), wr64 (by omega) (by omega)]; show _ = (((-(at_ + 1)).toNat : Nat) : Int); omega
      repeat (first | (refine st ?_) | (refine sb ?_) | (intro _))
      refine zx_re 45 (.int .i64 (Int.ofNat (-(at_ + 1)).toNat)) rfl (congrArg _ e1) ?_
      refine zx_re 47 (.int .i64 (Int.ofNat (n + 1))) rfl (congrArg _ hn') ?_
      obtain ⟨k, hkk⟩ : ∃ k, (-(at_ + 1)).toNat % (n + 1) = k := ⟨_, rfl⟩
      have hk1 : k < r.1.size := by rw [hn, ← hkk]; exact Nat.mod_lt _ (Nat.succ_pos n)
      refine st ?_
      refine zx_re 48 (.int .i64 (k : Int)) rfl (congrArg _ (show Int.ofNat ((-(at_ + 1)).toNat % (n + 1)) = (k : Int) from by rw [hkk]; rfl)) ?_
      by_cases hb0 : IntKind.u8.wrap by_ = 0
      · repeat (first | (refine sn ?_) | (refine sb ?_) | (intro _))
        have hxr := bt_range r.1 k
        have hxo := xor_ne (bt r.1 k) 1 hxr.1 hxr.2 (by omega) (by omega)
        generalize hv : bits .xor .u8 (bt r.1 k) 1 = v at hxo
        obtain ⟨q, hq⟩ : ∃ q, sparse a a' (turned r.1 k v) = q := ⟨_, rfl⟩
        have hts := size_turned r.1 k v hk1
        have hq2 : q.2 = 73 ∨ q.2 = 72 := by rw [← hq]; exact turned_bad a a' r.1 s k v g1 hrd hk1 hxo.2.1 hxo.2.2 hxo.1
        have hP : ∀ w, Calls Try.prog 25 [a.val, a'.val, .string (turned r.1 k v)].toArray w fun e w' => e = .returned (sparseV q) ∧ Mem w [] [] w' := fun w => hq ▸ ParseS_any a a' (turned r.1 k v) w (by omega)
        have c1 : (r.1.extract 0 k).size + (ofInts [v]).size ≤ 100000 := by rw [ofInts_size, ByteArray.size_extract, List.length_singleton]; omega
        have c2 : (r.1.extract 0 k ++ ofInts [v]).size + (r.1.extract (k + 1) r.1.size).size ≤ 200000 := by rw [ByteArray.size_append, ofInts_size, ByteArray.size_extract, ByteArray.size_extract, List.length_singleton]; omega
        refine z_weaken [(3, ptr p3), (7, .bool true), (10, .string r.1), (12, .int .i64 (k : Int)), (13, .int .u8 1)] [(p3, .c (a.cells ++ a'.cells) 36 0 0)] ⟨rfl, rfl, rfl, rfl, rfl, trivial⟩ (by first | exact List.Sublist.refl _ | (repeat (first | exact List.Sublist.refl _ | apply List.Sublist.cons))) (fun _ h => h) ?_
        refine z_regionH [(p3, .c (a.cells ++ a'.cells) 36 0 0)] (by rfl) follows_mixed (List.Sublist.refl _) (m := 27) rfl ?_
        refine zh_take 0 (by kernel_rfl) rfl (by kernel_rfl) (by kernel_rfl) ?_ (by simp); (repeat (first | (refine sn ?_) | (refine sb ?_))); refine zh_took (by rfl) ?_
        refine zh_take 1 (by kernel_rfl) rfl (by kernel_rfl) (by kernel_rfl) ?_ (by simp); (repeat (first | (refine sn ?_) | (refine sb ?_))); refine zh_took (by rfl) ?_
        refine zh_take 2 (by kernel_rfl) rfl (by kernel_rfl) (by kernel_rfl) ?_ (by simp); (repeat (first | (refine sn ?_) | (refine sb ?_))); refine zh_took (by rfl) ?_
        refine zh_take 3 (by kernel_rfl) rfl (by kernel_rfl) (by kernel_rfl) ?_ (by simp); (repeat (first | (refine sn ?_) | (refine sb ?_))); refine zh_took (by rfl) ?_
        refine zh_take 4 (by kernel_rfl) rfl (by kernel_rfl) (by kernel_rfl) ?_ (by simp); (repeat (first | (refine sn ?_) | (refine sb ?_))); refine zh_took (by rfl) ?_
        refine zh_take 5 (by kernel_rfl) rfl (by kernel_rfl) (by kernel_rfl) ?_ (by simp); (repeat (first | (refine sn ?_) | (refine sb ?_))); refine zh_took (by rfl) ?_
        refine zh_take 6 (by kernel_rfl) rfl (by kernel_rfl) (by kernel_rfl) ?_ (by simp)
        ((try (refine sg ?_)); (refine zx_sliceN (0 ) ( k ) tab_ok rfl rfl rfl rfl rfl rfl rfl (by first | rfl | omega | (simp only [IntKind.wrap_i64]; omega)) (by first | rfl | omega | (simp only [IntKind.wrap_i64]; omega)) (by omega) (by omega) ?_))
        refine zh_took (by rfl) ?_
        refine zh_take 7 (by kernel_rfl) rfl (by kernel_rfl) (by kernel_rfl) ?_ (by simp); (repeat (first | (refine sn ?_) | (refine sb ?_))); refine zh_took (by rfl) ?_
        refine zh_take 8 (by kernel_rfl) rfl (by kernel_rfl) (by kernel_rfl) ?_ (by simp); (repeat (first | (refine sn ?_) | (refine sb ?_))); refine zh_took (by rfl) ?_
        refine zh_take 9 (by kernel_rfl) rfl (by kernel_rfl) (by kernel_rfl) ?_ (by simp)
        ((try (refine sg ?_)); refine zx_idxN (k) tab_ok rfl rfl rfl rfl rfl rfl (by first | omega | (simp only [IntKind.wrap_i64]; omega)) (by omega) ?_)
        refine zh_took (by rfl) ?_
        refine zh_take 10 (by kernel_rfl) rfl (by kernel_rfl) (by kernel_rfl) ?_ (by simp); (repeat (first | (refine sn ?_) | (refine sb ?_))); refine zh_took (by rfl) ?_
        refine zh_take 11 (by kernel_rfl) rfl (by kernel_rfl) (by kernel_rfl) ?_ (by simp)
        refine st ?_
        refine zx_re 65 (.int .u8 v) rfl (congrArg _ hv) ?_
        refine zh_took (by rfl) ?_
        refine zh_take 15 (by kernel_rfl) rfl (by kernel_rfl) (by kernel_rfl) ?_ (by simp); (repeat (first | (refine sn ?_) | (refine sb ?_))); refine zh_took (by rfl) ?_
        refine zh_take 16 (by kernel_rfl) rfl (by kernel_rfl) (by kernel_rfl) ?_ (by simp); (repeat (first | (refine sn ?_) | (refine sb ?_))); refine zh_took (by rfl) ?_
        refine zh_take 17 (by kernel_rfl) rfl (by kernel_rfl) (by kernel_rfl) ?_ (by simp)
        refine st ?_
        refine zx_re 71 (.int .i64 ((k + 1 : Nat) : Int)) rfl (congrArg _ (wr64 (by omega) (by omega))) ?_
        refine zh_took (by rfl) ?_
        refine zh_take 18 (by kernel_rfl) rfl (by kernel_rfl) (by kernel_rfl) ?_ (by simp)
        ((try (refine sg ?_)); (refine zx_sliceN ((k + 1) ) ( r.1.size ) tab_ok rfl rfl rfl rfl rfl rfl rfl (by first | rfl | omega | (simp only [IntKind.wrap_i64]; omega)) (by first | rfl | omega | (simp only [IntKind.wrap_i64]; omega)) (by omega) (by omega) ?_))
        refine zh_took (by rfl) ?_
        refine zh_two 12 24 rfl rfl (by kernel_rfl) ?_ ?_
        · refine st ?_
          intro kb
          refine zh_oned (by rfl) (by simp) ?_
          refine zh_grow _ (by simp) (List.Sublist.refl _) ?_
          refine zh_take 13 (by kernel_rfl) rfl (by kernel_rfl) (by kernel_rfl) ?_ (by simp); (repeat (first | (refine sn ?_) | (refine sb ?_))); refine zh_took (by rfl) ?_
          refine zh_take 14 (by kernel_rfl) rfl (by kernel_rfl) (by kernel_rfl) ?_ (by simp)
          refine zx_cat rfl rfl rfl (by omega) rfl ?_
          refine zh_took (by rfl) ?_
          refine zh_take 19 (by kernel_rfl) rfl (by kernel_rfl) (by kernel_rfl) ?_ (by simp)
          refine zx_cat rfl rfl rfl (by omega) rfl ?_
          refine zx_re 73 (.string (turned r.1 k v)) rfl rfl ?_
          refine zh_took (by rfl) ?_
          refine zh_take 20 (by kernel_rfl) rfl (by kernel_rfl) (by kernel_rfl) ?_ (by simp)
          ((try (refine sg ?_)); (refine zx_call0 rfl fnc25 rfl rfl (fun w hm => hP w) ?_))
          refine zh_took (by rfl) ?_
          refine zh_take 21 (by kernel_rfl) rfl (by kernel_rfl) (by kernel_rfl) ?_ (by simp); (repeat (first | (refine sn ?_) | (refine sb ?_))); refine zh_took (by rfl) ?_
          refine zh_take 22 (by kernel_rfl) rfl (by kernel_rfl) (by kernel_rfl) ?_ (by simp); (repeat (first | (refine sn ?_) | (refine sb ?_))); refine zh_took (by rfl) ?_
          refine zh_take 23 (by kernel_rfl) rfl (by kernel_rfl) (by kernel_rfl) ?_ (by simp); (repeat (first | (refine sn ?_) | (refine sb ?_))); refine zh_took (by rfl) ?_
          refine zh_one 24 rfl (by kernel_rfl) ?_
          refine st ?_
          intro gb
          refine zh_oned (by rfl) (by simp) ?_
          refine zh_one 25 rfl (by kernel_rfl) ?_
          refine st ?_
          refine zh_oned (by rfl) (by simp) ?_
          refine zh_take 26 (by kernel_rfl) rfl (by kernel_rfl) (by kernel_rfl) ?_ (by simp); (repeat (first | (refine sn ?_) | (refine sb ?_))); refine zh_took (by rfl) ?_
          refine zh_end (by rfl) (by kernel_rfl) ?_
          rcases hq2 with hq2 | hq2
          · repeat (first | (refine st ?_) | (refine sb ?_) | (intro _))
            refine z_ret1 tab_ok Try.func5 hb hk Try.results5 (.tmp rfl) (fun w hm => ?_)
            exact ⟨by first | rfl | (simp [hq2]; done) | simp, hm.bare⟩
          · repeat (first | (refine st ?_) | (refine sb ?_) | (intro _))
            refine z_ret1 tab_ok Try.func5 hb hk Try.results5 (.tmp rfl) (fun w hm => ?_)
            exact ⟨by first | rfl | (simp [hq2]; done) | simp, hm.bare⟩
        · refine st ?_
          intro gb
          refine zh_oned (by rfl) (by simp) ?_
          refine zh_one 12 rfl (by kernel_rfl) ?_
          refine st ?_
          intro kb
          refine zh_oned (by rfl) (by simp) ?_
          refine zh_grow [(kb, .c [.int .u8 v] 5 0 0), (p3, .c (a.cells ++ a'.cells) 36 0 0)] (by simp) (List.Sublist.cons_cons _ (List.Sublist.cons _ (List.Sublist.refl _))) ?_
          refine zh_take 13 (by kernel_rfl) rfl (by kernel_rfl) (by kernel_rfl) ?_ (by simp); (repeat (first | (refine sn ?_) | (refine sb ?_))); refine zh_took (by rfl) ?_
          refine zh_take 14 (by kernel_rfl) rfl (by kernel_rfl) (by kernel_rfl) ?_ (by simp)
          refine zx_cat rfl rfl rfl (by omega) rfl ?_
          refine zh_took (by rfl) ?_
          refine zh_take 19 (by kernel_rfl) rfl (by kernel_rfl) (by kernel_rfl) ?_ (by simp)
          refine zx_cat rfl rfl rfl (by omega) rfl ?_
          refine zx_re 73 (.string (turned r.1 k v)) rfl rfl ?_
          refine zh_took (by rfl) ?_
          refine zh_take 20 (by kernel_rfl) rfl (by kernel_rfl) (by kernel_rfl) ?_ (by simp)
          ((try (refine sg ?_)); (refine zx_call0 rfl fnc25 rfl rfl (fun w hm => hP w) ?_))
          refine zh_took (by rfl) ?_
          refine zh_take 21 (by kernel_rfl) rfl (by kernel_rfl) (by kernel_rfl) ?_ (by simp); (repeat (first | (refine sn ?_) | (refine sb ?_))); refine zh_took (by rfl) ?_
          refine zh_take 22 (by kernel_rfl) rfl (by kernel_rfl) (by kernel_rfl) ?_ (by simp); (repeat (first | (refine sn ?_) | (refine sb ?_))); refine zh_took (by rfl) ?_
          refine zh_take 23 (by kernel_rfl) rfl (by kernel_rfl) (by kernel_rfl) ?_ (by simp); (repeat (first | (refine sn ?_) | (refine sb ?_))); refine zh_took (by rfl) ?_
          refine zh_one 25 rfl (by kernel_rfl) ?_
          refine st ?_
          refine zh_oned (by rfl) (by simp) ?_
          refine zh_take 26 (by kernel_rfl) rfl (by kernel_rfl) (by kernel_rfl) ?_ (by simp); (repeat (first | (refine sn ?_) | (refine sb ?_))); refine zh_took (by rfl) ?_
          refine zh_end (by rfl) (by kernel_rfl) ?_
          rcases hq2 with hq2 | hq2
          · repeat (first | (refine st ?_) | (refine sb ?_) | (intro _))
            refine z_ret1 tab_ok Try.func5 hb hk Try.results5 (.tmp rfl) (fun w hm => ?_)
            exact ⟨by first | rfl | (simp [hq2]; done) | simp, hm.bare⟩
          · repeat (first | (refine st ?_) | (refine sb ?_) | (intro _))
            refine z_ret1 tab_ok Try.func5 hb hk Try.results5 (.tmp rfl) (fun w hm => ?_)
            exact ⟨by first | rfl | (simp [hq2]; done) | simp, hm.bare⟩
      · repeat (first | (refine sn ?_) | (refine sb ?_) | (intro _))
        have hxr := bt_range r.1 k
        have hxo := xor_ne (bt r.1 k) (IntKind.u8.wrap by_) hxr.1 hxr.2 (by omega) (by omega)
        generalize hv : bits .xor .u8 (bt r.1 k) (IntKind.u8.wrap by_) = v at hxo
        obtain ⟨q, hq⟩ : ∃ q, sparse a a' (turned r.1 k v) = q := ⟨_, rfl⟩
        have hts := size_turned r.1 k v hk1
        have hq2 : q.2 = 73 ∨ q.2 = 72 := by rw [← hq]; exact turned_bad a a' r.1 s k v g1 hrd hk1 hxo.2.1 hxo.2.2 hxo.1
        have hP : ∀ w, Calls Try.prog 25 [a.val, a'.val, .string (turned r.1 k v)].toArray w fun e w' => e = .returned (sparseV q) ∧ Mem w [] [] w' := fun w => hq ▸ ParseS_any a a' (turned r.1 k v) w (by omega)
        have c1 : (r.1.extract 0 k).size + (ofInts [v]).size ≤ 100000 := by rw [ofInts_size, ByteArray.size_extract, List.length_singleton]; omega
        have c2 : (r.1.extract 0 k ++ ofInts [v]).size + (r.1.extract (k + 1) r.1.size).size ≤ 200000 := by rw [ByteArray.size_append, ofInts_size, ByteArray.size_extract, ByteArray.size_extract, List.length_singleton]; omega
        refine z_weaken [(3, ptr p3), (7, .bool true), (10, .string r.1), (12, .int .i64 (k : Int)), (13, .int .u8 (IntKind.u8.wrap by_))] [(p3, .c (a.cells ++ a'.cells) 36 0 0)] ⟨rfl, rfl, rfl, rfl, rfl, trivial⟩ (by first | exact List.Sublist.refl _ | (repeat (first | exact List.Sublist.refl _ | apply List.Sublist.cons))) (fun _ h => h) ?_
        refine z_regionH [(p3, .c (a.cells ++ a'.cells) 36 0 0)] (by rfl) follows_mixed (List.Sublist.refl _) (m := 27) rfl ?_
        refine zh_take 0 (by kernel_rfl) rfl (by kernel_rfl) (by kernel_rfl) ?_ (by simp); (repeat (first | (refine sn ?_) | (refine sb ?_))); refine zh_took (by rfl) ?_
        refine zh_take 1 (by kernel_rfl) rfl (by kernel_rfl) (by kernel_rfl) ?_ (by simp); (repeat (first | (refine sn ?_) | (refine sb ?_))); refine zh_took (by rfl) ?_
        refine zh_take 2 (by kernel_rfl) rfl (by kernel_rfl) (by kernel_rfl) ?_ (by simp); (repeat (first | (refine sn ?_) | (refine sb ?_))); refine zh_took (by rfl) ?_
        refine zh_take 3 (by kernel_rfl) rfl (by kernel_rfl) (by kernel_rfl) ?_ (by simp); (repeat (first | (refine sn ?_) | (refine sb ?_))); refine zh_took (by rfl) ?_
        refine zh_take 4 (by kernel_rfl) rfl (by kernel_rfl) (by kernel_rfl) ?_ (by simp); (repeat (first | (refine sn ?_) | (refine sb ?_))); refine zh_took (by rfl) ?_
        refine zh_take 5 (by kernel_rfl) rfl (by kernel_rfl) (by kernel_rfl) ?_ (by simp); (repeat (first | (refine sn ?_) | (refine sb ?_))); refine zh_took (by rfl) ?_
        refine zh_take 6 (by kernel_rfl) rfl (by kernel_rfl) (by kernel_rfl) ?_ (by simp)
        ((try (refine sg ?_)); (refine zx_sliceN (0 ) ( k ) tab_ok rfl rfl rfl rfl rfl rfl rfl (by first | rfl | omega | (simp only [IntKind.wrap_i64]; omega)) (by first | rfl | omega | (simp only [IntKind.wrap_i64]; omega)) (by omega) (by omega) ?_))
        refine zh_took (by rfl) ?_
        refine zh_take 7 (by kernel_rfl) rfl (by kernel_rfl) (by kernel_rfl) ?_ (by simp); (repeat (first | (refine sn ?_) | (refine sb ?_))); refine zh_took (by rfl) ?_
        refine zh_take 8 (by kernel_rfl) rfl (by kernel_rfl) (by kernel_rfl) ?_ (by simp); (repeat (first | (refine sn ?_) | (refine sb ?_))); refine zh_took (by rfl) ?_
        refine zh_take 9 (by kernel_rfl) rfl (by kernel_rfl) (by kernel_rfl) ?_ (by simp)
        ((try (refine sg ?_)); refine zx_idxN (k) tab_ok rfl rfl rfl rfl rfl rfl (by first | omega | (simp only [IntKind.wrap_i64]; omega)) (by omega) ?_)
        refine zh_took (by rfl) ?_
        refine zh_take 10 (by kernel_rfl) rfl (by kernel_rfl) (by kernel_rfl) ?_ (by simp); (repeat (first | (refine sn ?_) | (refine sb ?_))); refine zh_took (by rfl) ?_
        refine zh_take 11 (by kernel_rfl) rfl (by kernel_rfl) (by kernel_rfl) ?_ (by simp)
        refine st ?_
        refine zx_re 65 (.int .u8 v) rfl (congrArg _ hv) ?_
        refine zh_took (by rfl) ?_
        refine zh_take 15 (by kernel_rfl) rfl (by kernel_rfl) (by kernel_rfl) ?_ (by simp); (repeat (first | (refine sn ?_) | (refine sb ?_))); refine zh_took (by rfl) ?_
        refine zh_take 16 (by kernel_rfl) rfl (by kernel_rfl) (by kernel_rfl) ?_ (by simp); (repeat (first | (refine sn ?_) | (refine sb ?_))); refine zh_took (by rfl) ?_
        refine zh_take 17 (by kernel_rfl) rfl (by kernel_rfl) (by kernel_rfl) ?_ (by simp)
        refine st ?_
        refine zx_re 71 (.int .i64 ((k + 1 : Nat) : Int)) rfl (congrArg _ (wr64 (by omega) (by omega))) ?_
        refine zh_took (by rfl) ?_
        refine zh_take 18 (by kernel_rfl) rfl (by kernel_rfl) (by kernel_rfl) ?_ (by simp)
        ((try (refine sg ?_)); (refine zx_sliceN ((k + 1) ) ( r.1.size ) tab_ok rfl rfl rfl rfl rfl rfl rfl (by first | rfl | omega | (simp only [IntKind.wrap_i64]; omega)) (by first | rfl | omega | (simp only [IntKind.wrap_i64]; omega)) (by omega) (by omega) ?_))
        refine zh_took (by rfl) ?_
        refine zh_two 12 24 rfl rfl (by kernel_rfl) ?_ ?_
        · refine st ?_
          intro kb
          refine zh_oned (by rfl) (by simp) ?_
          refine zh_grow _ (by simp) (List.Sublist.refl _) ?_
          refine zh_take 13 (by kernel_rfl) rfl (by kernel_rfl) (by kernel_rfl) ?_ (by simp); (repeat (first | (refine sn ?_) | (refine sb ?_))); refine zh_took (by rfl) ?_
          refine zh_take 14 (by kernel_rfl) rfl (by kernel_rfl) (by kernel_rfl) ?_ (by simp)
          refine zx_cat rfl rfl rfl (by omega) rfl ?_
          refine zh_took (by rfl) ?_
          refine zh_take 19 (by kernel_rfl) rfl (by kernel_rfl) (by kernel_rfl) ?_ (by simp)
          refine zx_cat rfl rfl rfl (by omega) rfl ?_
          refine zx_re 73 (.string (turned r.1 k v)) rfl rfl ?_
          refine zh_took (by rfl) ?_
          refine zh_take 20 (by kernel_rfl) rfl (by kernel_rfl) (by kernel_rfl) ?_ (by simp)
          ((try (refine sg ?_)); (refine zx_call0 rfl fnc25 rfl rfl (fun w hm => hP w) ?_))
          refine zh_took (by rfl) ?_
          refine zh_take 21 (by kernel_rfl) rfl (by kernel_rfl) (by kernel_rfl) ?_ (by simp); (repeat (first | (refine sn ?_) | (refine sb ?_))); refine zh_took (by rfl) ?_
          refine zh_take 22 (by kernel_rfl) rfl (by kernel_rfl) (by kernel_rfl) ?_ (by simp); (repeat (first | (refine sn ?_) | (refine sb ?_))); refine zh_took (by rfl) ?_
          refine zh_take 23 (by kernel_rfl) rfl (by kernel_rfl) (by kernel_rfl) ?_ (by simp); (repeat (first | (refine sn ?_) | (refine sb ?_))); refine zh_took (by rfl) ?_
          refine zh_one 24 rfl (by kernel_rfl) ?_
          refine st ?_
          intro gb
          refine zh_oned (by rfl) (by simp) ?_
          refine zh_one 25 rfl (by kernel_rfl) ?_
          refine st ?_
          refine zh_oned (by rfl) (by simp) ?_
          refine zh_take 26 (by kernel_rfl) rfl (by kernel_rfl) (by kernel_rfl) ?_ (by simp); (repeat (first | (refine sn ?_) | (refine sb ?_))); refine zh_took (by rfl) ?_
          refine zh_end (by rfl) (by kernel_rfl) ?_
          rcases hq2 with hq2 | hq2
          · repeat (first | (refine st ?_) | (refine sb ?_) | (intro _))
            refine z_ret1 tab_ok Try.func5 hb hk Try.results5 (.tmp rfl) (fun w hm => ?_)
            exact ⟨by first | rfl | (simp [hq2]; done) | simp, hm.bare⟩
          · repeat (first | (refine st ?_) | (refine sb ?_) | (intro _))
            refine z_ret1 tab_ok Try.func5 hb hk Try.results5 (.tmp rfl) (fun w hm => ?_)
            exact ⟨by first | rfl | (simp [hq2]; done) | simp, hm.bare⟩
        · refine st ?_
          intro gb
          refine zh_oned (by rfl) (by simp) ?_
          refine zh_one 12 rfl (by kernel_rfl) ?_
          refine st ?_
          intro kb
          refine zh_oned (by rfl) (by simp) ?_
          refine zh_grow [(kb, .c [.int .u8 v] 5 0 0), (p3, .c (a.cells ++ a'.cells) 36 0 0)] (by simp) (List.Sublist.cons_cons _ (List.Sublist.cons _ (List.Sublist.refl _))) ?_
          refine zh_take 13 (by kernel_rfl) rfl (by kernel_rfl) (by kernel_rfl) ?_ (by simp); (repeat (first | (refine sn ?_) | (refine sb ?_))); refine zh_took (by rfl) ?_
          refine zh_take 14 (by kernel_rfl) rfl (by kernel_rfl) (by kernel_rfl) ?_ (by simp)
          refine zx_cat rfl rfl rfl (by omega) rfl ?_
          refine zh_took (by rfl) ?_
          refine zh_take 19 (by kernel_rfl) rfl (by kernel_rfl) (by kernel_rfl) ?_ (by simp)
          refine zx_cat rfl rfl rfl (by omega) rfl ?_
          refine zx_re 73 (.string (turned r.1 k v)) rfl rfl ?_
          refine zh_took (by rfl) ?_
          refine zh_take 20 (by kernel_rfl) rfl (by kernel_rfl) (by kernel_rfl) ?_ (by simp)
          ((try (refine sg ?_)); (refine zx_call0 rfl fnc25 rfl rfl (fun w hm => hP w) ?_))
          refine zh_took (by rfl) ?_
          refine zh_take 21 (by kernel_rfl) rfl (by kernel_rfl) (by kernel_rfl) ?_ (by simp); (repeat (first | (refine sn ?_) | (refine sb ?_))); refine zh_took (by rfl) ?_
          refine zh_take 22 (by kernel_rfl) rfl (by kernel_rfl) (by kernel_rfl) ?_ (by simp); (repeat (first | (refine sn ?_) | (refine sb ?_))); refine zh_took (by rfl) ?_
          refine zh_take 23 (by kernel_rfl) rfl (by kernel_rfl) (by kernel_rfl) ?_ (by simp); (repeat (first | (refine sn ?_) | (refine sb ?_))); refine zh_took (by rfl) ?_
          refine zh_one 25 rfl (by kernel_rfl) ?_
          refine st ?_
          refine zh_oned (by rfl) (by simp) ?_
          refine zh_take 26 (by kernel_rfl) rfl (by kernel_rfl) (by kernel_rfl) ?_ (by simp); (repeat (first | (refine sn ?_) | (refine sb ?_))); refine zh_took (by rfl) ?_
          refine zh_end (by rfl) (by kernel_rfl) ?_
          rcases hq2 with hq2 | hq2
          · repeat (first | (refine st ?_) | (refine sb ?_) | (intro _))
            refine z_ret1 tab_ok Try.func5 hb hk Try.results5 (.tmp rfl) (fun w hm => ?_)
            exact ⟨by first | rfl | (simp [hq2]; done) | simp, hm.bare⟩
          · repeat (first | (refine st ?_) | (refine sb ?_) | (intro _))
            refine z_ret1 tab_ok Try.func5 hb hk Try.results5 (.tmp rfl) (fun w hm => ?_)
            exact ⟨by first | rfl | (simp [hq2]; done) | simp, hm.bare⟩
    · have e1 : at_ = Int.ofNat at_.toNat := by show _ = ((at_.toNat : Nat) : Int); omega
      repeat (first | (refine st ?_) | (refine sb ?_) | (intro _))
      refine zx_re 45 (.int .i64 (Int.ofNat at_.toNat)) rfl (congrArg _ e1) ?_
      refine zx_re 47 (.int .i64 (Int.ofNat (n + 1))) rfl (congrArg _ hn') ?_
      obtain ⟨k, hkk⟩ : ∃ k, at_.toNat % (n + 1) = k := ⟨_, rfl⟩
      have hk1 : k < r.1.size := by rw [hn, ← hkk]; exact Nat.mod_lt _ (Nat.succ_pos n)
      refine st ?_
      refine zx_re 48 (.int .i64 (k : Int)) rfl (congrArg _ (show Int.ofNat (at_.toNat % (n + 1)) = (k : Int) from by rw [hkk]; rfl)) ?_
      by_cases hb0 : IntKind.u8.wrap by_ = 0
      · repeat (first | (refine sn ?_) | (refine sb ?_) | (intro _))
        have hxr := bt_range r.1 k
        have hxo := xor_ne (bt r.1 k) 1 hxr.1 hxr.2 (by omega) (by omega)
        generalize hv : bits .xor .u8 (bt r.1 k) 1 = v at hxo
        obtain ⟨q, hq⟩ : ∃ q, sparse a a' (turned r.1 k v) = q := ⟨_, rfl⟩
        have hts := size_turned r.1 k v hk1
        have hq2 : q.2 = 73 ∨ q.2 = 72 := by rw [← hq]; exact turned_bad a a' r.1 s k v g1 hrd hk1 hxo.2.1 hxo.2.2 hxo.1
        have hP : ∀ w, Calls Try.prog 25 [a.val, a'.val, .string (turned r.1 k v)].toArray w fun e w' => e = .returned (sparseV q) ∧ Mem w [] [] w' := fun w => hq ▸ ParseS_any a a' (turned r.1 k v) w (by omega)
        have c1 : (r.1.extract 0 k).size + (ofInts [v]).size ≤ 100000 := by rw [ofInts_size, ByteArray.size_extract, List.length_singleton]; omega
        have c2 : (r.1.extract 0 k ++ ofInts [v]).size + (r.1.extract (k + 1) r.1.size).size ≤ 200000 := by rw [ByteArray.size_append, ofInts_size, ByteArray.size_extract, ByteArray.size_extract, List.length_singleton]; omega
        refine z_weaken [(3, ptr p3), (7, .bool true), (10, .string r.1), (12, .int .i64 (k : Int)), (13, .int .u8 1)] [(p3, .c (a.cells ++ a'.cells) 36 0 0)] ⟨rfl, rfl, rfl, rfl, rfl, trivial⟩ (by first | exact List.Sublist.refl _ | (repeat (first | exact List.Sublist.refl _ | apply List.Sublist.cons))) (fun _ h => h) ?_
        refine z_regionH [(p3, .c (a.cells ++ a'.cells) 36 0 0)] (by rfl) follows_mixed (List.Sublist.refl _) (m := 27) rfl ?_
        refine zh_take 0 (by kernel_rfl) rfl (by kernel_rfl) (by kernel_rfl) ?_ (by simp); (repeat (first | (refine sn ?_) | (refine sb ?_))); refine zh_took (by rfl) ?_
        refine zh_take 1 (by kernel_rfl) rfl (by kernel_rfl) (by kernel_rfl) ?_ (by simp); (repeat (first | (refine sn ?_) | (refine sb ?_))); refine zh_took (by rfl) ?_
        refine zh_take 2 (by kernel_rfl) rfl (by kernel_rfl) (by kernel_rfl) ?_ (by simp); (repeat (first | (refine sn ?_) | (refine sb ?_))); refine zh_took (by rfl) ?_
        refine zh_take 3 (by kernel_rfl) rfl (by kernel_rfl) (by kernel_rfl) ?_ (by simp); (repeat (first | (refine sn ?_) | (refine sb ?_))); refine zh_took (by rfl) ?_
        refine zh_take 4 (by kernel_rfl) rfl (by kernel_rfl) (by kernel_rfl) ?_ (by simp); (repeat (first | (refine sn ?_) | (refine sb ?_))); refine zh_took (by rfl) ?_
        refine zh_take 5 (by kernel_rfl) rfl (by kernel_rfl) (by kernel_rfl) ?_ (by simp); (repeat (first | (refine sn ?_) | (refine sb ?_))); refine zh_took (by rfl) ?_
        refine zh_take 6 (by kernel_rfl) rfl (by kernel_rfl) (by kernel_rfl) ?_ (by simp)
        ((try (refine sg ?_)); (refine zx_sliceN (0 ) ( k ) tab_ok rfl rfl rfl rfl rfl rfl rfl (by first | rfl | omega | (simp only [IntKind.wrap_i64]; omega)) (by first | rfl | omega | (simp only [IntKind.wrap_i64]; omega)) (by omega) (by omega) ?_))
        refine zh_took (by rfl) ?_
        refine zh_take 7 (by kernel_rfl) rfl (by kernel_rfl) (by kernel_rfl) ?_ (by simp); (repeat (first | (refine sn ?_) | (refine sb ?_))); refine zh_took (by rfl) ?_
        refine zh_take 8 (by kernel_rfl) rfl (by kernel_rfl) (by kernel_rfl) ?_ (by simp); (repeat (first | (refine sn ?_) | (refine sb ?_))); refine zh_took (by rfl) ?_
        refine zh_take 9 (by kernel_rfl) rfl (by kernel_rfl) (by kernel_rfl) ?_ (by simp)
        ((try (refine sg ?_)); refine zx_idxN (k) tab_ok rfl rfl rfl rfl rfl rfl (by first | omega | (simp only [IntKind.wrap_i64]; omega)) (by omega) ?_)
        refine zh_took (by rfl) ?_
        refine zh_take 10 (by kernel_rfl) rfl (by kernel_rfl) (by kernel_rfl) ?_ (by simp); (repeat (first | (refine sn ?_) | (refine sb ?_))); refine zh_took (by rfl) ?_
        refine zh_take 11 (by kernel_rfl) rfl (by kernel_rfl) (by kernel_rfl) ?_ (by simp)
        refine st ?_
        refine zx_re 65 (.int .u8 v) rfl (congrArg _ hv) ?_
        refine zh_took (by rfl) ?_
        refine zh_take 15 (by kernel_rfl) rfl (by kernel_rfl) (by kernel_rfl) ?_ (by simp); (repeat (first | (refine sn ?_) | (refine sb ?_))); refine zh_took (by rfl) ?_
        refine zh_take 16 (by kernel_rfl) rfl (by kernel_rfl) (by kernel_rfl) ?_ (by simp); (repeat (first | (refine sn ?_) | (refine sb ?_))); refine zh_took (by rfl) ?_
        refine zh_take 17 (by kernel_rfl) rfl (by kernel_rfl) (by kernel_rfl) ?_ (by simp)
        refine st ?_
        refine zx_re 71 (.int .i64 ((k + 1 : Nat) : Int)) rfl (congrArg _ (wr64 (by omega) (by omega))) ?_
        refine zh_took (by rfl) ?_
        refine zh_take 18 (by kernel_rfl) rfl (by kernel_rfl) (by kernel_rfl) ?_ (by simp)
        ((try (refine sg ?_)); (refine zx_sliceN ((k + 1) ) ( r.1.size ) tab_ok rfl rfl rfl rfl rfl rfl rfl (by first | rfl | omega | (simp only [IntKind.wrap_i64]; omega)) (by first | rfl | omega | (simp only [IntKind.wrap_i64]; omega)) (by omega) (by omega) ?_))
        refine zh_took (by rfl) ?_
        refine zh_two 12 24 rfl rfl (by kernel_rfl) ?_ ?_
        · refine st ?_
          intro kb
          refine zh_oned (by rfl) (by simp) ?_
          refine zh_grow _ (by simp) (List.Sublist.refl _) ?_
          refine zh_take 13 (by kernel_rfl) rfl (by kernel_rfl) (by kernel_rfl) ?_ (by simp); (repeat (first | (refine sn ?_) | (refine sb ?_))); refine zh_took (by rfl) ?_
          refine zh_take 14 (by kernel_rfl) rfl (by kernel_rfl) (by kernel_rfl) ?_ (by simp)
          refine zx_cat rfl rfl rfl (by omega) rfl ?_
          refine zh_took (by rfl) ?_
          refine zh_take 19 (by kernel_rfl) rfl (by kernel_rfl) (by kernel_rfl) ?_ (by simp)
          refine zx_cat rfl rfl rfl (by omega) rfl ?_
          refine zx_re 73 (.string (turned r.1 k v)) rfl rfl ?_
          refine zh_took (by rfl) ?_
          refine zh_take 20 (by kernel_rfl) rfl (by kernel_rfl) (by kernel_rfl) ?_ (by simp)
          ((try (refine sg ?_)); (refine zx_call0 rfl fnc25 rfl rfl (fun w hm => hP w) ?_))
          refine zh_took (by rfl) ?_
          refine zh_take 21 (by kernel_rfl) rfl (by kernel_rfl) (by kernel_rfl) ?_ (by simp); (repeat (first | (refine sn ?_) | (refine sb ?_))); refine zh_took (by rfl) ?_
          refine zh_take 22 (by kernel_rfl) rfl (by kernel_rfl) (by kernel_rfl) ?_ (by simp); (repeat (first | (refine sn ?_) | (refine sb ?_))); refine zh_took (by rfl) ?_
          refine zh_take 23 (by kernel_rfl) rfl (by kernel_rfl) (by kernel_rfl) ?_ (by simp); (repeat (first | (refine sn ?_) | (refine sb ?_))); refine zh_took (by rfl) ?_
          refine zh_one 24 rfl (by kernel_rfl) ?_
          refine st ?_
          intro gb
          refine zh_oned (by rfl) (by simp) ?_
          refine zh_one 25 rfl (by kernel_rfl) ?_
          refine st ?_
          refine zh_oned (by rfl) (by simp) ?_
          refine zh_take 26 (by kernel_rfl) rfl (by kernel_rfl) (by kernel_rfl) ?_ (by simp); (repeat (first | (refine sn ?_) | (refine sb ?_))); refine zh_took (by rfl) ?_
          refine zh_end (by rfl) (by kernel_rfl) ?_
          rcases hq2 with hq2 | hq2
          · repeat (first | (refine st ?_) | (refine sb ?_) | (intro _))
            refine z_ret1 tab_ok Try.func5 hb hk Try.results5 (.tmp rfl) (fun w hm => ?_)
            exact ⟨by first | rfl | (simp [hq2]; done) | simp, hm.bare⟩
          · repeat (first | (refine st ?_) | (refine sb ?_) | (intro _))
            refine z_ret1 tab_ok Try.func5 hb hk Try.results5 (.tmp rfl) (fun w hm => ?_)
            exact ⟨by first | rfl | (simp [hq2]; done) | simp, hm.bare⟩
        · refine st ?_
          intro gb
          refine zh_oned (by rfl) (by simp) ?_
          refine zh_one 12 rfl (by kernel_rfl) ?_
          refine st ?_
          intro kb
          refine zh_oned (by rfl) (by simp) ?_
          refine zh_grow [(kb, .c [.int .u8 v] 5 0 0), (p3, .c (a.cells ++ a'.cells) 36 0 0)] (by simp) (List.Sublist.cons_cons _ (List.Sublist.cons _ (List.Sublist.refl _))) ?_
          refine zh_take 13 (by kernel_rfl) rfl (by kernel_rfl) (by kernel_rfl) ?_ (by simp); (repeat (first | (refine sn ?_) | (refine sb ?_))); refine zh_took (by rfl) ?_
          refine zh_take 14 (by kernel_rfl) rfl (by kernel_rfl) (by kernel_rfl) ?_ (by simp)
          refine zx_cat rfl rfl rfl (by omega) rfl ?_
          refine zh_took (by rfl) ?_
          refine zh_take 19 (by kernel_rfl) rfl (by kernel_rfl) (by kernel_rfl) ?_ (by simp)
          refine zx_cat rfl rfl rfl (by omega) rfl ?_
          refine zx_re 73 (.string (turned r.1 k v)) rfl rfl ?_
          refine zh_took (by rfl) ?_
          refine zh_take 20 (by kernel_rfl) rfl (by kernel_rfl) (by kernel_rfl) ?_ (by simp)
          ((try (refine sg ?_)); (refine zx_call0 rfl fnc25 rfl rfl (fun w hm => hP w) ?_))
          refine zh_took (by rfl) ?_
          refine zh_take 21 (by kernel_rfl) rfl (by kernel_rfl) (by kernel_rfl) ?_ (by simp); (repeat (first | (refine sn ?_) | (refine sb ?_))); refine zh_took (by rfl) ?_
          refine zh_take 22 (by kernel_rfl) rfl (by kernel_rfl) (by kernel_rfl) ?_ (by simp); (repeat (first | (refine sn ?_) | (refine sb ?_))); refine zh_took (by rfl) ?_
          refine zh_take 23 (by kernel_rfl) rfl (by kernel_rfl) (by kernel_rfl) ?_ (by simp); (repeat (first | (refine sn ?_) | (refine sb ?_))); refine zh_took (by rfl) ?_
          refine zh_one 25 rfl (by kernel_rfl) ?_
          refine st ?_
          refine zh_oned (by rfl) (by simp) ?_
          refine zh_take 26 (by kernel_rfl) rfl (by kernel_rfl) (by kernel_rfl) ?_ (by simp); (repeat (first | (refine sn ?_) | (refine sb ?_))); refine zh_took (by rfl) ?_
          refine zh_end (by rfl) (by kernel_rfl) ?_
          rcases hq2 with hq2 | hq2
          · repeat (first | (refine st ?_) | (refine sb ?_) | (intro _))
            refine z_ret1 tab_ok Try.func5 hb hk Try.results5 (.tmp rfl) (fun w hm => ?_)
            exact ⟨by first | rfl | (simp [hq2]; done) | simp, hm.bare⟩
          · repeat (first | (refine st ?_) | (refine sb ?_) | (intro _))
            refine z_ret1 tab_ok Try.func5 hb hk Try.results5 (.tmp rfl) (fun w hm => ?_)
            exact ⟨by first | rfl | (simp [hq2]; done) | simp, hm.bare⟩
      · repeat (first | (refine sn ?_) | (refine sb ?_) | (intro _))
        have hxr := bt_range r.1 k
        have hxo := xor_ne (bt r.1 k) (IntKind.u8.wrap by_) hxr.1 hxr.2 (by omega) (by omega)
        generalize hv : bits .xor .u8 (bt r.1 k) (IntKind.u8.wrap by_) = v at hxo
        obtain ⟨q, hq⟩ : ∃ q, sparse a a' (turned r.1 k v) = q := ⟨_, rfl⟩
        have hts := size_turned r.1 k v hk1
        have hq2 : q.2 = 73 ∨ q.2 = 72 := by rw [← hq]; exact turned_bad a a' r.1 s k v g1 hrd hk1 hxo.2.1 hxo.2.2 hxo.1
        have hP : ∀ w, Calls Try.prog 25 [a.val, a'.val, .string (turned r.1 k v)].toArray w fun e w' => e = .returned (sparseV q) ∧ Mem w [] [] w' := fun w => hq ▸ ParseS_any a a' (turned r.1 k v) w (by omega)
        have c1 : (r.1.extract 0 k).size + (ofInts [v]).size ≤ 100000 := by rw [ofInts_size, ByteArray.size_extract, List.length_singleton]; omega
        have c2 : (r.1.extract 0 k ++ ofInts [v]).size + (r.1.extract (k + 1) r.1.size).size ≤ 200000 := by rw [ByteArray.size_append, ofInts_size, ByteArray.size_extract, ByteArray.size_extract, List.length_singleton]; omega
        refine z_weaken [(3, ptr p3), (7, .bool true), (10, .string r.1), (12, .int .i64 (k : Int)), (13, .int .u8 (IntKind.u8.wrap by_))] [(p3, .c (a.cells ++ a'.cells) 36 0 0)] ⟨rfl, rfl, rfl, rfl, rfl, trivial⟩ (by first | exact List.Sublist.refl _ | (repeat (first | exact List.Sublist.refl _ | apply List.Sublist.cons))) (fun _ h => h) ?_
        refine z_regionH [(p3, .c (a.cells ++ a'.cells) 36 0 0)] (by rfl) follows_mixed (List.Sublist.refl _) (m := 27) rfl ?_
        refine zh_take 0 (by kernel_rfl) rfl (by kernel_rfl) (by kernel_rfl) ?_ (by simp); (repeat (first | (refine sn ?_) | (refine sb ?_))); refine zh_took (by rfl) ?_
        refine zh_take 1 (by kernel_rfl) rfl (by kernel_rfl) (by kernel_rfl) ?_ (by simp); (repeat (first | (refine sn ?_) | (refine sb ?_))); refine zh_took (by rfl) ?_
        refine zh_take 2 (by kernel_rfl) rfl (by kernel_rfl) (by kernel_rfl) ?_ (by simp); (repeat (first | (refine sn ?_) | (refine sb ?_))); refine zh_took (by rfl) ?_
        refine zh_take 3 (by kernel_rfl) rfl (by kernel_rfl) (by kernel_rfl) ?_ (by simp); (repeat (first | (refine sn ?_) | (refine sb ?_))); refine zh_took (by rfl) ?_
        refine zh_take 4 (by kernel_rfl) rfl (by kernel_rfl) (by kernel_rfl) ?_ (by simp); (repeat (first | (refine sn ?_) | (refine sb ?_))); refine zh_took (by rfl) ?_
        refine zh_take 5 (by kernel_rfl) rfl (by kernel_rfl) (by kernel_rfl) ?_ (by simp); (repeat (first | (refine sn ?_) | (refine sb ?_))); refine zh_took (by rfl) ?_
        refine zh_take 6 (by kernel_rfl) rfl (by kernel_rfl) (by kernel_rfl) ?_ (by simp)
        ((try (refine sg ?_)); (refine zx_sliceN (0 ) ( k ) tab_ok rfl rfl rfl rfl rfl rfl rfl (by first | rfl | omega | (simp only [IntKind.wrap_i64]; omega)) (by first | rfl | omega | (simp only [IntKind.wrap_i64]; omega)) (by omega) (by omega) ?_))
        refine zh_took (by rfl) ?_
        refine zh_take 7 (by kernel_rfl) rfl (by kernel_rfl) (by kernel_rfl) ?_ (by simp); (repeat (first | (refine sn ?_) | (refine sb ?_))); refine zh_took (by rfl) ?_
        refine zh_take 8 (by kernel_rfl) rfl (by kernel_rfl) (by kernel_rfl) ?_ (by simp); (repeat (first | (refine sn ?_) | (refine sb ?_))); refine zh_took (by rfl) ?_
        refine zh_take 9 (by kernel_rfl) rfl (by kernel_rfl) (by kernel_rfl) ?_ (by simp)
        ((try (refine sg ?_)); refine zx_idxN (k) tab_ok rfl rfl rfl rfl rfl rfl (by first | omega | (simp only [IntKind.wrap_i64]; omega)) (by omega) ?_)
        refine zh_took (by rfl) ?_
        refine zh_take 10 (by kernel_rfl) rfl (by kernel_rfl) (by kernel_rfl) ?_ (by simp); (repeat (first | (refine sn ?_) | (refine sb ?_))); refine zh_took (by rfl) ?_
        refine zh_take 11 (by kernel_rfl) rfl (by kernel_rfl) (by kernel_rfl) ?_ (by simp)
        refine st ?_
        refine zx_re 65 (.int .u8 v) rfl (congrArg _ hv) ?_
        refine zh_took (by rfl) ?_
        refine zh_take 15 (by kernel_rfl) rfl (by kernel_rfl) (by kernel_rfl) ?_ (by simp); (repeat (first | (refine sn ?_) | (refine sb ?_))); refine zh_took (by rfl) ?_
        refine zh_take 16 (by kernel_rfl) rfl (by kernel_rfl) (by kernel_rfl) ?_ (by simp); (repeat (first | (refine sn ?_) | (refine sb ?_))); refine zh_took (by rfl) ?_
        refine zh_take 17 (by kernel_rfl) rfl (by kernel_rfl) (by kernel_rfl) ?_ (by simp)
        refine st ?_
        refine zx_re 71 (.int .i64 ((k + 1 : Nat) : Int)) rfl (congrArg _ (wr64 (by omega) (by omega))) ?_
        refine zh_took (by rfl) ?_
        refine zh_take 18 (by kernel_rfl) rfl (by kernel_rfl) (by kernel_rfl) ?_ (by simp)
        ((try (refine sg ?_)); (refine zx_sliceN ((k + 1) ) ( r.1.size ) tab_ok rfl rfl rfl rfl rfl rfl rfl (by first | rfl | omega | (simp only [IntKind.wrap_i64]; omega)) (by first | rfl | omega | (simp only [IntKind.wrap_i64]; omega)) (by omega) (by omega) ?_))
        refine zh_took (by rfl) ?_
        refine zh_two 12 24 rfl rfl (by kernel_rfl) ?_ ?_
        · refine st ?_
          intro kb
          refine zh_oned (by rfl) (by simp) ?_
          refine zh_grow _ (by simp) (List.Sublist.refl _) ?_
          refine zh_take 13 (by kernel_rfl) rfl (by kernel_rfl) (by kernel_rfl) ?_ (by simp); (repeat (first | (refine sn ?_) | (refine sb ?_))); refine zh_took (by rfl) ?_
          refine zh_take 14 (by kernel_rfl) rfl (by kernel_rfl) (by kernel_rfl) ?_ (by simp)
          refine zx_cat rfl rfl rfl (by omega) rfl ?_
          refine zh_took (by rfl) ?_
          refine zh_take 19 (by kernel_rfl) rfl (by kernel_rfl) (by kernel_rfl) ?_ (by simp)
          refine zx_cat rfl rfl rfl (by omega) rfl ?_
          refine zx_re 73 (.string (turned r.1 k v)) rfl rfl ?_
          refine zh_took (by rfl) ?_
          refine zh_take 20 (by kernel_rfl) rfl (by kernel_rfl) (by kernel_rfl) ?_ (by simp)
          ((try (refine sg ?_)); (refine zx_call0 rfl fnc25 rfl rfl (fun w hm => hP w) ?_))
          refine zh_took (by rfl) ?_
          refine zh_take 21 (by kernel_rfl) rfl (by kernel_rfl) (by kernel_rfl) ?_ (by simp); (repeat (first | (refine sn ?_) | (refine sb ?_))); refine zh_took (by rfl) ?_
          refine zh_take 22 (by kernel_rfl) rfl (by kernel_rfl) (by kernel_rfl) ?_ (by simp); (repeat (first | (refine sn ?_) | (refine sb ?_))); refine zh_took (by rfl) ?_
          refine zh_take 23 (by kernel_rfl) rfl (by kernel_rfl) (by kernel_rfl) ?_ (by simp); (repeat (first | (refine sn ?_) | (refine sb ?_))); refine zh_took (by rfl) ?_
          refine zh_one 24 rfl (by kernel_rfl) ?_
          refine st ?_
          intro gb
          refine zh_oned (by rfl) (by simp) ?_
          refine zh_one 25 rfl (by kernel_rfl) ?_
          refine st ?_
          refine zh_oned (by rfl) (by simp) ?_
          refine zh_take 26 (by kernel_rfl) rfl (by kernel_rfl) (by kernel_rfl) ?_ (by simp); (repeat (first | (refine sn ?_) | (refine sb ?_))); refine zh_took (by rfl) ?_
          refine zh_end (by rfl) (by kernel_rfl) ?_
          rcases hq2 with hq2 | hq2
          · repeat (first | (refine st ?_) | (refine sb ?_) | (intro _))
            refine z_ret1 tab_ok Try.func5 hb hk Try.results5 (.tmp rfl) (fun w hm => ?_)
            exact ⟨by first | rfl | (simp [hq2]; done) | simp, hm.bare⟩
          · repeat (first | (refine st ?_) | (refine sb ?_) | (intro _))
            refine z_ret1 tab_ok Try.func5 hb hk Try.results5 (.tmp rfl) (fun w hm => ?_)
            exact ⟨by first | rfl | (simp [hq2]; done) | simp, hm.bare⟩
        · refine st ?_
          intro gb
          refine zh_oned (by rfl) (by simp) ?_
          refine zh_one 12 rfl (by kernel_rfl) ?_
          refine st ?_
          intro kb
          refine zh_oned (by rfl) (by simp) ?_
          refine zh_grow [(kb, .c [.int .u8 v] 5 0 0), (p3, .c (a.cells ++ a'.cells) 36 0 0)] (by simp) (List.Sublist.cons_cons _ (List.Sublist.cons _ (List.Sublist.refl _))) ?_
          refine zh_take 13 (by kernel_rfl) rfl (by kernel_rfl) (by kernel_rfl) ?_ (by simp); (repeat (first | (refine sn ?_) | (refine sb ?_))); refine zh_took (by rfl) ?_
          refine zh_take 14 (by kernel_rfl) rfl (by kernel_rfl) (by kernel_rfl) ?_ (by simp)
          refine zx_cat rfl rfl rfl (by omega) rfl ?_
          refine zh_took (by rfl) ?_
          refine zh_take 19 (by kernel_rfl) rfl (by kernel_rfl) (by kernel_rfl) ?_ (by simp)
          refine zx_cat rfl rfl rfl (by omega) rfl ?_
          refine zx_re 73 (.string (turned r.1 k v)) rfl rfl ?_
          refine zh_took (by rfl) ?_
          refine zh_take 20 (by kernel_rfl) rfl (by kernel_rfl) (by kernel_rfl) ?_ (by simp)
          ((try (refine sg ?_)); (refine zx_call0 rfl fnc25 rfl rfl (fun w hm => hP w) ?_))
          refine zh_took (by rfl) ?_
          refine zh_take 21 (by kernel_rfl) rfl (by kernel_rfl) (by kernel_rfl) ?_ (by simp); (repeat (first | (refine sn ?_) | (refine sb ?_))); refine zh_took (by rfl) ?_
          refine zh_take 22 (by kernel_rfl) rfl (by kernel_rfl) (by kernel_rfl) ?_ (by simp); (repeat (first | (refine sn ?_) | (refine sb ?_))); refine zh_took (by rfl) ?_
          refine zh_take 23 (by kernel_rfl) rfl (by kernel_rfl) (by kernel_rfl) ?_ (by simp); (repeat (first | (refine sn ?_) | (refine sb ?_))); refine zh_took (by rfl) ?_
          refine zh_one 25 rfl (by kernel_rfl) ?_
          refine st ?_
          refine zh_oned (by rfl) (by simp) ?_
          refine zh_take 26 (by kernel_rfl) rfl (by kernel_rfl) (by kernel_rfl) ?_ (by simp); (repeat (first | (refine sn ?_) | (refine sb ?_))); refine zh_took (by rfl) ?_
          refine zh_end (by rfl) (by kernel_rfl) ?_
          rcases hq2 with hq2 | hq2
          · repeat (first | (refine st ?_) | (refine sb ?_) | (intro _))
            refine z_ret1 tab_ok Try.func5 hb hk Try.results5 (.tmp rfl) (fun w hm => ?_)
            exact ⟨by first | rfl | (simp [hq2]; done) | simp, hm.bare⟩
          · repeat (first | (refine st ?_) | (refine sb ?_) | (intro _))
            refine z_ret1 tab_ok Try.func5 hb hk Try.results5 (.tmp rfl) (fun w hm => ?_)
            exact ⟨by first | rfl | (simp [hq2]; done) | simp, hm.bare⟩
  · have hbad : decide (r.1 = ByteArray.mk #[]) = true := by
      rw [← hr]
      rw [← hr] at hz
      unfold sbuild at hz ⊢
      split at hz
      · rename_i hg
        rw [if_pos hg]
        split at hz
        · exact absurd rfl hz
        · rename_i hl
          rw [if_neg hl]; rfl
      · rename_i hg
        rw [if_neg hg]; rfl
    repeat (first | (refine st ?_) | (refine sb ?_) | (intro _))
    refine z_ret1 tab_ok Try.func5 hb hk Try.results5 (.tmp rfl) (fun w hm => ?_)
    exact ⟨congrArg (fun z => Ending.returned (Value.bool z)) hbad, hm.bare⟩
end Go.Proofs.Ytabcaiecoiejkaa
