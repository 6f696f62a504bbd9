/- Walk of seg.Build where addresses and segment are right. -/
import Derived.Test.YtabcaiecoiejkaaF4
set_option maxRecDepth 100000
set_option linter.unusedSimpArgs false
set_option linter.unusedVariables false
set_option maxHeartbeats 1600000
namespace Go.Proofs.Ytabcaiecoiejkaa
open Go K
theorem BuildS_g00 (a a' : Adr) (s : Sg) (w : World) (he : ends a a' = true) (hg : SRight s) (hx : s.data.size ≤ 1000000000000000) (hq0 : 0 ≤ s.seq) (hq1 : s.seq ≤ 4294967295) (ha0 : 0 ≤ s.ack) (ha1 : s.ack ≤ 4294967295) (hm1 : ¬ 0 < s.mss) (hs1 : ¬ 0 ≤ s.scale) :
    Calls Try.prog 23 [a.val, a'.val, s.val].toArray w fun e w' => e = .returned (.tuple #[.string (if slong s + s.data.size ≤ 65515 then sbytes a a' s else noB), .int .i64 (if slong s + s.data.size ≤ 65515 then 0 else 75)]) ∧ Mem w [] [] w' := by
  have hd : (!decide (SRight s)) = false := by rw [decide_eq_true hg]; rfl
  obtain ⟨h1, h2, h3, h4, h5, h6, h7, h8, h9, h10, h11, h12⟩ := id hg
  have ho := sopt_size s
  have z0 : (ByteArray.mk #[]).size = 0 := rfl
  have z1 : (ByteArray.mk #[2, 4]).size = 2 := rfl
  have z2 : (ByteArray.mk #[1, 3, 3]).size = 3 := rfl
  have z3 : (ByteArray.mk #[0, 0]).size = 2 := rfl
  have hop : noB = sopt s := by unfold sopt sopt1; rw [if_neg hs1, if_neg hm1]
  have hlg : slong s = 20 + (sopt s).size := rfl
  have hsf := sfirst_size s
  have hsr := srest_size s
  have hrg := ssum_range a a' (sfirst s) (srest s)
  have hw1 : IntKind.i64.wrap (20 + ((sopt s).size : Int)) = slong s := wr64 (by omega) (by omega)
  have hw2 : IntKind.i64.wrap (slong s + (s.data.size : Int)) = slong s + s.data.size := wr64 (by omega) (by omega)
  refine calls_of_z Try.func23 rfl Try.ntmps23 rfl (Mem.refl w) ?_; intro cs b hb hk
  repeat (first | (refine st ?_) | (refine sb ?_) | (intro _))
  ((try (refine sg ?_)); (refine zx_call0 rfl fnc79 rfl rfl (fun w hm => endsS_any a a' w) ?_))
  repeat (first | (refine st ?_) | (refine sb ?_) | (intro _))
  ((try (refine sg ?_)); (refine zx_call0 rfl fnc80 rfl rfl (fun w hm => right_any s w) ?_))
  repeat (first | (refine st ?_) | (refine sb ?_) | (intro _))
  refine z_re 8 (.string (sopt s)) rfl (congrArg _ hop) ?_
  refine z_re 9 (.int .i64 (slong s)) rfl (congrArg _ (by rw [← hw1, ← hop] <;> try rfl)) ?_
  refine z_re 45 (.bool (decide (slong s + s.data.size > 65515))) rfl (by rw [← hw2, ← hw1, ← hop] <;> try rfl) ?_
  by_cases hl : slong s + s.data.size ≤ 65515
  · rw [if_pos hl, if_pos hl]
    repeat (first | (refine st ?_) | (refine sb ?_) | (intro _))
    ((try (refine sg ?_)); (refine zx_call0 rfl fnc81 rfl rfl (fun w hm => putS2_any s.src w h1 (by omega)) ?_))
    repeat (first | (refine st ?_) | (refine sb ?_) | (intro _))
    ((try (refine sg ?_)); (refine zx_call0 rfl fnc81 rfl rfl (fun w hm => putS2_any s.dst w h3 (by omega)) ?_))
    repeat (first | (refine st ?_) | (refine sb ?_) | (intro _))
    refine zx_re 55 (.int .i64 s.seq) rfl (congrArg _ (wr64 (by omega) (by omega))) ?_
    ((try (refine sg ?_)); (refine zx_call0 rfl fnc81 rfl rfl (fun w hm => putS4_any s.seq w hq0 (by omega)) ?_))
    repeat (first | (refine st ?_) | (refine sb ?_) | (intro _))
    refine zx_re 60 (.int .i64 s.ack) rfl (congrArg _ (wr64 (by omega) (by omega))) ?_
    ((try (refine sg ?_)); (refine zx_call0 rfl fnc81 rfl rfl (fun w hm => putS4_any s.ack w ha0 (by omega)) ?_))
    repeat (first | (refine st ?_) | (refine sb ?_) | (intro _))
    refine zx_re 64 (.int .i64 (slong s * 4)) rfl (congrArg _ (show IntKind.i64.wrap (slong s * 4) = slong s * 4 from wr64 (by omega) (by omega))) ?_
    ((try (refine sg ?_)); (refine zx_call0 rfl fnc81 rfl rfl (fun w hm => putS1_any (slong s * 4) w (by omega) (by omega)) ?_))
    repeat (first | (refine st ?_) | (refine sb ?_) | (intro _))
    ((try (refine sg ?_)); (refine zx_call0 rfl fnc81 rfl rfl (fun w hm => putS1_any s.flags w h9 (by omega)) ?_))
    repeat (first | (refine st ?_) | (refine sb ?_) | (intro _))
    ((try (refine sg ?_)); (refine zx_call0 rfl fnc81 rfl rfl (fun w hm => putS2_any s.win w h5 (by omega)) ?_))
    repeat (first | (refine st ?_) | (refine sb ?_) | (intro _))
    refine zx_re 80 (.string (sfirst s)) rfl rfl ?_
    refine zx_re 83 (.string (sfirst s)) rfl rfl ?_
    refine zx_re 84 (.string (srest s)) rfl rfl ?_
    refine zx_re 11 (.string (srest s)) rfl rfl ?_
    ((try (refine sg ?_)); (refine zx_call0 rfl fnc82 rfl rfl (fun w hm => sumS_any a a' (sfirst s) (srest s) w he (by omega) (by omega)) ?_))
    repeat (first | (refine st ?_) | (refine sb ?_) | (intro _))
    refine z_ret2 tab_ok Try.func23 hb hk Try.results23 (.tmp rfl) (.tmp rfl) (fun w hm => ?_)
    exact ⟨rfl, hm.bare⟩
  · rw [if_neg hl, if_neg hl]
    repeat (first | (refine st ?_) | (refine sb ?_) | (intro _))
    refine z_ret2 tab_ok Try.func23 hb hk Try.results23 (.tmp rfl) (.tmp rfl) (fun w hm => ?_)
    exact ⟨rfl, hm.bare⟩
theorem BuildS_g01 (a a' : Adr) (s : Sg) (w : World) (he : ends a a' = true) (hg : SRight s) (hx : s.data.size ≤ 1000000000000000) (hq0 : 0 ≤ s.seq) (hq1 : s.seq ≤ 4294967295) (ha0 : 0 ≤ s.ack) (ha1 : s.ack ≤ 4294967295) (hm1 : ¬ 0 < s.mss) (hs1 : 0 ≤ s.scale) :
    Calls Try.prog 23 [a.val, a'.val, s.val].toArray w fun e w' => e = .returned (.tuple #[.string (if slong s + s.data.size ≤ 65515 then sbytes a a' s else noB), .int .i64 (if slong s + s.data.size ≤ 65515 then 0 else 75)]) ∧ Mem w [] [] w' := by
  have hd : (!decide (SRight s)) = false := by rw [decide_eq_true hg]; rfl
  obtain ⟨h1, h2, h3, h4, h5, h6, h7, h8, h9, h10, h11, h12⟩ := id hg
  have ho := sopt_size s
  have z0 : (ByteArray.mk #[]).size = 0 := rfl
  have z1 : (ByteArray.mk #[2, 4]).size = 2 := rfl
  have z2 : (ByteArray.mk #[1, 3, 3]).size = 3 := rfl
  have z3 : (ByteArray.mk #[0, 0]).size = 2 := rfl
  have hop : (noB ++ (⟨#[1, 3, 3]⟩ ++ putB s.scale 1)) = sopt s := by unfold sopt sopt1; rw [if_pos hs1, if_neg hm1]
  have hlg : slong s = 20 + (sopt s).size := rfl
  have hsf := sfirst_size s
  have hsr := srest_size s
  have hrg := ssum_range a a' (sfirst s) (srest s)
  have hw1 : IntKind.i64.wrap (20 + ((sopt s).size : Int)) = slong s := wr64 (by omega) (by omega)
  have hw2 : IntKind.i64.wrap (slong s + (s.data.size : Int)) = slong s + s.data.size := wr64 (by omega) (by omega)
  refine calls_of_z Try.func23 rfl Try.ntmps23 rfl (Mem.refl w) ?_; intro cs b hb hk
  repeat (first | (refine st ?_) | (refine sb ?_) | (intro _))
  ((try (refine sg ?_)); (refine zx_call0 rfl fnc79 rfl rfl (fun w hm => endsS_any a a' w) ?_))
  repeat (first | (refine st ?_) | (refine sb ?_) | (intro _))
  ((try (refine sg ?_)); (refine zx_call0 rfl fnc80 rfl rfl (fun w hm => right_any s w) ?_))
  repeat (first | (refine st ?_) | (refine sb ?_) | (intro _))
  ((try (refine sg ?_)); (refine zx_call0 rfl fnc81 rfl rfl (fun w hm => putS1_any s.scale w (by omega) (by omega)) ?_))
  repeat (first | (refine st ?_) | (refine sb ?_) | (intro _))
  refine z_re 8 (.string (sopt s)) rfl (congrArg _ hop) ?_
  refine z_re 9 (.int .i64 (slong s)) rfl (congrArg _ (by rw [← hw1, ← hop] <;> try rfl)) ?_
  refine z_re 45 (.bool (decide (slong s + s.data.size > 65515))) rfl (by rw [← hw2, ← hw1, ← hop] <;> try rfl) ?_
  by_cases hl : slong s + s.data.size ≤ 65515
  · rw [if_pos hl, if_pos hl]
    repeat (first | (refine st ?_) | (refine sb ?_) | (intro _))
    ((try (refine sg ?_)); (refine zx_call0 rfl fnc81 rfl rfl (fun w hm => putS2_any s.src w h1 (by omega)) ?_))
    repeat (first | (refine st ?_) | (refine sb ?_) | (intro _))
    ((try (refine sg ?_)); (refine zx_call0 rfl fnc81 rfl rfl (fun w hm => putS2_any s.dst w h3 (by omega)) ?_))
    repeat (first | (refine st ?_) | (refine sb ?_) | (intro _))
    refine zx_re 55 (.int .i64 s.seq) rfl (congrArg _ (wr64 (by omega) (by omega))) ?_
    ((try (refine sg ?_)); (refine zx_call0 rfl fnc81 rfl rfl (fun w hm => putS4_any s.seq w hq0 (by omega)) ?_))
    repeat (first | (refine st ?_) | (refine sb ?_) | (intro _))
    refine zx_re 60 (.int .i64 s.ack) rfl (congrArg _ (wr64 (by omega) (by omega))) ?_
    ((try (refine sg ?_)); (refine zx_call0 rfl fnc81 rfl rfl (fun w hm => putS4_any s.ack w ha0 (by omega)) ?_))
    repeat (first | (refine st ?_) | (refine sb ?_) | (intro _))
    refine zx_re 64 (.int .i64 (slong s * 4)) rfl (congrArg _ (show IntKind.i64.wrap (slong s * 4) = slong s * 4 from wr64 (by omega) (by omega))) ?_
    ((try (refine sg ?_)); (refine zx_call0 rfl fnc81 rfl rfl (fun w hm => putS1_any (slong s * 4) w (by omega) (by omega)) ?_))
    repeat (first | (refine st ?_) | (refine sb ?_) | (intro _))
    ((try (refine sg ?_)); (refine zx_call0 rfl fnc81 rfl rfl (fun w hm => putS1_any s.flags w h9 (by omega)) ?_))
    repeat (first | (refine st ?_) | (refine sb ?_) | (intro _))
    ((try (refine sg ?_)); (refine zx_call0 rfl fnc81 rfl rfl (fun w hm => putS2_any s.win w h5 (by omega)) ?_))
    repeat (first | (refine st ?_) | (refine sb ?_) | (intro _))
    refine zx_re 80 (.string (sfirst s)) rfl rfl ?_
    refine zx_re 83 (.string (sfirst s)) rfl rfl ?_
    refine zx_re 84 (.string (srest s)) rfl rfl ?_
    refine zx_re 11 (.string (srest s)) rfl rfl ?_
    ((try (refine sg ?_)); (refine zx_call0 rfl fnc82 rfl rfl (fun w hm => sumS_any a a' (sfirst s) (srest s) w he (by omega) (by omega)) ?_))
    repeat (first | (refine st ?_) | (refine sb ?_) | (intro _))
    refine z_ret2 tab_ok Try.func23 hb hk Try.results23 (.tmp rfl) (.tmp rfl) (fun w hm => ?_)
    exact ⟨rfl, hm.bare⟩
  · rw [if_neg hl, if_neg hl]
    repeat (first | (refine st ?_) | (refine sb ?_) | (intro _))
    refine z_ret2 tab_ok Try.func23 hb hk Try.results23 (.tmp rfl) (.tmp rfl) (fun w hm => ?_)
    exact ⟨rfl, hm.bare⟩
theorem BuildS_g10 (a a' : Adr) (s : Sg) (w : World) (he : ends a a' = true) (hg : SRight s) (hx : s.data.size ≤ 1000000000000000) (hq0 : 0 ≤ s.seq) (hq1 : s.seq ≤ 4294967295) (ha0 : 0 ≤ s.ack) (ha1 : s.ack ≤ 4294967295) (hm1 : 0 < s.mss) (hs1 : ¬ 0 ≤ s.scale) :
    Calls Try.prog 23 [a.val, a'.val, s.val].toArray w fun e w' => e = .returned (.tuple #[.string (if slong s + s.data.size ≤ 65515 then sbytes a a' s else noB), .int .i64 (if slong s + s.data.size ≤ 65515 then 0 else 75)]) ∧ Mem w [] [] w' := by
  have hd : (!decide (SRight s)) = false := by rw [decide_eq_true hg]; rfl
  obtain ⟨h1, h2, h3, h4, h5, h6, h7, h8, h9, h10, h11, h12⟩ := id hg
  have ho := sopt_size s
  have z0 : (ByteArray.mk #[]).size = 0 := rfl
  have z1 : (ByteArray.mk #[2, 4]).size = 2 := rfl
  have z2 : (ByteArray.mk #[1, 3, 3]).size = 3 := rfl
  have z3 : (ByteArray.mk #[0, 0]).size = 2 := rfl
  have hop : (⟨#[2, 4]⟩ ++ putB s.mss 2) = sopt s := by unfold sopt sopt1; rw [if_neg hs1, if_pos hm1]
  have hlg : slong s = 20 + (sopt s).size := rfl
  have hsf := sfirst_size s
  have hsr := srest_size s
  have hrg := ssum_range a a' (sfirst s) (srest s)
  have hw1 : IntKind.i64.wrap (20 + ((sopt s).size : Int)) = slong s := wr64 (by omega) (by omega)
  have hw2 : IntKind.i64.wrap (slong s + (s.data.size : Int)) = slong s + s.data.size := wr64 (by omega) (by omega)
  refine calls_of_z Try.func23 rfl Try.ntmps23 rfl (Mem.refl w) ?_; intro cs b hb hk
  repeat (first | (refine st ?_) | (refine sb ?_) | (intro _))
  ((try (refine sg ?_)); (refine zx_call0 rfl fnc79 rfl rfl (fun w hm => endsS_any a a' w) ?_))
  repeat (first | (refine st ?_) | (refine sb ?_) | (intro _))
  ((try (refine sg ?_)); (refine zx_call0 rfl fnc80 rfl rfl (fun w hm => right_any s w) ?_))
  repeat (first | (refine st ?_) | (refine sb ?_) | (intro _))
  ((try (refine sg ?_)); (refine zx_call0 rfl fnc81 rfl rfl (fun w hm => putS2_any s.mss w (by omega) (by omega)) ?_))
  repeat (first | (refine st ?_) | (refine sb ?_) | (intro _))
  refine z_re 8 (.string (sopt s)) rfl (congrArg _ hop) ?_
  refine z_re 9 (.int .i64 (slong s)) rfl (congrArg _ (by rw [← hw1, ← hop] <;> try rfl)) ?_
  refine z_re 45 (.bool (decide (slong s + s.data.size > 65515))) rfl (by rw [← hw2, ← hw1, ← hop] <;> try rfl) ?_
  by_cases hl : slong s + s.data.size ≤ 65515
  · rw [if_pos hl, if_pos hl]
    repeat (first | (refine st ?_) | (refine sb ?_) | (intro _))
    ((try (refine sg ?_)); (refine zx_call0 rfl fnc81 rfl rfl (fun w hm => putS2_any s.src w h1 (by omega)) ?_))
    repeat (first | (refine st ?_) | (refine sb ?_) | (intro _))
    ((try (refine sg ?_)); (refine zx_call0 rfl fnc81 rfl rfl (fun w hm => putS2_any s.dst w h3 (by omega)) ?_))
    repeat (first | (refine st ?_) | (refine sb ?_) | (intro _))
    refine zx_re 55 (.int .i64 s.seq) rfl (congrArg _ (wr64 (by omega) (by omega))) ?_
    ((try (refine sg ?_)); (refine zx_call0 rfl fnc81 rfl rfl (fun w hm => putS4_any s.seq w hq0 (by omega)) ?_))
    repeat (first | (refine st ?_) | (refine sb ?_) | (intro _))
    refine zx_re 60 (.int .i64 s.ack) rfl (congrArg _ (wr64 (by omega) (by omega))) ?_
    ((try (refine sg ?_)); (refine zx_call0 rfl fnc81 rfl rfl (fun w hm => putS4_any s.ack w ha0 (by omega)) ?_))
    repeat (first | (refine st ?_) | (refine sb ?_) | (intro _))
    refine zx_re 64 (.int .i64 (slong s * 4)) rfl (congrArg _ (show IntKind.i64.wrap (slong s * 4) = slong s * 4 from wr64 (by omega) (by omega))) ?_
    ((try (refine sg ?_)); (refine zx_call0 rfl fnc81 rfl rfl (fun w hm => putS1_any (slong s * 4) w (by omega) (by omega)) ?_))
    repeat (first | (refine st ?_) | (refine sb ?_) | (intro _))
    ((try (refine sg ?_)); (refine zx_call0 rfl fnc81 rfl rfl (fun w hm => putS1_any s.flags w h9 (by omega)) ?_))
    repeat (first | (refine st ?_) | (refine sb ?_) | (intro _))
    ((try (refine sg ?_)); (refine zx_call0 rfl fnc81 rfl rfl (fun w hm => putS2_any s.win w h5 (by omega)) ?_))
    repeat (first | (refine st ?_) | (refine sb ?_) | (intro _))
    refine zx_re 80 (.string (sfirst s)) rfl rfl ?_
    refine zx_re 83 (.string (sfirst s)) rfl rfl ?_
    refine zx_re 84 (.string (srest s)) rfl rfl ?_
    refine zx_re 11 (.string (srest s)) rfl rfl ?_
    ((try (refine sg ?_)); (refine zx_call0 rfl fnc82 rfl rfl (fun w hm => sumS_any a a' (sfirst s) (srest s) w he (by omega) (by omega)) ?_))
    repeat (first | (refine st ?_) | (refine sb ?_) | (intro _))
    refine z_ret2 tab_ok Try.func23 hb hk Try.results23 (.tmp rfl) (.tmp rfl) (fun w hm => ?_)
    exact ⟨rfl, hm.bare⟩
  · rw [if_neg hl, if_neg hl]
    repeat (first | (refine st ?_) | (refine sb ?_) | (intro _))
    refine z_ret2 tab_ok Try.func23 hb hk Try.results23 (.tmp rfl) (.tmp rfl) (fun w hm => ?_)
    exact ⟨rfl, hm.bare⟩
theorem BuildS_g11 (a a' : Adr) (s : Sg) (w : World) (he : ends a a' = true) (hg : SRight s) (hx : s.data.size ≤ 1000000000000000) (hq0 : 0 ≤ s.seq) (hq1 : s.seq ≤ 4294967295) (ha0 : 0 ≤ s.ack) (ha1 : s.ack ≤ 4294967295) (hm1 : 0 < s.mss) (hs1 : 0 ≤ s.scale) :
    Calls Try.prog 23 [a.val, a'.val, s.val].toArray w fun e w' => e = .returned (.tuple #[.string (if slong s + s.data.size ≤ 65515 then sbytes a a' s else noB), .int .i64 (if slong s + s.data.size ≤ 65515 then 0 else 75)]) ∧ Mem w [] [] w' := by
  have hd : (!decide (SRight s)) = false := by rw [decide_eq_true hg]; rfl
  obtain ⟨h1, h2, h3, h4, h5, h6, h7, h8, h9, h10, h11, h12⟩ := id hg
  have ho := sopt_size s
  have z0 : (ByteArray.mk #[]).size = 0 := rfl
  have z1 : (ByteArray.mk #[2, 4]).size = 2 := rfl
  have z2 : (ByteArray.mk #[1, 3, 3]).size = 3 := rfl
  have z3 : (ByteArray.mk #[0, 0]).size = 2 := rfl
  have hop : ((⟨#[2, 4]⟩ ++ putB s.mss 2) ++ (⟨#[1, 3, 3]⟩ ++ putB s.scale 1)) = sopt s := by unfold sopt sopt1; rw [if_pos hs1, if_pos hm1]
  have hlg : slong s = 20 + (sopt s).size := rfl
  have hsf := sfirst_size s
  have hsr := srest_size s
  have hrg := ssum_range a a' (sfirst s) (srest s)
  have hw1 : IntKind.i64.wrap (20 + ((sopt s).size : Int)) = slong s := wr64 (by omega) (by omega)
  have hw2 : IntKind.i64.wrap (slong s + (s.data.size : Int)) = slong s + s.data.size := wr64 (by omega) (by omega)
  refine calls_of_z Try.func23 rfl Try.ntmps23 rfl (Mem.refl w) ?_; intro cs b hb hk
  repeat (first | (refine st ?_) | (refine sb ?_) | (intro _))
  ((try (refine sg ?_)); (refine zx_call0 rfl fnc79 rfl rfl (fun w hm => endsS_any a a' w) ?_))
  repeat (first | (refine st ?_) | (refine sb ?_) | (intro _))
  ((try (refine sg ?_)); (refine zx_call0 rfl fnc80 rfl rfl (fun w hm => right_any s w) ?_))
  repeat (first | (refine st ?_) | (refine sb ?_) | (intro _))
  ((try (refine sg ?_)); (refine zx_call0 rfl fnc81 rfl rfl (fun w hm => putS2_any s.mss w (by omega) (by omega)) ?_))
  repeat (first | (refine st ?_) | (refine sb ?_) | (intro _))
  ((try (refine sg ?_)); (refine zx_call0 rfl fnc81 rfl rfl (fun w hm => putS1_any s.scale w (by omega) (by omega)) ?_))
  repeat (first | (refine st ?_) | (refine sb ?_) | (intro _))
  refine z_re 8 (.string (sopt s)) rfl (congrArg _ hop) ?_
  refine z_re 9 (.int .i64 (slong s)) rfl (congrArg _ (by rw [← hw1, ← hop] <;> try rfl)) ?_
  refine z_re 45 (.bool (decide (slong s + s.data.size > 65515))) rfl (by rw [← hw2, ← hw1, ← hop] <;> try rfl) ?_
  by_cases hl : slong s + s.data.size ≤ 65515
  · rw [if_pos hl, if_pos hl]
    repeat (first | (refine st ?_) | (refine sb ?_) | (intro _))
    ((try (refine sg ?_)); (refine zx_call0 rfl fnc81 rfl rfl (fun w hm => putS2_any s.src w h1 (by omega)) ?_))
    repeat (first | (refine st ?_) | (refine sb ?_) | (intro _))
    ((try (refine sg ?_)); (refine zx_call0 rfl fnc81 rfl rfl (fun w hm => putS2_any s.dst w h3 (by omega)) ?_))
    repeat (first | (refine st ?_) | (refine sb ?_) | (intro _))
    refine zx_re 55 (.int .i64 s.seq) rfl (congrArg _ (wr64 (by omega) (by omega))) ?_
    ((try (refine sg ?_)); (refine zx_call0 rfl fnc81 rfl rfl (fun w hm => putS4_any s.seq w hq0 (by omega)) ?_))
    repeat (first | (refine st ?_) | (refine sb ?_) | (intro _))
    refine zx_re 60 (.int .i64 s.ack) rfl (congrArg _ (wr64 (by omega) (by omega))) ?_
    ((try (refine sg ?_)); (refine zx_call0 rfl fnc81 rfl rfl (fun w hm => putS4_any s.ack w ha0 (by omega)) ?_))
    repeat (first | (refine st ?_) | (refine sb ?_) | (intro _))
    refine zx_re 64 (.int .i64 (slong s * 4)) rfl (congrArg _ (show IntKind.i64.wrap (slong s * 4) = slong s * 4 from wr64 (by omega) (by omega))) ?_
    ((try (refine sg ?_)); (refine zx_call0 rfl fnc81 rfl rfl (fun w hm => putS1_any (slong s * 4) w (by omega) (by omega)) ?_))
    repeat (first | (refine st ?_) | (refine sb ?_) | (intro _))
    ((try (refine sg ?_)); (refine zx_call0 rfl fnc81 rfl rfl (fun w hm => putS1_any s.flags w h9 (by omega)) ?_))
    repeat (first | (refine st ?_) | (refine sb ?_) | (intro _))
    ((try (refine sg ?_)); (refine zx_call0 rfl fnc81 rfl rfl (fun w hm => putS2_any s.win w h5 (by omega)) ?_))
    repeat (first | (refine st ?_) | (refine sb ?_) | (intro _))
    refine zx_re 80 (.string (sfirst s)) rfl rfl ?_
    refine zx_re 83 (.string (sfirst s)) rfl rfl ?_
    refine zx_re 84 (.string (srest s)) rfl rfl ?_
    refine zx_re 11 (.string (srest s)) rfl rfl ?_
    ((try (refine sg ?_)); (refine zx_call0 rfl fnc82 rfl rfl (fun w hm => sumS_any a a' (sfirst s) (srest s) w he (by omega) (by omega)) ?_))
    repeat (first | (refine st ?_) | (refine sb ?_) | (intro _))
    refine z_ret2 tab_ok Try.func23 hb hk Try.results23 (.tmp rfl) (.tmp rfl) (fun w hm => ?_)
    exact ⟨rfl, hm.bare⟩
  · rw [if_neg hl, if_neg hl]
    repeat (first | (refine st ?_) | (refine sb ?_) | (intro _))
    refine z_ret2 tab_ok Try.func23 hb hk Try.results23 (.tmp rfl) (.tmp rfl) (fun w hm => ?_)
    exact ⟨rfl, hm.bare⟩
theorem BuildS_any (a a' : Adr) (s : Sg) (w : World) (hx : s.data.size ≤ 1000000000000000) (hq0 : 0 ≤ s.seq) (hq1 : s.seq ≤ 4294967295) (ha0 : 0 ≤ s.ack) (ha1 : s.ack ≤ 4294967295) :
    Calls Try.prog 23 [a.val, a'.val, s.val].toArray w fun e w' => e = .returned (.tuple #[.string (sbuild a a' s).1, .int .i64 (sbuild a a' s).2]) ∧ Mem w [] [] w' := by
  by_cases h : ends a a' = true ∧ SRight s
  · rw [sbuild, if_pos h]
    rw [show (if slong s + s.data.size ≤ 65515 then (sbytes a a' s, (0 : Int)) else (noB, 75)).1 = (if slong s + s.data.size ≤ 65515 then sbytes a a' s else noB) from by split <;> rfl, show (if slong s + s.data.size ≤ 65515 then (sbytes a a' s, (0 : Int)) else (noB, 75)).2 = (if slong s + s.data.size ≤ 65515 then 0 else 75) from by split <;> rfl]
    by_cases hm : 0 < s.mss <;> by_cases hs : 0 ≤ s.scale
    · exact BuildS_g11 a a' s w h.1 h.2 hx hq0 hq1 ha0 ha1 hm hs
    · exact BuildS_g10 a a' s w h.1 h.2 hx hq0 hq1 ha0 ha1 hm hs
    · exact BuildS_g01 a a' s w h.1 h.2 hx hq0 hq1 ha0 ha1 hm hs
    · exact BuildS_g00 a a' s w h.1 h.2 hx hq0 hq1 ha0 ha1 hm hs
  · rw [sbuild, if_neg h]
    exact BuildS_bad a a' s w h
end Go.Proofs.Ytabcaiecoiejkaa
