/- Walk of layer 18's reference: Build. -/
import Derived.Test.YtabcaiecoiejkaaF4
set_option maxRecDepth 100000
set_option linter.unusedSimpArgs false
set_option linter.unusedVariables false
set_option maxHeartbeats 1600000
namespace Go.Proofs.Ytabcaiecoiejkaa
open Go K

theorem scheck_eq (a a' : Adr) (first rest : ByteArray) (h : first.size = 16) : scheck a a' (first ++ zz ++ rest) = ssum a a' first rest := by
  have hsz : ((first ++ zz ++ rest).size : Int) = first.size + 2 + rest.size := by
    rw [ByteArray.size_append, ByteArray.size_append, h, show zz.size = 2 from rfl]; omega
  have hfl : ∀ m, acc false (flat [pseudo a a' 6 m, first ++ zz ++ rest]) = acc false (flat [pseudo a a' 6 m, first, rest]) := by
    intro m
    have e1 : flat [pseudo a a' 6 m, first ++ zz ++ rest] = (bL (pseudo a a' 6 m) ++ bL first) ++ ([0, 0] ++ bL rest) := by
      simp only [flat, List.flatMap_cons, List.flatMap_nil, List.append_nil, bL_append, List.append_assoc]
      rfl
    have e2 : flat [pseudo a a' 6 m, first, rest] = (bL (pseudo a a' 6 m) ++ bL first) ++ bL rest := by
      simp only [flat, List.flatMap_cons, List.flatMap_nil, List.append_nil, List.append_assoc]
    rw [e1, e2, acc_zz]
  unfold scheck ssum
  rw [hsz, hfl]
theorem checkS18_any (a a' : Adr) (first rest : ByteArray) (w : World) (he : ends a a' = true) (h6 : first.size = 16) (hx : rest.size ≤ 65517) :
    Calls Try.prog 86 [a.val, a'.val, .string (first ++ zz ++ rest)].toArray w fun e w' => e = .returned (.int .i64 (ssum a a' first rest)) ∧ Mem w [] [] w' := by
  rw [← scheck_eq a a' first rest h6]
  exact checkR18_any a a' _ w he (by rw [ByteArray.size_append, ByteArray.size_append, h6, show zz.size = 2 from rfl]; omega)
theorem long_q (n : Nat) (h : n = 0 ∨ n = 4 ∨ n = 8) : IntKind.i64.wrap (IntKind.i64.wrap ((IntKind.i64.wrap (20 + (n : Int))).tdiv 4) * 16) = (20 + (n : Int)) * 4 := by
  rcases h with rfl | rfl | rfl <;> decide
theorem BuildR18_bad (a a' : Adr) (s : Sg) (w : World) (h : ¬ (ends a a' = true ∧ SRight s)) :
    Calls Try.prog 24 [a.val, a'.val, s.val].toArray w fun e w' => e = .returned (.tuple #[.string noB, .int .i64 1]) ∧ Mem w [] [] w' := by
  by_cases he : ends a a' = true
  · have hr : decide (SRight s) = false := decide_eq_false (fun hr => h ⟨he, hr⟩)
    refine calls_of_z Try.func24 rfl Try.ntmps24 rfl (Mem.refl w) ?_; intro cs b hb hk
    repeat (first | (refine st ?_) | (refine sb ?_) | (intro _))
    ((try (refine sg ?_)); (refine zx_call0 rfl fnc83 rfl rfl (fun w hm => endsR18_any a a' w) ?_))
    repeat (first | (refine st ?_) | (refine sb ?_) | (intro _))
    ((try (refine sg ?_)); (refine zx_call0 rfl fnc84 rfl rfl (fun w hm => RightR_any s w) ?_))
    repeat (first | (refine st ?_) | (refine sb ?_) | (intro _))
    refine z_ret2 tab_ok Try.func24 hb hk Try.results24 (.tmp rfl) (.tmp rfl) (fun w hm => ?_)
    exact ⟨rfl, hm.bare⟩
  · have he' : ends a a' = false := by simpa using he
    refine calls_of_z Try.func24 rfl Try.ntmps24 rfl (Mem.refl w) ?_; intro cs b hb hk
    repeat (first | (refine st ?_) | (refine sb ?_) | (intro _))
    ((try (refine sg ?_)); (refine zx_call0 rfl fnc83 rfl rfl (fun w hm => endsR18_any a a' w) ?_))
    repeat (first | (refine st ?_) | (refine sb ?_) | (intro _))
    ((try (refine sg ?_)); (refine zx_call0 rfl fnc84 rfl rfl (fun w hm => RightR_any s w) ?_))
    repeat (first | (refine st ?_) | (refine sb ?_) | (intro _))
    refine z_ret2 tab_ok Try.func24 hb hk Try.results24 (.tmp rfl) (.tmp rfl) (fun w hm => ?_)
    exact ⟨rfl, hm.bare⟩
theorem BuildR18_g00 (a a' : Adr) (s : Sg) (w : World) (he : ends a a' = true) (hg : SRight s) (hx : s.data.size ≤ 1000000000000000) (hq0 : 0 ≤ s.seq) (hq1 : s.seq ≤ 4294967295) (ha0 : 0 ≤ s.ack) (ha1 : s.ack ≤ 4294967295) (hm1 : ¬ 0 < s.mss) (hs1 : ¬ 0 ≤ s.scale) :
    Calls Try.prog 24 [a.val, a'.val, s.val].toArray w fun e w' => e = .returned (.tuple #[.string (if slong s + s.data.size ≤ 65515 then sbytes a a' s else noB), .int .i64 (if slong s + s.data.size ≤ 65515 then 0 else 75)]) ∧ Mem w [] [] w' := by
  have hd : (!decide (SRight s)) = false := by rw [decide_eq_true hg]; rfl
  obtain ⟨h1, h2, h3, h4, h5, h6, h7, h8, h9, h10, h11, h12⟩ := id hg
  have ho := sopt_size s
  have z0 : (ByteArray.mk #[]).size = 0 := rfl
  have z3 : (ByteArray.mk #[0, 0]).size = 2 := rfl
  have hq24 : putB 2 1 ++ putB 4 1 = ⟨#[2, 4]⟩ := by decide
  have hq133 : putB 1 1 ++ putB 3 1 ++ putB 3 1 = ⟨#[1, 3, 3]⟩ := by decide
  have hop : noB = sopt s := by unfold sopt sopt1; rw [if_neg hs1, if_neg hm1]
  have hlg : slong s = 20 + (sopt s).size := rfl
  have hsf := sfirst_size s
  have hsr := srest_size s
  have hrg := ssum_range a a' (sfirst s) (srest s)
  have hw1 : IntKind.i64.wrap (20 + ((sopt s).size : Int)) = slong s := wr64 (by omega) (by omega)
  have hw2 : IntKind.i64.wrap (slong s + (s.data.size : Int)) = slong s + s.data.size := wr64 (by omega) (by omega)
  have hm0 : s.mss = 0 := by omega
  have hs0 : s.scale = -1 := by omega
  refine calls_of_z Try.func24 rfl Try.ntmps24 rfl (Mem.refl w) ?_; intro cs b hb hk
  repeat (first | (refine st ?_) | (refine sb ?_) | (intro _))
  ((try (refine sg ?_)); (refine zx_call0 rfl fnc83 rfl rfl (fun w hm => endsR18_any a a' w) ?_))
  repeat (first | (refine st ?_) | (refine sb ?_) | (intro _))
  ((try (refine sg ?_)); (refine zx_call0 rfl fnc84 rfl rfl (fun w hm => RightR_any s w) ?_))
  repeat (first | (refine st ?_) | (refine sb ?_) | (intro _))
  refine z_re 10 (.string (sopt s)) rfl (congrArg _ hop) ?_
  refine z_re 55 (.bool (decide (slong s + s.data.size > 65515))) rfl (by rw [← hw2, ← hw1, ← hop] <;> try rfl) ?_
  by_cases hl : slong s + s.data.size ≤ 65515
  · rw [if_pos hl, if_pos hl]
    repeat (first | (refine st ?_) | (refine sb ?_) | (intro _))
    ((try (refine sg ?_)); (refine zx_call0 rfl fnc85 rfl rfl (fun w hm => putSR2_any s.src w h1 (by omega)) ?_))
    repeat (first | (refine st ?_) | (refine sb ?_) | (intro _))
    ((try (refine sg ?_)); (refine zx_call0 rfl fnc85 rfl rfl (fun w hm => putSR2_any s.dst w h3 (by omega)) ?_))
    repeat (first | (refine st ?_) | (refine sb ?_) | (intro _))
    refine zx_re 65 (.int .u64 s.seq) rfl (congrArg _ (wru64 (by omega) (by omega))) ?_
    ((try (refine sg ?_)); (refine zx_call0 rfl fnc74 rfl rfl (fun w hm => PutR4_any s.seq w hq0 (by omega)) ?_))
    repeat (first | (refine st ?_) | (refine sb ?_) | (intro _))
    refine zx_re 70 (.int .u64 s.ack) rfl (congrArg _ (wru64 (by omega) (by omega))) ?_
    ((try (refine sg ?_)); (refine zx_call0 rfl fnc74 rfl rfl (fun w hm => PutR4_any s.ack w ha0 (by omega)) ?_))
    repeat (first | (refine st ?_) | (refine sb ?_) | (intro _))
    refine zx_re 77 (.int .i64 (slong s * 4)) rfl (congrArg _ (long_q _ ho)) ?_
    ((try (refine sg ?_)); (refine zx_call0 rfl fnc85 rfl rfl (fun w hm => putSR1_any (slong s * 4) w (by omega) (by omega)) ?_))
    repeat (first | (refine st ?_) | (refine sb ?_) | (intro _))
    ((try (refine sg ?_)); (refine zx_call0 rfl fnc85 rfl rfl (fun w hm => putSR1_any s.flags w h9 (by omega)) ?_))
    repeat (first | (refine st ?_) | (refine sb ?_) | (intro _))
    ((try (refine sg ?_)); (refine zx_call0 rfl fnc85 rfl rfl (fun w hm => putSR2_any s.win w h5 (by omega)) ?_))
    repeat (first | (refine st ?_) | (refine sb ?_) | (intro _))
    refine zx_re 87 (.string (sfirst s)) rfl rfl ?_
    refine zx_re 11 (.string (sfirst s)) rfl rfl ?_
    refine zx_re 12 (.string (srest s)) rfl rfl ?_
    repeat (first | (refine st ?_) | (refine sb ?_) | (intro _))
    ((try (refine sg ?_)); (refine zx_call0 rfl fnc86 rfl rfl (fun w hm => checkS18_any a a' (sfirst s) (srest s) w he hsf (by omega)) ?_))
    repeat (first | (refine st ?_) | (refine sb ?_) | (intro _))
    ((try (refine sg ?_)); (refine zx_call0 rfl fnc85 rfl rfl (fun w hm => putSR2_any (ssum a a' (sfirst s) (srest s)) w hrg.1 (by omega)) ?_))
    repeat (first | (refine st ?_) | (refine sb ?_) | (intro _))
    refine z_ret2 tab_ok Try.func24 hb hk Try.results24 (.tmp rfl) (.tmp rfl) (fun w hm => ?_)
    exact ⟨rfl, hm.bare⟩
  · rw [if_neg hl, if_neg hl]
    repeat (first | (refine st ?_) | (refine sb ?_) | (intro _))
    refine z_ret2 tab_ok Try.func24 hb hk Try.results24 (.tmp rfl) (.tmp rfl) (fun w hm => ?_)
    exact ⟨rfl, hm.bare⟩
theorem BuildR18_g01 (a a' : Adr) (s : Sg) (w : World) (he : ends a a' = true) (hg : SRight s) (hx : s.data.size ≤ 1000000000000000) (hq0 : 0 ≤ s.seq) (hq1 : s.seq ≤ 4294967295) (ha0 : 0 ≤ s.ack) (ha1 : s.ack ≤ 4294967295) (hm1 : ¬ 0 < s.mss) (hs1 : 0 ≤ s.scale) :
    Calls Try.prog 24 [a.val, a'.val, s.val].toArray w fun e w' => e = .returned (.tuple #[.string (if slong s + s.data.size ≤ 65515 then sbytes a a' s else noB), .int .i64 (if slong s + s.data.size ≤ 65515 then 0 else 75)]) ∧ Mem w [] [] w' := by
  have hd : (!decide (SRight s)) = false := by rw [decide_eq_true hg]; rfl
  obtain ⟨h1, h2, h3, h4, h5, h6, h7, h8, h9, h10, h11, h12⟩ := id hg
  have ho := sopt_size s
  have z0 : (ByteArray.mk #[]).size = 0 := rfl
  have z3 : (ByteArray.mk #[0, 0]).size = 2 := rfl
  have hq24 : putB 2 1 ++ putB 4 1 = ⟨#[2, 4]⟩ := by decide
  have hq133 : putB 1 1 ++ putB 3 1 ++ putB 3 1 = ⟨#[1, 3, 3]⟩ := by decide
  have hop : (noB ++ putB 1 1 ++ putB 3 1 ++ putB 3 1 ++ putB s.scale 1) = sopt s := by unfold sopt sopt1; rw [if_pos hs1, if_neg hm1, ← hq133] <;> simp only [ByteArray.append_assoc]
  have hlg : slong s = 20 + (sopt s).size := rfl
  have hsf := sfirst_size s
  have hsr := srest_size s
  have hrg := ssum_range a a' (sfirst s) (srest s)
  have hw1 : IntKind.i64.wrap (20 + ((sopt s).size : Int)) = slong s := wr64 (by omega) (by omega)
  have hw2 : IntKind.i64.wrap (slong s + (s.data.size : Int)) = slong s + s.data.size := wr64 (by omega) (by omega)
  have hm0 : s.mss = 0 := by omega
  refine calls_of_z Try.func24 rfl Try.ntmps24 rfl (Mem.refl w) ?_; intro cs b hb hk
  repeat (first | (refine st ?_) | (refine sb ?_) | (intro _))
  ((try (refine sg ?_)); (refine zx_call0 rfl fnc83 rfl rfl (fun w hm => endsR18_any a a' w) ?_))
  repeat (first | (refine st ?_) | (refine sb ?_) | (intro _))
  ((try (refine sg ?_)); (refine zx_call0 rfl fnc84 rfl rfl (fun w hm => RightR_any s w) ?_))
  repeat (first | (refine st ?_) | (refine sb ?_) | (intro _))
  ((try (refine sg ?_)); (refine zx_call0 rfl fnc85 rfl rfl (fun w hm => putSR1_any 1 w (by omega) (by omega)) ?_))
  repeat (first | (refine st ?_) | (refine sb ?_) | (intro _))
  ((try (refine sg ?_)); (refine zx_call0 rfl fnc85 rfl rfl (fun w hm => putSR1_any 3 w (by omega) (by omega)) ?_))
  repeat (first | (refine st ?_) | (refine sb ?_) | (intro _))
  ((try (refine sg ?_)); (refine zx_call0 rfl fnc85 rfl rfl (fun w hm => putSR1_any 3 w (by omega) (by omega)) ?_))
  repeat (first | (refine st ?_) | (refine sb ?_) | (intro _))
  ((try (refine sg ?_)); (refine zx_call0 rfl fnc85 rfl rfl (fun w hm => putSR1_any s.scale w (by omega) (by omega)) ?_))
  repeat (first | (refine st ?_) | (refine sb ?_) | (intro _))
  refine z_re 10 (.string (sopt s)) rfl (congrArg _ hop) ?_
  refine z_re 55 (.bool (decide (slong s + s.data.size > 65515))) rfl (by rw [← hw2, ← hw1, ← hop] <;> try rfl) ?_
  by_cases hl : slong s + s.data.size ≤ 65515
  · rw [if_pos hl, if_pos hl]
    repeat (first | (refine st ?_) | (refine sb ?_) | (intro _))
    ((try (refine sg ?_)); (refine zx_call0 rfl fnc85 rfl rfl (fun w hm => putSR2_any s.src w h1 (by omega)) ?_))
    repeat (first | (refine st ?_) | (refine sb ?_) | (intro _))
    ((try (refine sg ?_)); (refine zx_call0 rfl fnc85 rfl rfl (fun w hm => putSR2_any s.dst w h3 (by omega)) ?_))
    repeat (first | (refine st ?_) | (refine sb ?_) | (intro _))
    refine zx_re 65 (.int .u64 s.seq) rfl (congrArg _ (wru64 (by omega) (by omega))) ?_
    ((try (refine sg ?_)); (refine zx_call0 rfl fnc74 rfl rfl (fun w hm => PutR4_any s.seq w hq0 (by omega)) ?_))
    repeat (first | (refine st ?_) | (refine sb ?_) | (intro _))
    refine zx_re 70 (.int .u64 s.ack) rfl (congrArg _ (wru64 (by omega) (by omega))) ?_
    ((try (refine sg ?_)); (refine zx_call0 rfl fnc74 rfl rfl (fun w hm => PutR4_any s.ack w ha0 (by omega)) ?_))
    repeat (first | (refine st ?_) | (refine sb ?_) | (intro _))
    refine zx_re 77 (.int .i64 (slong s * 4)) rfl (congrArg _ (long_q _ ho)) ?_
    ((try (refine sg ?_)); (refine zx_call0 rfl fnc85 rfl rfl (fun w hm => putSR1_any (slong s * 4) w (by omega) (by omega)) ?_))
    repeat (first | (refine st ?_) | (refine sb ?_) | (intro _))
    ((try (refine sg ?_)); (refine zx_call0 rfl fnc85 rfl rfl (fun w hm => putSR1_any s.flags w h9 (by omega)) ?_))
    repeat (first | (refine st ?_) | (refine sb ?_) | (intro _))
    ((try (refine sg ?_)); (refine zx_call0 rfl fnc85 rfl rfl (fun w hm => putSR2_any s.win w h5 (by omega)) ?_))
    repeat (first | (refine st ?_) | (refine sb ?_) | (intro _))
    refine zx_re 87 (.string (sfirst s)) rfl rfl ?_
    refine zx_re 11 (.string (sfirst s)) rfl rfl ?_
    refine zx_re 12 (.string (srest s)) rfl rfl ?_
    repeat (first | (refine st ?_) | (refine sb ?_) | (intro _))
    ((try (refine sg ?_)); (refine zx_call0 rfl fnc86 rfl rfl (fun w hm => checkS18_any a a' (sfirst s) (srest s) w he hsf (by omega)) ?_))
    repeat (first | (refine st ?_) | (refine sb ?_) | (intro _))
    ((try (refine sg ?_)); (refine zx_call0 rfl fnc85 rfl rfl (fun w hm => putSR2_any (ssum a a' (sfirst s) (srest s)) w hrg.1 (by omega)) ?_))
    repeat (first | (refine st ?_) | (refine sb ?_) | (intro _))
    refine z_ret2 tab_ok Try.func24 hb hk Try.results24 (.tmp rfl) (.tmp rfl) (fun w hm => ?_)
    exact ⟨rfl, hm.bare⟩
  · rw [if_neg hl, if_neg hl]
    repeat (first | (refine st ?_) | (refine sb ?_) | (intro _))
    refine z_ret2 tab_ok Try.func24 hb hk Try.results24 (.tmp rfl) (.tmp rfl) (fun w hm => ?_)
    exact ⟨rfl, hm.bare⟩
theorem BuildR18_g10 (a a' : Adr) (s : Sg) (w : World) (he : ends a a' = true) (hg : SRight s) (hx : s.data.size ≤ 1000000000000000) (hq0 : 0 ≤ s.seq) (hq1 : s.seq ≤ 4294967295) (ha0 : 0 ≤ s.ack) (ha1 : s.ack ≤ 4294967295) (hm1 : 0 < s.mss) (hs1 : ¬ 0 ≤ s.scale) :
    Calls Try.prog 24 [a.val, a'.val, s.val].toArray w fun e w' => e = .returned (.tuple #[.string (if slong s + s.data.size ≤ 65515 then sbytes a a' s else noB), .int .i64 (if slong s + s.data.size ≤ 65515 then 0 else 75)]) ∧ Mem w [] [] w' := by
  have hd : (!decide (SRight s)) = false := by rw [decide_eq_true hg]; rfl
  obtain ⟨h1, h2, h3, h4, h5, h6, h7, h8, h9, h10, h11, h12⟩ := id hg
  have ho := sopt_size s
  have z0 : (ByteArray.mk #[]).size = 0 := rfl
  have z3 : (ByteArray.mk #[0, 0]).size = 2 := rfl
  have hq24 : putB 2 1 ++ putB 4 1 = ⟨#[2, 4]⟩ := by decide
  have hq133 : putB 1 1 ++ putB 3 1 ++ putB 3 1 = ⟨#[1, 3, 3]⟩ := by decide
  have hop : (putB 2 1 ++ putB 4 1 ++ putB s.mss 2) = sopt s := by unfold sopt sopt1; rw [if_neg hs1, if_pos hm1, ← hq24] <;> simp only [ByteArray.append_assoc]
  have hlg : slong s = 20 + (sopt s).size := rfl
  have hsf := sfirst_size s
  have hsr := srest_size s
  have hrg := ssum_range a a' (sfirst s) (srest s)
  have hw1 : IntKind.i64.wrap (20 + ((sopt s).size : Int)) = slong s := wr64 (by omega) (by omega)
  have hw2 : IntKind.i64.wrap (slong s + (s.data.size : Int)) = slong s + s.data.size := wr64 (by omega) (by omega)
  have hs0 : s.scale = -1 := by omega
  refine calls_of_z Try.func24 rfl Try.ntmps24 rfl (Mem.refl w) ?_; intro cs b hb hk
  repeat (first | (refine st ?_) | (refine sb ?_) | (intro _))
  ((try (refine sg ?_)); (refine zx_call0 rfl fnc83 rfl rfl (fun w hm => endsR18_any a a' w) ?_))
  repeat (first | (refine st ?_) | (refine sb ?_) | (intro _))
  ((try (refine sg ?_)); (refine zx_call0 rfl fnc84 rfl rfl (fun w hm => RightR_any s w) ?_))
  repeat (first | (refine st ?_) | (refine sb ?_) | (intro _))
  ((try (refine sg ?_)); (refine zx_call0 rfl fnc85 rfl rfl (fun w hm => putSR1_any 2 w (by omega) (by omega)) ?_))
  repeat (first | (refine st ?_) | (refine sb ?_) | (intro _))
  ((try (refine sg ?_)); (refine zx_call0 rfl fnc85 rfl rfl (fun w hm => putSR1_any 4 w (by omega) (by omega)) ?_))
  repeat (first | (refine st ?_) | (refine sb ?_) | (intro _))
  ((try (refine sg ?_)); (refine zx_call0 rfl fnc85 rfl rfl (fun w hm => putSR2_any s.mss w (by omega) (by omega)) ?_))
  repeat (first | (refine st ?_) | (refine sb ?_) | (intro _))
  refine z_re 10 (.string (sopt s)) rfl (congrArg _ hop) ?_
  refine z_re 55 (.bool (decide (slong s + s.data.size > 65515))) rfl (by rw [← hw2, ← hw1, ← hop] <;> try rfl) ?_
  by_cases hl : slong s + s.data.size ≤ 65515
  · rw [if_pos hl, if_pos hl]
    repeat (first | (refine st ?_) | (refine sb ?_) | (intro _))
    ((try (refine sg ?_)); (refine zx_call0 rfl fnc85 rfl rfl (fun w hm => putSR2_any s.src w h1 (by omega)) ?_))
    repeat (first | (refine st ?_) | (refine sb ?_) | (intro _))
    ((try (refine sg ?_)); (refine zx_call0 rfl fnc85 rfl rfl (fun w hm => putSR2_any s.dst w h3 (by omega)) ?_))
    repeat (first | (refine st ?_) | (refine sb ?_) | (intro _))
    refine zx_re 65 (.int .u64 s.seq) rfl (congrArg _ (wru64 (by omega) (by omega))) ?_
    ((try (refine sg ?_)); (refine zx_call0 rfl fnc74 rfl rfl (fun w hm => PutR4_any s.seq w hq0 (by omega)) ?_))
    repeat (first | (refine st ?_) | (refine sb ?_) | (intro _))
    refine zx_re 70 (.int .u64 s.ack) rfl (congrArg _ (wru64 (by omega) (by omega))) ?_
    ((try (refine sg ?_)); (refine zx_call0 rfl fnc74 rfl rfl (fun w hm => PutR4_any s.ack w ha0 (by omega)) ?_))
    repeat (first | (refine st ?_) | (refine sb ?_) | (intro _))
    refine zx_re 77 (.int .i64 (slong s * 4)) rfl (congrArg _ (long_q _ ho)) ?_
    ((try (refine sg ?_)); (refine zx_call0 rfl fnc85 rfl rfl (fun w hm => putSR1_any (slong s * 4) w (by omega) (by omega)) ?_))
    repeat (first | (refine st ?_) | (refine sb ?_) | (intro _))
    ((try (refine sg ?_)); (refine zx_call0 rfl fnc85 rfl rfl (fun w hm => putSR1_any s.flags w h9 (by omega)) ?_))
    repeat (first | (refine st ?_) | (refine sb ?_) | (intro _))
    ((try (refine sg ?_)); (refine zx_call0 rfl fnc85 rfl rfl (fun w hm => putSR2_any s.win w h5 (by omega)) ?_))
    repeat (first | (refine st ?_) | (refine sb ?_) | (intro _))
    refine zx_re 87 (.string (sfirst s)) rfl rfl ?_
    refine zx_re 11 (.string (sfirst s)) rfl rfl ?_
    refine zx_re 12 (.string (srest s)) rfl rfl ?_
    repeat (first | (refine st ?_) | (refine sb ?_) | (intro _))
    ((try (refine sg ?_)); (refine zx_call0 rfl fnc86 rfl rfl (fun w hm => checkS18_any a a' (sfirst s) (srest s) w he hsf (by omega)) ?_))
    repeat (first | (refine st ?_) | (refine sb ?_) | (intro _))
    ((try (refine sg ?_)); (refine zx_call0 rfl fnc85 rfl rfl (fun w hm => putSR2_any (ssum a a' (sfirst s) (srest s)) w hrg.1 (by omega)) ?_))
    repeat (first | (refine st ?_) | (refine sb ?_) | (intro _))
    refine z_ret2 tab_ok Try.func24 hb hk Try.results24 (.tmp rfl) (.tmp rfl) (fun w hm => ?_)
    exact ⟨rfl, hm.bare⟩
  · rw [if_neg hl, if_neg hl]
    repeat (first | (refine st ?_) | (refine sb ?_) | (intro _))
    refine z_ret2 tab_ok Try.func24 hb hk Try.results24 (.tmp rfl) (.tmp rfl) (fun w hm => ?_)
    exact ⟨rfl, hm.bare⟩
theorem BuildR18_g11 (a a' : Adr) (s : Sg) (w : World) (he : ends a a' = true) (hg : SRight s) (hx : s.data.size ≤ 1000000000000000) (hq0 : 0 ≤ s.seq) (hq1 : s.seq ≤ 4294967295) (ha0 : 0 ≤ s.ack) (ha1 : s.ack ≤ 4294967295) (hm1 : 0 < s.mss) (hs1 : 0 ≤ s.scale) :
    Calls Try.prog 24 [a.val, a'.val, s.val].toArray w fun e w' => e = .returned (.tuple #[.string (if slong s + s.data.size ≤ 65515 then sbytes a a' s else noB), .int .i64 (if slong s + s.data.size ≤ 65515 then 0 else 75)]) ∧ Mem w [] [] w' := by
  have hd : (!decide (SRight s)) = false := by rw [decide_eq_true hg]; rfl
  obtain ⟨h1, h2, h3, h4, h5, h6, h7, h8, h9, h10, h11, h12⟩ := id hg
  have ho := sopt_size s
  have z0 : (ByteArray.mk #[]).size = 0 := rfl
  have z3 : (ByteArray.mk #[0, 0]).size = 2 := rfl
  have hq24 : putB 2 1 ++ putB 4 1 = ⟨#[2, 4]⟩ := by decide
  have hq133 : putB 1 1 ++ putB 3 1 ++ putB 3 1 = ⟨#[1, 3, 3]⟩ := by decide
  have hop : ((putB 2 1 ++ putB 4 1 ++ putB s.mss 2) ++ putB 1 1 ++ putB 3 1 ++ putB 3 1 ++ putB s.scale 1) = sopt s := by unfold sopt sopt1; rw [if_pos hs1, if_pos hm1, ← hq24, ← hq133] <;> simp only [ByteArray.append_assoc]
  have hlg : slong s = 20 + (sopt s).size := rfl
  have hsf := sfirst_size s
  have hsr := srest_size s
  have hrg := ssum_range a a' (sfirst s) (srest s)
  have hw1 : IntKind.i64.wrap (20 + ((sopt s).size : Int)) = slong s := wr64 (by omega) (by omega)
  have hw2 : IntKind.i64.wrap (slong s + (s.data.size : Int)) = slong s + s.data.size := wr64 (by omega) (by omega)
  refine calls_of_z Try.func24 rfl Try.ntmps24 rfl (Mem.refl w) ?_; intro cs b hb hk
  repeat (first | (refine st ?_) | (refine sb ?_) | (intro _))
  ((try (refine sg ?_)); (refine zx_call0 rfl fnc83 rfl rfl (fun w hm => endsR18_any a a' w) ?_))
  repeat (first | (refine st ?_) | (refine sb ?_) | (intro _))
  ((try (refine sg ?_)); (refine zx_call0 rfl fnc84 rfl rfl (fun w hm => RightR_any s w) ?_))
  repeat (first | (refine st ?_) | (refine sb ?_) | (intro _))
  ((try (refine sg ?_)); (refine zx_call0 rfl fnc85 rfl rfl (fun w hm => putSR1_any 2 w (by omega) (by omega)) ?_))
  repeat (first | (refine st ?_) | (refine sb ?_) | (intro _))
  ((try (refine sg ?_)); (refine zx_call0 rfl fnc85 rfl rfl (fun w hm => putSR1_any 4 w (by omega) (by omega)) ?_))
  repeat (first | (refine st ?_) | (refine sb ?_) | (intro _))
  ((try (refine sg ?_)); (refine zx_call0 rfl fnc85 rfl rfl (fun w hm => putSR2_any s.mss w (by omega) (by omega)) ?_))
  repeat (first | (refine st ?_) | (refine sb ?_) | (intro _))
  ((try (refine sg ?_)); (refine zx_call0 rfl fnc85 rfl rfl (fun w hm => putSR1_any 1 w (by omega) (by omega)) ?_))
  repeat (first | (refine st ?_) | (refine sb ?_) | (intro _))
  ((try (refine sg ?_)); (refine zx_call0 rfl fnc85 rfl rfl (fun w hm => putSR1_any 3 w (by omega) (by omega)) ?_))
  repeat (first | (refine st ?_) | (refine sb ?_) | (intro _))
  ((try (refine sg ?_)); (refine zx_call0 rfl fnc85 rfl rfl (fun w hm => putSR1_any 3 w (by omega) (by omega)) ?_))
  repeat (first | (refine st ?_) | (refine sb ?_) | (intro _))
  ((try (refine sg ?_)); (refine zx_call0 rfl fnc85 rfl rfl (fun w hm => putSR1_any s.scale w (by omega) (by omega)) ?_))
  repeat (first | (refine st ?_) | (refine sb ?_) | (intro _))
  refine z_re 10 (.string (sopt s)) rfl (congrArg _ hop) ?_
  refine z_re 55 (.bool (decide (slong s + s.data.size > 65515))) rfl (by rw [← hw2, ← hw1, ← hop] <;> try rfl) ?_
  by_cases hl : slong s + s.data.size ≤ 65515
  · rw [if_pos hl, if_pos hl]
    repeat (first | (refine st ?_) | (refine sb ?_) | (intro _))
    ((try (refine sg ?_)); (refine zx_call0 rfl fnc85 rfl rfl (fun w hm => putSR2_any s.src w h1 (by omega)) ?_))
    repeat (first | (refine st ?_) | (refine sb ?_) | (intro _))
    ((try (refine sg ?_)); (refine zx_call0 rfl fnc85 rfl rfl (fun w hm => putSR2_any s.dst w h3 (by omega)) ?_))
    repeat (first | (refine st ?_) | (refine sb ?_) | (intro _))
    refine zx_re 65 (.int .u64 s.seq) rfl (congrArg _ (wru64 (by omega) (by omega))) ?_
    ((try (refine sg ?_)); (refine zx_call0 rfl fnc74 rfl rfl (fun w hm => PutR4_any s.seq w hq0 (by omega)) ?_))
    repeat (first | (refine st ?_) | (refine sb ?_) | (intro _))
    refine zx_re 70 (.int .u64 s.ack) rfl (congrArg _ (wru64 (by omega) (by omega))) ?_
    ((try (refine sg ?_)); (refine zx_call0 rfl fnc74 rfl rfl (fun w hm => PutR4_any s.ack w ha0 (by omega)) ?_))
    repeat (first | (refine st ?_) | (refine sb ?_) | (intro _))
    refine zx_re 77 (.int .i64 (slong s * 4)) rfl (congrArg _ (long_q _ ho)) ?_
    ((try (refine sg ?_)); (refine zx_call0 rfl fnc85 rfl rfl (fun w hm => putSR1_any (slong s * 4) w (by omega) (by omega)) ?_))
    repeat (first | (refine st ?_) | (refine sb ?_) | (intro _))
    ((try (refine sg ?_)); (refine zx_call0 rfl fnc85 rfl rfl (fun w hm => putSR1_any s.flags w h9 (by omega)) ?_))
    repeat (first | (refine st ?_) | (refine sb ?_) | (intro _))
    ((try (refine sg ?_)); (refine zx_call0 rfl fnc85 rfl rfl (fun w hm => putSR2_any s.win w h5 (by omega)) ?_))
    repeat (first | (refine st ?_) | (refine sb ?_) | (intro _))
    refine zx_re 87 (.string (sfirst s)) rfl rfl ?_
    refine zx_re 11 (.string (sfirst s)) rfl rfl ?_
    refine zx_re 12 (.string (srest s)) rfl rfl ?_
    repeat (first | (refine st ?_) | (refine sb ?_) | (intro _))
    ((try (refine sg ?_)); (refine zx_call0 rfl fnc86 rfl rfl (fun w hm => checkS18_any a a' (sfirst s) (srest s) w he hsf (by omega)) ?_))
    repeat (first | (refine st ?_) | (refine sb ?_) | (intro _))
    ((try (refine sg ?_)); (refine zx_call0 rfl fnc85 rfl rfl (fun w hm => putSR2_any (ssum a a' (sfirst s) (srest s)) w hrg.1 (by omega)) ?_))
    repeat (first | (refine st ?_) | (refine sb ?_) | (intro _))
    refine z_ret2 tab_ok Try.func24 hb hk Try.results24 (.tmp rfl) (.tmp rfl) (fun w hm => ?_)
    exact ⟨rfl, hm.bare⟩
  · rw [if_neg hl, if_neg hl]
    repeat (first | (refine st ?_) | (refine sb ?_) | (intro _))
    refine z_ret2 tab_ok Try.func24 hb hk Try.results24 (.tmp rfl) (.tmp rfl) (fun w hm => ?_)
    exact ⟨rfl, hm.bare⟩
theorem BuildR18_any (a a' : Adr) (s : Sg) (w : World) (hx : s.data.size ≤ 1000000000000000) (hq0 : 0 ≤ s.seq) (hq1 : s.seq ≤ 4294967295) (ha0 : 0 ≤ s.ack) (ha1 : s.ack ≤ 4294967295) :
    Calls Try.prog 24 [a.val, a'.val, s.val].toArray w fun e w' => e = .returned (.tuple #[.string (sbuild a a' s).1, .int .i64 (sbuild a a' s).2]) ∧ Mem w [] [] w' := by
  by_cases h : ends a a' = true ∧ SRight s
  · rw [sbuild, if_pos h]
    rw [show (if slong s + s.data.size ≤ 65515 then (sbytes a a' s, (0 : Int)) else (noB, 75)).1 = (if slong s + s.data.size ≤ 65515 then sbytes a a' s else noB) from by split <;> rfl, show (if slong s + s.data.size ≤ 65515 then (sbytes a a' s, (0 : Int)) else (noB, 75)).2 = (if slong s + s.data.size ≤ 65515 then 0 else 75) from by split <;> rfl]
    by_cases hm : 0 < s.mss <;> by_cases hs : 0 ≤ s.scale
    · exact BuildR18_g11 a a' s w h.1 h.2 hx hq0 hq1 ha0 ha1 hm hs
    · exact BuildR18_g10 a a' s w h.1 h.2 hx hq0 hq1 ha0 ha1 hm hs
    · exact BuildR18_g01 a a' s w h.1 h.2 hx hq0 hq1 ha0 ha1 hm hs
    · exact BuildR18_g00 a a' s w h.1 h.2 hx hq0 hq1 ha0 ha1 hm hs
  · rw [sbuild, if_neg h]
    exact BuildR18_bad a a' s w h
end Go.Proofs.Ytabcaiecoiejkaa
