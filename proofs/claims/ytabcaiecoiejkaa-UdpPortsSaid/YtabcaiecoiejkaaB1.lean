/- Walks of the reference's small functions: Valid, Put. -/
import Derived.Test.YtabcaiecoiejkaaA4
set_option maxRecDepth 100000
set_option linter.unusedSimpArgs false
set_option linter.unusedVariables false
namespace Go.Proofs.Ytabcaiecoiejkaa
open Go K

theorem Adr.cells_get (a : Adr) (i : Nat) (h : i < 16) : a.cells[0 + 1 + i]? = some (.int .u8 (a.b i)) := by
  obtain rfl | rfl | rfl | rfl | rfl | rfl | rfl | rfl | rfl | rfl | rfl | rfl | rfl | rfl | rfl | rfl : i = 0 ∨ i = 1 ∨ i = 2 ∨ i = 3 ∨ i = 4 ∨ i = 5 ∨ i = 6 ∨ i = 7 ∨ i = 8 ∨ i = 9 ∨ i = 10 ∨ i = 11 ∨ i = 12 ∨ i = 13 ∨ i = 14 ∨ i = 15 := by omega
  all_goals rfl
theorem Adr.tail0_iff (a : Adr) : a.tail0 = true ↔ ∀ i, 4 ≤ i → i < 16 → a.b i = 0 := by
  simp only [Adr.tail0, Bool.and_eq_true, beq_iff_eq]
  constructor
  · rintro ⟨h4, h5, h6, h7, h8, h9, h10, h11, h12, h13, h14, h15⟩ i hi1 hi2
    obtain rfl | rfl | rfl | rfl | rfl | rfl | rfl | rfl | rfl | rfl | rfl | rfl : i = 4 ∨ i = 5 ∨ i = 6 ∨ i = 7 ∨ i = 8 ∨ i = 9 ∨ i = 10 ∨ i = 11 ∨ i = 12 ∨ i = 13 ∨ i = 14 ∨ i = 15 := by omega
    all_goals assumption
  · intro h
    exact ⟨h 4 (by omega) (by omega), h 5 (by omega) (by omega), h 6 (by omega) (by omega), h 7 (by omega) (by omega), h 8 (by omega) (by omega), h 9 (by omega) (by omega), h 10 (by omega) (by omega), h 11 (by omega) (by omega), h 12 (by omega) (by omega), h 13 (by omega) (by omega), h 14 (by omega) (by omega), h 15 (by omega) (by omega)⟩

theorem ValidR_any (a : Adr) (w : World) :
    Calls Try.prog 118 [a.val].toArray w fun e w' => e = .returned (.bool a.valid) ∧ Mem w [] [] w' := by
  refine calls_of_z Try.func118 rfl Try.ntmps118 rfl (Mem.refl w) ?_; intro cs b hb hk
  cases h6 : a.v6 with
  | true =>
    repeat (first | (refine st ?_) | (refine sb ?_) | (intro _))
    refine z_once ?_
    repeat (first | (refine st ?_) | (refine sb ?_) | (intro _))
    refine z_ret1 tab_ok Try.func118 hb hk Try.results118 (.tmp rfl) (fun w hm => ?_)
    exact ⟨by simp [Adr.valid, h6], hm.bare⟩
  | false =>
    repeat (first | (refine st ?_) | (refine sb ?_) | (intro _))
    rename_i p
    refine z_loop (fun i : Nat => 4 ≤ i ∧ i ≤ 16 ∧ ∀ j, 4 ≤ j → j < i → a.b j = 0) (fun i => [(1, .pointer (some ⟨p, 0, none⟩)), (3, .int .i64 (i : Int))]) (fun _ => [(p, .c a.cells 24 0 0)]) (fun i => 16 - i) 4 ⟨by omega, by omega, fun j h1 h2 => by omega⟩ ⟨rfl, rfl, trivial⟩ (by rw [Adr.cells, h6]; exact List.Sublist.refl _) ?_
    intro i hi ih
    obtain ⟨h1, h2, h3⟩ := hi
    by_cases hlt : i < 16
    · have hg := a.cells_get i hlt
      repeat (first | (refine st ?_) | (refine sb ?_) | (intro _))
      refine zx_re 8 (.bool false) rfl (congrArg _ h6) ?_
      repeat (first | (refine st ?_) | (refine sb ?_) | (intro _))
      refine zx_idxP (sz := i) (len := 16) (m := (i : Int)) (esz := 1) tab_ok rfl rfl rfl rfl rfl rfl (by omega) (by omega) (by simp) ?_
      refine zx_load tab_ok 0 rfl rfl rfl rfl rfl hg rfl ?_
      repeat (first | (refine st ?_) | (refine sb ?_) | (intro _))
      by_cases hz : a.b i = 0
      · repeat (first | (refine st ?_) | (refine sb ?_) | (intro _))
        refine z_weaken _ _ ?_ (List.Sublist.refl _) (fun _ h => h) (ih (i + 1) ⟨by omega, by omega, fun j hj1 hj2 => by by_cases e : j = i; (rw [e]; exact hz); exact h3 j hj1 (by omega)⟩ (by omega))
        exact ⟨rfl, congrArg (fun x => some (Value.int .i64 x)) (by simp only [IntKind.wrap_i64]; omega), trivial⟩
      · repeat (first | (refine st ?_) | (refine sb ?_) | (intro _))
        refine z_ret1 tab_ok Try.func118 hb hk Try.results118 (.tmp rfl) (fun w hm => ?_)
        refine ⟨?_, hm.bare⟩
        have ht : a.tail0 = false := by
          cases ht : a.tail0
          · rfl
          · exact absurd (a.tail0_iff.1 ht i h1 hlt) hz
        rw [Adr.valid, h6, ht]; rfl
    · have ht : a.tail0 = true := a.tail0_iff.2 fun j hj1 hj2 => h3 j hj1 (by omega)
      repeat (first | (refine st ?_) | (refine sb ?_) | (intro _))
      refine z_ret1 tab_ok Try.func118 hb hk Try.results118 (.tmp rfl) (fun w hm => ?_)
      refine ⟨?_, hm.bare⟩
      rw [Adr.valid, h6, ht]; rfl

theorem rem_byt (x : Int) (h : 0 ≤ x) : IntKind.u8.wrap (x.tmod 256) = byt x 0 := by
  rw [Int.tmod_eq_emod_of_nonneg h, IntKind.wrap_u8]
  unfold byt
  rw [Int.pow_zero, Int.ediv_one]
  omega
theorem quo_byt (x : Int) (h : 0 ≤ x) (h1 : x < 18446744073709551616) : IntKind.u64.wrap (x.tdiv 256) = x / 256 := by
  rw [Int.tdiv_eq_ediv_of_nonneg h, wru64 (by omega) (by omega)]
theorem byt_quo (x : Int) (k : Nat) (h : 0 ≤ x) : byt (x / 256) k = byt x (k + 1) := by
  unfold byt
  rw [Int.pow_succ, Int.mul_comm, Int.ediv_ediv_of_nonneg (by omega)]

theorem PutR1_any (x : Int) (w : World) (h : 0 ≤ x) (_h1 : x < 18446744073709551616) :
    Calls Try.prog 74 [.int .u64 x, .int .i64 1].toArray w fun e w' => e = .returned (.string (putB x 1)) ∧ Mem w [] [] w' := by
  refine calls_of_z Try.func74 rfl Try.ntmps74 rfl (Mem.refl w) ?_; intro cs b hb hk
  repeat (first | (refine st ?_) | (refine sb ?_) | (intro _))
  refine zx_make (len := 1) tab_ok rfl rfl elt5 rfl rfl rfl rfl rfl rfl rfl ?_
  intro p
  repeat (first | (refine st ?_) | (intro _) | (refine z_once ?_) | (refine z_again ?_))
  refine z_ret1 tab_ok Try.func74 hb hk Try.results74 (.tmp rfl) (fun w hm => ?_)
  refine ⟨ofInts_congr ?_, hm.bare⟩
  show [IntKind.u8.wrap (x.tmod 256)] = [byt x 0]
  rw [rem_byt x h]
theorem PutR2_any (x : Int) (w : World) (h : 0 ≤ x) (h1 : x < 18446744073709551616) :
    Calls Try.prog 74 [.int .u64 x, .int .i64 2].toArray w fun e w' => e = .returned (.string (putB x 2)) ∧ Mem w [] [] w' := by
  refine calls_of_z Try.func74 rfl Try.ntmps74 rfl (Mem.refl w) ?_; intro cs b hb hk
  repeat (first | (refine st ?_) | (refine sb ?_) | (intro _))
  refine zx_make (len := 2) tab_ok rfl rfl elt5 rfl rfl rfl rfl rfl rfl rfl ?_
  intro p
  repeat (first | (refine st ?_) | (intro _) | (refine z_once ?_) | (refine z_again ?_))
  refine z_ret1 tab_ok Try.func74 hb hk Try.results74 (.tmp rfl) (fun w hm => ?_)
  refine ⟨ofInts_congr ?_, hm.bare⟩
  show [IntKind.u8.wrap ((IntKind.u64.wrap (x.tdiv 256)).tmod 256), IntKind.u8.wrap (x.tmod 256)] = [byt x 1, byt x 0]
  rw [rem_byt x h, quo_byt x h h1, rem_byt _ (by omega), byt_quo x 0 h]
theorem PutR4_any (x : Int) (w : World) (h : 0 ≤ x) (h1 : x < 18446744073709551616) :
    Calls Try.prog 74 [.int .u64 x, .int .i64 4].toArray w fun e w' => e = .returned (.string (putB x 4)) ∧ Mem w [] [] w' := by
  refine calls_of_z Try.func74 rfl Try.ntmps74 rfl (Mem.refl w) ?_; intro cs b hb hk
  repeat (first | (refine st ?_) | (refine sb ?_) | (intro _))
  refine zx_make (len := 4) tab_ok rfl rfl elt5 rfl rfl rfl rfl rfl rfl rfl ?_
  intro p
  repeat (first | (refine st ?_) | (intro _) | (refine z_once ?_) | (refine z_again ?_))
  refine z_ret1 tab_ok Try.func74 hb hk Try.results74 (.tmp rfl) (fun w hm => ?_)
  refine ⟨ofInts_congr ?_, hm.bare⟩
  show [IntKind.u8.wrap ((IntKind.u64.wrap ((IntKind.u64.wrap ((IntKind.u64.wrap (x.tdiv 256)).tdiv 256)).tdiv 256)).tmod 256), IntKind.u8.wrap ((IntKind.u64.wrap ((IntKind.u64.wrap (x.tdiv 256)).tdiv 256)).tmod 256), IntKind.u8.wrap ((IntKind.u64.wrap (x.tdiv 256)).tmod 256), IntKind.u8.wrap (x.tmod 256)] = [byt x 3, byt x 2, byt x 1, byt x 0]
  rw [quo_byt x h h1, quo_byt (x / 256) (by omega) (by omega), quo_byt (x / 256 / 256) (by omega) (by omega), rem_byt x h, rem_byt (x / 256) (by omega), rem_byt (x / 256 / 256) (by omega), rem_byt (x / 256 / 256 / 256) (by omega),
    byt_quo x 0 h, byt_quo (x / 256) 0 (by omega), byt_quo x 1 h, byt_quo (x / 256 / 256) 0 (by omega), byt_quo (x / 256) 1 (by omega), byt_quo x 2 h]
end Go.Proofs.Ytabcaiecoiejkaa
