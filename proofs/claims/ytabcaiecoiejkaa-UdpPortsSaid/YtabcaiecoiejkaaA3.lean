/- Walk of wire.Sum. -/
import Derived.Test.YtabcaiecoiejkaaKS
import Derived.Test.YtabcaiecoiejkaaN1
set_option maxRecDepth 100000
set_option linter.unusedSimpArgs false
set_option linter.unusedVariables false
namespace Go.Proofs.Ytabcaiecoiejkaa
open Go K

theorem sum_step1 (pre : List Int) (s : ByteArray) (j : Nat) (hp : Small pre) (hl : pre.length ≤ 100000000000) (ho : par pre = true) : IntKind.u64.wrap (acc false pre + IntKind.u64.wrap (bt s j)) = acc false (pre ++ [bt s j]) := by
  have h1 := acc_range false pre hp
  have h2 := bt_range s j
  rw [acc_snoc, ho, cond_true, wru64 (x := bt s j) (by omega) (by omega), wru64 (by omega) (by omega)]
theorem sum_step0 (pre : List Int) (s : ByteArray) (j : Nat) (hp : Small pre) (hl : pre.length ≤ 100000000000) (ho : par pre = false) : IntKind.u64.wrap (acc false pre + IntKind.u64.wrap (IntKind.u64.wrap (bt s j) * 256)) = acc false (pre ++ [bt s j]) := by
  have h1 := acc_range false pre hp
  have h2 := bt_range s j
  rw [acc_snoc, ho, cond_false, wru64 (x := bt s j) (by omega) (by omega), wru64 (x := bt s j * 256) (by omega) (by omega), wru64 (by omega) (by omega)]
theorem fold_step (x : Int) (h0 : 65535 < x) (h1 : x < 18446744073709551616) : IntKind.u64.wrap (x.fdiv 65536 + bits .and .u64 x 65535) = x / 65536 + x % 65536 := by
  rw [and_65535 x (by omega) h1, Int.fdiv_eq_ediv_of_nonneg _ (by omega), wru64 (by omega) (by omega)]

theorem Sum_any (ss : List ByteArray) (bs off cap : Nat) (w : World) (hc : ∀ (i : Nat) s, ss[i]? = some s → w.cell? ⟨bs, off + i, none⟩ = some (.string s)) (hs : (flat ss).length ≤ 100000000000) (hn : ss.length ≤ 1000000000) :
    Calls Try.prog 30 [.slice (some ⟨bs, off, none⟩) ss.length cap].toArray w fun e w' => e = .returned (.int .i64 (65535 - csum (acc false (flat ss)))) ∧ Mem w [] [] w' := by
  refine calls_of_z Try.func30 rfl Try.ntmps30 rfl (Mem.refl w) ?_; intro cs b hb hk
  repeat (first | (refine st ?_) | (intro _))
  refine z_loop (fun i : Nat => i ≤ ss.length) (fun i => [(3, .int .u64 (acc false (flat (ss.take i)))), (4, .bool (par (flat (ss.take i)))), (8, .slice (some ⟨bs, off, none⟩) ss.length cap), (9, .int .i64 (ss.length : Int)), (10, .int .i64 (i : Int))]) (fun _ => []) (fun i => ss.length - i) 0 (Nat.zero_le _) ⟨rfl, rfl, rfl, rfl, rfl, trivial⟩ (List.Sublist.refl _) ?_
  intro i hi ih
  by_cases hlt : i < ss.length
  · obtain ⟨s, hsi⟩ : ∃ s, ss[i]? = some s := ⟨ss[i], by simp [hlt]⟩
    have hle := flat_le hsi
    have hft := flat_take hsi
    have hsm := flat_small (ss.take i)
    repeat (first | (refine st ?_) | (refine sb ?_) | (intro _))
    refine zx_idxA (sz := i) tab_ok rfl rfl rfl rfl rfl rfl (by omega) (by omega) (by simp) ?_
    refine zx_loadB (v := .string s) tab_ok rfl rfl rfl rfl (hc i s hsi) (by simp) rfl ?_
    repeat (first | (refine st ?_) | (refine sb ?_) | (intro _))
    refine z_loop (fun j : Nat => j ≤ s.size) (fun j => [(3, .int .u64 (acc false (flat (ss.take i) ++ (bL s).take j))), (4, .bool (par (flat (ss.take i) ++ (bL s).take j))), (6, .string s), (15, .int .i64 (s.size : Int)), (16, .int .i64 (j : Int)), (8, .slice (some ⟨bs, off, none⟩) ss.length cap), (9, .int .i64 (ss.length : Int)), (10, .int .i64 (i : Int))]) (fun _ => []) (fun j => s.size - j) 0 (Nat.zero_le _) ⟨by rw [List.take_zero, List.append_nil]; rfl, by rw [List.take_zero, List.append_nil]; rfl, rfl, rfl, rfl, rfl, rfl, rfl, trivial⟩ (List.Sublist.refl _) ?_
    intro j hj ihj
    have hpl : (flat (ss.take i) ++ (bL s).take j).length ≤ 100000000000 := by rw [List.length_append, List.length_take, bL_length]; omega
    have hps : Small (flat (ss.take i) ++ (bL s).take j) := by
      intro x hx
      rcases List.mem_append.1 hx with h | h
      · exact hsm x h
      · exact bL_small s x (List.mem_of_mem_take h)
    by_cases hjt : j < s.size
    · have hbt := bL_take s j hjt
      repeat (first | (refine st ?_) | (refine sb ?_) | (intro _))
      refine z_cond rfl (fun ho => ?_) (fun ho => ?_)
      · repeat (first | (refine st ?_) | (refine sb ?_) | (intro _))
        ((try (refine sg ?_)); refine zx_idxN (j) tab_ok rfl rfl rfl rfl rfl rfl (by first | omega | (simp only [IntKind.wrap_i64]; omega)) (by omega) ?_)
        repeat (first | (refine st ?_) | (refine sb ?_) | (intro _))
        refine z_weaken _ _ ?_ (List.Sublist.refl _) (fun _ h => h) (ihj (j + 1) hjt (by omega))
        refine ⟨?_, ?_, rfl, rfl, ?_, rfl, rfl, rfl, trivial⟩
        · rw [hbt, ← List.append_assoc, ← sum_step1 _ s j hps hpl ho]; rfl
        · rw [hbt, ← List.append_assoc, par_snoc]; rfl
        · exact congrArg (fun x => some (Value.int .i64 x)) (by simp only [IntKind.wrap_i64]; omega)
      · repeat (first | (refine st ?_) | (refine sb ?_) | (intro _))
        ((try (refine sg ?_)); refine zx_idxN (j) tab_ok rfl rfl rfl rfl rfl rfl (by first | omega | (simp only [IntKind.wrap_i64]; omega)) (by omega) ?_)
        repeat (first | (refine st ?_) | (refine sb ?_) | (intro _))
        refine z_weaken _ _ ?_ (List.Sublist.refl _) (fun _ h => h) (ihj (j + 1) hjt (by omega))
        refine ⟨?_, ?_, rfl, rfl, ?_, rfl, rfl, rfl, trivial⟩
        · rw [hbt, ← List.append_assoc, ← sum_step0 _ s j hps hpl ho]; rfl
        · rw [hbt, ← List.append_assoc, par_snoc]; rfl
        · exact congrArg (fun x => some (Value.int .i64 x)) (by simp only [IntKind.wrap_i64]; omega)
    · have hje : j = s.size := by omega
      have htk : (bL s).take j = bL s := List.take_of_length_le (by rw [bL_length]; omega)
      rw [htk, ← hft]
      repeat (first | (refine st ?_) | (refine sb ?_) | (intro _))
      refine z_weaken _ _ ?_ (List.Sublist.refl _) (fun _ h => h) (ih (i + 1) hlt (by omega))
      refine ⟨rfl, rfl, rfl, rfl, ?_, trivial⟩
      exact congrArg (fun x => some (Value.int .i64 x)) (by simp only [IntKind.wrap_i64]; omega)
  · have htk : ss.take i = ss := List.take_of_length_le (by omega)
    have hr := acc_range false (flat ss) (flat_small ss)
    rw [htk]
    repeat (first | (refine st ?_) | (refine sb ?_) | (intro _))
    refine z_loop (fun x : Int => 0 ≤ x ∧ x < 18446744073709551616 ∧ csum x = csum (acc false (flat ss))) (fun x => [(3, .int .u64 x)]) (fun _ => []) (fun x => x.toNat) (acc false (flat ss)) ⟨hr.1, by omega, rfl⟩ ⟨rfl, trivial⟩ (List.Sublist.refl _) ?_
    intro x hx ihx
    obtain ⟨hx0, hx1, hx2⟩ := hx
    by_cases hbig : 65535 < x
    · repeat (first | (refine st ?_) | (refine sb ?_) | (intro _))
      refine z_weaken _ _ ?_ (List.Sublist.refl _) (fun _ h => h) (ihx (x / 65536 + x % 65536) ⟨by omega, by omega, (csum_fold hbig).trans hx2⟩ (by omega))
      exact ⟨by rw [← fold_step x hbig hx1]; rfl, trivial⟩
    · have hxx : csum x = x := csum_small hx0 (by omega)
      repeat (first | (refine st ?_) | (refine sb ?_) | (intro _))
      refine z_ret1 tab_ok Try.func30 hb hk Try.results30 (.tmp rfl) (fun w hm => ?_)
      refine ⟨?_, hm.bare⟩
      have e : IntKind.i64.wrap (IntKind.u64.wrap (65535 - x)) = 65535 - x := by rw [wru64 (by omega) (by omega), wr64 (by omega) (by omega)]
      show Ending.returned (.int .i64 (IntKind.i64.wrap (IntKind.u64.wrap (65535 - x)))) = _
      rw [e, ← hx2, hxx]
end Go.Proofs.Ytabcaiecoiejkaa
