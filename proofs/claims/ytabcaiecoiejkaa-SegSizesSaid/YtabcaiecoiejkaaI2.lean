/- Walk of the law SegSizes: it answers true. -/
import Derived.Test.YtabcaiecoiejkaaI1
import Derived.Test.YtabcaiecoiejkaaH4
set_option maxRecDepth 100000
set_option linter.unusedSimpArgs false
set_option linter.unusedVariables false
set_option maxHeartbeats 1600000
namespace Go.Proofs.Ytabcaiecoiejkaa
open Go K

theorem shl_pow (k : Nat) (hk : k < 63) : IntKind.i64.wrap (1 * 2 ^ (min k IntKind.i64.bits)) = 2 ^ k := by
  have e : min k IntKind.i64.bits = k := by show min k 64 = k; omega
  have e1 : ((2 : Int) ^ k) = ((2 ^ k : Nat) : Int) := by simp
  have h : 2 ^ k ≤ 2 ^ 62 := Nat.pow_le_pow_right (by omega) (by omega)
  have h2 : (2 : Nat) ^ 62 = 4611686018427387904 := by decide
  have h3 : ((2 ^ k : Nat) : Int) ≤ 4611686018427387904 := Int.ofNat_le.2 (Nat.le_trans h (Nat.le_of_eq h2))
  rw [e, Int.one_mul, e1]
  generalize 2 ^ k = m at h3
  exact wr64 (by omega) (by omega)
theorem shl_pow2 (k : Nat) (hk : k < 63) : IntKind.i64.wrap (1 * 2 ^ (min (k % ((2 : Int) ^ IntKind.u64.bits).natAbs) IntKind.i64.bits)) = 2 ^ k := by
  have e : ((2 : Int) ^ IntKind.u64.bits).natAbs = 18446744073709551616 := by decide
  rw [e, Nat.mod_eq_of_lt (by omega)]
  exact shl_pow k hk
/-- what the inner loop looks for -/
def lacks (s f : Int) (k : Nat) : Prop := bits .and .i64 f (2 ^ k) ≠ 0 ∧ bits .and .i64 s (2 ^ k) = 0
theorem SegSizes_any (s : Sg) (fs : List Int) (bs off cap : Nat) (w : World) (hc : ∀ (i : Nat) f, fs[i]? = some f → w.cell? ⟨bs, off + i, none⟩ = some (.int .i64 f)) (hn : fs.length ≤ 1000000000000000) (hx : s.data.size ≤ 1000000000000000)
    (hf : ∀ f ∈ fs, -9223372036854775808 ≤ f ∧ f ≤ 9223372036854775807) (hs : -9223372036854775808 ≤ s.flags ∧ s.flags ≤ 9223372036854775807) :
    Calls Try.prog 6 [s.val, .slice (some ⟨bs, off, none⟩) fs.length cap].toArray w fun e w' => e = .returned (.bool true) ∧ Mem w [] [] w' := by
  refine calls_of_z Try.func6 rfl Try.ntmps6 rfl (Mem.refl w) ?_; intro cs b hb hk
  repeat (first | (refine st ?_) | (intro _))
  rename_i p
  ((try (refine sg ?_)); (refine zx_call0 rfl fnc22 rfl rfl (fun w hm => awake18_any w) ?_))
  repeat (first | (refine st ?_) | (intro _))
  refine z_loop (fun g : Nat × Bool => g.1 ≤ fs.length ∧ (g.2 = true ↔ ∀ j f, j < g.1 → fs[j]? = some f → bits .and .i64 s.flags f = f))
    (fun g => [(1, .slice (some ⟨bs, off, none⟩) fs.length cap), (2, ptr p), (5, .bool true), (6, .bool g.2), (7, .int .i64 (g.1 : Int))]) (fun _ => [pG p s]) (fun g => fs.length - g.1) (0, true)
    ⟨Nat.zero_le _, fun _ j f h => absurd h (Nat.not_lt_zero _), fun _ => rfl⟩ (by refine ⟨rfl, rfl, rfl, rfl, rfl, trivial⟩) (List.Sublist.refl _) ?_
  intro g hg ih
  obtain ⟨i, A⟩ := g
  obtain ⟨h1, hA⟩ := hg
  simp only at h1 hA
  refine z_weaken [(1, .slice (some ⟨bs, off, none⟩) fs.length cap), (2, ptr p), (5, .bool true), (6, .bool A), (7, .int .i64 (i : Int))] [pG p s] ⟨rfl, rfl, rfl, rfl, rfl, trivial⟩ (List.Sublist.refl _) (fun _ h => h) ?_
  by_cases hlt : i < fs.length
  · obtain ⟨f, hfi⟩ : ∃ f, fs[i]? = some f := ⟨fs[i], by simp [hlt]⟩
    have hff := hf f (List.mem_of_getElem? hfi)
    repeat (first | (refine st ?_) | (refine sb ?_) | (intro _))
    refine z_loop (fun g : Nat × Bool => g.1 ≤ 63 ∧ (g.2 = true ↔ A = true ∧ ∀ k, k < g.1 → ¬ lacks s.flags f k))
      (fun g => [(1, .slice (some ⟨bs, off, none⟩) fs.length cap), (2, ptr p), (5, .bool true), (6, .bool g.2), (7, .int .i64 (i : Int)), (8, .int .i64 (g.1 : Int))]) (fun _ => [pG p s]) (fun g => 63 - g.1) (0, A)
      ⟨Nat.zero_le _, fun h => ⟨h, fun k h => absurd h (Nat.not_lt_zero _)⟩, fun h => h.1⟩ (by refine ⟨rfl, rfl, rfl, rfl, rfl, rfl, trivial⟩) (List.Sublist.refl _) ?_
    intro g hg ih2
    obtain ⟨k, B⟩ := g
    obtain ⟨h2, hB⟩ := hg
    simp only at h2 hB
    refine z_weaken [(1, .slice (some ⟨bs, off, none⟩) fs.length cap), (2, ptr p), (5, .bool true), (6, .bool B), (7, .int .i64 (i : Int)), (8, .int .i64 (k : Int))] [pG p s] ⟨rfl, rfl, rfl, rfl, rfl, rfl, trivial⟩ (List.Sublist.refl _) (fun _ h => h) ?_
    by_cases hk : k < 63
    · repeat (first | (refine st ?_) | (refine sb ?_) | (intro _))
      refine zx_re 9 (.int .i64 (2 ^ k)) rfl (congrArg _ (shl_pow2 k hk)) ?_
      refine zx_idxA (sz := i) tab_ok rfl rfl rfl rfl rfl rfl (by omega) (by omega) (by simp) ?_
      refine zx_loadB (v := .int .i64 f) tab_ok rfl rfl rfl rfl (hc i f hfi) (by simp) rfl ?_
      repeat (first | (refine st ?_) | (refine sb ?_) | (intro _))
      have hw : IntKind.i64.wrap ((k : Int) + 1) = ((k + 1 : Nat) : Int) := wr64 (by omega) (by omega)
      by_cases c1 : bits .and .i64 f (2 ^ k) = 0
      · repeat (first | (refine st ?_) | (refine sb ?_) | (intro _))
        refine z_weaken _ _ ?_ (List.Sublist.refl _) (fun _ h => h) (ih2 (k + 1, B) ⟨hk, ?_⟩ (by show 63 - (k + 1) < 63 - k; omega))
        · exact ⟨rfl, rfl, rfl, rfl, rfl, congrArg (fun x => some (Value.int .i64 x)) hw, trivial⟩
        · simp only
          rw [hB]
          refine ⟨fun h => ⟨h.1, fun j hj => ?_⟩, fun h => ⟨h.1, fun j hj => h.2 j (by omega)⟩⟩
          by_cases e : j = k
          · subst e; exact fun h => h.1 c1
          · exact h.2 j (by omega)
      · by_cases c2 : bits .and .i64 s.flags (2 ^ k) = 0
        · repeat (first | (refine st ?_) | (refine sb ?_) | (intro _))
          refine z_weaken _ _ ?_ (List.Sublist.refl _) (fun _ h => h) (ih2 (k + 1, false) ⟨hk, ?_⟩ (by show 63 - (k + 1) < 63 - k; omega))
          · exact ⟨rfl, rfl, rfl, rfl, rfl, congrArg (fun x => some (Value.int .i64 x)) hw, trivial⟩
          · exact ⟨fun h => by simp at h, fun h => absurd ⟨c1, c2⟩ (h.2 k (by show k < k + 1; omega))⟩
        · repeat (first | (refine st ?_) | (refine sb ?_) | (intro _))
          refine z_weaken _ _ ?_ (List.Sublist.refl _) (fun _ h => h) (ih2 (k + 1, B) ⟨hk, ?_⟩ (by show 63 - (k + 1) < 63 - k; omega))
          · exact ⟨rfl, rfl, rfl, rfl, rfl, congrArg (fun x => some (Value.int .i64 x)) hw, trivial⟩
          · simp only
            rw [hB]
            refine ⟨fun h => ⟨h.1, fun j hj => ?_⟩, fun h => ⟨h.1, fun j hj => h.2 j (by omega)⟩⟩
            by_cases e : j = k
            · subst e; exact fun h => c2 h.2
            · exact h.2 j (by omega)
    · have hk3 : k = 63 := by omega
      subst hk3
      have hfl := flags_iff s.flags f hff.1 hff.2 hs.1 hs.2
      have hw : IntKind.i64.wrap ((i : Int) + 1) = ((i + 1 : Nat) : Int) := wr64 (by omega) (by omega)
      have step : ∀ C : Bool, (C = true ↔ B = true ∧ ¬ (f < 0 ∧ 0 ≤ s.flags)) → (C = true ↔ ∀ j g, j < i + 1 → fs[j]? = some g → bits .and .i64 s.flags g = g) := by
        intro C hC
        rw [hC, hB, hA]
        constructor
        · rintro ⟨⟨ha, hb⟩, hd⟩ j g hj hg
          by_cases e : j = i
          · subst e
            rw [hfi] at hg
            cases hg
            exact hfl.2 ⟨hb, hd⟩
          · exact ha j g (by omega) hg
        · intro h
          have h3 := hfl.1 (h i f (by omega) hfi)
          exact ⟨⟨fun j g hj hg => h j g (by omega) hg, h3.1⟩, h3.2⟩
      repeat (first | (refine st ?_) | (refine sb ?_) | (intro _))
      refine zx_idxA (sz := i) tab_ok rfl rfl rfl rfl rfl rfl (by omega) (by omega) (by simp) ?_
      refine zx_loadB (v := .int .i64 f) tab_ok rfl rfl rfl rfl (hc i f hfi) (by simp) rfl ?_
      repeat (first | (refine st ?_) | (refine sb ?_) | (intro _))
      by_cases c1 : f < 0
      · by_cases c2 : 0 ≤ s.flags
        · repeat (first | (refine st ?_) | (refine sb ?_) | (intro _))
          refine z_weaken _ _ ?_ (List.Sublist.refl _) (fun _ h => h) (ih (i + 1, false) ⟨hlt, step false ⟨fun h => by simp at h, fun h => absurd ⟨c1, c2⟩ h.2⟩⟩ (by show fs.length - (i + 1) < fs.length - i; omega))
          exact ⟨rfl, rfl, rfl, rfl, congrArg (fun x => some (Value.int .i64 x)) hw, trivial⟩
        · repeat (first | (refine st ?_) | (refine sb ?_) | (intro _))
          refine z_weaken _ _ ?_ (List.Sublist.refl _) (fun _ h => h) (ih (i + 1, B) ⟨hlt, step B ⟨fun h => ⟨h, fun h => c2 h.2⟩, fun h => h.1⟩⟩ (by show fs.length - (i + 1) < fs.length - i; omega))
          exact ⟨rfl, rfl, rfl, rfl, congrArg (fun x => some (Value.int .i64 x)) hw, trivial⟩
      · repeat (first | (refine st ?_) | (refine sb ?_) | (intro _))
        refine z_weaken _ _ ?_ (List.Sublist.refl _) (fun _ h => h) (ih (i + 1, B) ⟨hlt, step B ⟨fun h => ⟨h, fun h => c1 h.1⟩, fun h => h.1⟩⟩ (by show fs.length - (i + 1) < fs.length - i; omega))
        exact ⟨rfl, rfl, rfl, rfl, congrArg (fun x => some (Value.int .i64 x)) hw, trivial⟩
  · have hi : i = fs.length := by omega
    have hAs : A = sflags s fs := by
      rw [Bool.eq_iff_iff, hA]
      unfold sflags
      rw [List.all_eq_true]
      constructor
      · intro h f hf
        obtain ⟨j, hj⟩ := List.getElem?_of_mem hf
        have hjl : j < fs.length := (List.getElem?_eq_some_iff.1 hj).1
        simpa using h j f (by omega) hj
      · intro h j f _ hj
        simpa using h f (List.mem_of_getElem? hj)
    subst hAs
    have e1 : (splaces s == splaces s) = true := by simp
    repeat (first | (refine st ?_) | (refine sb ?_) | (intro _))
    ((try (refine sg ?_)); (refine zx_call0 rfl fnc27 rfl rfl (fun w hm => SizeS_any s w hx) ?_))
    repeat (first | (refine st ?_) | (refine sb ?_) | (intro _))
    ((try (refine sg ?_)); (refine zx_call0 rfl fnc28 rfl rfl (fun w hm => SizeR18_any s w hx) ?_))
    repeat (first | (refine st ?_) | (refine sb ?_) | (intro _))
    ((try (refine sg ?_)); (refine zx_call0 rfl fnc29 rfl rfl (fun w hm => Flags_any s fs bs off cap w (fun i f hf => hm.cellB (hc i f hf) (by simp)) hn) ?_))
    repeat (first | (refine st ?_) | (refine sb ?_) | (intro _))
    refine z_ret1 tab_ok Try.func6 hb hk Try.results6 (.tmp rfl) (fun w hm => ?_)
    exact ⟨by simp, hm.bare⟩
theorem Flags_zero (s : Sg) (o : Option Addr) (cap : Nat) (w : World) : Calls Try.prog 29 [s.val, .slice o 0 cap].toArray w fun e w' => e = .returned (.bool true) ∧ Mem w [] [] w' := by
  refine calls_of_z Try.func29 rfl Try.ntmps29 rfl (Mem.refl w) ?_; intro cs b hb hk
  repeat (first | (refine st ?_) | (refine sb ?_) | (intro _) | (refine z_once ?_) | (refine z_again ?_))
  refine z_ret1 tab_ok Try.func29 hb hk Try.results29 (.tmp rfl) (fun w hm => ?_)
  exact ⟨rfl, hm.bare⟩
theorem SegSizes_zero (s : Sg) (o : Option Addr) (cap : Nat) (w : World) (hx : s.data.size ≤ 1000000000000000) :
    Calls Try.prog 6 [s.val, .slice o 0 cap].toArray w fun e w' => e = .returned (.bool true) ∧ Mem w [] [] w' := by
  have e1 : (splaces s == splaces s) = true := by simp
  refine calls_of_z Try.func6 rfl Try.ntmps6 rfl (Mem.refl w) ?_; intro cs b hb hk
  repeat (first | (refine st ?_) | (intro _))
  rename_i p
  ((try (refine sg ?_)); (refine zx_call0 rfl fnc22 rfl rfl (fun w hm => awake18_any w) ?_))
  repeat (first | (refine st ?_) | (intro _))
  refine z_once ?_
  repeat (first | (refine st ?_) | (refine sb ?_) | (intro _))
  ((try (refine sg ?_)); (refine zx_call0 rfl fnc27 rfl rfl (fun w hm => SizeS_any s w hx) ?_))
  repeat (first | (refine st ?_) | (refine sb ?_) | (intro _))
  ((try (refine sg ?_)); (refine zx_call0 rfl fnc28 rfl rfl (fun w hm => SizeR18_any s w hx) ?_))
  repeat (first | (refine st ?_) | (refine sb ?_) | (intro _))
  ((try (refine sg ?_)); (refine zx_call0 rfl fnc29 rfl rfl (fun w hm => Flags_zero s o cap w) ?_))
  repeat (first | (refine st ?_) | (refine sb ?_) | (intro _))
  refine z_ret1 tab_ok Try.func6 hb hk Try.results6 (.tmp rfl) (fun w hm => ?_)
  exact ⟨by simp, hm.bare⟩
end Go.Proofs.Ytabcaiecoiejkaa
