/- What a segment's options say, and the walk of seg.read, which reads them. -/
import Derived.Test.YtabcaiecoiejkaaF4
import Derived.Test.YtabcaiecoiejkaaC1
import Derived.Test.YtabcaiecoiejkaaK11
set_option maxRecDepth 100000
set_option linter.unusedSimpArgs false
set_option linter.unusedVariables false
set_option maxHeartbeats 1600000
namespace Go.Proofs.Ytabcaiecoiejkaa
open Go K

/-- what options say, and whether they are right -/
def sread (x : ByteArray) : Nat → Nat → Sg → Sg × Bool
  | 0, _, s => (s, true)
  | n + 1, i, s =>
    if x.size ≤ i then (s, true)
    else if bt x i = 0 then (s, true)
    else if bt x i = 1 then sread x n (i + 1) s
    else if x.size ≤ i + 1 ∨ bt x (i + 1) < 2 ∨ (x.size : Int) - i < bt x (i + 1) then (s, false)
    else if bt x i = 2 then (if bt x (i + 1) = 4 then sread x n (i + 4) { s with mss := getN x (i + 2) 2 } else (s, false))
    else if bt x i = 3 then (if bt x (i + 1) = 3 then sread x n (i + 3) { s with scale := if 14 < bt x (i + 2) then 14 else bt x (i + 2) } else (s, false))
    else sread x n (i + (bt x (i + 1)).toNat) s
def Sg.cells (s : Sg) : List Value := [.int .i64 s.src, .int .i64 s.dst, .int .u32 s.seq, .int .u32 s.ack, .int .i64 s.flags, .int .i64 s.win, .int .i64 s.mss, .int .i64 s.scale, .string s.data]
def pG (p : Nat) (s : Sg) : Nat × Blk := (p, .c s.cells 39 0 0)

theorem read_any (p : Nat) (s : Sg) (x : ByteArray) (w : World) (hx : x.size ≤ 1000000000000000) (h : Mem w [p] [pG p s] w) :
    Calls Try.prog 88 [ptr p, .string x].toArray w fun e w' => e = .returned (.bool (sread x x.size 0 s).2) ∧ Mem w [p] [pG p (sread x x.size 0 s).1] w' := by
  refine calls_of_z Try.func88 rfl Try.ntmps88 rfl h ?_; intro cs b hb hk
  repeat (first | (refine st ?_) | (intro _))
  refine z_scope ?_
  repeat (first | (refine st ?_) | (intro _))
  refine z_loop (fun g : Nat × Nat × Sg => g.2.1 ≤ x.size ∧ x.size - g.2.1 ≤ g.1 ∧ sread x g.1 g.2.1 g.2.2 = sread x x.size 0 s) (fun g => [(0, ptr p), (1, .string x), (5, .int .i64 (g.2.1 : Int))]) (fun g => [pG p g.2.2]) (fun g => g.1) (x.size, 0, s) ⟨Nat.zero_le _, Nat.le_refl _, rfl⟩ (by refine ⟨rfl, rfl, rfl, trivial⟩) (List.Sublist.refl _) ?_
  intro g hg ih
  obtain ⟨n, i, s'⟩ := g
  obtain ⟨h1, h2, h3⟩ := hg
  simp only at h1 h2 h3
  refine z_weaken [(0, ptr p), (1, .string x), (5, .int .i64 (i : Int))] [pG p s'] ⟨rfl, rfl, rfl, trivial⟩ (List.Sublist.refl _) (fun _ h => h) ?_
  have hbi := bt_range x i
  have hbi1 := bt_range x (i + 1)
  have hbi2 := bt_range x (i + 2)
  have hr2 := getN_range x (i + 2) 2
  have wb1 : IntKind.i64.wrap (bt x (i + 1)) = bt x (i + 1) := wr64 (by omega) (by omega)
  have wb2 : IntKind.i64.wrap (bt x (i + 2)) = bt x (i + 2) := wr64 (by omega) (by omega)
  by_cases hi : i < x.size
  · obtain ⟨n, rfl⟩ : ∃ m, n = m + 1 := ⟨n - 1, by omega⟩
    have hE := h3
    rw [sread, if_neg (by omega)] at hE
    repeat (first | (refine st ?_) | (refine sb ?_) | (intro _))
    ((try (refine sg ?_)); refine zx_idxN (i) tab_ok rfl rfl rfl rfl rfl rfl (by first | omega | (simp only [IntKind.wrap_i64]; omega)) (by omega) ?_)
    repeat (first | (refine st ?_) | (refine sb ?_) | (intro _))
    by_cases c0 : bt x i = 0
    · rw [if_pos c0] at hE
      repeat (first | (refine st ?_) | (refine sb ?_) | (intro _))
      refine z_ret1 tab_ok Try.func88 hb hk Try.results88 (.tmp rfl) (fun w hm => ?_)
      rw [← hE]
      exact ⟨rfl, hm⟩
    rw [if_neg c0] at hE
    by_cases c1 : bt x i = 1
    · rw [if_pos c1] at hE
      repeat (first | (refine st ?_) | (refine sb ?_) | (intro _))
      refine z_weaken _ _ ?_ (List.Sublist.refl _) (fun _ h => h) (ih (n, i + 1, s') ⟨by show i + 1 ≤ x.size; omega, by show x.size - (i + 1) ≤ n; omega, hE⟩ (Nat.lt_succ_self _))
      exact ⟨rfl, rfl, congrArg (fun x => some (Value.int .i64 x)) (wr64 (by omega) (by omega)), trivial⟩
    rw [if_neg c1] at hE
    by_cases c2 : bt x i = 2
    · skip
      repeat (first | (refine st ?_) | (refine sb ?_) | (intro _))
      refine zx_max 4 rfl rfl rfl (by decide) rfl ?_
      repeat (first | (refine st ?_) | (refine sb ?_) | (intro _))
      by_cases e1 : x.size ≤ i + 1
      · rw [if_pos (.inl e1)] at hE
        repeat (first | (refine st ?_) | (refine sb ?_) | (intro _))
        refine z_ret1 tab_ok Try.func88 hb hk Try.results88 (.tmp rfl) (fun w hm => ?_)
        rw [← hE]
        exact ⟨rfl, hm⟩
      by_cases e2 : bt x (i + 1) < 2
      · rw [if_pos (.inr (.inl e2))] at hE
        repeat (first | (refine st ?_) | (refine sb ?_) | (intro _))
        ((try (refine sg ?_)); refine zx_idxN (i + 1) tab_ok rfl rfl rfl rfl rfl rfl (by first | omega | (simp only [IntKind.wrap_i64]; omega)) (by omega) ?_)
        repeat (first | (refine st ?_) | (refine sb ?_) | (intro _))
        refine z_ret1 tab_ok Try.func88 hb hk Try.results88 (.tmp rfl) (fun w hm => ?_)
        rw [← hE]
        exact ⟨rfl, hm⟩
      by_cases e3 : (x.size : Int) - i < bt x (i + 1)
      · rw [if_pos (.inr (.inr e3))] at hE
        repeat (first | (refine st ?_) | (refine sb ?_) | (intro _))
        ((try (refine sg ?_)); refine zx_idxN (i + 1) tab_ok rfl rfl rfl rfl rfl rfl (by first | omega | (simp only [IntKind.wrap_i64]; omega)) (by omega) ?_)
        repeat (first | (refine st ?_) | (refine sb ?_) | (intro _))
        ((try (refine sg ?_)); refine zx_idxN (i + 1) tab_ok rfl rfl rfl rfl rfl rfl (by first | omega | (simp only [IntKind.wrap_i64]; omega)) (by omega) ?_)
        repeat (first | (refine st ?_) | (refine sb ?_) | (intro _))
        refine z_ret1 tab_ok Try.func88 hb hk Try.results88 (.tmp rfl) (fun w hm => ?_)
        rw [← hE]
        exact ⟨rfl, hm⟩
      rw [if_neg (by omega)] at hE
      rw [if_pos c2] at hE
      repeat (first | (refine st ?_) | (refine sb ?_) | (intro _))
      ((try (refine sg ?_)); refine zx_idxN (i + 1) tab_ok rfl rfl rfl rfl rfl rfl (by first | omega | (simp only [IntKind.wrap_i64]; omega)) (by omega) ?_)
      repeat (first | (refine st ?_) | (refine sb ?_) | (intro _))
      ((try (refine sg ?_)); refine zx_idxN (i + 1) tab_ok rfl rfl rfl rfl rfl rfl (by first | omega | (simp only [IntKind.wrap_i64]; omega)) (by omega) ?_)
      repeat (first | (refine st ?_) | (refine sb ?_) | (intro _))
      ((try (refine sg ?_)); refine zx_idxN (i + 1) tab_ok rfl rfl rfl rfl rfl rfl (by first | omega | (simp only [IntKind.wrap_i64]; omega)) (by omega) ?_)
      repeat (first | (refine st ?_) | (refine sb ?_) | (intro _))
      refine z_re 7 (.int .i64 (bt x (i + 1))) rfl (congrArg _ wb1) ?_
      by_cases e4 : bt x (i + 1) = 4
      · rw [if_pos e4] at hE
        repeat (first | (refine st ?_) | (refine sb ?_) | (intro _))
        refine zx_re 71 (.int .i64 ((i + 2 : Nat) : Int)) rfl (congrArg _ (wr64 (by omega) (by omega))) ?_
        ((try (refine sg ?_)); (refine zx_call0 rfl fnc77 rfl rfl (fun w hm => Get2_any x (i + 2) w (by omega) (by omega)) ?_))
        repeat (first | (refine st ?_) | (refine sb ?_) | (intro _))
        refine z_mem [pG p { s' with mss := getN x (i + 2) 2 }] (congrArg (fun m => [pG p { s' with mss := m }]) (wr64 (by omega) (by omega))) ?_
        refine z_weaken _ _ ?_ (List.Sublist.refl _) (fun _ h => h) (ih (n, i + 4, { s' with mss := getN x (i + 2) 2 }) ⟨by show i + 4 ≤ x.size; omega, by show x.size - (i + 4) ≤ n; omega, hE⟩ (Nat.lt_succ_self _))
        exact ⟨rfl, rfl, congrArg (fun x => some (Value.int .i64 x)) (by rw [wr64 (by omega) (by omega), e4]; rfl), trivial⟩
      · rw [if_neg e4] at hE
        repeat (first | (refine st ?_) | (refine sb ?_) | (intro _))
        refine z_ret1 tab_ok Try.func88 hb hk Try.results88 (.tmp rfl) (fun w hm => ?_)
        rw [← hE]
        exact ⟨rfl, hm⟩
    by_cases c3 : bt x i = 3
    · skip
      repeat (first | (refine st ?_) | (refine sb ?_) | (intro _))
      refine zx_max 3 rfl rfl rfl (by decide) rfl ?_
      repeat (first | (refine st ?_) | (refine sb ?_) | (intro _))
      by_cases e1 : x.size ≤ i + 1
      · rw [if_pos (.inl e1)] at hE
        repeat (first | (refine st ?_) | (refine sb ?_) | (intro _))
        refine z_ret1 tab_ok Try.func88 hb hk Try.results88 (.tmp rfl) (fun w hm => ?_)
        rw [← hE]
        exact ⟨rfl, hm⟩
      by_cases e2 : bt x (i + 1) < 2
      · rw [if_pos (.inr (.inl e2))] at hE
        repeat (first | (refine st ?_) | (refine sb ?_) | (intro _))
        ((try (refine sg ?_)); refine zx_idxN (i + 1) tab_ok rfl rfl rfl rfl rfl rfl (by first | omega | (simp only [IntKind.wrap_i64]; omega)) (by omega) ?_)
        repeat (first | (refine st ?_) | (refine sb ?_) | (intro _))
        refine z_ret1 tab_ok Try.func88 hb hk Try.results88 (.tmp rfl) (fun w hm => ?_)
        rw [← hE]
        exact ⟨rfl, hm⟩
      by_cases e3 : (x.size : Int) - i < bt x (i + 1)
      · rw [if_pos (.inr (.inr e3))] at hE
        repeat (first | (refine st ?_) | (refine sb ?_) | (intro _))
        ((try (refine sg ?_)); refine zx_idxN (i + 1) tab_ok rfl rfl rfl rfl rfl rfl (by first | omega | (simp only [IntKind.wrap_i64]; omega)) (by omega) ?_)
        repeat (first | (refine st ?_) | (refine sb ?_) | (intro _))
        ((try (refine sg ?_)); refine zx_idxN (i + 1) tab_ok rfl rfl rfl rfl rfl rfl (by first | omega | (simp only [IntKind.wrap_i64]; omega)) (by omega) ?_)
        repeat (first | (refine st ?_) | (refine sb ?_) | (intro _))
        refine z_ret1 tab_ok Try.func88 hb hk Try.results88 (.tmp rfl) (fun w hm => ?_)
        rw [← hE]
        exact ⟨rfl, hm⟩
      rw [if_neg (by omega)] at hE
      rw [if_neg c2, if_pos c3] at hE
      repeat (first | (refine st ?_) | (refine sb ?_) | (intro _))
      ((try (refine sg ?_)); refine zx_idxN (i + 1) tab_ok rfl rfl rfl rfl rfl rfl (by first | omega | (simp only [IntKind.wrap_i64]; omega)) (by omega) ?_)
      repeat (first | (refine st ?_) | (refine sb ?_) | (intro _))
      ((try (refine sg ?_)); refine zx_idxN (i + 1) tab_ok rfl rfl rfl rfl rfl rfl (by first | omega | (simp only [IntKind.wrap_i64]; omega)) (by omega) ?_)
      repeat (first | (refine st ?_) | (refine sb ?_) | (intro _))
      ((try (refine sg ?_)); refine zx_idxN (i + 1) tab_ok rfl rfl rfl rfl rfl rfl (by first | omega | (simp only [IntKind.wrap_i64]; omega)) (by omega) ?_)
      repeat (first | (refine st ?_) | (refine sb ?_) | (intro _))
      refine z_re 7 (.int .i64 (bt x (i + 1))) rfl (congrArg _ wb1) ?_
      by_cases e4 : bt x (i + 1) = 3
      · rw [if_pos e4] at hE
        repeat (first | (refine st ?_) | (refine sb ?_) | (intro _))
        ((try (refine sg ?_)); refine zx_idxN (i + 2) tab_ok rfl rfl rfl rfl rfl rfl (by first | omega | (simp only [IntKind.wrap_i64]; omega)) (by omega) ?_)
        repeat (first | (refine st ?_) | (refine sb ?_) | (intro _))
        refine zx_min (if 14 < bt x (i + 2) then 14 else bt x (i + 2)) rfl rfl rfl (by rw [wb2]) rfl ?_
        repeat (first | (refine st ?_) | (refine sb ?_) | (intro _))
        refine z_weaken _ _ ?_ (List.Sublist.refl _) (fun _ h => h) (ih (n, i + 3, { s' with scale := if 14 < bt x (i + 2) then 14 else bt x (i + 2) }) ⟨by show i + 3 ≤ x.size; omega, by show x.size - (i + 3) ≤ n; omega, hE⟩ (Nat.lt_succ_self _))
        exact ⟨rfl, rfl, congrArg (fun x => some (Value.int .i64 x)) (by rw [wr64 (by omega) (by omega), e4]; rfl), trivial⟩
      · rw [if_neg e4] at hE
        repeat (first | (refine st ?_) | (refine sb ?_) | (intro _))
        refine z_ret1 tab_ok Try.func88 hb hk Try.results88 (.tmp rfl) (fun w hm => ?_)
        rw [← hE]
        exact ⟨rfl, hm⟩
    repeat (first | (refine st ?_) | (refine sb ?_) | (intro _))
    by_cases e1 : x.size ≤ i + 1
    · rw [if_pos (.inl e1)] at hE
      repeat (first | (refine st ?_) | (refine sb ?_) | (intro _))
      refine z_ret1 tab_ok Try.func88 hb hk Try.results88 (.tmp rfl) (fun w hm => ?_)
      rw [← hE]
      exact ⟨rfl, hm⟩
    by_cases e2 : bt x (i + 1) < 2
    · rw [if_pos (.inr (.inl e2))] at hE
      repeat (first | (refine st ?_) | (refine sb ?_) | (intro _))
      ((try (refine sg ?_)); refine zx_idxN (i + 1) tab_ok rfl rfl rfl rfl rfl rfl (by first | omega | (simp only [IntKind.wrap_i64]; omega)) (by omega) ?_)
      repeat (first | (refine st ?_) | (refine sb ?_) | (intro _))
      refine z_ret1 tab_ok Try.func88 hb hk Try.results88 (.tmp rfl) (fun w hm => ?_)
      rw [← hE]
      exact ⟨rfl, hm⟩
    by_cases e3 : (x.size : Int) - i < bt x (i + 1)
    · rw [if_pos (.inr (.inr e3))] at hE
      repeat (first | (refine st ?_) | (refine sb ?_) | (intro _))
      ((try (refine sg ?_)); refine zx_idxN (i + 1) tab_ok rfl rfl rfl rfl rfl rfl (by first | omega | (simp only [IntKind.wrap_i64]; omega)) (by omega) ?_)
      repeat (first | (refine st ?_) | (refine sb ?_) | (intro _))
      ((try (refine sg ?_)); refine zx_idxN (i + 1) tab_ok rfl rfl rfl rfl rfl rfl (by first | omega | (simp only [IntKind.wrap_i64]; omega)) (by omega) ?_)
      repeat (first | (refine st ?_) | (refine sb ?_) | (intro _))
      refine z_ret1 tab_ok Try.func88 hb hk Try.results88 (.tmp rfl) (fun w hm => ?_)
      rw [← hE]
      exact ⟨rfl, hm⟩
    rw [if_neg (by omega)] at hE
    rw [if_neg c2, if_neg c3] at hE
    repeat (first | (refine st ?_) | (refine sb ?_) | (intro _))
    ((try (refine sg ?_)); refine zx_idxN (i + 1) tab_ok rfl rfl rfl rfl rfl rfl (by first | omega | (simp only [IntKind.wrap_i64]; omega)) (by omega) ?_)
    repeat (first | (refine st ?_) | (refine sb ?_) | (intro _))
    ((try (refine sg ?_)); refine zx_idxN (i + 1) tab_ok rfl rfl rfl rfl rfl rfl (by first | omega | (simp only [IntKind.wrap_i64]; omega)) (by omega) ?_)
    repeat (first | (refine st ?_) | (refine sb ?_) | (intro _))
    ((try (refine sg ?_)); refine zx_idxN (i + 1) tab_ok rfl rfl rfl rfl rfl rfl (by first | omega | (simp only [IntKind.wrap_i64]; omega)) (by omega) ?_)
    repeat (first | (refine st ?_) | (refine sb ?_) | (intro _))
    refine z_re 7 (.int .i64 (bt x (i + 1))) rfl (congrArg _ wb1) ?_
    repeat (first | (refine st ?_) | (refine sb ?_) | (intro _))
    refine z_weaken _ _ ?_ (List.Sublist.refl _) (fun _ h => h) (ih (n, i + (bt x (i + 1)).toNat, s') ⟨by show i + (bt x (i + 1)).toNat ≤ x.size; omega, by show x.size - (i + (bt x (i + 1)).toNat) ≤ n; omega, hE⟩ (Nat.lt_succ_self _))
    exact ⟨rfl, rfl, congrArg (fun x => some (Value.int .i64 x)) (by show IntKind.i64.wrap ((i : Int) + IntKind.i64.wrap (bt x (i + 1))) = ((i + (bt x (i + 1)).toNat : Nat) : Int); rw [wb1, wr64 (by omega) (by omega)]; omega), trivial⟩
  · have hE : (s', true) = sread x x.size 0 s := by rw [← h3]; cases n with | zero => rfl | succ n => rw [sread, if_pos (by omega)]
    repeat (first | (refine st ?_) | (refine sb ?_) | (intro _))
    refine z_ret1 tab_ok Try.func88 hb hk Try.results88 (.tmp rfl) (fun w hm => ?_)
    rw [← hE]
    exact ⟨rfl, hm⟩
end Go.Proofs.Ytabcaiecoiejkaa
