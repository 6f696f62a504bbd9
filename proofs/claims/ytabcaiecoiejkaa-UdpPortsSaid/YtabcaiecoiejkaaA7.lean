/- Walk of udp.Parse. -/
import Derived.Test.YtabcaiecoiejkaaA6
set_option maxRecDepth 100000
set_option linter.unusedSimpArgs false
set_option linter.unusedVariables false
namespace Go.Proofs.Ytabcaiecoiejkaa
open Go K

theorem num16_any (s : ByteArray) (a p : Nat) (w : World) (hp : w.cell? ⟨p, 0, none⟩ = some (.string s)) (h : a + 2 ≤ s.size) (hs : s.size ≤ 1000000000000000000) :
    Calls Try.prog 76 [.int .i64 (a : Int), .pointer (some ⟨p, 0, none⟩)].toArray w fun e w' => e = .returned (.int .i64 (getN s a 2)) ∧ Mem w [] [] w' := by
  have hr := getN_range s a 2
  have e2 : (256 : Int) ^ 2 = 65536 := by decide
  refine calls_of_z Try.func76 rfl Try.ntmps76 rfl (Mem.refl w) ?_; intro cs b hb hk
  repeat (first | (refine st ?_) | (intro _))
  refine zx_loadB tab_ok rfl rfl rfl rfl hp (by simp) rfl ?_
  repeat (first | (refine st ?_) | (intro _))
  ((try (refine sg ?_)); (refine zx_call0 rfl fnc77 rfl rfl (fun w hm => Get2_any s a w h hs) ?_))
  repeat (first | (refine st ?_) | (intro _))
  refine z_ret1 tab_ok Try.func76 hb hk Try.results76 (.tmp rfl) (fun w hm => ?_)
  exact ⟨by rw [wr64 (by omega) (by omega)], hm.bare⟩

open Classical in
/-- what Parse tells -/
noncomputable def uparse (a a' : Adr) (b : ByteArray) : (Int × Int × ByteArray) × Int :=
  if ends a a' = true then
    if b.size < 8 then ((0, 0, noB), 70)
    else if getN b 4 2 < 8 ∨ (b.size : Int) < getN b 4 2 then ((0, 0, noB), 72)
    else if (getN b 6 2 ≠ 0 ∨ a.v6 = true) ∧ getN b 6 2 ≠ usum a a' (b.extract 0 6) (b.extract 8 (getN b 4 2).toNat) then ((0, 0, noB), 73)
    else ((getN b 0 2, getN b 2 2, b.extract 8 (getN b 4 2).toNat), 0)
  else ((0, 0, noB), 1)
def uparseV (r : (Int × Int × ByteArray) × Int) : Value := .tuple #[udpV r.1.1 r.1.2.1 r.1.2.2, .int .i64 r.2]

theorem Parse16_any (a a' : Adr) (x : ByteArray) (w : World) (hx : x.size ≤ 1000000000000000) :
    Calls Try.prog 20 [a.val, a'.val, .string x].toArray w fun e w' => e = .returned (uparseV (uparse a a' x)) ∧ Mem w [] [] w' := by
  cases he : ends a a' with
  | false =>
    rw [uparse, he, if_neg (by simp)]
    refine calls_of_z Try.func20 rfl Try.ntmps20 rfl (Mem.refl w) ?_; intro cs b hb hk
    repeat (first | (refine st ?_) | (refine sb ?_) | (intro _))
    ((try (refine sg ?_)); (refine zx_call0 rfl fnc70 rfl rfl (fun w hm => ends16_any a a' w) ?_))
    repeat (first | (refine st ?_) | (refine sb ?_) | (intro _))
    first | (refine z_ret2A tab_ok Try.func20 hb hk Try.results20 0 rfl rfl rfl rfl rfl rfl rfl (fun w hm => ?_)) | (refine z_ret2A tab_ok Try.func20 hb hk Try.results20 1 rfl rfl rfl rfl rfl rfl rfl (fun w hm => ?_)) | (refine z_ret2A tab_ok Try.func20 hb hk Try.results20 2 rfl rfl rfl rfl rfl rfl rfl (fun w hm => ?_)) | (refine z_ret2A tab_ok Try.func20 hb hk Try.results20 3 rfl rfl rfl rfl rfl rfl rfl (fun w hm => ?_)) | (refine z_ret2A tab_ok Try.func20 hb hk Try.results20 4 rfl rfl rfl rfl rfl rfl rfl (fun w hm => ?_))
    exact ⟨rfl, hm.bare⟩
  | true =>
    rw [uparse, he, if_pos rfl]
    refine calls_of_z Try.func20 rfl Try.ntmps20 rfl (Mem.refl w) ?_; intro cs b hb hk
    repeat (first | (refine st ?_) | (refine sb ?_) | (intro _))
    ((try (refine sg ?_)); (refine zx_call0 rfl fnc70 rfl rfl (fun w hm => ends16_any a a' w) ?_))
    repeat (first | (refine st ?_) | (refine sb ?_) | (intro _))
    by_cases h8 : x.size < 8
    · rw [if_pos h8]
      repeat (first | (refine st ?_) | (refine sb ?_) | (intro _))
      first | (refine z_ret2A tab_ok Try.func20 hb hk Try.results20 0 rfl rfl rfl rfl rfl rfl rfl (fun w hm => ?_)) | (refine z_ret2A tab_ok Try.func20 hb hk Try.results20 1 rfl rfl rfl rfl rfl rfl rfl (fun w hm => ?_)) | (refine z_ret2A tab_ok Try.func20 hb hk Try.results20 2 rfl rfl rfl rfl rfl rfl rfl (fun w hm => ?_)) | (refine z_ret2A tab_ok Try.func20 hb hk Try.results20 3 rfl rfl rfl rfl rfl rfl rfl (fun w hm => ?_)) | (refine z_ret2A tab_ok Try.func20 hb hk Try.results20 4 rfl rfl rfl rfl rfl rfl rfl (fun w hm => ?_))
      exact ⟨rfl, hm.bare⟩
    · rw [if_neg h8]
      repeat (first | (refine st ?_) | (refine sb ?_) | (intro _))
      ((try (refine sg ?_)); (refine zx_callC rfl rfl fnc76 rfl rfl (fun w hm => num16_any x 4 _ w (hm.cell (i := 1) rfl) (by omega) (by omega)) ?_))
      repeat (first | (refine st ?_) | (refine sb ?_) | (intro _))
      have hr4 := getN_range x 4 2
      have e2 : (256 : Int) ^ 2 = 65536 := by decide
      by_cases hl : getN x 4 2 < 8 ∨ (x.size : Int) < getN x 4 2
      · rw [if_pos hl]
        by_cases h1 : getN x 4 2 < 8
        · repeat (first | (refine st ?_) | (refine sb ?_) | (intro _))
          first | (refine z_ret2A tab_ok Try.func20 hb hk Try.results20 0 rfl rfl rfl rfl rfl rfl rfl (fun w hm => ?_)) | (refine z_ret2A tab_ok Try.func20 hb hk Try.results20 1 rfl rfl rfl rfl rfl rfl rfl (fun w hm => ?_)) | (refine z_ret2A tab_ok Try.func20 hb hk Try.results20 2 rfl rfl rfl rfl rfl rfl rfl (fun w hm => ?_)) | (refine z_ret2A tab_ok Try.func20 hb hk Try.results20 3 rfl rfl rfl rfl rfl rfl rfl (fun w hm => ?_)) | (refine z_ret2A tab_ok Try.func20 hb hk Try.results20 4 rfl rfl rfl rfl rfl rfl rfl (fun w hm => ?_))
          exact ⟨rfl, hm.bare⟩
        · have h2 : (x.size : Int) < getN x 4 2 := by omega
          repeat (first | (refine st ?_) | (refine sb ?_) | (intro _))
          first | (refine z_ret2A tab_ok Try.func20 hb hk Try.results20 0 rfl rfl rfl rfl rfl rfl rfl (fun w hm => ?_)) | (refine z_ret2A tab_ok Try.func20 hb hk Try.results20 1 rfl rfl rfl rfl rfl rfl rfl (fun w hm => ?_)) | (refine z_ret2A tab_ok Try.func20 hb hk Try.results20 2 rfl rfl rfl rfl rfl rfl rfl (fun w hm => ?_)) | (refine z_ret2A tab_ok Try.func20 hb hk Try.results20 3 rfl rfl rfl rfl rfl rfl rfl (fun w hm => ?_)) | (refine z_ret2A tab_ok Try.func20 hb hk Try.results20 4 rfl rfl rfl rfl rfl rfl rfl (fun w hm => ?_))
          exact ⟨rfl, hm.bare⟩
      · rw [if_neg hl]
        have h1 : ¬ getN x 4 2 < 8 := fun h => hl (.inl h)
        have h2 : ¬ (x.size : Int) < getN x 4 2 := fun h => hl (.inr h)
        repeat (first | (refine st ?_) | (refine sb ?_) | (intro _))
        ((try (refine sg ?_)); (refine zx_sliceN (8 ) ( (getN x 4 2).toNat ) tab_ok rfl rfl rfl rfl rfl rfl rfl (by first | rfl | omega | (simp only [IntKind.wrap_i64]; omega)) (by first | rfl | omega | (simp only [IntKind.wrap_i64]; omega)) (by omega) (by omega) ?_))
        repeat (first | (refine st ?_) | (refine sb ?_) | (intro _))
        ((try (refine sg ?_)); (refine zx_callC rfl rfl fnc76 rfl rfl (fun w hm => num16_any x 6 _ w (hm.cell (i := 1) rfl) (by omega) (by omega)) ?_))
        repeat (first | (refine st ?_) | (refine sb ?_) | (intro _))
        have hr6 := getN_range x 6 2
        have hf6 : (x.extract 0 6).size ≤ 100 := by rw [ByteArray.size_extract]; omega
        have hd8 : (x.extract 8 (getN x 4 2).toNat).size ≤ 65527 := by rw [ByteArray.size_extract]; omega
        by_cases hq : getN x 6 2 ≠ 0 ∨ a.v6 = true
        · by_cases hc : getN x 6 2 = usum a a' (x.extract 0 6) (x.extract 8 (getN x 4 2).toNat)
          · rw [if_neg (fun h => h.2 hc)]
            by_cases hz : getN x 6 2 = 0
            · have h6 : a.v6 = true := hq.resolve_left (fun h => h hz)
              repeat (first | (refine st ?_) | (refine sb ?_) | (intro _))
              ((try (refine sg ?_)); (refine zx_sliceN (0 ) ( 6 ) tab_ok rfl rfl rfl rfl rfl rfl rfl (by first | rfl | omega | (simp only [IntKind.wrap_i64]; omega)) (by first | rfl | omega | (simp only [IntKind.wrap_i64]; omega)) (by omega) (by omega) ?_))
              repeat (first | (refine st ?_) | (refine sb ?_) | (intro _))
              ((try (refine sg ?_)); (refine zx_call0 rfl fnc72 rfl rfl (fun w hm => sum16_any a a' _ _ w he hf6 hd8) ?_))
              repeat (first | (refine st ?_) | (refine sb ?_) | (intro _))
              ((try (refine sg ?_)); (refine zx_callC rfl rfl fnc76 rfl rfl (fun w hm => num16_any x 0 _ w (hm.cell (i := 1) rfl) (by omega) (by omega)) ?_))
              repeat (first | (refine st ?_) | (refine sb ?_) | (intro _))
              ((try (refine sg ?_)); (refine zx_callC rfl rfl fnc76 rfl rfl (fun w hm => num16_any x 2 _ w (hm.cell (i := 1) rfl) (by omega) (by omega)) ?_))
              repeat (first | (refine st ?_) | (refine sb ?_) | (intro _))
              first | (refine z_ret2A tab_ok Try.func20 hb hk Try.results20 0 rfl rfl rfl rfl rfl rfl rfl (fun w hm => ?_)) | (refine z_ret2A tab_ok Try.func20 hb hk Try.results20 1 rfl rfl rfl rfl rfl rfl rfl (fun w hm => ?_)) | (refine z_ret2A tab_ok Try.func20 hb hk Try.results20 2 rfl rfl rfl rfl rfl rfl rfl (fun w hm => ?_)) | (refine z_ret2A tab_ok Try.func20 hb hk Try.results20 3 rfl rfl rfl rfl rfl rfl rfl (fun w hm => ?_)) | (refine z_ret2A tab_ok Try.func20 hb hk Try.results20 4 rfl rfl rfl rfl rfl rfl rfl (fun w hm => ?_))
              exact ⟨rfl, hm.bare⟩
            · repeat (first | (refine st ?_) | (refine sb ?_) | (intro _))
              ((try (refine sg ?_)); (refine zx_sliceN (0 ) ( 6 ) tab_ok rfl rfl rfl rfl rfl rfl rfl (by first | rfl | omega | (simp only [IntKind.wrap_i64]; omega)) (by first | rfl | omega | (simp only [IntKind.wrap_i64]; omega)) (by omega) (by omega) ?_))
              repeat (first | (refine st ?_) | (refine sb ?_) | (intro _))
              ((try (refine sg ?_)); (refine zx_call0 rfl fnc72 rfl rfl (fun w hm => sum16_any a a' _ _ w he hf6 hd8) ?_))
              repeat (first | (refine st ?_) | (refine sb ?_) | (intro _))
              ((try (refine sg ?_)); (refine zx_callC rfl rfl fnc76 rfl rfl (fun w hm => num16_any x 0 _ w (hm.cell (i := 1) rfl) (by omega) (by omega)) ?_))
              repeat (first | (refine st ?_) | (refine sb ?_) | (intro _))
              ((try (refine sg ?_)); (refine zx_callC rfl rfl fnc76 rfl rfl (fun w hm => num16_any x 2 _ w (hm.cell (i := 1) rfl) (by omega) (by omega)) ?_))
              repeat (first | (refine st ?_) | (refine sb ?_) | (intro _))
              first | (refine z_ret2A tab_ok Try.func20 hb hk Try.results20 0 rfl rfl rfl rfl rfl rfl rfl (fun w hm => ?_)) | (refine z_ret2A tab_ok Try.func20 hb hk Try.results20 1 rfl rfl rfl rfl rfl rfl rfl (fun w hm => ?_)) | (refine z_ret2A tab_ok Try.func20 hb hk Try.results20 2 rfl rfl rfl rfl rfl rfl rfl (fun w hm => ?_)) | (refine z_ret2A tab_ok Try.func20 hb hk Try.results20 3 rfl rfl rfl rfl rfl rfl rfl (fun w hm => ?_)) | (refine z_ret2A tab_ok Try.func20 hb hk Try.results20 4 rfl rfl rfl rfl rfl rfl rfl (fun w hm => ?_))
              exact ⟨rfl, hm.bare⟩
          · rw [if_pos ⟨hq, hc⟩]
            by_cases hz : getN x 6 2 = 0
            · have h6 : a.v6 = true := hq.resolve_left (fun h => h hz)
              repeat (first | (refine st ?_) | (refine sb ?_) | (intro _))
              ((try (refine sg ?_)); (refine zx_sliceN (0 ) ( 6 ) tab_ok rfl rfl rfl rfl rfl rfl rfl (by first | rfl | omega | (simp only [IntKind.wrap_i64]; omega)) (by first | rfl | omega | (simp only [IntKind.wrap_i64]; omega)) (by omega) (by omega) ?_))
              repeat (first | (refine st ?_) | (refine sb ?_) | (intro _))
              ((try (refine sg ?_)); (refine zx_call0 rfl fnc72 rfl rfl (fun w hm => sum16_any a a' _ _ w he hf6 hd8) ?_))
              repeat (first | (refine st ?_) | (refine sb ?_) | (intro _))
              first | (refine z_ret2A tab_ok Try.func20 hb hk Try.results20 0 rfl rfl rfl rfl rfl rfl rfl (fun w hm => ?_)) | (refine z_ret2A tab_ok Try.func20 hb hk Try.results20 1 rfl rfl rfl rfl rfl rfl rfl (fun w hm => ?_)) | (refine z_ret2A tab_ok Try.func20 hb hk Try.results20 2 rfl rfl rfl rfl rfl rfl rfl (fun w hm => ?_)) | (refine z_ret2A tab_ok Try.func20 hb hk Try.results20 3 rfl rfl rfl rfl rfl rfl rfl (fun w hm => ?_)) | (refine z_ret2A tab_ok Try.func20 hb hk Try.results20 4 rfl rfl rfl rfl rfl rfl rfl (fun w hm => ?_))
              exact ⟨rfl, hm.bare⟩
            · repeat (first | (refine st ?_) | (refine sb ?_) | (intro _))
              ((try (refine sg ?_)); (refine zx_sliceN (0 ) ( 6 ) tab_ok rfl rfl rfl rfl rfl rfl rfl (by first | rfl | omega | (simp only [IntKind.wrap_i64]; omega)) (by first | rfl | omega | (simp only [IntKind.wrap_i64]; omega)) (by omega) (by omega) ?_))
              repeat (first | (refine st ?_) | (refine sb ?_) | (intro _))
              ((try (refine sg ?_)); (refine zx_call0 rfl fnc72 rfl rfl (fun w hm => sum16_any a a' _ _ w he hf6 hd8) ?_))
              repeat (first | (refine st ?_) | (refine sb ?_) | (intro _))
              first | (refine z_ret2A tab_ok Try.func20 hb hk Try.results20 0 rfl rfl rfl rfl rfl rfl rfl (fun w hm => ?_)) | (refine z_ret2A tab_ok Try.func20 hb hk Try.results20 1 rfl rfl rfl rfl rfl rfl rfl (fun w hm => ?_)) | (refine z_ret2A tab_ok Try.func20 hb hk Try.results20 2 rfl rfl rfl rfl rfl rfl rfl (fun w hm => ?_)) | (refine z_ret2A tab_ok Try.func20 hb hk Try.results20 3 rfl rfl rfl rfl rfl rfl rfl (fun w hm => ?_)) | (refine z_ret2A tab_ok Try.func20 hb hk Try.results20 4 rfl rfl rfl rfl rfl rfl rfl (fun w hm => ?_))
              exact ⟨rfl, hm.bare⟩
        · rw [if_neg (fun h => hq h.1)]
          have hz : getN x 6 2 = 0 := Classical.byContradiction fun h => hq (.inl h)
          have h6 : a.v6 = false := by
            cases h : a.v6
            · rfl
            · exact absurd (.inr h) hq
          repeat (first | (refine st ?_) | (refine sb ?_) | (intro _))
          ((try (refine sg ?_)); (refine zx_callC rfl rfl fnc76 rfl rfl (fun w hm => num16_any x 0 _ w (hm.cell (i := 1) rfl) (by omega) (by omega)) ?_))
          repeat (first | (refine st ?_) | (refine sb ?_) | (intro _))
          ((try (refine sg ?_)); (refine zx_callC rfl rfl fnc76 rfl rfl (fun w hm => num16_any x 2 _ w (hm.cell (i := 1) rfl) (by omega) (by omega)) ?_))
          repeat (first | (refine st ?_) | (refine sb ?_) | (intro _))
          first | (refine z_ret2A tab_ok Try.func20 hb hk Try.results20 0 rfl rfl rfl rfl rfl rfl rfl (fun w hm => ?_)) | (refine z_ret2A tab_ok Try.func20 hb hk Try.results20 1 rfl rfl rfl rfl rfl rfl rfl (fun w hm => ?_)) | (refine z_ret2A tab_ok Try.func20 hb hk Try.results20 2 rfl rfl rfl rfl rfl rfl rfl (fun w hm => ?_)) | (refine z_ret2A tab_ok Try.func20 hb hk Try.results20 3 rfl rfl rfl rfl rfl rfl rfl (fun w hm => ?_)) | (refine z_ret2A tab_ok Try.func20 hb hk Try.results20 4 rfl rfl rfl rfl rfl rfl rfl (fun w hm => ?_))
          exact ⟨rfl, hm.bare⟩
end Go.Proofs.Ytabcaiecoiejkaa
