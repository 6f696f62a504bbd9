/- Walks of the reference's functions that append: Bytes, joined. -/
import Derived.Test.YtabcaiecoiejkaaB1
set_option maxRecDepth 100000
set_option linter.unusedSimpArgs false
set_option linter.unusedVariables false
namespace Go.Proofs.Ytabcaiecoiejkaa
open Go K

theorem Adr.all_take (a : Adr) (i : Nat) (h : i < 16) : (a.all.take (i + 1)).map (Value.int .u8) = (a.all.take i).map (Value.int .u8) ++ [.int .u8 (a.b i)] := by
  obtain rfl | rfl | rfl | rfl | rfl | rfl | rfl | rfl | rfl | rfl | rfl | rfl | rfl | rfl | rfl | rfl : i = 0 ∨ i = 1 ∨ i = 2 ∨ i = 3 ∨ i = 4 ∨ i = 5 ∨ i = 6 ∨ i = 7 ∨ i = 8 ∨ i = 9 ∨ i = 10 ∨ i = 11 ∨ i = 12 ∨ i = 13 ∨ i = 14 ∨ i = 15 := by omega
  all_goals rfl

theorem src_one {w0 w : World} {ks : List Nat} {L : Mm} (h : Mem w0 ks L w) {b : Nat} {v : Value} {t : TypeId} {L' : Mm} (hL : L = (b, .c [v] t 0 0) :: L') (hv : v.oneCell' = true) : Src Try.prog 1 46 (.slice (some ⟨b, 0, none⟩) 1 1) 1 [v] w :=
  Src.ofSlice w Try.underlying46 ⟨b, 0, none⟩ 1 1 [v] rfl (fun j u hu => by
    rw [addr_add, h.cell (i := 0) (cs := [v]) (t := t) (lo := 0) (hi := 0) (by rw [hL]; rfl), Nat.zero_add]
    exact hu) (fun u hu => by rw [List.mem_singleton.1 hu]; exact hv)


theorem BytesR_any (a : Adr) (w : World) :
    Calls Try.prog 130 [a.val].toArray w fun e w' => e = .returned (.string a.bytes) ∧ Mem w [] [] w' := by
  refine calls_of_z Try.func130 rfl Try.ntmps130 rfl (Mem.refl w) ?_; intro cs b hb hk
  repeat (first | (refine st ?_) | (refine sb ?_) | (intro _))
  ((try (refine sg ?_)); (refine zx_call0 rfl fnc118 rfl rfl (fun w hm => ValidR_any a w) ?_))
  repeat (first | (refine st ?_) | (refine sb ?_) | (intro _))
  rename_i p
  cases hv : a.valid with
  | false =>
    repeat (first | (refine st ?_) | (refine sb ?_) | (intro _))
    refine z_ret1 tab_ok Try.func130 hb hk Try.results130 (.tmp rfl) (fun w hm => ?_)
    have h6 : a.v6 = false := by
      cases h : a.v6
      · rfl
      · rw [Adr.valid, h] at hv; cases hv
    exact ⟨by rw [Adr.bytes, Adr.nums, h6, hv]; rfl, hm.bare⟩
  | true =>
    cases h6 : a.v6 with
    | true =>
      have hfin : ofInts (a.all.take 16) = a.bytes := by rw [Adr.bytes, Adr.nums, h6]; rfl
      repeat (first | (refine st ?_) | (refine sb ?_) | (intro _))
      refine z_loop (fun g : Nat × Own => g.1 ≤ 16 ∧ RowOk 1 g.2 g.1 ((a.all.take g.1).map (Value.int .u8))) (fun g => [(1, .pointer (some ⟨p, 0, none⟩)), (4, .int .i64 16), (5, rowV g.2 g.1), (6, .int .i64 (g.1 : Int))]) (fun g => [(p, .c a.cells 24 0 0)] ++ rowL 5 g.2 ((a.all.take g.1).map (Value.int .u8))) (fun g => 16 - g.1) (0, none) ⟨by omega, RowOk.nil0 1⟩ ⟨rfl, rfl, rfl, rfl, trivial⟩ (by rw [Adr.cells, h6]; exact List.Sublist.refl _) ?_
      rintro ⟨i, o⟩ ⟨hi, hok⟩ ih
      by_cases hlt : i < 16
      · have hg := a.cells_get i hlt
        have hat := a.all_take i hlt
        repeat (first | (refine st ?_) | (refine sb ?_) | (intro _))
        refine zx_idxP (sz := i) (len := 16) (m := (i : Int)) (esz := 1) tab_ok rfl rfl rfl rfl rfl rfl (by omega) (by omega) (by simp) ?_
        refine zx_load tab_ok 0 rfl rfl rfl rfl rfl hg rfl ?_
        repeat (first | (refine st ?_) | (refine sb ?_) | (intro _))
        refine zx_append elt5 tab_ok (_ :: [(p, .c a.cells 24 0 0)]) o i _ rfl rfl rfl rfl rfl rfl hok (fun w hm => src_one hm rfl rfl) (by omega) (by omega) ?_
        intro o' hok'
        repeat (first | (refine st ?_) | (refine sb ?_) | (intro _))
        rw [← hat] at hok'
        refine z_weaken _ _ ?_ ?_ (fun _ h => h) (ih (i + 1, o') ⟨by omega, hok'⟩ (by simp only; omega))
        · exact ⟨rfl, rfl, rfl, congrArg (fun x => some (Value.int .i64 x)) (by simp only [IntKind.wrap_i64]; omega), trivial⟩
        · rw [hat]; exact List.Sublist.cons _ (List.Sublist.refl _)
      · have he : i = 16 := by omega
        subst he
        repeat (first | (refine st ?_) | (refine sb ?_) | (intro _))
        refine zx_b2sO tab_ok [(p, .c a.cells 24 0 0)] o (a.all.take 16) rfl rfl rfl rfl rfl rfl hok rfl ?_
        repeat (first | (refine st ?_) | (refine sb ?_) | (intro _))
        refine z_ret1 tab_ok Try.func130 hb hk Try.results130 (.tmp rfl) (fun w hm => ?_)
        exact ⟨by rw [hfin], hm.bare⟩
    | false =>
      have hfin : ofInts (a.all.take 4) = a.bytes := by rw [Adr.bytes, Adr.nums, h6, hv]; rfl
      repeat (first | (refine st ?_) | (refine sb ?_) | (intro _))
      refine z_loop (fun g : Nat × Own => g.1 ≤ 4 ∧ RowOk 1 g.2 g.1 ((a.all.take g.1).map (Value.int .u8))) (fun g => [(1, .pointer (some ⟨p, 0, none⟩)), (4, .int .i64 4), (5, rowV g.2 g.1), (6, .int .i64 (g.1 : Int))]) (fun g => [(p, .c a.cells 24 0 0)] ++ rowL 5 g.2 ((a.all.take g.1).map (Value.int .u8))) (fun g => 4 - g.1) (0, none) ⟨by omega, RowOk.nil0 1⟩ ⟨rfl, rfl, rfl, rfl, trivial⟩ (by rw [Adr.cells, h6]; exact List.Sublist.refl _) ?_
      rintro ⟨i, o⟩ ⟨hi, hok⟩ ih
      by_cases hlt : i < 4
      · have hg := a.cells_get i (by omega)
        have hat := a.all_take i (by omega)
        repeat (first | (refine st ?_) | (refine sb ?_) | (intro _))
        refine zx_idxP (sz := i) (len := 16) (m := (i : Int)) (esz := 1) tab_ok rfl rfl rfl rfl rfl rfl (by omega) (by omega) (by simp) ?_
        refine zx_load tab_ok 0 rfl rfl rfl rfl rfl hg rfl ?_
        repeat (first | (refine st ?_) | (refine sb ?_) | (intro _))
        refine zx_append elt5 tab_ok (_ :: [(p, .c a.cells 24 0 0)]) o i _ rfl rfl rfl rfl rfl rfl hok (fun w hm => src_one hm rfl rfl) (by omega) (by omega) ?_
        intro o' hok'
        repeat (first | (refine st ?_) | (refine sb ?_) | (intro _))
        rw [← hat] at hok'
        refine z_weaken _ _ ?_ ?_ (fun _ h => h) (ih (i + 1, o') ⟨by omega, hok'⟩ (by simp only; omega))
        · exact ⟨rfl, rfl, rfl, congrArg (fun x => some (Value.int .i64 x)) (by simp only [IntKind.wrap_i64]; omega), trivial⟩
        · rw [hat]; exact List.Sublist.cons _ (List.Sublist.refl _)
      · have he : i = 4 := by omega
        subst he
        repeat (first | (refine st ?_) | (refine sb ?_) | (intro _))
        refine zx_b2sO tab_ok [(p, .c a.cells 24 0 0)] o (a.all.take 4) rfl rfl rfl rfl rfl rfl hok rfl ?_
        repeat (first | (refine st ?_) | (refine sb ?_) | (intro _))
        refine z_ret1 tab_ok Try.func130 hb hk Try.results130 (.tmp rfl) (fun w hm => ?_)
        exact ⟨by rw [hfin], hm.bare⟩
end Go.Proofs.Ytabcaiecoiejkaa
