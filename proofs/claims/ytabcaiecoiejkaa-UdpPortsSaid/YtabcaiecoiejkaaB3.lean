/- Walks of the reference's joined, Sum and Pseudo. -/
import Derived.Test.YtabcaiecoiejkaaB2
import Derived.Test.YtabcaiecoiejkaaA3
set_option maxRecDepth 100000
set_option linter.unusedSimpArgs false
set_option linter.unusedVariables false
namespace Go.Proofs.Ytabcaiecoiejkaa
open Go K

theorem byteCells_eq (s : ByteArray) : byteCells s = (bL s).map (Value.int .u8) := by
  unfold byteCells bL
  rw [List.map_map]
  rfl
theorem src_str (s : ByteArray) (w : World) : Src Try.prog 1 9 (.string s) s.size ((bL s).map (Value.int .u8)) w := by
  rw [← byteCells_eq]
  exact Src.ofString w Try.underlying9 s

theorem joined_any (ss : List ByteArray) (bs off cap : Nat) (w : World) (hc : ∀ (i : Nat) s, ss[i]? = some s → w.cell? ⟨bs, off + i, none⟩ = some (.string s)) (hs : (flat ss).length ≤ 100000000000) (hn : ss.length ≤ 1000000000) :
    Calls Try.prog 136 [.slice (some ⟨bs, off, none⟩) ss.length cap].toArray w fun e w' => e = .returned (.string (ofInts (flat ss))) ∧ Mem w [] [] w' := by
  refine calls_of_z Try.func136 rfl Try.ntmps136 rfl (Mem.refl w) ?_; intro cs b hb hk
  repeat (first | (refine st ?_) | (refine sb ?_) | (intro _))
  refine z_loop (fun g : Nat × Own => g.1 ≤ ss.length ∧ RowOk 1 g.2 (flat (ss.take g.1)).length ((flat (ss.take g.1)).map (Value.int .u8))) (fun g => [(0, .slice (some ⟨bs, off, none⟩) ss.length cap), (3, rowV g.2 (flat (ss.take g.1)).length), (4, .int .i64 (g.1 : Int))]) (fun g => rowL 5 g.2 ((flat (ss.take g.1)).map (Value.int .u8))) (fun g => ss.length - g.1) (0, none) ⟨by omega, RowOk.nil0 1⟩ ⟨rfl, rfl, rfl, trivial⟩ (List.Sublist.refl _) ?_
  rintro ⟨i, o⟩ ⟨hi, hok⟩ ih
  by_cases hlt : i < ss.length
  · obtain ⟨s, hsi⟩ : ∃ s, ss[i]? = some s := ⟨ss[i], by simp [hlt]⟩
    have hle := flat_le hsi
    have hft := flat_take hsi
    repeat (first | (refine st ?_) | (refine sb ?_) | (intro _))
    refine zx_idxA (sz := i) (len := ss.length) (cap := cap) (m := (i : Int)) (esz := 1) tab_ok rfl rfl rfl rfl rfl rfl (by omega) (by omega) (by simp) ?_
    refine zx_loadB (v := .string s) tab_ok rfl rfl rfl rfl (hc i s hsi) (by simp) rfl ?_
    refine zx_append elt5 tab_ok [] o (flat (ss.take i)).length _ rfl rfl rfl rfl rfl rfl hok (fun w hm => src_str s w) (by omega) (by omega) ?_
    intro o' hok'
    repeat (first | (refine st ?_) | (refine sb ?_) | (intro _))
    rw [← List.map_append, ← hft] at hok'
    have hlen : (flat (ss.take i)).length + s.size = (flat (ss.take (i + 1))).length := by rw [hft, List.length_append, bL_length]
    rw [hlen] at hok' ⊢
    refine z_weaken _ _ ?_ ?_ (fun _ h => h) (ih (i + 1, o') ⟨hlt, hok'⟩ (by simp only; omega))
    · exact ⟨rfl, rfl, congrArg (fun x => some (Value.int .i64 x)) (by simp only [IntKind.wrap_i64]; omega), trivial⟩
    · rw [hft, List.map_append]; exact List.Sublist.refl _
  · have htk : ss.take i = ss := List.take_of_length_le (by omega)
    simp only [htk] at hok ⊢
    repeat (first | (refine st ?_) | (refine sb ?_) | (intro _))
    refine zx_b2sO tab_ok [] o (flat ss) rfl rfl rfl rfl rfl rfl hok rfl ?_
    repeat (first | (refine st ?_) | (refine sb ?_) | (intro _))
    refine z_ret1 tab_ok Try.func136 hb hk Try.results136 (.tmp rfl) (fun w hm => ?_)
    exact ⟨rfl, hm.bare⟩

theorem bt_ofInts (l : List Int) (i : Nat) (h : i < l.length) (hl : Small l) : bt (ofInts l) i = l[i] := by
  have h2 := hl l[i] (List.getElem_mem h)
  unfold bt ofInts
  rw [List.getD_eq_getElem?_getD, List.getElem?_map, List.getElem?_eq_getElem h]
  simp only [Option.map_some, Option.getD_some]
  rw [UInt8.toNat_ofNat']
  omega

theorem sumR_any (ss : List ByteArray) (bs off cap : Nat) (w : World) (hc : ∀ (i : Nat) s, ss[i]? = some s → w.cell? ⟨bs, off + i, none⟩ = some (.string s)) (hs : (flat ss).length ≤ 100000000000) (hn : ss.length ≤ 1000000000) :
    Calls Try.prog 119 [.slice (some ⟨bs, off, none⟩) ss.length cap].toArray w fun e w' => e = .returned (.int .i64 (65535 - csum (acc false (flat ss)))) ∧ Mem w [] [] w' := by
  have hsm := flat_small ss
  have hsz : (ofInts (flat ss)).size = (flat ss).length := ofInts_size _
  refine calls_of_z Try.func119 rfl Try.ntmps119 rfl (Mem.refl w) ?_; intro cs b hb hk
  repeat (first | (refine st ?_) | (refine sb ?_) | (intro _))
  ((try (refine sg ?_)); (refine zx_call0 rfl fnc136 rfl rfl (fun w hm => joined_any ss bs off cap w (fun i s h => hm.cellB (hc i s h) (by simp)) hs hn) ?_))
  repeat (first | (refine st ?_) | (refine sb ?_) | (intro _))
  refine z_loop (fun i : Nat => i ≤ (flat ss).length) (fun i => [(3, .string (ofInts (flat ss))), (4, .int .i64 (csum (acc false ((flat ss).take i)))), (5, .int .i64 (i : Int))]) (fun _ => []) (fun i => (flat ss).length - i) 0 (Nat.zero_le _) ⟨rfl, rfl, rfl, trivial⟩ (List.Sublist.refl _) ?_
  intro i hi ih
  have hr := @csum_range (acc false ((flat ss).take i))
  by_cases hlt : i < (flat ss).length
  · have hb := bt_ofInts (flat ss) i hlt hsm
    have hbr := bt_range (ofInts (flat ss)) i
    have htk : (flat ss).take (i + 1) = (flat ss).take i ++ [bt (ofInts (flat ss)) i] := by rw [hb, List.take_append_getElem hlt]
    have hsmt : Small ((flat ss).take i) := fun x hx => hsm x (List.mem_of_mem_take hx)
    have har := acc_range false _ hsmt
    have hpl : ((flat ss).take i).length = i := by rw [List.length_take]; omega
    repeat (first | (refine st ?_) | (refine sb ?_) | (intro _))
    ((try (refine sg ?_)); refine zx_idxN (i) tab_ok rfl rfl rfl rfl rfl rfl (by first | omega | (simp only [IntKind.wrap_i64]; omega)) (by omega) ?_)
    repeat (first | (refine st ?_) | (refine sb ?_) | (intro _))
    have w18 : IntKind.i64.wrap (bt (ofInts (flat ss)) i) = bt (ofInts (flat ss)) i := wr64 (by omega) (by omega)
    refine z_re 6 (.int .i64 (bt (ofInts (flat ss)) i)) rfl (congrArg _ w18) ?_
    by_cases hp : i % 2 = 0
    · have hpar : par ((flat ss).take i) = false := by unfold par; rw [hpl]; simp; omega
      refine z_condKT rfl (beq_iff_eq.2 (show (i : Int).tmod 2 = 0 by rw [Int.tmod_eq_emod_of_nonneg (by omega)]; omega)) ?_
      have hcs := csum_add (x := acc false ((flat ss).take i)) (y := bt (ofInts (flat ss)) i * 256) har.1 (by omega) (by omega)
      have hacc : acc false ((flat ss).take (i + 1)) = acc false ((flat ss).take i) + bt (ofInts (flat ss)) i * 256 := by rw [htk, acc_snoc, hpar]; rfl
      have e6 : IntKind.i64.wrap (bt (ofInts (flat ss)) i * 256) = bt (ofInts (flat ss)) i * 256 := wr64 (by omega) (by omega)
      by_cases hbig : csum (acc false ((flat ss).take i)) + bt (ofInts (flat ss)) i * 256 > 65535
      · have hn : csum (acc false ((flat ss).take (i + 1))) = csum (acc false ((flat ss).take i)) + bt (ofInts (flat ss)) i * 256 - 65535 := by rw [hacc, hcs, if_pos hbig]
        repeat (first | (refine st ?_) | (intro _))
        refine z_re 28 (.bool true) rfl (congrArg _ (by first | (rw [e6, wr64 (by omega) (by omega)]; exact decide_eq_true hbig) | (rw [wr64 (by omega) (by omega)]; exact decide_eq_true hbig))) ?_
        repeat (first | (refine st ?_) | (intro _))
        refine z_weaken _ _ ?_ (List.Sublist.refl _) (fun _ h => h) (ih (i + 1) hlt (by omega))
        refine ⟨rfl, congrArg (fun x => some (Value.int .i64 x)) (show IntKind.i64.wrap (IntKind.i64.wrap (csum (acc false ((flat ss).take i)) + IntKind.i64.wrap (bt (ofInts (flat ss)) i * 256)) - 65535) = _ from by rw [hn, e6, wr64 (x := csum (acc false ((flat ss).take i)) + bt (ofInts (flat ss)) i * 256) (by omega) (by omega), wr64 (by omega) (by omega)]), congrArg (fun x => some (Value.int .i64 x)) (by simp only [IntKind.wrap_i64]; omega), trivial⟩
      · have hn : csum (acc false ((flat ss).take (i + 1))) = csum (acc false ((flat ss).take i)) + bt (ofInts (flat ss)) i * 256 := by rw [hacc, hcs, if_neg hbig]
        repeat (first | (refine st ?_) | (intro _))
        refine z_re 28 (.bool false) rfl (congrArg _ (by first | (rw [e6, wr64 (by omega) (by omega)]; exact decide_eq_false hbig) | (rw [wr64 (by omega) (by omega)]; exact decide_eq_false hbig))) ?_
        repeat (first | (refine st ?_) | (intro _))
        refine z_weaken _ _ ?_ (List.Sublist.refl _) (fun _ h => h) (ih (i + 1) hlt (by omega))
        refine ⟨rfl, congrArg (fun x => some (Value.int .i64 x)) (show IntKind.i64.wrap (csum (acc false ((flat ss).take i)) + IntKind.i64.wrap (bt (ofInts (flat ss)) i * 256)) = _ from by rw [hn, e6, wr64 (x := csum (acc false ((flat ss).take i)) + bt (ofInts (flat ss)) i * 256) (by omega) (by omega)]), congrArg (fun x => some (Value.int .i64 x)) (by simp only [IntKind.wrap_i64]; omega), trivial⟩
    · have hpar : par ((flat ss).take i) = true := by unfold par; rw [hpl]; simp; omega
      refine z_condKF rfl (beq_eq_false_iff_ne.2 (show (i : Int).tmod 2 ≠ 0 by rw [Int.tmod_eq_emod_of_nonneg (by omega)]; omega)) ?_
      have hcs := csum_add (x := acc false ((flat ss).take i)) (y := bt (ofInts (flat ss)) i) har.1 (by omega) (by omega)
      have hacc : acc false ((flat ss).take (i + 1)) = acc false ((flat ss).take i) + bt (ofInts (flat ss)) i := by rw [htk, acc_snoc, hpar]; rfl
      by_cases hbig : csum (acc false ((flat ss).take i)) + bt (ofInts (flat ss)) i > 65535
      · have hn : csum (acc false ((flat ss).take (i + 1))) = csum (acc false ((flat ss).take i)) + bt (ofInts (flat ss)) i - 65535 := by rw [hacc, hcs, if_pos hbig]
        repeat (first | (refine st ?_) | (intro _))
        refine z_re 28 (.bool true) rfl (congrArg _ (by first | (rw [e6, wr64 (by omega) (by omega)]; exact decide_eq_true hbig) | (rw [wr64 (by omega) (by omega)]; exact decide_eq_true hbig))) ?_
        repeat (first | (refine st ?_) | (intro _))
        refine z_weaken _ _ ?_ (List.Sublist.refl _) (fun _ h => h) (ih (i + 1) hlt (by omega))
        refine ⟨rfl, congrArg (fun x => some (Value.int .i64 x)) (show IntKind.i64.wrap (IntKind.i64.wrap (csum (acc false ((flat ss).take i)) + bt (ofInts (flat ss)) i) - 65535) = _ from by rw [hn, wr64 (x := csum (acc false ((flat ss).take i)) + bt (ofInts (flat ss)) i) (by omega) (by omega), wr64 (by omega) (by omega)]), congrArg (fun x => some (Value.int .i64 x)) (by simp only [IntKind.wrap_i64]; omega), trivial⟩
      · have hn : csum (acc false ((flat ss).take (i + 1))) = csum (acc false ((flat ss).take i)) + bt (ofInts (flat ss)) i := by rw [hacc, hcs, if_neg hbig]
        repeat (first | (refine st ?_) | (intro _))
        refine z_re 28 (.bool false) rfl (congrArg _ (by first | (rw [e6, wr64 (by omega) (by omega)]; exact decide_eq_false hbig) | (rw [wr64 (by omega) (by omega)]; exact decide_eq_false hbig))) ?_
        repeat (first | (refine st ?_) | (intro _))
        refine z_weaken _ _ ?_ (List.Sublist.refl _) (fun _ h => h) (ih (i + 1) hlt (by omega))
        refine ⟨rfl, congrArg (fun x => some (Value.int .i64 x)) (show IntKind.i64.wrap (csum (acc false ((flat ss).take i)) + bt (ofInts (flat ss)) i) = _ from by rw [hn, wr64 (x := csum (acc false ((flat ss).take i)) + bt (ofInts (flat ss)) i) (by omega) (by omega)]), congrArg (fun x => some (Value.int .i64 x)) (by simp only [IntKind.wrap_i64]; omega), trivial⟩
  · have htk : (flat ss).take i = flat ss := List.take_of_length_le (by omega)
    rw [htk] at hr ⊢
    repeat (first | (refine st ?_) | (refine sb ?_) | (intro _))
    refine z_ret1 tab_ok Try.func119 hb hk Try.results119 (.tmp rfl) (fun w hm => ?_)
    exact ⟨by rw [wr64 (by omega) (by omega)], hm.bare⟩
end Go.Proofs.Ytabcaiecoiejkaa
