/- What is proved: for every two addresses, every segment and every turn that the row's domain lets in, the call of aditlaw18.SegLoose returns true and its arguments read as before. No further condition. -/
import Derived.Test.YtabcaiecoiejkaaR2
import Derived.Test.YtabcaiecoiejkaaI6
set_option maxRecDepth 100000
set_option linter.unusedSimpArgs false
set_option linter.unusedVariables false
namespace Go.Proofs.Ytabcaiecoiejkaa.segLoose
open Go K Go.ChangeShapes Go.WideShapes Go.ChangeAt Go.RowKit

theorem two_ints {w : World} {base : Nat} {v : Value} (h : Value.okWide Try.prog w .any base 45 v) : ∃ x y : Int, v = .agg #[.int .i64 x, .int .i64 y] ∧ (-9223372036854775808 ≤ x ∧ x ≤ 9223372036854775807) := by
  obtain ⟨c1, rfl, oo⟩ := cells_of_okWide Try.underlying45 (ts := [3, 3]) (by kernel_rfl) (by kernel_rfl) h
  match c1, oo with
  | [a, b], oo =>
    obtain ⟨x, rfl, hx⟩ := cell_int Try.underlying3 oo.1
    obtain ⟨y, rfl, hy⟩ := cell_int Try.underlying3 oo.2.1
    exact ⟨x, y, rfl, has_i64 hx⟩
theorem lifted (os : Os) (started : os.Started) (H : Type) (enc : TypeId × Value → H) :
    ReturnsInHanded {} Try.checked os 7 .any (Rows.segLooseSpec.pre6 enc Try.prog Try.f7 Rows.segLooseRow.domain false) (Rows.segLooseSpec.post enc Try.prog Try.f7 false true false false) := by
  refine returnsInHanded_of_change_sized (C := Try.checked) own started (by kernel_rfl) Try.func7
    (ChangeSpec.witness6 (enc := enc) (C := Try.checked) false ⟨#[], #[.agg ((Adr.cells ⟨false, fun _ => 0⟩) ++ (Adr.cells ⟨false, fun _ => 0⟩)).toArray, sg0.val, .agg #[.int .i64 0, .int .i64 0]], []⟩ 8 (by kernel_rfl) (by kernel_rfl) (by kernel_rfl) (by kernel_rfl)) ?_
  intro W base args ds gs before hval0 hW hcnd hsz0 _
  have hsz : (DataW.weightsEach Try.prog (Try.f7.params.toList ++ Rows.segLooseSpec.plain.varTypes Try.prog) (ds ++ gs)).all (· ≤ reachBytes) = true := hsz0
  have hval : ∀ (j : Nat) t v, Try.f7.params[j]? = some t → args[j]? = some v → Value.okWide Try.prog W .any base t v := hval0
  have hW' := hW
  obtain ⟨p, q, hA0, hV, rfl, hfz, hnd⟩ := hW
  have hA : DataW.TrodAll enc Try.prog W 0 (fun _ => true) true [36, 39, 45] args.toList ds p := hA0
  obtain ⟨v0, vs0, d0, ds0, p0, q0, hargs, rfl, rfl, h0, r0⟩ := trodAll_cons hA
  obtain ⟨v1, vs1, d1, ds1, p1, q1, rfl, rfl, rfl, h1, r1⟩ := trodAll_cons r0
  obtain ⟨v2, vs2, d2, ds2, p2, q2, rfl, rfl, rfl, h2, r2⟩ := trodAll_cons r1
  obtain ⟨rfl, rfl, rfl⟩ := trodAll_nil r2
  obtain rfl : args = #[v0, v1, v2] := by cases args; simp_all
  obtain ⟨rfl, rfl⟩ := trodVars_none hV
  have lt : ∀ {t : TypeId} {v : Value} {d : DataW H} {ps : List MemPlace}, DataW.Trod enc Try.prog W 0 (fun _ => true) true t v d ps → ∀ x ∈ ps, x.block < W.heap.size := by
    intro t v d ps hk
    obtain ⟨m, hm⟩ := hk
    exact DataW.trod_lt m _ _ _ hm
  obtain ⟨a, a', rfl⟩ := two_of Try.underlying36 (by kernel_rfl) (by kernel_rfl) (hval 0 36 v0 rfl rfl)
  obtain ⟨s, rfl, hs, _⟩ := seg_of (hval 1 39 v1 rfl rfl)
  obtain ⟨x, y, rfl, hxr⟩ := two_ints (hval 2 45 v2 rfl rfl)
  have hx : s.data.size ≤ reachBytes := struct_string hsz (j := 1) (t := 39) rfl rfl Try.underlying39 h1 8 rfl Try.underlying9 (by rfl)
  have hr := reachBytes_lt
  refine (SegLoose_any a a' s x y W (by omega) hs).mono fun e W' ⟨he, hm⟩ => ?_
  subst he
  have bel := Mem.below hm
  exact ⟨_, rfl, _, _, _, [], _, [], hW', trodAll_mk1 (shut_bool Try.underlying4 _),
      (trodAll_cons_mk (Below.trod laidOut (by kernel_rfl) (of_decide_eq_true (by kernel_rfl)) h0 bel (lt h0)) (trodAll_cons_mk (Below.trod laidOut (by kernel_rfl) (of_decide_eq_true (by kernel_rfl)) h1 bel (lt h1)) (trodAll_cons_mk (Below.trod laidOut (by kernel_rfl) (of_decide_eq_true (by kernel_rfl)) h2 bel (lt h2)) trodAll_mk0))), rfl, bel.frame _, fun h => by cases h⟩
theorem over : Rows.segLooseRow.holds Try.pinned (OpenSpec.ofChange Rows.segLooseSpec) :=
  OpenClaim.holds_of_wide 7 Try.f7 rfl rfl rfl rfl rfl rfl rfl ⟨rfl, rfl, rfl, rfl, rfl⟩ rfl rfl rfl rfl rfl (by kernel_rfl) Try.func7 (by kernel_rfl)
    (of_decide_eq_true (by kernel_rfl)) (by unfold Func.isWrapper; first | (rw [if_pos (by decide +kernel)]; kernel_rfl) | (rw [if_neg (by decide +kernel)]; exact ⟨rfl, rfl⟩))
    (fun os started H enc _ => lifted os started H enc)
end Go.Proofs.Ytabcaiecoiejkaa.segLoose
namespace Go.Proofs.Ytabcaiecoiejkaa
/-- The row, under a short name, for the claim. -/
theorem segLoose_holds : Rows.SegLooseSaid := segLoose.over
end Go.Proofs.Ytabcaiecoiejkaa
#print axioms Go.Proofs.Ytabcaiecoiejkaa.segLoose_holds
