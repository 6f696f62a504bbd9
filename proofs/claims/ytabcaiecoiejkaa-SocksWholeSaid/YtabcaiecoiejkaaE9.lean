/- What is proved: for every configuration and every string that the row's domain lets in, the call of aditlaw22.SocksWhole returns true and its arguments read as before. No further condition. -/
import Derived.Test.YtabcaiecoiejkaaR6
import Derived.Test.YtabcaiecoiejkaaS22
set_option maxRecDepth 100000
set_option linter.unusedSimpArgs false
set_option linter.unusedVariables false
namespace Go.Proofs.Ytabcaiecoiejkaa.socksWhole
open Go K Go.ChangeShapes Go.WideShapes Go.ChangeAt Go.RowKit Go.ChangeMaps

theorem lifted (os : Os) (started : os.Started) (H : Type) (enc : TypeId × Value → H) :
    ReturnsInHanded {} Try.checked os 10 .any (Rows.socksWholeSpec.pre6 enc Try.prog Try.f10 Rows.socksWholeRow.domain false) (Rows.socksWholeSpec.post enc Try.prog Try.f10 false true false false) := by
  refine returnsInHanded_of_change_sized (C := Try.checked) own started (by kernel_rfl) Try.func10
    (ChangeSpec.witness6 (enc := enc) (C := Try.checked) false ⟨#[], #[.agg #[.string noX, .string noX, .slice none 0 0], .string noX], []⟩ 8 (by kernel_rfl) (by kernel_rfl) (by kernel_rfl) (by kernel_rfl)) ?_
  intro W base args ds gs before hval0 hW hcnd hsz0 _
  have hval : ∀ (j : Nat) t v, Try.f10.params[j]? = some t → args[j]? = some v → Value.okWide Try.prog W .any base t v := hval0
  have hW' := hW
  obtain ⟨p, q, hA0, hV, rfl, hfz, hnd⟩ := hW
  have hA : DataW.TrodAll enc Try.prog W 0 (fun _ => true) true [59, 9] args.toList ds p := hA0
  have hsz : (DataW.weightsEach Try.prog (Try.f10.params.toList ++ Rows.socksWholeSpec.plain.varTypes Try.prog) (ds ++ gs)).all (· ≤ reachBytes) = true := hsz0
  obtain ⟨v0, vs0, d0, ds0, p0, q0, hargs, rfl, rfl, h0, r0⟩ := trodAll_cons hA
  obtain ⟨v1, vs1, d1, ds1, p1, q1, rfl, rfl, rfl, h1, r1⟩ := trodAll_cons r0
  obtain ⟨rfl, rfl, rfl⟩ := trodAll_nil r1
  obtain rfl : args = #[v0, v1] := by cases args; simp_all
  obtain ⟨rfl, rfl⟩ := trodVars_none hV
  have lt : ∀ {t : TypeId} {v : Value} {d : DataW H} {ps : List MemPlace}, DataW.Trod enc Try.prog W 0 (fun _ => true) true t v d ps → ∀ x ∈ ps, x.block < W.heap.size := by
    intro t v d ps hk
    obtain ⟨m, hm⟩ := hk
    exact DataW.trod_lt m _ _ _ hm
  have hr := reachBytes_lt
  have z1 : ∃ s, v1 = .string s ∧ s.size ≤ reachBytes := by
    obtain ⟨a2, rfl, rfl, rfl, y2⟩ := open_string Try.underlying9 (hval 1 9 v1 rfl rfl) h1
    refine ⟨a2, rfl, ?_⟩
    have z := sized_string hsz (j := 1) (t := 9) rfl rfl
    rw [Array.length_toList] at z
    exact z
  obtain ⟨s, rfl, hs⟩ := z1
  obtain ⟨user, pass, nv, ns, rfl, hn, hns⟩ := config_param (hval 0 59 v0 rfl rfl) h0 hsz (j := 0) rfl rfl
  refine (SocksWhole_any user pass nv ns s (by omega) W hn hns).mono fun e W' ⟨he, hm⟩ => ?_
  subst he
  have bel := Mem.below hm
  exact ⟨_, rfl, _, _, _, [], _, [], hW', trodAll_mk1 (shut_bool Try.underlying4 _),
      (trodAll_cons_mk (Below.trod laidOut (by kernel_rfl) (of_decide_eq_true (by kernel_rfl)) h0 bel (lt h0)) (trodAll_cons_mk (Below.trod laidOut (by kernel_rfl) (of_decide_eq_true (by kernel_rfl)) h1 bel (lt h1)) trodAll_mk0)), rfl, bel.frame _, fun h => by cases h⟩
theorem over : Rows.socksWholeRow.holds Try.pinned (OpenSpec.ofChange Rows.socksWholeSpec) :=
  OpenClaim.holds_of_wide 10 Try.f10 rfl rfl rfl rfl rfl rfl rfl ⟨rfl, rfl, rfl, rfl, rfl⟩ rfl rfl rfl rfl rfl (by kernel_rfl) Try.func10 (by kernel_rfl)
    (of_decide_eq_true (by kernel_rfl)) (by unfold Func.isWrapper; first | (rw [if_pos (by decide +kernel)]; kernel_rfl) | (rw [if_neg (by decide +kernel)]; exact ⟨rfl, rfl⟩))
    (fun os started H enc _ => lifted os started H enc)
end Go.Proofs.Ytabcaiecoiejkaa.socksWhole
namespace Go.Proofs.Ytabcaiecoiejkaa
/-- The row, under a short name, for the claim. -/
theorem socksWhole_holds : Rows.SocksWholeSaid := socksWhole.over
end Go.Proofs.Ytabcaiecoiejkaa
#print axioms Go.Proofs.Ytabcaiecoiejkaa.socksWhole_holds
