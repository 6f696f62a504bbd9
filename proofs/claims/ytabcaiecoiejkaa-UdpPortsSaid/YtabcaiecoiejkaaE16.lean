/- What is proved: for every script that the row's domain lets in, the call of aditlaw16.UdpPorts returns true and its arguments read as before. No further condition. -/
import Derived.Test.YtabcaiecoiejkaaW7
import Derived.Test.YtabcaiecoiejkaaW6
set_option maxRecDepth 100000
set_option linter.unusedSimpArgs false
set_option linter.unusedVariables false
namespace Go.Proofs.Ytabcaiecoiejkaa.udpPorts
open Go K Go.ChangeShapes Go.WideShapes Go.ChangeAt Go.RowKit Go.ChangeMaps

theorem lifted (os : Os) (started : os.Started) (H : Type) (enc : TypeId × Value → H) :
    ReturnsInHanded {} Try.checked os 15 .any (Rows.udpPortsSpec.pre6 enc Try.prog Try.f15 Rows.udpPortsRow.domain false) (Rows.udpPortsSpec.post enc Try.prog Try.f15 false true false false) := by
  refine returnsInHanded_of_change_sized (C := Try.checked) own started (by kernel_rfl) Try.func15
    (ChangeSpec.witness6 (enc := enc) (C := Try.checked) false ⟨#[], #[.slice none 0 0], []⟩ 15 (by kernel_rfl) (by kernel_rfl) (by kernel_rfl) (by kernel_rfl)) ?_
  intro W base args ds gs before hval0 hW hcnd hsz0 _
  have hval : ∀ (j : Nat) t v, Try.f15.params[j]? = some t → args[j]? = some v → Value.okWide Try.prog W .any base t v := hval0
  have hW' := hW
  obtain ⟨p, q, hA0, hV, rfl, hfz, hnd⟩ := hW
  have hA : DataW.TrodAll enc Try.prog W 0 (fun _ => true) true [109] args.toList ds p := hA0
  have hsz : (DataW.weightsEach Try.prog (Try.f15.params.toList ++ Rows.udpPortsSpec.plain.varTypes Try.prog) (ds ++ gs)).all (· ≤ reachBytes) = true := hsz0
  obtain ⟨v0, vs0, d0, ds0, p0, q0, hargs, rfl, rfl, h0, r0⟩ := trodAll_cons hA
  obtain ⟨rfl, rfl, rfl⟩ := trodAll_nil r0
  obtain rfl : args = #[v0] := by cases args; simp_all
  obtain ⟨rfl, rfl⟩ := trodVars_none hV
  have lt : ∀ {t : TypeId} {v : Value} {d : DataW H} {ps : List MemPlace}, DataW.Trod enc Try.prog W 0 (fun _ => true) true t v d ps → ∀ x ∈ ps, x.block < W.heap.size := by
    intro t v d ps hk
    obtain ⟨m, hm⟩ := hk
    exact DataW.trod_lt m _ _ _ hm
  obtain ⟨qs, a, bs, off, cap, rfl, hqa, hql, hqc⟩ := oqs_paramC Try.underlying109 (hval 0 109 v0 rfl rfl) h0 hsz (j := 0) rfl rfl
  refine (UdpPorts_any a qs cap bs off hqa hql W hqc).mono fun e W' ⟨he, hm⟩ => ?_
  subst he
  have bel := Mem.below hm
  exact ⟨_, rfl, _, _, _, [], _, [], hW', trodAll_mk1 (shut_bool Try.underlying4 _),
      (trodAll_cons_mk (Below.trod laidOut (by kernel_rfl) (of_decide_eq_true (by kernel_rfl)) h0 bel (lt h0)) trodAll_mk0), rfl, bel.frame _, fun h => by cases h⟩
theorem over : Rows.udpPortsRow.holds Try.pinned (OpenSpec.ofChange Rows.udpPortsSpec) :=
  OpenClaim.holds_of_wide 15 Try.f15 rfl rfl rfl rfl rfl rfl rfl ⟨rfl, rfl, rfl, rfl, rfl⟩ rfl rfl rfl rfl rfl (by kernel_rfl) Try.func15 (by kernel_rfl)
    (of_decide_eq_true (by kernel_rfl)) (by unfold Func.isWrapper; first | (rw [if_pos (by decide +kernel)]; kernel_rfl) | (rw [if_neg (by decide +kernel)]; exact ⟨rfl, rfl⟩))
    (fun os started H enc _ => lifted os started H enc)
end Go.Proofs.Ytabcaiecoiejkaa.udpPorts
namespace Go.Proofs.Ytabcaiecoiejkaa
/-- The row, under a short name, for the claim. -/
theorem udpPorts_holds : Rows.UdpPortsSaid := udpPorts.over
end Go.Proofs.Ytabcaiecoiejkaa
#print axioms Go.Proofs.Ytabcaiecoiejkaa.udpPorts_holds
