/- What is proved: for every string and every number that the row's domain lets in, the call of aditlaw22.SocksNil returns true and its arguments read as before. No further condition. -/
import Derived.Test.YtabcaiecoiejkaaR1
import Derived.Test.YtabcaiecoiejkaaS10
set_option maxRecDepth 100000
set_option linter.unusedSimpArgs false
set_option linter.unusedVariables false
namespace Go.Proofs.Ytabcaiecoiejkaa.socksNil
open Go K Go.ChangeShapes Go.WideShapes Go.ChangeAt Go.RowKit
open Go.ChangeMaps (open_string shut_string)

theorem lifted (os : Os) (started : os.Started) (H : Type) (enc : TypeId × Value → H) :
    ReturnsInHanded {} Try.checked os 13 .any (Rows.socksNilSpec.pre6 enc Try.prog Try.f13 Rows.socksNilRow.domain false) (Rows.socksNilSpec.post enc Try.prog Try.f13 false true false false) := by
  refine returnsInHanded_of_change_sized (C := Try.checked) own started (by kernel_rfl) Try.func13
    (ChangeSpec.witness6 (enc := enc) (C := Try.checked) false ⟨#[], #[.string ByteArray.empty, .int .i64 0], []⟩ 8 (by kernel_rfl) (by kernel_rfl) (by kernel_rfl) (by kernel_rfl)) ?_
  intro W base args ds gs before hval0 hW hcnd hsz0 _
  have hval : ∀ (j : Nat) t v, Try.f13.params[j]? = some t → args[j]? = some v → Value.okWide Try.prog W .any base t v := hval0
  have hW' := hW
  obtain ⟨p, q, hA0, hV, rfl, hfz, hnd⟩ := hW
  have hA : DataW.TrodAll enc Try.prog W 0 (fun _ => true) true [9, 3] args.toList ds p := hA0
  obtain ⟨v0, vs0, d0, ds0, p0, q0, hargs, rfl, rfl, h0, r0⟩ := trodAll_cons hA
  obtain ⟨v1, vs1, d1, ds1, p1, q1, rfl, rfl, rfl, h1, r1⟩ := trodAll_cons r0
  obtain ⟨rfl, rfl, rfl⟩ := trodAll_nil r1
  obtain rfl : args = #[v0, v1] := by cases args; simp_all
  obtain ⟨rfl, rfl⟩ := trodVars_none hV
  have lt : ∀ {t : TypeId} {v : Value} {d : DataW H} {ps : List MemPlace}, DataW.Trod enc Try.prog W 0 (fun _ => true) true t v d ps → ∀ x ∈ ps, x.block < W.heap.size := by
    intro t v d ps hk
    obtain ⟨m, hm⟩ := hk
    exact DataW.trod_lt m _ _ _ hm
  have z0 : ∃ s, v0 = .string s := by
    obtain ⟨a2, rfl, _⟩ := open_string Try.underlying9 (hval 0 9 v0 rfl rfl) h0
    exact ⟨a2, rfl⟩
  obtain ⟨s, rfl⟩ := z0
  have z1 : ∃ n, v1 = .int .i64 n := by
    obtain ⟨n, rfl, _⟩ := open_int Try.underlying3 (hval 1 3 v1 rfl rfl) h1
    exact ⟨n, rfl⟩
  obtain ⟨n, rfl⟩ := z1
  refine (SocksNil_any s n W).mono fun e W' ⟨he, hm⟩ => ?_
  subst he
  have bel := Mem.below hm
  exact ⟨_, rfl, _, _, _, [], _, [], hW', trodAll_mk1 (shut_bool Try.underlying4 _),
      (trodAll_cons_mk (Below.trod laidOut (by kernel_rfl) (of_decide_eq_true (by kernel_rfl)) h0 bel (lt h0)) (trodAll_cons_mk (Below.trod laidOut (by kernel_rfl) (of_decide_eq_true (by kernel_rfl)) h1 bel (lt h1)) trodAll_mk0)), rfl, bel.frame _, fun h => by cases h⟩
theorem over : Rows.socksNilRow.holds Try.pinned (OpenSpec.ofChange Rows.socksNilSpec) :=
  OpenClaim.holds_of_wide 13 Try.f13 rfl rfl rfl rfl rfl rfl rfl ⟨rfl, rfl, rfl, rfl, rfl⟩ rfl rfl rfl rfl rfl (by kernel_rfl) Try.func13 (by kernel_rfl)
    (of_decide_eq_true (by kernel_rfl)) (by unfold Func.isWrapper; first | (rw [if_pos (by decide +kernel)]; kernel_rfl) | (rw [if_neg (by decide +kernel)]; exact ⟨rfl, rfl⟩))
    (fun os started H enc _ => lifted os started H enc)
end Go.Proofs.Ytabcaiecoiejkaa.socksNil
namespace Go.Proofs.Ytabcaiecoiejkaa
/-- The row, under a short name, for the claim. -/
theorem socksNil_holds : Rows.SocksNilSaid := socksNil.over
end Go.Proofs.Ytabcaiecoiejkaa
#print axioms Go.Proofs.Ytabcaiecoiejkaa.socksNil_holds
