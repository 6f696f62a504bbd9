/- What is proved: for every depth and every slice of numbers that the row's domain lets in, the call of aditlaw16.UdpOnce returns true and its arguments read as before. No further condition. -/
import Derived.Test.YtabcaiecoiejkaaU3
import Derived.Test.YtabcaiecoiejkaaR8
set_option maxRecDepth 100000
set_option linter.unusedSimpArgs false
set_option linter.unusedVariables false
namespace Go.Proofs.Ytabcaiecoiejkaa.udpOnce
open Go K Go.ChangeShapes Go.WideShapes Go.ChangeAt Go.RowKit Go.ChangeMaps

theorem lifted (os : Os) (started : os.Started) (H : Type) (enc : TypeId × Value → H) :
    ReturnsInHanded {} Try.checked os 14 .any (Rows.udpOnceSpec.pre6 enc Try.prog Try.f14 Rows.udpOnceRow.domain false) (Rows.udpOnceSpec.post enc Try.prog Try.f14 false true false false) := by
  refine returnsInHanded_of_change_sized (C := Try.checked) own started (by kernel_rfl) Try.func14
    (ChangeSpec.witness6 (enc := enc) (C := Try.checked) false ⟨#[], #[.int .i64 0, .slice none 0 0], []⟩ 14 (by kernel_rfl) (by kernel_rfl) (by kernel_rfl) (by kernel_rfl)) ?_
  intro W base args ds gs before hval0 hW hcnd hsz0 _
  have hval : ∀ (j : Nat) t v, Try.f14.params[j]? = some t → args[j]? = some v → Value.okWide Try.prog W .any base t v := hval0
  have hW' := hW
  obtain ⟨p, q, hA0, hV, rfl, hfz, hnd⟩ := hW
  have hA : DataW.TrodAll enc Try.prog W 0 (fun _ => true) true [3, 48] args.toList ds p := hA0
  have hsz : (DataW.weightsEach Try.prog (Try.f14.params.toList ++ Rows.udpOnceSpec.plain.varTypes Try.prog) (ds ++ gs)).all (· ≤ reachBytes) = true := hsz0
  obtain ⟨v0, vs0, d0, ds0, p0, q0, hargs, rfl, rfl, h0, r0⟩ := trodAll_cons hA
  obtain ⟨v1, vs1, d1, ds1, p1, q1, rfl, rfl, rfl, h1, r1⟩ := trodAll_cons r0
  obtain ⟨rfl, rfl, rfl⟩ := trodAll_nil r1
  obtain rfl : args = #[v0, v1] := by cases args; simp_all
  obtain ⟨rfl, rfl⟩ := trodVars_none hV
  have lt : ∀ {t : TypeId} {v : Value} {d : DataW H} {ps : List MemPlace}, DataW.Trod enc Try.prog W 0 (fun _ => true) true t v d ps → ∀ x ∈ ps, x.block < W.heap.size := by
    intro t v d ps hk
    obtain ⟨m, hm⟩ := hk
    exact DataW.trod_lt m _ _ _ hm
  have hr := reachBytes_lt
  have z0 : ∃ n : Int, v0 = .int .i64 n := by
    obtain ⟨n, h2, h3⟩ := open_int Try.underlying3 (hval 0 3 v0 rfl rfl) h0
    exact ⟨n, h2⟩
  obtain ⟨dep, rfl⟩ := z0
  have z1 : ∃ (a : Option Addr) (ct : List Int) (cap bc off : Nat), v1 = .slice a ct.length cap ∧ (ct = [] ∨ a = some ⟨bc, off, none⟩) ∧ ct.length ≤ 1000000000000000 ∧ ∀ (i : Nat) m, ct[i]? = some m → okJ m ∧ W.cell? ⟨bc, off + i, none⟩ = some (.int .i64 m) := by
    rcases ints_paramJ Try.underlying48 (hval 1 48 v1 rfl rfl) h1 hsz (j := 1) rfl rfl with ⟨a, cap, rfl⟩ | ⟨b, off, cap, fs, rfl, hc, hr2, hl2⟩
    · exact ⟨a, [], cap, 0, 0, rfl, .inl rfl, Nat.zero_le _, fun i m hi => by simp at hi⟩
    · exact ⟨some ⟨b, off, none⟩, fs, cap, b, off, rfl, .inr rfl, by omega, fun i m hi => ⟨hr2 m (List.mem_of_getElem? hi), hc i m hi⟩⟩
  obtain ⟨a, ct, cap, bc, off, rfl, hca, hcl, hct⟩ := z1
  refine (UdpOnce_any dep a ct cap bc off hca hcl W hct).mono fun e W' ⟨he, hm⟩ => ?_
  subst he
  have bel := Mem.below hm
  exact ⟨_, rfl, _, _, _, [], _, [], hW', trodAll_mk1 (shut_bool Try.underlying4 _),
      (trodAll_cons_mk (Below.trod laidOut (by kernel_rfl) (of_decide_eq_true (by kernel_rfl)) h0 bel (lt h0)) (trodAll_cons_mk (Below.trod laidOut (by kernel_rfl) (of_decide_eq_true (by kernel_rfl)) h1 bel (lt h1)) trodAll_mk0)), rfl, bel.frame _, fun h => by cases h⟩
theorem over : Rows.udpOnceRow.holds Try.pinned (OpenSpec.ofChange Rows.udpOnceSpec) :=
  OpenClaim.holds_of_wide 14 Try.f14 rfl rfl rfl rfl rfl rfl rfl ⟨rfl, rfl, rfl, rfl, rfl⟩ rfl rfl rfl rfl rfl (by kernel_rfl) Try.func14 (by kernel_rfl)
    (of_decide_eq_true (by kernel_rfl)) (by unfold Func.isWrapper; first | (rw [if_pos (by decide +kernel)]; kernel_rfl) | (rw [if_neg (by decide +kernel)]; exact ⟨rfl, rfl⟩))
    (fun os started H enc _ => lifted os started H enc)
end Go.Proofs.Ytabcaiecoiejkaa.udpOnce
namespace Go.Proofs.Ytabcaiecoiejkaa
/-- The row, under a short name, for the claim. -/
theorem udpOnce_holds : Rows.UdpOnceSaid := udpOnce.over
end Go.Proofs.Ytabcaiecoiejkaa
#print axioms Go.Proofs.Ytabcaiecoiejkaa.udpOnce_holds
