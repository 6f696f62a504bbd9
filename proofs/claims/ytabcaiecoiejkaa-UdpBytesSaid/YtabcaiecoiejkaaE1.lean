/- What is proved: for every two addresses, every datagram and every string of bytes that the row's domain lets in, the call of aditlaw16.UdpBytes returns true and its arguments read as before. No further condition. -/
import Derived.Test.YtabcaiecoiejkaaD3
import Derived.Test.YtabcaiecoiejkaaR1
set_option maxRecDepth 100000
set_option linter.unusedSimpArgs false
set_option linter.unusedVariables false
namespace Go.Proofs.Ytabcaiecoiejkaa.udpBytes
open Go K Go.ChangeShapes Go.WideShapes Go.ChangeAt Go.RowKit
open Go.ChangeMaps (open_string shut_string)

theorem lifted (os : Os) (started : os.Started) (H : Type) (enc : TypeId × Value → H) :
    ReturnsInHanded {} Try.checked os 3 .any (Rows.udpBytesSpec.pre6 enc Try.prog Try.f3 Rows.udpBytesRow.domain false) (Rows.udpBytesSpec.post enc Try.prog Try.f3 false true false false) := by
  refine returnsInHanded_of_change_sized (C := Try.checked) own started (by kernel_rfl) Try.func3
    (ChangeSpec.witness6 (enc := enc) (C := Try.checked) false ⟨#[], #[.agg ((Adr.cells ⟨false, fun _ => 0⟩) ++ (Adr.cells ⟨false, fun _ => 0⟩)).toArray, .agg #[.int .i64 0, .int .i64 0, .string ByteArray.empty], .string ByteArray.empty], []⟩ 8 (by kernel_rfl) (by kernel_rfl) (by kernel_rfl) (by kernel_rfl)) ?_
  intro W base args ds gs before hval0 hW hcnd hsz0 _
  have hsz : (DataW.weightsEach Try.prog (Try.f3.params.toList ++ Rows.udpBytesSpec.plain.varTypes Try.prog) (ds ++ gs)).all (· ≤ reachBytes) = true := hsz0
  have hval : ∀ (j : Nat) t v, Try.f3.params[j]? = some t → args[j]? = some v → Value.okWide Try.prog W .any base t v := hval0
  have hW' := hW
  obtain ⟨p, q, hA0, hV, rfl, hfz, hnd⟩ := hW
  have hA : DataW.TrodAll enc Try.prog W 0 (fun _ => true) true [26, 28, 9] args.toList ds p := hA0
  obtain ⟨v0, vs0, d0, ds0, p0, q0, hargs, rfl, rfl, h0, r0⟩ := trodAll_cons hA
  obtain ⟨v1, vs1, d1, ds1, p1, q1, rfl, rfl, rfl, h1, r1⟩ := trodAll_cons r0
  obtain ⟨v2, vs2, d2, ds2, p2, q2, rfl, rfl, rfl, h2, r2⟩ := trodAll_cons r1
  obtain ⟨rfl, rfl, rfl⟩ := trodAll_nil r2
  obtain rfl : args = #[v0, v1, v2] := by cases args; simp_all
  obtain ⟨rfl, rfl⟩ := trodVars_none hV
  have lt : ∀ {t : TypeId} {v : Value} {d : DataW H} {ps : List MemPlace}, DataW.Trod enc Try.prog W 0 (fun _ => true) true t v d ps → ∀ x ∈ ps, x.block < W.heap.size := by
    intro t v d ps hk
    obtain ⟨m, hm⟩ := hk
    exact DataW.trod_lt m _ _ _ hm
  have z2 : ∃ y, v2 = .string y ∧ y.size ≤ reachBytes := by
    obtain ⟨a2, rfl, rfl, rfl, y2⟩ := open_string Try.underlying9 (hval 2 9 v2 rfl rfl) h2
    refine ⟨a2, rfl, ?_⟩
    have z := sized_string hsz (j := 2) (t := 9) rfl rfl
    rw [Array.length_toList] at z
    exact z
  obtain ⟨y, rfl, hy⟩ := z2
  obtain ⟨c0, rfl, o0⟩ := cells_of_okWide Try.underlying26 (ts := (4 :: List.replicate 16 5) ++ (4 :: List.replicate 16 5)) (by kernel_rfl) (by kernel_rfl) (hval 0 26 v0 rfl rfl)
  obtain ⟨e1, e2, rfl, g1, g2⟩ := cellsOk_app _ _ _ o0
  obtain ⟨a, rfl, ha⟩ := adr_of g1
  obtain ⟨a', rfl, ha'⟩ := adr_of g2
  obtain ⟨c1, rfl, o1⟩ := cells_of_okWide Try.underlying28 (ts := [3, 3, 9]) (by kernel_rfl) (by kernel_rfl) (hval 1 28 v1 rfl rfl)
  obtain ⟨s0, s1, s2, rfl, o1, o2, o3⟩ := cells3 o1
  obtain ⟨s, rfl, hs⟩ := cell_int Try.underlying3 o1
  obtain ⟨d, rfl, hd⟩ := cell_int Try.underlying3 o2
  obtain ⟨x, rfl, hx0⟩ := cell_string Try.underlying9 o3
  have hx : x.size ≤ reachBytes := struct_string hsz (j := 1) (t := 28) rfl rfl Try.underlying28 h1 2 rfl Try.underlying9 (by rfl)
  have hr := reachBytes_lt
  refine (UdpBytes_any a a' s d x y W (by omega) (by omega)).mono fun e W' ⟨he, hm⟩ => ?_
  subst he
  have bel := Mem.below hm
  exact ⟨_, rfl, _, _, _, [], _, [], hW', trodAll_mk1 (shut_bool Try.underlying4 _),
      (trodAll_cons_mk (Below.trod laidOut (by kernel_rfl) (of_decide_eq_true (by kernel_rfl)) h0 bel (lt h0)) (trodAll_cons_mk (Below.trod laidOut (by kernel_rfl) (of_decide_eq_true (by kernel_rfl)) h1 bel (lt h1)) (trodAll_cons_mk (Below.trod laidOut (by kernel_rfl) (of_decide_eq_true (by kernel_rfl)) h2 bel (lt h2)) trodAll_mk0))), rfl, bel.frame _, fun h => by cases h⟩
theorem over : Rows.udpBytesRow.holds Try.pinned (OpenSpec.ofChange Rows.udpBytesSpec) :=
  OpenClaim.holds_of_wide 3 Try.f3 rfl rfl rfl rfl rfl rfl rfl ⟨rfl, rfl, rfl, rfl, rfl⟩ rfl rfl rfl rfl rfl (by kernel_rfl) Try.func3 (by kernel_rfl)
    (of_decide_eq_true (by kernel_rfl)) (by unfold Func.isWrapper; first | (rw [if_pos (by decide +kernel)]; kernel_rfl) | (rw [if_neg (by decide +kernel)]; exact ⟨rfl, rfl⟩))
    (fun os started H enc _ => lifted os started H enc)
end Go.Proofs.Ytabcaiecoiejkaa.udpBytes
namespace Go.Proofs.Ytabcaiecoiejkaa
/-- The row, under a short name, for the claim. -/
theorem udpBytes_holds : Rows.UdpBytesSaid := udpBytes.over
end Go.Proofs.Ytabcaiecoiejkaa
#print axioms Go.Proofs.Ytabcaiecoiejkaa.udpBytes_holds
