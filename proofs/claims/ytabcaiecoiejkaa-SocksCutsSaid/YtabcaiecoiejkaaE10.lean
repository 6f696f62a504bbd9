/- What is proved: for every configuration, every string and every slice of numbers that the row's domain lets in, the call of aditlaw22.SocksCuts returns true and its arguments read as before. No further condition. -/
import Derived.Test.YtabcaiecoiejkaaR6
import Derived.Test.YtabcaiecoiejkaaS24
import Derived.Test.YtabcaiecoiejkaaR7
set_option maxRecDepth 100000
set_option linter.unusedSimpArgs false
set_option linter.unusedVariables false
namespace Go.Proofs.Ytabcaiecoiejkaa.socksCuts
open Go K Go.ChangeShapes Go.WideShapes Go.ChangeAt Go.RowKit Go.ChangeMaps

theorem lifted (os : Os) (started : os.Started) (H : Type) (enc : TypeId × Value → H) :
    ReturnsInHanded {} Try.checked os 8 .any (Rows.socksCutsSpec.pre6 enc Try.prog Try.f8 Rows.socksCutsRow.domain false) (Rows.socksCutsSpec.post enc Try.prog Try.f8 false true false false) := by
  refine returnsInHanded_of_change_sized (C := Try.checked) own started (by kernel_rfl) Try.func8
    (ChangeSpec.witness6 (enc := enc) (C := Try.checked) false ⟨#[], #[.agg #[.string noX, .string noX, .slice none 0 0], .string noX, .slice none 0 0], []⟩ 8 (by kernel_rfl) (by kernel_rfl) (by kernel_rfl) (by kernel_rfl)) ?_
  intro W base args ds gs before hval0 hW hcnd hsz0 _
  have hval : ∀ (j : Nat) t v, Try.f8.params[j]? = some t → args[j]? = some v → Value.okWide Try.prog W .any base t v := hval0
  have hW' := hW
  obtain ⟨p, q, hA0, hV, rfl, hfz, hnd⟩ := hW
  have hA : DataW.TrodAll enc Try.prog W 0 (fun _ => true) true [59, 9, 48] args.toList ds p := hA0
  have hsz : (DataW.weightsEach Try.prog (Try.f8.params.toList ++ Rows.socksCutsSpec.plain.varTypes Try.prog) (ds ++ gs)).all (· ≤ reachBytes) = true := hsz0
  obtain ⟨v0, vs0, d0, ds0, p0, q0, hargs, rfl, rfl, h0, r0⟩ := trodAll_cons hA
  obtain ⟨v1, vs1, d1, ds1, p1, q1, rfl, rfl, rfl, h1, r1⟩ := trodAll_cons r0
  obtain ⟨v2, vs2, d2, ds2, p2, q2, rfl, rfl, rfl, h2, r2⟩ := trodAll_cons r1
  obtain ⟨rfl, rfl, rfl⟩ := trodAll_nil r2
  obtain rfl : args = #[v0, v1, v2] := by cases args; simp_all
  obtain ⟨rfl, rfl⟩ := trodVars_none hV
  have lt : ∀ {t : TypeId} {v : Value} {d : DataW H} {ps : List MemPlace}, DataW.Trod enc Try.prog W 0 (fun _ => true) true t v d ps → ∀ x ∈ ps, x.block < W.heap.size := by
    intro t v d ps hk
    obtain ⟨m, hm⟩ := hk
    exact DataW.trod_lt m _ _ _ hm
  have hr := reachBytes_lt
  have z1 : ∃ s, v1 = .string s ∧ s.size ≤ reachBytes := by
    obtain ⟨a2, rfl, rfl, rfl, y2⟩ := open_string Try.underlying9 (hval 1 9 v1 rfl rfl) h1
    refine ⟨a2, rfl, ?_⟩
    have z := sized_string hsz (j := 1) (t := 9) rfl rfl
    rw [Array.length_toList] at z
    exact z
  obtain ⟨s, rfl, hs⟩ := z1
  obtain ⟨user, pass, nv, ns, rfl, hn, hns⟩ := config_param (hval 0 59 v0 rfl rfl) h0 hsz (j := 0) rfl rfl
  have z2 : ∃ (a : Option Addr) (ct : List Int) (cap : Nat), v2 = .slice a ct.length cap ∧ IntsAt W [] a ct := by
    rcases ints_param0 Try.underlying48 (hval 2 48 v2 rfl rfl) h2 hsz (j := 2) rfl rfl with ⟨a, cap, rfl⟩ | ⟨b, off, cap, fs, rfl, hc, hr2, hl2⟩
    · exact ⟨a, [], cap, rfl, 0, 0, .inl rfl, Nat.zero_le _, fun i m hi => by simp at hi⟩
    · exact ⟨some ⟨b, off, none⟩, fs, cap, rfl, b, off, .inr ⟨rfl, by simp⟩, by omega, fun i m hi => ⟨hr2 m (List.mem_of_getElem? hi), hc i m hi⟩⟩
  obtain ⟨a, ct, cap, rfl, hct⟩ := z2
  refine (SocksCuts_any user pass nv ns s (by omega) a ct cap W hn hns hct).mono fun e W' ⟨he, hm⟩ => ?_
  subst he
  have bel := Mem.below hm
  exact ⟨_, rfl, _, _, _, [], _, [], hW', trodAll_mk1 (shut_bool Try.underlying4 _),
      (trodAll_cons_mk (Below.trod laidOut (by kernel_rfl) (of_decide_eq_true (by kernel_rfl)) h0 bel (lt h0)) (trodAll_cons_mk (Below.trod laidOut (by kernel_rfl) (of_decide_eq_true (by kernel_rfl)) h1 bel (lt h1)) (trodAll_cons_mk (Below.trod laidOut (by kernel_rfl) (of_decide_eq_true (by kernel_rfl)) h2 bel (lt h2)) trodAll_mk0))), rfl, bel.frame _, fun h => by cases h⟩
theorem over : Rows.socksCutsRow.holds Try.pinned (OpenSpec.ofChange Rows.socksCutsSpec) :=
  OpenClaim.holds_of_wide 8 Try.f8 rfl rfl rfl rfl rfl rfl rfl ⟨rfl, rfl, rfl, rfl, rfl⟩ rfl rfl rfl rfl rfl (by kernel_rfl) Try.func8 (by kernel_rfl)
    (of_decide_eq_true (by kernel_rfl)) (by unfold Func.isWrapper; first | (rw [if_pos (by decide +kernel)]; kernel_rfl) | (rw [if_neg (by decide +kernel)]; exact ⟨rfl, rfl⟩))
    (fun os started H enc _ => lifted os started H enc)
end Go.Proofs.Ytabcaiecoiejkaa.socksCuts
namespace Go.Proofs.Ytabcaiecoiejkaa
/-- The row, under a short name, for the claim. -/
theorem socksCuts_holds : Rows.SocksCutsSaid := socksCuts.over
end Go.Proofs.Ytabcaiecoiejkaa
#print axioms Go.Proofs.Ytabcaiecoiejkaa.socksCuts_holds
