/- What is proved: for every head of four bytes, every number and every body of sixteen bytes that the row's domain lets in, the call of aditlaw22.SocksFails returns true and its arguments read as before. No further condition. -/
import Derived.Test.YtabcaiecoiejkaaR4
import Derived.Test.YtabcaiecoiejkaaS12a
import Derived.Test.YtabcaiecoiejkaaS12b
import Derived.Test.YtabcaiecoiejkaaS12c
import Derived.Test.YtabcaiecoiejkaaS12d
set_option maxRecDepth 100000
set_option linter.unusedSimpArgs false
set_option linter.unusedVariables false
namespace Go.Proofs.Ytabcaiecoiejkaa
open Go K
theorem SocksFails_any (h0 h1 h2 h3 : Int) (l : List Int) (port : Int) (hh : Small [h0, h1, h2, h3]) (hlen : l.length = 16) (hl : Small l) (w : World) :
    Calls Try.prog 9 [.agg (u8s [h0, h1, h2, h3]).toArray, .int .i64 port, .agg (u8s l).toArray].toArray w fun e w' => e = .returned (.bool true) ∧ Mem w [] [] w' := by
  by_cases g1 : h3 = 1
  · exact SocksFails_a h0 h1 h2 h3 l port hh hlen hl w g1
  by_cases g4 : h3 = 4
  · exact SocksFails_b h0 h1 h2 h3 l port hh hlen hl w g4
  by_cases g3 : h3 = 3
  · exact SocksFails_c h0 h1 h2 h3 l port hh hlen hl w g3
  exact SocksFails_d h0 h1 h2 h3 l port hh hlen hl w g1 g4 g3
end Go.Proofs.Ytabcaiecoiejkaa
namespace Go.Proofs.Ytabcaiecoiejkaa.socksFails
open Go K Go.ChangeShapes Go.WideShapes Go.ChangeAt Go.RowKit

theorem four_list {l : List Int} (h : l.length = 4) : ∃ a b c d, l = [a, b, c, d] := by
  match l, h with
  | [a, b, c, d], _ => exact ⟨a, b, c, d, rfl⟩
theorem lifted (os : Os) (started : os.Started) (H : Type) (enc : TypeId × Value → H) :
    ReturnsInHanded {} Try.checked os 9 .any (Rows.socksFailsSpec.pre6 enc Try.prog Try.f9 Rows.socksFailsRow.domain false) (Rows.socksFailsSpec.post enc Try.prog Try.f9 false true false false) := by
  refine returnsInHanded_of_change_sized (C := Try.checked) own started (by kernel_rfl) Try.func9
    (ChangeSpec.witness6 (enc := enc) (C := Try.checked) false ⟨#[], #[.agg (u8s (List.replicate 4 0)).toArray, .int .i64 0, .agg (u8s (List.replicate 16 0)).toArray], []⟩ 8 (by kernel_rfl) (by kernel_rfl) (by kernel_rfl) (by kernel_rfl)) ?_
  intro W base args ds gs before hval0 hW hcnd hsz0 _
  have hval : ∀ (j : Nat) t v, Try.f9.params[j]? = some t → args[j]? = some v → Value.okWide Try.prog W .any base t v := hval0
  have hW' := hW
  obtain ⟨p, q, hA0, hV, rfl, hfz, hnd⟩ := hW
  have hA : DataW.TrodAll enc Try.prog W 0 (fun _ => true) true [70, 3, 22] args.toList ds p := hA0
  obtain ⟨v0, vs0, d0, ds0, p0, q0, hargs, rfl, rfl, h0, r0⟩ := trodAll_cons hA
  obtain ⟨v1, vs1, d1, ds1, p1, q1, rfl, rfl, rfl, h1, r1⟩ := trodAll_cons r0
  obtain ⟨v2, vs2, d2, ds2, p2, q2, rfl, rfl, rfl, h2, r2⟩ := trodAll_cons r1
  obtain ⟨rfl, rfl, rfl⟩ := trodAll_nil r2
  obtain rfl : args = #[v0, v1, v2] := by cases args; simp_all
  obtain ⟨rfl, rfl⟩ := trodVars_none hV
  have lt : ∀ {t : TypeId} {v : Value} {d : DataW H} {ps : List MemPlace}, DataW.Trod enc Try.prog W 0 (fun _ => true) true t v d ps → ∀ x ∈ ps, x.block < W.heap.size := by
    intro t v d ps hk
    obtain ⟨m, hm⟩ := hk
    exact DataW.trod_lt m _ _ _ hm
  obtain ⟨hd, rfl, hdl, hds⟩ := bytes_of Try.underlying70 (by kernel_rfl) (by kernel_rfl) (hval 0 70 v0 rfl rfl)
  obtain ⟨bd, rfl, hbl, hbs⟩ := bytes_of Try.underlying22 (by kernel_rfl) (by kernel_rfl) (hval 2 22 v2 rfl rfl)
  have z1 : ∃ n, v1 = .int .i64 n := by
    obtain ⟨n, rfl, _⟩ := open_int Try.underlying3 (hval 1 3 v1 rfl rfl) h1
    exact ⟨n, rfl⟩
  obtain ⟨n, rfl⟩ := z1
  obtain ⟨x0, x1, x2, x3, rfl⟩ := four_list hdl
  refine (SocksFails_any x0 x1 x2 x3 bd n hds hbl hbs W).mono fun e W' ⟨he, hm⟩ => ?_
  subst he
  have bel := Mem.below hm
  exact ⟨_, rfl, _, _, _, [], _, [], hW', trodAll_mk1 (shut_bool Try.underlying4 _),
      (trodAll_cons_mk (Below.trod laidOut (by kernel_rfl) (of_decide_eq_true (by kernel_rfl)) h0 bel (lt h0)) (trodAll_cons_mk (Below.trod laidOut (by kernel_rfl) (of_decide_eq_true (by kernel_rfl)) h1 bel (lt h1)) (trodAll_cons_mk (Below.trod laidOut (by kernel_rfl) (of_decide_eq_true (by kernel_rfl)) h2 bel (lt h2)) trodAll_mk0))), rfl, bel.frame _, fun h => by cases h⟩
theorem over : Rows.socksFailsRow.holds Try.pinned (OpenSpec.ofChange Rows.socksFailsSpec) :=
  OpenClaim.holds_of_wide 9 Try.f9 rfl rfl rfl rfl rfl rfl rfl ⟨rfl, rfl, rfl, rfl, rfl⟩ rfl rfl rfl rfl rfl (by kernel_rfl) Try.func9 (by kernel_rfl)
    (of_decide_eq_true (by kernel_rfl)) (by unfold Func.isWrapper; first | (rw [if_pos (by decide +kernel)]; kernel_rfl) | (rw [if_neg (by decide +kernel)]; exact ⟨rfl, rfl⟩))
    (fun os started H enc _ => lifted os started H enc)
end Go.Proofs.Ytabcaiecoiejkaa.socksFails
namespace Go.Proofs.Ytabcaiecoiejkaa
/-- The row, under a short name, for the claim. -/
theorem socksFails_holds : Rows.SocksFailsSaid := socksFails.over
end Go.Proofs.Ytabcaiecoiejkaa
#print axioms Go.Proofs.Ytabcaiecoiejkaa.socksFails_holds
