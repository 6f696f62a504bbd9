/- Plain: three sets of ports side by side; how many ports are open. -/
import Derived.Test.YtabcaiecoiejkaaU7
import Derived.Test.YtabcaiecoiejkaaK19
set_option maxRecDepth 100000
set_option linter.unusedSimpArgs false
set_option linter.unusedVariables false
namespace Go.Proofs.Ytabcaiecoiejkaa
open Go K

theorem StrsAt.now {w w1 : World} {L S : Mm} {ia : Option Addr} {l : List ByteArray} (h : StrsAt w [] ia l) (hm : Mem w [] L w1) (hs : ∀ p ∈ S, p ∈ L) : StrsAt w1 (S.map (·.1)) ia l := by
  obtain ⟨bi, ioff, h1, h2, h3⟩ := h
  refine ⟨bi, ioff, ?_, h2, fun j x hx => hm.cellB (h3 j x hx) (by simp)⟩
  rcases h1 with h1 | ⟨h1, _⟩
  · exact .inl h1
  · cases l with
    | nil => exact .inl rfl
    | cons y l =>
      refine .inr ⟨h1, fun hb => ?_⟩
      obtain ⟨p, hp, hpb⟩ := List.mem_map.1 hb
      have hlt := World.block_lt_of_cell? w _ (h3 0 y rfl)
      simp only at hlt
      rcases hm.kept p (hs p hp) with hk | hk
      · cases hk
      · omega
/-- a call of one set of ports, the others beside it -/
theorem at3 {f : Nat} {args : List Value} {x : Pq} {v : Value} {n : Int} {r : Vw} {w0 w : World} {ks : List Nat} {L R : Mm} (hm : Mem w0 ks L w) (hp : (mQ x ++ R).Perm L) (T : Mm → Mm) (hT : ∀ S, (T S).Perm (S ++ R))
    (h : Mem w ((mQ x).map (·.1)) (mQ x) w → Calls Try.prog f args.toArray w fun e w' => ∃ x' : Pq, Stp x x' n r ∧ e = .returned v ∧ Mem w ((mQ x).map (·.1)) (mQ x') w') :
    Calls Try.prog f args.toArray w fun e w' => ∃ x' : Pq, Stp x x' n r ∧ e = .returned v ∧ Mem w0 ks (T (mQ x')) w' := by
  have hm2 := hm.perm hp
  refine (h (Mem.now (S := mQ x) (R := R) hm2)).mono fun e w' ⟨x', hs, he, hm'⟩ => ⟨x', hs, he, ?_⟩
  exact (Mem.call (S := mQ x) (S' := mQ x') (R := R) hm2 hm').perm (hT _)
theorem at3q {f : Nat} {args : List Value} {S : Mm} {v : Value} {w0 w : World} {ks : List Nat} {L R : Mm} (hm : Mem w0 ks L w) (hp : (S ++ R).Perm L) (h : MQ f args S v) : Calls Try.prog f args.toArray w fun e w' => e = .returned v ∧ Mem w [] [] w' :=
  h w (Mem.now (S := S) (R := R) (hm.perm hp))
theorem px3 (Q X K : Mm) : (X ++ (Q ++ K)).Perm (Q ++ (X ++ K)) := by
  rw [← List.append_assoc, ← List.append_assoc]
  exact List.perm_append_comm.append_right K
theorem px1 (Q X K : Mm) : (Q ++ (X ++ K)).Perm (X ++ (Q ++ K)) := (px3 Q X K).symm
theorem px2 (Q X Y K : Mm) : (Q ++ (X ++ (Y ++ K))).Perm (Y ++ (Q ++ (X ++ K))) := ((px1 X Y K).append_left Q).trans (px1 Q Y (X ++ K))
theorem px0 (Q X Y Z : Mm) : (Q ++ (X ++ (Y ++ Z))).Perm (Z ++ (Q ++ (X ++ Y))) := ((List.perm_append_comm.append_left X).append_left Q).trans (px2 Q X Z Y)
/-- the numbers of the open ports, where no port but a and b is open -/
theorem ports_of {x : Pq} (hx : WQ x) {a b : Int} (hab : a ≠ b) (h : ∀ m, m ≠ a → m ≠ b → vw x.cs m = none) : (x.cs.map Chn.n).Perm ([a, b].filter fun m => (vw x.cs m).isSome) := by
  refine (List.perm_ext_iff_of_nodup hx.dist (List.Nodup.sublist List.filter_sublist (by simp [hab]))).2 fun m => ?_
  have key : m ∈ x.cs.map Chn.n ↔ (vw x.cs m).isSome = true := by
    constructor
    · intro hm
      cases hv : vw x.cs m with
      | none =>
        obtain ⟨c, hc, hcn⟩ := List.mem_map.1 hm
        exact absurd hcn (vw_none hv c hc)
      | some v => rfl
    · intro hm
      obtain ⟨v, hv⟩ := Option.isSome_iff_exists.1 hm
      obtain ⟨pre, c, post, h1, h2, _⟩ := vw_some hv
      rw [h1]
      exact List.mem_map.2 ⟨c, List.mem_append_right _ (List.mem_cons_self ..), h2⟩
  rw [key, List.mem_filter]
  refine ⟨fun hm => ⟨?_, hm⟩, fun hm => hm.2⟩
  by_cases h1 : m = a
  · simp [h1]
  by_cases h2 : m = b
  · simp [h2]
  rw [h m h1 h2] at hm
  cases hm
/-- what stands in one is what stands in the two others -/
structure Apt (x y z : Pq) : Prop where
  wx : WQ x
  wy : WQ y
  wz : WQ z
  one : vw y.cs 1001 = vw x.cs 1001
  two : vw z.cs 2002 = vw x.cs 2002
  nx : ∀ m, m ≠ 1001 → m ≠ 2002 → vw x.cs m = none
  ny : ∀ m, m ≠ 1001 → vw y.cs m = none
  nz : ∀ m, m ≠ 2002 → vw z.cs m = none
theorem Apt.count {x y z : Pq} (h : Apt x y z) : x.cs.length = y.cs.length + z.cs.length ∧ x.cs.length ≤ 2 := by
  have h1 := (ports_of h.wx (a := 1001) (b := 2002) (by decide) h.nx).length_eq
  have h2 := (ports_of h.wy (a := 1001) (b := 2002) (by decide) (fun m a _ => h.ny m a)).length_eq
  have h3 := (ports_of h.wz (a := 1001) (b := 2002) (by decide) (fun m _ b => h.nz m b)).length_eq
  rw [List.length_map] at h1 h2 h3
  rw [h1, h2, h3]
  simp only [List.filter, h.one, h.two, h.ny 2002 (by decide), h.nz 1001 (by decide)]
  cases (vw x.cs 1001).isSome <;> cases (vw x.cs 2002).isSome <;> simp
theorem Apt.range {x : Pq} (hx : WQ x) (h : ∀ m, m ≠ 1001 → m ≠ 2002 → vw x.cs m = none) : inRange x.cs := fun c hc => by
  have := (ports_of hx (a := 1001) (b := 2002) (by decide) h).mem_iff.1 (List.mem_map.2 ⟨c, hc, rfl⟩)
  have := (List.mem_filter.1 this).1
  rcases List.mem_cons.1 this with h | h
  · omega
  · have := List.mem_singleton.1 h
    omega
theorem Apt.stepOne {x y z x' y' : Pq} {r : Vw} (h : Apt x y z) (hx : Stp x x' 1001 r) (hy : Stp y y' 1001 r) : Apt x' y' z := by
  refine ⟨hx.wq, hy.wq, h.wz, by rw [hx.here, hy.here], ?_, ?_, ?_, h.nz⟩
  · rw [h.two, hx.others 2002 (by decide)]
  · intro m h1 h2; rw [hx.others m h1]; exact h.nx m h1 h2
  · intro m h1; rw [hy.others m h1]; exact h.ny m h1
theorem Apt.stepTwo {x y z x' z' : Pq} {r : Vw} (h : Apt x y z) (hx : Stp x x' 2002 r) (hz : Stp z z' 2002 r) : Apt x' y z' := by
  refine ⟨hx.wq, h.wy, hz.wq, ?_, by rw [hx.here, hz.here], ?_, h.ny, ?_⟩
  · rw [h.one, hx.others 1001 (by decide)]
  · intro m h1 h2; rw [hx.others m h2]; exact h.nx m h1 h2
  · intro m h1; rw [hz.others m h1]; exact h.nz m h1
end Go.Proofs.Ytabcaiecoiejkaa
