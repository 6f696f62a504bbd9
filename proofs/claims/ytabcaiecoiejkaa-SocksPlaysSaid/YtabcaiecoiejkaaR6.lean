/- From a row's hypothesis to the shapes of the arguments: a proxy's configuration with its names. -/
import Derived.Test.YtabcaiecoiejkaaR5
import Derived.Test.YtabcaiecoiejkaaS19
set_option maxRecDepth 100000
set_option linter.unusedSimpArgs false
set_option linter.unusedVariables false
namespace Go.Proofs.Ytabcaiecoiejkaa
open Go K Go.ChangeShapes Go.WideShapes Go.ChangeAt Go.RowKit

section
variable {H : Type} {enc : TypeId × Value → H} {w : World} {base b0 : Nat} {sp : Nat → Bool} {held : Bool}
theorem list18 {l : List Value} (h : l.length = 18) : ∃ c d e0 e1 e2 e3 e4 e5 e6 e7 e8 e9 e10 e11 e12 e13 e14 e15, l = [c, d, e0, e1, e2, e3, e4, e5, e6, e7, e8, e9, e10, e11, e12, e13, e14, e15] := by
  match l, h with
  | [c, d, e0, e1, e2, e3, e4, e5, e6, e7, e8, e9, e10, e11, e12, e13, e14, e15], _ => exact ⟨c, d, e0, e1, e2, e3, e4, e5, e6, e7, e8, e9, e10, e11, e12, e13, e14, e15, rfl⟩
theorem nm_of {fuel : Nat} {cs : List Value} {x : DataW H × List MemPlace} (h : DataW.trod enc Try.prog w base sp held fuel 83 cs = some x) : ∃ m : Nm, cs = m.cells := by
  obtain ⟨xs, m, _, hx, hl, hn, ha⟩ := DataW.trod_struct Try.underlying83 h
  have hl : cs.length = 18 := hl.trans (by kernel_rfl)
  obtain ⟨c, d, e0, e1, e2, e3, e4, e5, e6, e7, e8, e9, e10, e11, e12, e13, e14, e15, rfl⟩ := list18 hl
  obtain ⟨m', _, hfs⟩ := field_some Try.underlying83 h
  obtain ⟨y3, h3⟩ := hfs 0 _ rfl
  obtain ⟨y4, h4⟩ := hfs 1 _ rfl
  have e2' : (([c, d, e0, e1, e2, e3, e4, e5, e6, e7, e8, e9, e10, e11, e12, e13, e14, e15] : List Value).drop 0).take (Try.prog.cellsOf 9) = [c] := by kernel_rfl
  obtain ⟨s, hs, hys, _⟩ := DataW.trod_string Try.underlying9 (e2' ▸ h3)
  cases hs
  obtain ⟨m4, _, hk⟩ := field_some Try.underlying24 h4
  obtain ⟨_, h6⟩ := hk 0 _ rfl
  obtain ⟨_, h7⟩ := hk 1 _ rfl
  have hb : ∃ v6, d = .bool v6 := by
    obtain ⟨v6, hv, _⟩ := DataW.trod_bool Try.underlying4 h6
    have : [d] = [.bool v6] := Eq.trans (by kernel_rfl) hv
    exact ⟨v6, by simpa using this⟩
  obtain ⟨v6, rfl⟩ := hb
  obtain ⟨m5, _, hr⟩ := trod_array Try.underlying22 h7
  obtain ⟨_, g0⟩ := hr 0 (by decide)
  obtain ⟨b0, rfl, _⟩ := one_u8 (c := e0) (by kernel_rfl) g0
  obtain ⟨_, g1⟩ := hr 1 (by decide)
  obtain ⟨b1, rfl, _⟩ := one_u8 (c := e1) (by kernel_rfl) g1
  obtain ⟨_, g2⟩ := hr 2 (by decide)
  obtain ⟨b2, rfl, _⟩ := one_u8 (c := e2) (by kernel_rfl) g2
  obtain ⟨_, g3⟩ := hr 3 (by decide)
  obtain ⟨b3, rfl, _⟩ := one_u8 (c := e3) (by kernel_rfl) g3
  obtain ⟨_, g4⟩ := hr 4 (by decide)
  obtain ⟨b4, rfl, _⟩ := one_u8 (c := e4) (by kernel_rfl) g4
  obtain ⟨_, g5⟩ := hr 5 (by decide)
  obtain ⟨b5, rfl, _⟩ := one_u8 (c := e5) (by kernel_rfl) g5
  obtain ⟨_, g6⟩ := hr 6 (by decide)
  obtain ⟨b6, rfl, _⟩ := one_u8 (c := e6) (by kernel_rfl) g6
  obtain ⟨_, g7⟩ := hr 7 (by decide)
  obtain ⟨b7, rfl, _⟩ := one_u8 (c := e7) (by kernel_rfl) g7
  obtain ⟨_, g8⟩ := hr 8 (by decide)
  obtain ⟨b8, rfl, _⟩ := one_u8 (c := e8) (by kernel_rfl) g8
  obtain ⟨_, g9⟩ := hr 9 (by decide)
  obtain ⟨b9, rfl, _⟩ := one_u8 (c := e9) (by kernel_rfl) g9
  obtain ⟨_, g10⟩ := hr 10 (by decide)
  obtain ⟨b10, rfl, _⟩ := one_u8 (c := e10) (by kernel_rfl) g10
  obtain ⟨_, g11⟩ := hr 11 (by decide)
  obtain ⟨b11, rfl, _⟩ := one_u8 (c := e11) (by kernel_rfl) g11
  obtain ⟨_, g12⟩ := hr 12 (by decide)
  obtain ⟨b12, rfl, _⟩ := one_u8 (c := e12) (by kernel_rfl) g12
  obtain ⟨_, g13⟩ := hr 13 (by decide)
  obtain ⟨b13, rfl, _⟩ := one_u8 (c := e13) (by kernel_rfl) g13
  obtain ⟨_, g14⟩ := hr 14 (by decide)
  obtain ⟨b14, rfl, _⟩ := one_u8 (c := e14) (by kernel_rfl) g14
  obtain ⟨_, g15⟩ := hr 15 (by decide)
  obtain ⟨b15, rfl, _⟩ := one_u8 (c := e15) (by kernel_rfl) g15
  exact ⟨⟨s, ⟨v6, fun i => [b0, b1, b2, b3, b4, b5, b6, b7, b8, b9, b10, b11, b12, b13, b14, b15].getD i 0⟩⟩, rfl⟩
/-- a configuration -/
theorem config_param {v : Value} {d : DataW H} {ps : List MemPlace} (hval : Value.okWide Try.prog w .any b0 59 v) (h : DataW.Trod enc Try.prog w base sp held 59 v d ps)
    {ts : List TypeId} {ds : List (DataW H)} (hsz : (DataW.weightsEach Try.prog ts ds).all (· ≤ reachBytes) = true) {j : Nat} (htj : ts[j]? = some 59) (hdj : ds[j]? = some d) :
    ∃ (user pass : ByteArray) (nv : Value) (ns : List Nm), v = .agg #[.string user, .string pass, nv] ∧ NmAt w [] nv ns ∧ ns.length * 40 ≤ 140737488355328 := by
  obtain ⟨c0, rfl, o0⟩ := cells_of_okWide Try.underlying59 (ts := [9, 9, 57]) (by kernel_rfl) (by kernel_rfl) hval
  obtain ⟨s0, s1, nv, rfl, o1, o2, o3⟩ := cells3 o0
  obtain ⟨user, rfl, _⟩ := cell_string Try.underlying9 o1
  obtain ⟨pass, rfl, _⟩ := cell_string Try.underlying9 o2
  obtain ⟨fuel, hf⟩ := h
  have hf : DataW.trod enc Try.prog w base sp held fuel 59 [.string user, .string pass, nv] = some (d, ps) := hf
  obtain ⟨xs, m, _, hx, hl, hn, ha⟩ := DataW.trod_struct Try.underlying59 hf
  have h2 := ha 2 _ rfl
  obtain ⟨y2, hy2⟩ : ∃ y, xs[2]? = some y := ⟨_, List.getElem?_eq_getElem (by rw [hn]; decide)⟩
  rw [hy2] at h2
  have e2' : (([.string user, .string pass, nv] : List Value).drop 2).take (Try.prog.cellsOf 57) = [nv] := by kernel_rfl
  have h2 : DataW.trod enc Try.prog w base sp held m 57 [nv] = some y2 := e2' ▸ h2
  have hrb := reachBytes_lt
  have h18 : Try.prog.cellsOf 83 = 18 := by kernel_rfl
  have hby : Try.prog.bytesOf 83 = 40 := by kernel_rfl
  rcases DataW.trod_slice Try.underlying57 h2 with ⟨hcs, _⟩ | ⟨a, l', c', elems, rest, n, _, hcs, hx2, _, hl2, hm2, hlen, hel, _, _⟩
  · simp at hcs
    subst hcs
    exact ⟨user, pass, _, [], rfl, ⟨none, 0, 0, 0, rfl, .inl rfl, by simp, fun i m hi => by simp at hi⟩, by simp⟩
  · simp at hcs
    subst hcs
    subst hx2
    have hs : (elems.length + rest.length) * 40 ≤ reachBytes := by
      simp only [Prod.mk.injEq] at hx
      obtain ⟨rfl, _⟩ := hx
      have h4 : (xs.map (·.1))[2]? = some (.slice (elems.map (·.1)) (rest.map (·.1))) := by rw [List.getElem?_map, hy2]; rfl
      have h5 := DataW.weights_mem_each (P := Try.prog) (ts := [9, 9, 57]) (j := 2) rfl h4 ((elems.length + rest.length) * 40) (by simp [DataW.weights, Try.underlying57, hby])
      have h6 : (elems.length + rest.length) * 40 ∈ DataW.weights Try.prog 59 (.agg (xs.map (·.1)) : DataW H) := by
        unfold DataW.weights
        rw [Try.underlying59]
        exact h5
      have h7 := List.all_eq_true.1 hsz _ (DataW.weights_mem_each htj hdj _ h6)
      simpa using h7
    obtain ⟨qs, hql, hqs⟩ := list_of (P := fun i (q : Nm) => ∀ j u, q.cells[j]? = some u → w.cell? ((a.add (i * 18)).add j) = some u) l' (fun i hi => by
      have he := hel i hi
      rw [List.getElem?_eq_getElem (by omega), Option.bind_eq_some_iff] at he
      obtain ⟨cs', hcs, hy⟩ := he
      obtain ⟨q, rfl⟩ := nm_of hy
      refine ⟨q, fun j u hu => ?_⟩
      rw [h18] at hcs
      rw [(World.cells?_some hcs).2.2 j (by have := (List.getElem?_eq_some_iff.1 hu).1; exact this)]
      exact hu)
    by_cases h0 : l' = 0
    · subst h0
      have hq0 : qs = [] := List.eq_nil_of_length_eq_zero hql
      exact ⟨user, pass, _, [], rfl, ⟨some a, 0, 0, c', rfl, .inl rfl, by simp, fun i m hi => by simp at hi⟩, by simp⟩
    · obtain ⟨b, off, spot⟩ := a
      obtain ⟨q0, hq0⟩ : ∃ q, qs[0]? = some q := ⟨_, List.getElem?_eq_getElem (by omega)⟩
      have hspot : spot = none := by simpa [Addr.add] using World.cell?_spot ((hqs 0 q0 hq0) 0 _ rfl)
      subst hspot
      refine ⟨user, pass, _, qs, rfl, ⟨some ⟨b, off, none⟩, b, off, c', by rw [hql], .inr ⟨rfl, by simp⟩, by omega, fun i q hq j u hu => ?_⟩, by omega⟩
      have := hqs i q hq j u hu
      rw [addr_add, addr_add] at this
      exact this
end
end Go.Proofs.Ytabcaiecoiejkaa
