/- From a row's hypothesis to the shapes of the arguments: a script of calls of a session. -/
import Derived.Test.YtabcaiecoiejkaaR1
import Derived.ChangeSlices
import Derived.Test.YtabcaiecoiejkaaS14
set_option maxRecDepth 100000
set_option linter.unusedSimpArgs false
set_option linter.unusedVariables false
namespace Go.Proofs.Ytabcaiecoiejkaa
open Go K Go.ChangeShapes Go.WideShapes Go.ChangeAt Go.RowKit

section
variable {H : Type} {enc : TypeId × Value → H} {w : World} {base b0 : Nat} {sp : Nat → Bool} {held : Bool}
theorem wf_i64' {n : Int} (h : (Lit.int .i64 n).wf = true) : okI n := by
  simp only [Lit.wf, Bool.and_eq_true, decide_eq_true_eq] at h
  simpa [okI, IntKind.min, IntKind.max, IntKind.bits, IntKind.signed] using h
theorem trod_array {t e : TypeId} {n fuel : Nat} {cs : List Value} {x : DataW H × List MemPlace} (ht : Try.prog.underlying t = some (.array n e)) (h : DataW.trod enc Try.prog w base sp held fuel t cs = some x) :
    ∃ m, cs.length = Try.prog.cellsOf t ∧ ∀ i, i < n → ∃ y, DataW.trod enc Try.prog w base sp held m e ((cs.drop (i * Try.prog.cellsOf e)).take (Try.prog.cellsOf e)) = some y := by
  cases fuel with
  | zero => simp [DataW.trod] at h
  | succ m =>
    unfold DataW.trod at h
    rw [ht] at h
    split at h <;> simp_all
    obtain ⟨hl, xs, hp, hd⟩ := h
    refine ⟨m, fun i hi => ?_⟩
    have h1 := mapM_some_get hp i i (by simp [hi])
    have h2 : i < xs.length := by rw [mapM_some_length hp]; simpa using hi
    rw [List.getElem?_eq_getElem h2] at h1
    exact ⟨_, _, h1⟩
theorem field_some {t : TypeId} {fs : Array Field} {fuel : Nat} {cs : List Value} {x : DataW H × List MemPlace} (ht : Try.prog.underlying t = some (.struct fs)) (h : DataW.trod enc Try.prog w base sp held fuel t cs = some x) :
    ∃ m, cs.length = Try.prog.cellsOf t ∧ ∀ (i : Nat) (f : Field), fs[i]? = some f → ∃ y, DataW.trod enc Try.prog w base sp held m f.type ((cs.drop f.offset).take (Try.prog.cellsOf f.type)) = some y := by
  obtain ⟨xs, m, _, _, hl, hn, ha⟩ := DataW.trod_struct ht h
  refine ⟨m, hl, fun i f hf => ?_⟩
  have h1 := ha i f hf
  have h2 : i < xs.length := by rw [hn]; exact (Array.getElem?_eq_some_iff.1 hf).1
  rw [List.getElem?_eq_getElem h2] at h1
  exact ⟨_, h1⟩
theorem list21 {l : List Value} (h : l.length = 21) : ∃ a b c d e0 e1 e2 e3 e4 e5 e6 e7 e8 e9 e10 e11 e12 e13 e14 e15 f, l = [a, b, c, d, e0, e1, e2, e3, e4, e5, e6, e7, e8, e9, e10, e11, e12, e13, e14, e15, f] := by
  match l, h with
  | [a, b, c, d, e0, e1, e2, e3, e4, e5, e6, e7, e8, e9, e10, e11, e12, e13, e14, e15, f], _ => exact ⟨a, b, c, d, e0, e1, e2, e3, e4, e5, e6, e7, e8, e9, e10, e11, e12, e13, e14, e15, f, rfl⟩
theorem one_u8 {m : Nat} {c : Value} {l : List Value} {y : DataW H × List MemPlace} (hl : l = [c]) (h : DataW.trod enc Try.prog w base sp held m 5 l = some y) : ∃ n, c = .int .u8 n ∧ 0 ≤ n ∧ n ≤ 255 := by
  subst hl
  obtain ⟨n, hc, _, hw⟩ := DataW.trod_int Try.underlying5 h
  cases hc
  refine ⟨n, rfl, ?_⟩
  simp only [Lit.wf, Bool.and_eq_true, decide_eq_true_eq] at hw
  simpa [IntKind.min, IntKind.max, IntKind.bits, IntKind.signed] using hw
theorem one_i64 {m : Nat} {c : Value} {l : List Value} {y : DataW H × List MemPlace} (hl : l = [c]) (h : DataW.trod enc Try.prog w base sp held m 3 l = some y) : ∃ n, c = .int .i64 n ∧ okI n := by
  subst hl
  obtain ⟨n, hc, _, hw⟩ := DataW.trod_int Try.underlying3 h
  cases hc
  exact ⟨n, rfl, wf_i64' hw⟩
theorem qo_of {fuel : Nat} {cs : List Value} {x : DataW H × List MemPlace} (h : DataW.trod enc Try.prog w base sp held fuel 86 cs = some x) :
    ∃ q : Qo, cs = q.cells ∧ okI q.kind ∧ okI q.n ∧ q.data.size ∈ x.1.weights Try.prog 86 := by
  obtain ⟨xs, m, _, hx, hl, hn, ha⟩ := DataW.trod_struct Try.underlying86 h
  have hl : cs.length = 21 := hl.trans (by kernel_rfl)
  obtain ⟨ka, kb, c, d, e0, e1, e2, e3, e4, e5, e6, e7, e8, e9, e10, e11, e12, e13, e14, e15, f, rfl⟩ := list21 hl
  obtain ⟨m', _, hfs⟩ := field_some Try.underlying86 h
  obtain ⟨_, h0⟩ := hfs 0 _ rfl
  obtain ⟨_, h1⟩ := hfs 1 _ rfl
  obtain ⟨y3, h3⟩ := hfs 3 _ rfl
  obtain ⟨kd, rfl, hkd⟩ := one_i64 (c := ka) (by kernel_rfl) h0
  obtain ⟨nn, rfl, hnn⟩ := one_i64 (c := kb) (by kernel_rfl) h1
  have h2 := ha 2 _ rfl
  obtain ⟨y2, hy2⟩ : ∃ y, xs[2]? = some y := ⟨_, List.getElem?_eq_getElem (by rw [hn]; decide)⟩
  rw [hy2] at h2
  have e2' : (([Value.int .i64 kd, .int .i64 nn, c, d, e0, e1, e2, e3, e4, e5, e6, e7, e8, e9, e10, e11, e12, e13, e14, e15, f] : List Value).drop 2).take (Try.prog.cellsOf 9) = [c] := by kernel_rfl
  obtain ⟨s, hs, hys, _⟩ := DataW.trod_string Try.underlying9 (e2' ▸ h2)
  cases hs
  obtain ⟨m3, _, hg⟩ := field_some Try.underlying65 h3
  obtain ⟨y4, h4⟩ := hg 0 _ rfl
  obtain ⟨_, h5⟩ := hg 1 _ rfl
  obtain ⟨pt, rfl, hpt⟩ := one_i64 (c := f) (by kernel_rfl) h5
  obtain ⟨m4, _, hk⟩ := field_some Try.underlying24 h4
  obtain ⟨_, h6⟩ := hk 0 _ rfl
  obtain ⟨_, h7⟩ := hk 1 _ rfl
  have hb : ∃ v6, d = .bool v6 := by
    obtain ⟨v6, hv, _⟩ := DataW.trod_bool Try.underlying4 h6
    have : [d] = [.bool v6] := Eq.trans (by kernel_rfl) hv
    exact ⟨v6, by simpa using this⟩
  obtain ⟨v6, rfl⟩ := hb
  obtain ⟨m5, _, hr⟩ := trod_array Try.underlying22 h7
  obtain ⟨_, g0⟩ := hr 0 (by decide)
  obtain ⟨b0, rfl, _⟩ := one_u8 (c := e0) (by kernel_rfl) g0
  obtain ⟨_, g1⟩ := hr 1 (by decide)
  obtain ⟨b1, rfl, _⟩ := one_u8 (c := e1) (by kernel_rfl) g1
  obtain ⟨_, g2⟩ := hr 2 (by decide)
  obtain ⟨b2, rfl, _⟩ := one_u8 (c := e2) (by kernel_rfl) g2
  obtain ⟨_, g3⟩ := hr 3 (by decide)
  obtain ⟨b3, rfl, _⟩ := one_u8 (c := e3) (by kernel_rfl) g3
  obtain ⟨_, g4⟩ := hr 4 (by decide)
  obtain ⟨b4, rfl, _⟩ := one_u8 (c := e4) (by kernel_rfl) g4
  obtain ⟨_, g5⟩ := hr 5 (by decide)
  obtain ⟨b5, rfl, _⟩ := one_u8 (c := e5) (by kernel_rfl) g5
  obtain ⟨_, g6⟩ := hr 6 (by decide)
  obtain ⟨b6, rfl, _⟩ := one_u8 (c := e6) (by kernel_rfl) g6
  obtain ⟨_, g7⟩ := hr 7 (by decide)
  obtain ⟨b7, rfl, _⟩ := one_u8 (c := e7) (by kernel_rfl) g7
  obtain ⟨_, g8⟩ := hr 8 (by decide)
  obtain ⟨b8, rfl, _⟩ := one_u8 (c := e8) (by kernel_rfl) g8
  obtain ⟨_, g9⟩ := hr 9 (by decide)
  obtain ⟨b9, rfl, _⟩ := one_u8 (c := e9) (by kernel_rfl) g9
  obtain ⟨_, g10⟩ := hr 10 (by decide)
  obtain ⟨b10, rfl, _⟩ := one_u8 (c := e10) (by kernel_rfl) g10
  obtain ⟨_, g11⟩ := hr 11 (by decide)
  obtain ⟨b11, rfl, _⟩ := one_u8 (c := e11) (by kernel_rfl) g11
  obtain ⟨_, g12⟩ := hr 12 (by decide)
  obtain ⟨b12, rfl, _⟩ := one_u8 (c := e12) (by kernel_rfl) g12
  obtain ⟨_, g13⟩ := hr 13 (by decide)
  obtain ⟨b13, rfl, _⟩ := one_u8 (c := e13) (by kernel_rfl) g13
  obtain ⟨_, g14⟩ := hr 14 (by decide)
  obtain ⟨b14, rfl, _⟩ := one_u8 (c := e14) (by kernel_rfl) g14
  obtain ⟨_, g15⟩ := hr 15 (by decide)
  obtain ⟨b15, rfl, _⟩ := one_u8 (c := e15) (by kernel_rfl) g15
  refine ⟨⟨kd, nn, s, ⟨v6, fun i => [b0, b1, b2, b3, b4, b5, b6, b7, b8, b9, b10, b11, b12, b13, b14, b15].getD i 0⟩, pt⟩, rfl, hkd, hnn, ?_⟩
  rw [hx]
  have h8 : (xs.map (·.1))[2]? = some (.lit (.string s.data.toList)) := by rw [List.getElem?_map, hy2, hys]; rfl
  have h9 := DataW.weights_mem_each (P := Try.prog) (ts := [3, 3, 9, 65]) (j := 2) rfl h8 s.data.toList.length (by simp [DataW.weights])
  show s.data.toList.length ∈ _
  unfold DataW.weights
  rw [Try.underlying86]
  exact h9
theorem weights_mem_all {P : Program} {e : TypeId} : ∀ {l : List (DataW H)} {d : DataW H}, d ∈ l → ∀ n ∈ d.weights P e, n ∈ DataW.weightsAll P e l
  | a :: l, d, hd, n, hn => by
    simp only [DataW.weightsAll, List.mem_append]
    rcases List.mem_cons.1 hd with rfl | hd
    · exact .inl hn
    · exact .inr (weights_mem_all hd n hn)
theorem list_of {α : Type} {P : Nat → α → Prop} : ∀ n, (∀ i, i < n → ∃ a, P i a) → ∃ l : List α, l.length = n ∧ ∀ i a, l[i]? = some a → P i a
  | 0, _ => ⟨[], rfl, fun i a h => by simp at h⟩
  | n + 1, h => by
    obtain ⟨l, hl, hp⟩ := list_of n (fun i hi => h i (by omega))
    obtain ⟨a, ha⟩ := h n (by omega)
    refine ⟨l ++ [a], by simp [hl], fun i b hb => ?_⟩
    by_cases hi : i < n
    · rw [List.getElem?_append_left (by omega)] at hb
      exact hp i b hb
    · have : i < (l ++ [a]).length := (List.getElem?_eq_some_iff.1 hb).1
      rw [List.length_append, List.length_singleton] at this
      obtain rfl : i = n := by omega
      rw [List.getElem?_append_right (by omega), hl, Nat.sub_self] at hb
      simp only [List.getElem?_cons_zero, Option.some.injEq] at hb
      exact hb ▸ ha
/-- a script -/
theorem ops_param {t : TypeId} (ht : Try.prog.underlying t = some (.slice 86)) {v : Value} {d : DataW H} {ps : List MemPlace} (hval : Value.okWide Try.prog w .any b0 t v) (h : DataW.Trod enc Try.prog w base sp held t v d ps)
    {ts : List TypeId} {ds : List (DataW H)} (hsz : (DataW.weightsEach Try.prog ts ds).all (· ≤ reachBytes) = true) {j : Nat} (htj : ts[j]? = some t) (hdj : ds[j]? = some d) :
    ∃ (qs : List Qo) (a : Option Addr) (bs off cap : Nat), v = .slice a qs.length cap ∧ (qs = [] ∨ a = some ⟨bs, off, none⟩) ∧ (∀ q ∈ qs, q.ok) ∧ qs.length ≤ 1000000000000000 ∧ (∀ (i : Nat) q, qs[i]? = some q → ∀ j v, q.cells[j]? = some v → w.cell? ⟨bs, off + i * 21 + j, none⟩ = some v) := by
  obtain ⟨o, len, cap, rfl⟩ := okWide_slice ht hval
  obtain ⟨fuel, hf⟩ := h
  have hrb := reachBytes_lt
  have h21 : Try.prog.cellsOf 86 = 21 := by kernel_rfl
  have hby : Try.prog.bytesOf 86 = 64 := by kernel_rfl
  rcases DataW.trod_slice ht hf with ⟨hcs, hx⟩ | ⟨a, l', c', elems, rest, n, _, hcs, hx, _, hl, hm, hlen, hel, _, _⟩
  · simp [Value.cells] at hcs
    obtain ⟨rfl, rfl, rfl⟩ := hcs
    exact ⟨[], none, 0, 0, 0, rfl, .inl rfl, fun q hq => by simp at hq, by simp, fun i q hq => by simp at hq⟩
  · simp [Value.cells] at hcs
    obtain ⟨rfl, rfl, rfl⟩ := hcs
    simp only [Prod.mk.injEq] at hx
    obtain ⟨rfl, _⟩ := hx
    have hs := sized_slice hsz htj hdj ht
    rw [hby, List.length_map, hlen] at hs
    obtain ⟨qs, hql, hqs⟩ := list_of (P := fun i (q : Qo) => (∀ j u, q.cells[j]? = some u → w.cell? ((a.add (i * 21)).add j) = some u) ∧ okI q.kind ∧ okI q.n ∧ ∃ y, elems[i]? = some y ∧ q.data.size ∈ y.1.weights Try.prog 86) len (fun i hi => by
      have he := hel i hi
      rw [List.getElem?_eq_getElem (by omega), Option.bind_eq_some_iff] at he
      obtain ⟨cs', hcs, hy⟩ := he
      obtain ⟨q, rfl, k1, k2, k3⟩ := qo_of hy
      refine ⟨q, fun j u hu => ?_, k1, k2, _, List.getElem?_eq_getElem (by omega), k3⟩
      rw [h21] at hcs
      rw [(World.cells?_some hcs).2.2 j (by have := (List.getElem?_eq_some_iff.1 hu).1; exact this)]
      exact hu)
    by_cases h0 : len = 0
    · subst h0
      have hq0 : qs = [] := List.eq_nil_of_length_eq_zero hql
      subst hq0
      exact ⟨[], _, 0, 0, _, rfl, .inl rfl, fun q hq => by simp at hq, by simp, fun i q hq => by simp at hq⟩
    · obtain ⟨b, off, spot⟩ := a
      obtain ⟨q0, hq0⟩ : ∃ q, qs[0]? = some q := ⟨_, List.getElem?_eq_getElem (by omega)⟩
      have hspot : spot = none := by simpa [Addr.add] using World.cell?_spot ((hqs 0 q0 hq0).1 0 _ rfl)
      subst hspot
      refine ⟨qs, _, b, off, cap, by rw [hql], .inr rfl, fun q hq => ?_, by omega, fun i q hq j u hu => ?_⟩
      · obtain ⟨i, hi⟩ := List.getElem?_of_mem hq
        obtain ⟨_, k1, k2, y, hy, k3⟩ := hqs i q hi
        refine ⟨k1, k2, ?_⟩
        have hmem := weights_mem_all (P := Try.prog) (e := 86) (List.mem_map_of_mem (f := (·.1)) (List.mem_of_getElem? hy)) _ k3
        have hw : q.data.size ∈ DataW.weights Try.prog t (.slice (elems.map (·.1)) (rest.map (·.1)) : DataW H) := by
          unfold DataW.weights
          rw [ht]
          exact List.mem_cons_of_mem _ (List.mem_append_left _ hmem)
        have := List.all_eq_true.1 hsz _ (DataW.weights_mem_each htj hdj _ hw)
        have h8 : q.data.size ≤ reachBytes := by simpa using this
        omega
      · have := (hqs i q hq).1 j u hu
        rw [addr_add, addr_add] at this
        exact this
end
end Go.Proofs.Ytabcaiecoiejkaa
