/- From a row's hypothesis to the shapes of the arguments: a script of calls of ports. From a row's hypothesis to the shapes of the arguments: a script of calls of ports, with the room of its rows. -/
import Derived.Test.YtabcaiecoiejkaaR8
import Derived.Test.YtabcaiecoiejkaaW3
set_option maxRecDepth 100000
set_option linter.unusedSimpArgs false
set_option linter.unusedVariables false
namespace Go.Proofs.Ytabcaiecoiejkaa
open Go K Go.ChangeShapes Go.WideShapes Go.ChangeAt Go.RowKit

section
variable {H : Type} {enc : TypeId × Value → H} {w : World} {base b0 : Nat} {sp : Nat → Bool} {held : Bool}
theorem field_someQ {t : TypeId} {fs : Array Field} {fuel : Nat} {cs : List Value} {x : DataW H × List MemPlace} (ht : Try.prog.underlying t = some (.struct fs)) (h : DataW.trod enc Try.prog w base sp held fuel t cs = some x) :
    ∃ m, cs.length = Try.prog.cellsOf t ∧ ∀ (i : Nat) (f : Field), fs[i]? = some f → ∃ y, DataW.trod enc Try.prog w base sp held m f.type ((cs.drop f.offset).take (Try.prog.cellsOf f.type)) = some y := by
  obtain ⟨xs, m, _, _, hl, hn, ha⟩ := DataW.trod_struct ht h
  refine ⟨m, hl, fun i f hf => ?_⟩
  have h1 := ha i f hf
  have h2 : i < xs.length := by rw [hn]; exact (Array.getElem?_eq_some_iff.1 hf).1
  rw [List.getElem?_eq_getElem h2] at h1
  exact ⟨_, h1⟩
theorem one_i64Q {m : Nat} {c : Value} {l : List Value} {y : DataW H × List MemPlace} (hl : l = [c]) (h : DataW.trod enc Try.prog w base sp held m 3 l = some y) : ∃ n, c = .int .i64 n ∧ okW n := by
  subst hl
  obtain ⟨n, hc, _, hw⟩ := DataW.trod_int Try.underlying3 h
  cases hc
  exact ⟨n, rfl, wf_i64j hw⟩
theorem list_ofQ {α : Type} {P : Nat → α → Prop} : ∀ n, (∀ i, i < n → ∃ a, P i a) → ∃ l : List α, l.length = n ∧ ∀ i a, l[i]? = some a → P i a
  | 0, _ => ⟨[], rfl, fun i a h => by simp at h⟩
  | n + 1, h => by
    obtain ⟨l, hl, hp⟩ := list_ofQ n (fun i hi => h i (by omega))
    obtain ⟨a, ha⟩ := h n (by omega)
    refine ⟨l ++ [a], by simp [hl], fun i b hb => ?_⟩
    by_cases hi : i < n
    · rw [List.getElem?_append_left (by omega)] at hb
      exact hp i b hb
    · have : i < (l ++ [a]).length := (List.getElem?_eq_some_iff.1 hb).1
      rw [List.length_append, List.length_singleton] at this
      obtain rfl : i = n := by omega
      rw [List.getElem?_append_right (by omega), hl, Nat.sub_self] at hb
      simp only [List.getElem?_cons_zero, Option.some.injEq] at hb
      exact hb ▸ ha
theorem list4Q {l : List Value} (h : l.length = 4) : ∃ a b c d, l = [a, b, c, d] := by
  match l, h with
  | [a, b, c, d], _ => exact ⟨a, b, c, d, rfl⟩
theorem strs_of {m : Nat} {c : Value} {l : List Value} {y : DataW H × List MemPlace} (hl : l = [c]) (h : DataW.trod enc Try.prog w base sp held m 117 l = some y) : ∃ (ia : Option Addr) (xs : List ByteArray) (cap : Nat), c = .slice ia xs.length cap ∧ (xs = [] ∨ ∃ k, xs.length ≤ k ∧ k ∈ y.1.weights Try.prog 117) ∧ (xs.length ≤ 1000000000000000 → StrsAt w [] ia xs) := by
  subst hl
  rcases DataW.trod_slice Try.underlying117 h with ⟨hcs, hx⟩ | ⟨a, l', c', elems, rest, n, _, hcs, hx, _, hle, hcm, hlen, hel, _, _⟩
  · cases hcs
    exact ⟨none, [], 0, rfl, .inl rfl, fun _ => ⟨0, 0, .inl rfl, Nat.zero_le _, fun j x hj => by simp at hj⟩⟩
  · cases hcs
    have h1 : Try.prog.cellsOf 9 = 1 := by kernel_rfl
    rw [h1] at hel
    obtain ⟨xs, hxl, hxs⟩ := list_ofQ (P := fun i (x : ByteArray) => w.cell? (a.add (i * 1)) = some (.string x)) l' (fun i hi => by
      have he := hel i hi
      rw [List.getElem?_eq_getElem (by omega), Option.bind_eq_some_iff] at he
      obtain ⟨cs', hcs, hy⟩ := he
      obtain ⟨s, hs, _⟩ := DataW.trod_string Try.underlying9 hy
      subst hs
      refine ⟨s, ?_⟩
      have := (World.cells?_some hcs).2.2 0 (by simp)
      simpa [Addr.add] using this)
    cases xs with
    | nil =>
      have h0 : l' = 0 := hxl.symm
      subst h0
      exact ⟨some a, [], c', rfl, .inl rfl, fun _ => ⟨0, 0, .inl rfl, Nat.zero_le _, fun j x hj => by simp at hj⟩⟩
    | cons x0 xs =>
      obtain ⟨b, off, spot⟩ := a
      have hspot : spot = none := by simpa [Addr.add] using World.cell?_spot (hxs 0 x0 rfl)
      subst hspot
      have hby : Try.prog.bytesOf 9 = 16 := by kernel_rfl
      have hw : (elems.length + rest.length) * 16 ∈ y.1.weights Try.prog 117 := by
        rw [hx]
        unfold DataW.weights
        rw [Try.underlying117, List.length_map, List.length_map]
        show _ ∈ (elems.length + rest.length) * Try.prog.bytesOf 9 :: _
        rw [hby]
        exact List.mem_cons_self ..
      refine ⟨some ⟨b, off, none⟩, x0 :: xs, c', by rw [hxl], .inr ⟨_, by omega, hw⟩, fun hmx => ⟨b, off, .inr ⟨rfl, by simp⟩, hmx, fun j x hj => ?_⟩⟩
      have := hxs j x hj
      rw [addr_add, Nat.mul_one] at this
      exact this
theorem oq_of {fuel : Nat} {cs : List Value} {x : DataW H × List MemPlace} (h : DataW.trod enc Try.prog w base sp held fuel 119 cs = some x) :
    ∃ q : Oq, cs = q.cells ∧ okW q.kind ∧ okW q.port ∧ okW q.n ∧ (q.l = [] ∨ ∃ k, q.l.length ≤ k ∧ k ∈ x.1.weights Try.prog 119) ∧ (q.l.length ≤ 1000000000000000 → StrsAt w [] q.la q.l) := by
  obtain ⟨xs, m, _, hx, hl, hn, ha⟩ := DataW.trod_struct Try.underlying119 h
  obtain ⟨m', _, hfs⟩ := field_someQ Try.underlying119 h
  have hl : cs.length = 4 := hl.trans (by kernel_rfl)
  obtain ⟨a, b, c, d, rfl⟩ := list4Q hl
  obtain ⟨_, h0⟩ := hfs 0 _ rfl
  obtain ⟨_, h1⟩ := hfs 1 _ rfl
  obtain ⟨_, h2⟩ := hfs 2 _ rfl
  have h3 := ha 3 _ rfl
  obtain ⟨y3, hy3⟩ : ∃ y, xs[3]? = some y := ⟨_, List.getElem?_eq_getElem (by rw [hn]; decide)⟩
  rw [hy3] at h3
  obtain ⟨k, rfl, hk⟩ := one_i64Q (c := a) (by kernel_rfl) h0
  obtain ⟨p, rfl, hp⟩ := one_i64Q (c := b) (by kernel_rfl) h1
  obtain ⟨n, rfl, hn⟩ := one_i64Q (c := c) (by kernel_rfl) h2
  obtain ⟨ia, zs, cap, rfl, hz, hx2⟩ := strs_of (c := d) (by kernel_rfl) h3
  refine ⟨⟨k, p, n, ia, zs, cap⟩, rfl, hk, hp, hn, ?_, hx2⟩
  rcases hz with hz | ⟨kk, hz1, hz2⟩
  · exact .inl hz
  · refine .inr ⟨kk, hz1, ?_⟩
    rw [hx]
    have h8 : (xs.map (·.1))[3]? = some y3.1 := by rw [List.getElem?_map, hy3]; rfl
    have h9 := DataW.weights_mem_each (P := Try.prog) (ts := [3, 3, 3, 117]) (j := 3) rfl h8 kk hz2
    unfold DataW.weights
    rw [Try.underlying119]
    exact h9
theorem weights_mem_allQ {P : Program} {e : TypeId} : ∀ {l : List (DataW H)} {d : DataW H}, d ∈ l → ∀ n ∈ d.weights P e, n ∈ DataW.weightsAll P e l
  | a :: l, d, hd, n, hn => by
    simp only [DataW.weightsAll, List.mem_append]
    rcases List.mem_cons.1 hd with rfl | hd
    · exact .inl hn
    · exact .inr (weights_mem_allQ hd n hn)
/-- a script -/
theorem oqs_param {t : TypeId} (ht : Try.prog.underlying t = some (.slice 119)) {v : Value} {d : DataW H} {ps : List MemPlace} (hval : Value.okWide Try.prog w .any b0 t v) (h : DataW.Trod enc Try.prog w base sp held t v d ps)
    {ts : List TypeId} {ds : List (DataW H)} (hsz : (DataW.weightsEach Try.prog ts ds).all (· ≤ reachBytes) = true) {j : Nat} (htj : ts[j]? = some t) (hdj : ds[j]? = some d) :
    ∃ (qs : List Oq) (a : Option Addr) (bs off cap : Nat), v = .slice a qs.length cap ∧ (qs = [] ∨ a = some ⟨bs, off, none⟩) ∧ qs.length ≤ 1000000000000000 ∧ (∀ (i : Nat) q, qs[i]? = some q → okW q.kind ∧ okW q.port ∧ okW q.n ∧ StrsAt w [] q.la q.l ∧ ∀ j v, q.cells[j]? = some v → w.cell? ⟨bs, off + i * 4 + j, none⟩ = some v) := by
  obtain ⟨o, len, cap, rfl⟩ := okWide_slice ht hval
  obtain ⟨fuel, hf⟩ := h
  have h4 : Try.prog.cellsOf 119 = 4 := by kernel_rfl
  have hrb := reachBytes_lt
  have hby : Try.prog.bytesOf 119 = 48 := by kernel_rfl
  rcases DataW.trod_slice ht hf with ⟨hcs, hx⟩ | ⟨a, l', c', elems, rest, n, _, hcs, hx, _, hl, hm, hlen, hel, _, _⟩
  · simp [Value.cells] at hcs
    obtain ⟨rfl, rfl, rfl⟩ := hcs
    exact ⟨[], none, 0, 0, 0, rfl, .inl rfl, by simp, fun i q hq => by simp at hq⟩
  · simp [Value.cells] at hcs
    obtain ⟨rfl, rfl, rfl⟩ := hcs
    simp only [Prod.mk.injEq] at hx
    obtain ⟨rfl, _⟩ := hx
    have hs := sized_slice hsz htj hdj ht
    rw [hby, List.length_map, hlen] at hs
    obtain ⟨qs, hql, hqs⟩ := list_ofQ (P := fun i (q : Oq) => (∀ j u, q.cells[j]? = some u → w.cell? ((a.add (i * 4)).add j) = some u) ∧ okW q.kind ∧ okW q.port ∧ okW q.n ∧ StrsAt w [] q.la q.l) len (fun i hi => by
      have he := hel i hi
      rw [List.getElem?_eq_getElem (by omega), Option.bind_eq_some_iff] at he
      obtain ⟨cs', hcs, hy⟩ := he
      obtain ⟨q, rfl, k1, k2, k3, k5, k4⟩ := oq_of hy
      have hll : q.l.length ≤ 1000000000000000 := by
        rcases k5 with k5 | ⟨kk, k6, k7⟩
        · rw [k5]; exact Nat.zero_le _
        · have hmem := weights_mem_allQ (P := Try.prog) (e := 119) (List.mem_map_of_mem (f := (·.1)) (List.getElem_mem (l := elems) (n := i) (by omega))) _ k7
          have hw : kk ∈ DataW.weights Try.prog t (.slice (elems.map (·.1)) (rest.map (·.1)) : DataW H) := by
            unfold DataW.weights
            rw [ht]
            exact List.mem_cons_of_mem _ (List.mem_append_left _ hmem)
          have := List.all_eq_true.1 hsz _ (DataW.weights_mem_each htj hdj _ hw)
          have h8 : kk ≤ reachBytes := by simpa using this
          omega
      refine ⟨q, fun j u hu => ?_, k1, k2, k3, k4 hll⟩
      rw [h4] at hcs
      rw [(World.cells?_some hcs).2.2 j (by have := (List.getElem?_eq_some_iff.1 hu).1; exact this)]
      exact hu)
    by_cases h0 : len = 0
    · subst h0
      have hq0 : qs = [] := List.eq_nil_of_length_eq_zero hql
      subst hq0
      exact ⟨[], _, 0, 0, _, rfl, .inl rfl, by simp, fun i q hq => by simp at hq⟩
    · obtain ⟨b, off, spot⟩ := a
      obtain ⟨q0, hq0⟩ : ∃ q, qs[0]? = some q := ⟨_, List.getElem?_eq_getElem (by omega)⟩
      have hspot : spot = none := by simpa [Addr.add] using World.cell?_spot ((hqs 0 q0 hq0).1 0 _ rfl)
      subst hspot
      refine ⟨qs, _, b, off, cap, by rw [hql], .inr rfl, by omega, fun i q hq => ?_⟩
      obtain ⟨k0, k1, k2, k3, k4⟩ := hqs i q hq
      refine ⟨k1, k2, k3, k4, fun j u hu => ?_⟩
      have := k0 j u hu
      rw [addr_add, addr_add] at this
      exact this
end
end Go.Proofs.Ytabcaiecoiejkaa
namespace Go.Proofs.Ytabcaiecoiejkaa
open Go K Go.ChangeShapes Go.WideShapes Go.ChangeAt Go.RowKit

section
variable {H : Type} {enc : TypeId × Value → H} {w : World} {base b0 : Nat} {sp : Nat → Bool} {held : Bool}
theorem strs_ofC {m : Nat} {c : Value} {l : List Value} {y : DataW H × List MemPlace} (hl : l = [c]) (h : DataW.trod enc Try.prog w base sp held m 117 l = some y) : ∃ (ia : Option Addr) (xs : List ByteArray) (cap : Nat), c = .slice ia xs.length cap ∧ xs.length ≤ cap ∧ (xs = [] ∨ ∃ k, xs.length ≤ k ∧ k ∈ y.1.weights Try.prog 117) ∧ (xs.length ≤ 1000000000000000 → StrsAt w [] ia xs) := by
  subst hl
  rcases DataW.trod_slice Try.underlying117 h with ⟨hcs, hx⟩ | ⟨a, l', c', elems, rest, n, _, hcs, hx, _, hle, hcm, hlen, hel, _, _⟩
  · cases hcs
    exact ⟨none, [], 0, rfl, Nat.le_refl _, .inl rfl, fun _ => ⟨0, 0, .inl rfl, Nat.zero_le _, fun j x hj => by simp at hj⟩⟩
  · cases hcs
    have h1 : Try.prog.cellsOf 9 = 1 := by kernel_rfl
    rw [h1] at hel
    obtain ⟨xs, hxl, hxs⟩ := list_ofQ (P := fun i (x : ByteArray) => w.cell? (a.add (i * 1)) = some (.string x)) l' (fun i hi => by
      have he := hel i hi
      rw [List.getElem?_eq_getElem (by omega), Option.bind_eq_some_iff] at he
      obtain ⟨cs', hcs, hy⟩ := he
      obtain ⟨s, hs, _⟩ := DataW.trod_string Try.underlying9 hy
      subst hs
      refine ⟨s, ?_⟩
      have := (World.cells?_some hcs).2.2 0 (by simp)
      simpa [Addr.add] using this)
    cases xs with
    | nil =>
      have h0 : l' = 0 := hxl.symm
      subst h0
      exact ⟨some a, [], c', rfl, Nat.zero_le _, .inl rfl, fun _ => ⟨0, 0, .inl rfl, Nat.zero_le _, fun j x hj => by simp at hj⟩⟩
    | cons x0 xs =>
      obtain ⟨b, off, spot⟩ := a
      have hspot : spot = none := by simpa [Addr.add] using World.cell?_spot (hxs 0 x0 rfl)
      subst hspot
      have hby : Try.prog.bytesOf 9 = 16 := by kernel_rfl
      have hw : (elems.length + rest.length) * 16 ∈ y.1.weights Try.prog 117 := by
        rw [hx]
        unfold DataW.weights
        rw [Try.underlying117, List.length_map, List.length_map]
        show _ ∈ (elems.length + rest.length) * Try.prog.bytesOf 9 :: _
        rw [hby]
        exact List.mem_cons_self ..
      refine ⟨some ⟨b, off, none⟩, x0 :: xs, c', by rw [hxl], by rw [hxl]; exact hle, .inr ⟨_, by omega, hw⟩, fun hmx => ⟨b, off, .inr ⟨rfl, by simp⟩, hmx, fun j x hj => ?_⟩⟩
      have := hxs j x hj
      rw [addr_add, Nat.mul_one] at this
      exact this
theorem oq_ofC {fuel : Nat} {cs : List Value} {x : DataW H × List MemPlace} (h : DataW.trod enc Try.prog w base sp held fuel 119 cs = some x) :
    ∃ q : Oq, cs = q.cells ∧ okW q.kind ∧ okW q.port ∧ okW q.n ∧ q.l.length ≤ q.lcap ∧ (q.l = [] ∨ ∃ k, q.l.length ≤ k ∧ k ∈ x.1.weights Try.prog 119) ∧ (q.l.length ≤ 1000000000000000 → StrsAt w [] q.la q.l) := by
  obtain ⟨xs, m, _, hx, hl, hn, ha⟩ := DataW.trod_struct Try.underlying119 h
  obtain ⟨m', _, hfs⟩ := field_someQ Try.underlying119 h
  have hl : cs.length = 4 := hl.trans (by kernel_rfl)
  obtain ⟨a, b, c, d, rfl⟩ := list4Q hl
  obtain ⟨_, h0⟩ := hfs 0 _ rfl
  obtain ⟨_, h1⟩ := hfs 1 _ rfl
  obtain ⟨_, h2⟩ := hfs 2 _ rfl
  have h3 := ha 3 _ rfl
  obtain ⟨y3, hy3⟩ : ∃ y, xs[3]? = some y := ⟨_, List.getElem?_eq_getElem (by rw [hn]; decide)⟩
  rw [hy3] at h3
  obtain ⟨k, rfl, hk⟩ := one_i64Q (c := a) (by kernel_rfl) h0
  obtain ⟨p, rfl, hp⟩ := one_i64Q (c := b) (by kernel_rfl) h1
  obtain ⟨n, rfl, hn⟩ := one_i64Q (c := c) (by kernel_rfl) h2
  obtain ⟨ia, zs, cap, rfl, hzc, hz, hx2⟩ := strs_ofC (c := d) (by kernel_rfl) h3
  refine ⟨⟨k, p, n, ia, zs, cap⟩, rfl, hk, hp, hn, hzc, ?_, hx2⟩
  rcases hz with hz | ⟨kk, hz1, hz2⟩
  · exact .inl hz
  · refine .inr ⟨kk, hz1, ?_⟩
    rw [hx]
    have h8 : (xs.map (·.1))[3]? = some y3.1 := by rw [List.getElem?_map, hy3]; rfl
    have h9 := DataW.weights_mem_each (P := Try.prog) (ts := [3, 3, 3, 117]) (j := 3) rfl h8 kk hz2
    unfold DataW.weights
    rw [Try.underlying119]
    exact h9
/-- a script -/
theorem oqs_paramC {t : TypeId} (ht : Try.prog.underlying t = some (.slice 119)) {v : Value} {d : DataW H} {ps : List MemPlace} (hval : Value.okWide Try.prog w .any b0 t v) (h : DataW.Trod enc Try.prog w base sp held t v d ps)
    {ts : List TypeId} {ds : List (DataW H)} (hsz : (DataW.weightsEach Try.prog ts ds).all (· ≤ reachBytes) = true) {j : Nat} (htj : ts[j]? = some t) (hdj : ds[j]? = some d) :
    ∃ (qs : List Oq) (a : Option Addr) (bs off cap : Nat), v = .slice a qs.length cap ∧ (qs = [] ∨ a = some ⟨bs, off, none⟩) ∧ qs.length ≤ 1000000000000000 ∧ (∀ (i : Nat) q, qs[i]? = some q → okW q.kind ∧ okW q.port ∧ okW q.n ∧ q.l.length ≤ q.lcap ∧ StrsAt w [] q.la q.l ∧ ∀ j v, q.cells[j]? = some v → w.cell? ⟨bs, off + i * 4 + j, none⟩ = some v) := by
  obtain ⟨o, len, cap, rfl⟩ := okWide_slice ht hval
  obtain ⟨fuel, hf⟩ := h
  have h4 : Try.prog.cellsOf 119 = 4 := by kernel_rfl
  have hrb := reachBytes_lt
  have hby : Try.prog.bytesOf 119 = 48 := by kernel_rfl
  rcases DataW.trod_slice ht hf with ⟨hcs, hx⟩ | ⟨a, l', c', elems, rest, n, _, hcs, hx, _, hl, hm, hlen, hel, _, _⟩
  · simp [Value.cells] at hcs
    obtain ⟨rfl, rfl, rfl⟩ := hcs
    exact ⟨[], none, 0, 0, 0, rfl, .inl rfl, by simp, fun i q hq => by simp at hq⟩
  · simp [Value.cells] at hcs
    obtain ⟨rfl, rfl, rfl⟩ := hcs
    simp only [Prod.mk.injEq] at hx
    obtain ⟨rfl, _⟩ := hx
    have hs := sized_slice hsz htj hdj ht
    rw [hby, List.length_map, hlen] at hs
    obtain ⟨qs, hql, hqs⟩ := list_ofQ (P := fun i (q : Oq) => (∀ j u, q.cells[j]? = some u → w.cell? ((a.add (i * 4)).add j) = some u) ∧ okW q.kind ∧ okW q.port ∧ okW q.n ∧ q.l.length ≤ q.lcap ∧ StrsAt w [] q.la q.l) len (fun i hi => by
      have he := hel i hi
      rw [List.getElem?_eq_getElem (by omega), Option.bind_eq_some_iff] at he
      obtain ⟨cs', hcs, hy⟩ := he
      obtain ⟨q, rfl, k1, k2, k3, kc, k5, k4⟩ := oq_ofC hy
      have hll : q.l.length ≤ 1000000000000000 := by
        rcases k5 with k5 | ⟨kk, k6, k7⟩
        · rw [k5]; exact Nat.zero_le _
        · have hmem := weights_mem_allQ (P := Try.prog) (e := 119) (List.mem_map_of_mem (f := (·.1)) (List.getElem_mem (l := elems) (n := i) (by omega))) _ k7
          have hw : kk ∈ DataW.weights Try.prog t (.slice (elems.map (·.1)) (rest.map (·.1)) : DataW H) := by
            unfold DataW.weights
            rw [ht]
            exact List.mem_cons_of_mem _ (List.mem_append_left _ hmem)
          have := List.all_eq_true.1 hsz _ (DataW.weights_mem_each htj hdj _ hw)
          have h8 : kk ≤ reachBytes := by simpa using this
          omega
      refine ⟨q, fun j u hu => ?_, k1, k2, k3, kc, k4 hll⟩
      rw [h4] at hcs
      rw [(World.cells?_some hcs).2.2 j (by have := (List.getElem?_eq_some_iff.1 hu).1; exact this)]
      exact hu)
    by_cases h0 : len = 0
    · subst h0
      have hq0 : qs = [] := List.eq_nil_of_length_eq_zero hql
      subst hq0
      exact ⟨[], _, 0, 0, _, rfl, .inl rfl, by simp, fun i q hq => by simp at hq⟩
    · obtain ⟨b, off, spot⟩ := a
      obtain ⟨q0, hq0⟩ : ∃ q, qs[0]? = some q := ⟨_, List.getElem?_eq_getElem (by omega)⟩
      have hspot : spot = none := by simpa [Addr.add] using World.cell?_spot ((hqs 0 q0 hq0).1 0 _ rfl)
      subst hspot
      refine ⟨qs, _, b, off, cap, by rw [hql], .inr rfl, by omega, fun i q hq => ?_⟩
      obtain ⟨k0, k1, k2, k3, kc, k4⟩ := hqs i q hq
      refine ⟨k1, k2, k3, kc, k4, fun j u hu => ?_⟩
      have := k0 j u hu
      rw [addr_add, addr_add] at this
      exact this
end
end Go.Proofs.Ytabcaiecoiejkaa
