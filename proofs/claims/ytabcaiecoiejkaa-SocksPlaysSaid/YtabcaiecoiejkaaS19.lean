/- Walks of package socks: Clone of the names, New of any configuration. -/
import Derived.Test.YtabcaiecoiejkaaS18
import Derived.Test.YtabcaiecoiejkaaK15
import Derived.Test.YtabcaiecoiejkaaS9
set_option maxRecDepth 100000
set_option linter.unusedSimpArgs false
set_option linter.unusedVariables false
set_option maxHeartbeats 2000000
namespace Go.Proofs.Ytabcaiecoiejkaa
open Go K

def nmC (ns : List Nm) : List Value := flatC Nm.cells ns
theorem nm_len (m : Nm) : m.cells.length = 18 := rfl
theorem nmC_len (ns : List Nm) : (nmC ns).length = ns.length * 18 := flatC_len nm_len ns
theorem nm_one (m : Nm) : ∀ u ∈ m.cells, u.oneCell' = true := by
  intro u hu
  simp only [Nm.cells, Adr.cells, List.mem_cons, List.not_mem_nil, or_false] at hu
  rcases hu with h | h | h | h | h | h | h | h | h | h | h | h | h | h | h | h | h | h <;> (subst h; rfl)
theorem nmC_one (ns : List Nm) : ∀ u ∈ nmC ns, u.oneCell' = true := by
  intro u hu
  obtain ⟨m, _, h⟩ := List.mem_flatMap.1 hu
  exact nm_one m u h
theorem elt83 : Elt Try.prog 83 18 40 [.string ⟨#[]⟩, .bool false, .int .u8 0, .int .u8 0, .int .u8 0, .int .u8 0, .int .u8 0, .int .u8 0, .int .u8 0, .int .u8 0, .int .u8 0, .int .u8 0, .int .u8 0, .int .u8 0, .int .u8 0, .int .u8 0, .int .u8 0, .int .u8 0] := ⟨by kernel_rfl, rfl, by decide⟩
/-- names as the source of an append -/
theorem NmAt.src {w : World} {ks : List Nat} {v : Value} {ns : List Nm} (h : NmAt w ks v ns) : Src Try.prog 18 57 v ns.length (nmC ns) w := by
  obtain ⟨a, nb, off, cap, rfl, ha, hl, hc⟩ := h
  cases a with
  | none =>
    have h0 : ns = [] := by
      rcases ha with h | h
      · exact h
      · cases h.1
    subst h0
    exact Src.ofNil w Try.underlying57 cap
  | some a =>
    refine Src.ofSlice w Try.underlying57 a ns.length cap (nmC ns) (nmC_len ns) (fun j u hu => ?_) (nmC_one ns)
    obtain ⟨i, j', m, h1, h2, rfl⟩ := flatC_back nm_len ns j u hu
    rcases ha with h | h
    · subst h; simp at h1
    · have ha := Option.some.inj h.1
      subst ha
      have := hc i m h1 j' u h2
      rw [addr_add]
      show w.cell? ⟨nb, off + (i * 18 + j'), none⟩ = _
      rw [← Nat.add_assoc]
      exact this
theorem sV_rowG {sz : Nat} {o : Own} {n : Nat} {xs : List Value} (h : RowOk sz o n xs) : rowV o n = sV o n := by
  cases o with
  | none => rw [h.nil rfl]; rfl
  | some q => rfl
theorem Clone_any (v : Value) (ns : List Nm) (w : World) (hn : NmAt w [] v ns) (hsz : ns.length * 40 ≤ 140737488355328) :
    Calls Try.prog 91 [v].toArray w fun e w' => ∃ o : Own, RowOk 18 o ns.length (nmC ns) ∧ e = .returned (sV o ns.length) ∧ Mem w [] (rowL 83 o (nmC ns)) w' := by
  have hn0 := hn
  obtain ⟨a, nb, off, cap, rfl, ha, hl, hc⟩ := hn0
  cases a with
  | none =>
    have h0 : ns = [] := by
      rcases ha with h | h
      · exact h
      · cases h.1
    subst h0
    refine calls_of_z Try.func91 rfl Try.ntmps91 rfl (Mem.refl w) ?_; intro cs b hb hk
    repeat (first | (refine st ?_) | (refine stx ?_) | (refine sb ?_) | (intro _))
    refine zx_eqNil tab_ok rfl rfl rfl rfl rfl ?_
    repeat (first | (refine st ?_) | (refine stx ?_) | (refine sb ?_) | (intro _))
    refine z_ret1 tab_ok Try.func91 hb hk Try.results91 (.tmp rfl) (fun w hm => ?_)
    exact ⟨none, ⟨rfl, fun _ => rfl, fun _ _ _ _ h => by cases h⟩, rfl, hm⟩
  | some a =>
    refine calls_of_z Try.func91 rfl Try.ntmps91 rfl (Mem.refl w) ?_; intro cs b hb hk
    repeat (first | (refine st ?_) | (refine stx ?_) | (refine sb ?_) | (intro _))
    refine zx_eqNil tab_ok rfl rfl rfl rfl rfl ?_
    repeat (first | (refine st ?_) | (refine stx ?_) | (refine sb ?_) | (intro _))
    refine zx_bslice0 tab_ok rfl rfl elt83 rfl ?_
    intro kb
    repeat (first | (refine st ?_) | (refine stx ?_) | (refine sb ?_) | (intro _))
    refine zx_append elt83 tab_ok [] (some (kb, [], 0, [])) 0 [] rfl rfl rfl rfl rfl rfl ⟨rfl, fun h => (by cases h), fun b pre r rest h => (by cases h; exact Nat.le_refl _)⟩ (fun w hm => (hn.step (ks1 := []) hm (fun k hk => by cases hk)).src) (by omega) (by omega) ?_
    intro o' hok'
    refine zx_re 7 (rowV o' ns.length) rfl (by rw [Nat.zero_add]) ?_
    rw [Nat.zero_add, List.nil_append] at hok'
    repeat (first | (refine st ?_) | (refine stx ?_) | (refine sb ?_) | (intro _))
    refine z_ret1 tab_ok Try.func91 hb hk Try.results91 (.tmp rfl) (fun w hm => ?_)
    exact ⟨o', hok', by rw [← sV_rowG hok'], hm⟩
/-- a session at its beginning -/
def pxN (user pass : ByteArray) (nv : Value) : Px := ⟨user, pass, nv, 0, [], [], false, false, false, adr0, 0⟩
theorem New_any (user pass : ByteArray) (v : Value) (ns : List Nm) (w : World) (hn : NmAt w [] v ns) (hsz : ns.length * 40 ≤ 140737488355328) :
    Calls Try.prog 34 [.agg #[.string user, .string pass, v]].toArray w fun e w' => ∃ g : Nat × Own, RowOk 18 g.2 ns.length (nmC ns) ∧ e = .returned (fP g.1 0) ∧ Mem w [] (rowL 83 g.2 (nmC ns) ++ pX g.1 (pxN user pass (sV g.2 ns.length)) (none, none)) w' := by
  refine calls_of_z Try.func34 rfl Try.ntmps34 rfl (Mem.refl w) ?_; intro cs b hb hk
  repeat (first | (refine st ?_) | (refine stx ?_) | (refine sb ?_) | (intro _))
  rename_i kc
  refine zx_call (Y := Own) (v := fun o => sV o ns.length) (Φ := fun o => RowOk 18 o ns.length (nmC ns)) (L' := fun o => (kc, .c [.string user, .string pass, v] 59 0 0) :: rowL 83 o (nmC ns)) rfl fnc91 rfl rfl
    (fun w1 hm1 => (Clone_any v ns w1 (hn.step (ks1 := []) hm1 (fun k hk => by cases hk)) hsz).mono fun e w' ⟨o, ho, he, hm'⟩ => ⟨o, ho, he, by have := hm1.trans0 hm'; exact this.perm (List.perm_append_comm (l₁ := [_]))⟩) (fun o ho => ?_)
  repeat (first | (refine st ?_) | (refine stx ?_) | (refine sb ?_) | (intro _))
  rename_i p
  refine z_ret1 tab_ok Try.func34 hb hk Try.results34 (.tmp rfl) (fun w hm => ?_)
  refine ⟨(p, o), ho, rfl, ?_⟩
  exact (hm.weaken (L' := (p, .c ((pxN user pass (sV o ns.length)).cells (none, none)) 96 0 0) :: rowL 83 o (nmC ns)) (fun _ h => h) (List.Sublist.cons_cons _ (List.Sublist.cons _ (List.Sublist.refl _)))).perm (List.perm_append_comm (l₂ := [_]))
theorem pxN_ok (user pass : ByteArray) (nv : Value) : okX (pxN user pass nv) (none, none) := ⟨RowOk.nil0 1, RowOk.nil0 1⟩
/-- the names lie where the session's row of them lies -/
theorem nmAt_row {w0 w : World} {ks : List Nat} {R : Mm} {p : Nat} {x : Px} {o : Own × Own} {no : Own} {ns : List Nm} (hm : Mem w0 ks (R ++ pX p x o) w) (hR : ∀ q ∈ rowL 83 no (nmC ns), q ∈ R) (hok : RowOk 18 no ns.length (nmC ns)) (hl : ns.length ≤ 1000000000000000)
    (hx : x.names = sV no ns.length) : NmAt w (kX p x o) x.names ns := by
  cases no with
  | none =>
    have h0 : ns = [] := List.eq_nil_of_length_eq_zero (hok.nil rfl)
    subst h0
    exact ⟨none, 0, 0, 0, hx, .inl rfl, hl, fun i m hi => by simp at hi⟩
  | some q =>
    obtain ⟨b, pre, r, rest⟩ := q
    have hmem := hR _ (List.mem_singleton.2 rfl)
    refine ⟨some ⟨b, pre.length, none⟩, b, pre.length, ns.length + r, hx, .inr ⟨rfl, fun hk => ?_⟩, hl, fun i m hi j u hu => ?_⟩
    · have hnd := hm.nd
      rw [List.map_append, List.nodup_append] at hnd
      exact hnd.2.2 b (List.mem_map.2 ⟨_, hmem, rfl⟩) b hk rfl
    · have hb := hm.known _ (List.mem_append_left _ hmem)
      have hq := flatC_at nm_len ns i j m u hi hu
      have hlt := (List.getElem?_eq_some_iff.1 hq).1
      simp only [World.cell?, hb, Blk.obj]
      have : (pre ++ nmC ns ++ rest)[pre.length + i * 18 + j]? = some u := by
        rw [List.append_assoc, List.getElem?_append_right (by omega), List.getElem?_append_left (by unfold nmC; omega)]
        rw [show pre.length + i * 18 + j - pre.length = i * 18 + j by omega]
        exact hq
      simpa using this
end Go.Proofs.Ytabcaiecoiejkaa
