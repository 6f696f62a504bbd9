/- Walk of the law UdpOnce: it answers true. -/
import Derived.Test.YtabcaiecoiejkaaU2
import Derived.Test.YtabcaiecoiejkaaD2
set_option maxRecDepth 100000
set_option linter.unusedSimpArgs false
set_option linter.unusedVariables false
set_option maxHeartbeats 4000000
namespace Go.Proofs.Ytabcaiecoiejkaa
open Go K

section
variable {c : Cx} {q : Bool} {n : Nat} {F : Fr} {w0 : World} {ks : List Nat} {L : Mm} {D : List Deferred} {ops : Array Oper} {i : Nat} {rest : List Oper} {k : List Item}
end
def bufJ (ct : List Int) (js : List Nat) : List Value := js.map fun (j : Nat) => pr2 (Int.ofNat j) (ct.getD j 0)
theorem bufJ_len (ct : List Int) (js : List Nat) : (bufJ ct js).length = js.length := List.length_map ..
theorem bufJ_app (ct : List Int) (js : List Nat) (i : Nat) (m : Int) (h : ct[i]? = some m) : bufJ ct js ++ [pr2 (i : Int) m] = bufJ ct (js ++ [i]) := by
  unfold bufJ
  rw [List.map_append, List.map_singleton, List.getD_eq_getElem?_getD, h]
  rfl
theorem wrapI {x : Int} (h1 : -9223372036854775808 ≤ x) (h2 : x ≤ 9223372036854775807) : IntKind.i64.wrap x = x := by
  simp only [IntKind.wrap_i64]
  omega
theorem asc_app {js : List Nat} {i : Nat} (h : js.Pairwise (· < ·)) (h2 : ∀ j ∈ js, j < i) : (js ++ [i]).Pairwise (· < ·) :=
  List.pairwise_append.2 ⟨h, List.pairwise_singleton _ _, fun a ha b hb => by
    rw [List.mem_singleton] at hb
    rw [hb]
    exact h2 a ha⟩
theorem rng_app {js : List Nat} {i : Nat} {last : Int} (h : ∀ j ∈ js, last < (j : Int) ∧ j < i) (h2 : last < (i : Int)) : ∀ j ∈ js ++ [i], last < (j : Int) ∧ j < i + 1 := fun j hj => by
  rcases List.mem_append.1 hj with hj | hj
  · exact ⟨(h j hj).1, Nat.lt_succ_of_lt (h j hj).2⟩
  · rw [List.mem_singleton] at hj
    rw [hj]
    exact ⟨h2, Nat.lt_succ_self _⟩
theorem rng_up {js : List Nat} {i : Nat} {last : Int} (h : ∀ j ∈ js, last < (j : Int) ∧ j < i) : ∀ j ∈ js, last < (j : Int) ∧ j < i + 1 := fun j hj => ⟨(h j hj).1, Nat.lt_succ_of_lt (h j hj).2⟩
def okJ (x : Int) : Prop := -9223372036854775808 ≤ x ∧ x ≤ 9223372036854775807
structure Og where
  i : Nat
  js : List Nat
  last : Int
  s : Nat
  r : Nat
def fO (p d : Nat) (a : Option Addr) (len cap : Nat) (g : Og) : Fr := [(0, .int .i64 (d : Int)), (1, .slice a len cap), (5, .bool true), (6, ptr p), (7, .int .i64 7), (8, .int .i64 0), (9, .int .i64 g.last), (10, .int .i64 (g.js.length : Int)), (11, .int .i64 (g.i : Int))]
structure Ok (ct : List Int) (d : Nat) (g : Og) : Prop where
  sorted : g.js.Pairwise (· < ·)
  rng : ∀ j ∈ g.js, g.last < (j : Int) ∧ j < g.i
  room : g.js.length ≤ d
  low : -1 ≤ g.last
  lt : g.last < g.i
  le : g.i ≤ ct.length
theorem UdpOnce_any (depth : Int) (a : Option Addr) (ct : List Int) (cap bc off : Nat) (hca : ct = [] ∨ a = some ⟨bc, off, none⟩) (hcl : ct.length ≤ 1000000000000000) (w : World)
    (hcc : ∀ (i : Nat) m, ct[i]? = some m → okJ m ∧ w.cell? ⟨bc, off + i, none⟩ = some (.int .i64 m)) :
    Calls Try.prog 14 [.int .i64 depth, .slice a ct.length cap].toArray w fun e w' => e = .returned (.bool true) ∧ Mem w [] [] w' := by
  refine calls_of_z Try.func14 rfl Try.ntmps14 rfl (Mem.refl w) ?_; intro cs b hb hk
  repeat (first | (refine st ?_) | (refine stx ?_) | (refine sb ?_) | (intro _))
  ((try (refine sg ?_)); (refine zx_call0 rfl fnc17 rfl rfl (fun w hm => awake16_any w) ?_))
  repeat (first | (refine st ?_) | (refine stx ?_) | (refine sb ?_) | (intro _))
  refine zx_call (Y := Nat) (v := fun p => ptr p) (Φ := fun _ => True) (L' := fun p => [pP2 p none]) rfl fnc55 rfl rfl (fun w1 hm1 => (New2_any w1).mono fun e w' ⟨p, _, he, hm'⟩ => ⟨p, trivial, he, by have := hm1.trans0 hm'; rwa [List.append_nil] at this⟩) (fun p _ => ?_)
  repeat (first | (refine st ?_) | (refine stx ?_) | (refine sb ?_) | (intro _))
  by_cases hd : depth < 1 ∨ 16 < depth
  · refine zx_call (Y := Unit) (v := fun _ => .tuple #[.int .i64 0, .int .i64 1]) (Φ := fun _ => True) (L' := fun _ => [] ++ [pP2 p none]) rfl fnc56 rfl rfl (fun w1 hm1 => MC.use (R := []) (Open2_bad p depth hd) hm1) (fun _ _ => ?_)
    by_cases h1 : depth < 1
    · repeat (first | (refine st ?_) | (refine stx ?_) | (refine sb ?_) | (intro _))
      ((try (refine sg ?_)); (refine zx_call0 rfl fnc57 rfl rfl (fun w hm => MQ.use (R := []) (List2_nil p) hm) ?_))
      repeat (first | (refine st ?_) | (refine stx ?_) | (refine sb ?_) | (intro _))
      refine z_ret1 tab_ok Try.func14 hb hk Try.results14 (.tmp rfl) (fun w hm => ?_)
      exact ⟨rfl, hm.bare⟩
    · have h16 : 16 < depth := by omega
      repeat (first | (refine st ?_) | (refine stx ?_) | (refine sb ?_) | (intro _))
      ((try (refine sg ?_)); (refine zx_call0 rfl fnc57 rfl rfl (fun w hm => MQ.use (R := []) (List2_nil p) hm) ?_))
      repeat (first | (refine st ?_) | (refine stx ?_) | (refine sb ?_) | (intro _))
      refine z_ret1 tab_ok Try.func14 hb hk Try.results14 (.tmp rfl) (fun w hm => ?_)
      exact ⟨rfl, hm.bare⟩
  obtain ⟨d, rfl⟩ : ∃ d : Nat, depth = (d : Int) := ⟨depth.toNat, by omega⟩
  have hd1 : 1 ≤ d := by omega
  have hd2 : d ≤ 16 := by omega
  refine zx_call (Y := Nat × Nat) (v := fun _ => .tuple #[.int .i64 7, .int .i64 0]) (Φ := fun _ => True) (L' := fun y => S2 p y.1 y.2 d [] 0 0) rfl fnc56 rfl rfl (fun w1 hm1 => by
    have hm2 : Mem _ _ ([pP2 p none] ++ []) w1 := hm1
    refine (Open2_new p d hd1 hd2 w1 (Mem.now (S := [pP2 p none]) (R := []) hm2)).mono fun e w' ⟨y, _, he, hm'⟩ => ⟨y, trivial, he, ?_⟩
    have := Mem.call (S := [pP2 p none]) (S' := S2 p y.1 y.2 d [] 0 0) (R := []) hm2 hm'
    rwa [List.append_nil] at this) (fun y _ => ?_)
  obtain ⟨mb, cb⟩ := y
  repeat (first | (refine st ?_) | (refine stx ?_) | (refine sb ?_) | (intro _))
  refine z_loop (fun g : Og => Ok ct d g) (fO p d a ct.length cap) (fun g => S2 p mb cb d (bufJ ct g.js) g.s g.r) (fun g => ct.length - g.i) ⟨0, [], -1, 0, 0⟩ ⟨List.Pairwise.nil, (fun j hj => by cases hj), Nat.zero_le _, by decide, by decide, Nat.zero_le _⟩ ⟨rfl, rfl, rfl, rfl, rfl, rfl, rfl, rfl, rfl, trivial⟩ (List.Sublist.refl _) ?_
  intro g hg ih
  obtain ⟨i, js, last, s, r⟩ := g
  obtain ⟨o1, o2, o3, o4, o5, o6⟩ := hg
  simp only at o1 o2 o3 o4 o5 o6
  refine z_weaken [(0, .int .i64 (d : Int)), (1, .slice a ct.length cap), (5, .bool true), (6, ptr p), (7, .int .i64 7), (8, .int .i64 0), (9, .int .i64 last), (10, .int .i64 (js.length : Int)), (11, .int .i64 (i : Int))] (S2 p mb cb d (bufJ ct js) s r) ⟨rfl, rfl, rfl, rfl, rfl, rfl, rfl, rfl, rfl, trivial⟩ (List.Sublist.refl _) (fun _ h => h) ?_
  by_cases hi : i < ct.length
  · obtain ⟨m, hm0⟩ : ∃ m, ct[i]? = some m := ⟨_, List.getElem?_eq_getElem hi⟩
    obtain ⟨hmi, hmc⟩ := hcc i m hm0
    have hae : a = some ⟨bc, off, none⟩ := by
      rcases hca with h | h
      · subst h; exact absurd hi (Nat.not_lt_zero _)
      · exact h
    subst hae
    repeat (first | (refine st ?_) | (refine stx ?_) | (refine sb ?_) | (intro _))
    refine zx_idxA (sz := i * 1) tab_ok rfl rfl rfl rfl rfl rfl (by omega) (by omega) (by simp) ?_
    refine zx_loadB (v := .int .i64 m) tab_ok rfl rfl rfl rfl (by rw [Nat.mul_one]; exact hmc) (by simp) rfl ?_
    refine st ?_
    by_cases he : m.tmod 2 = 0
    · refine st ?_
      refine zx_re 58 (.bool true) rfl (congrArg _ (beq_iff_eq.2 he)) ?_
      repeat (first | (refine st ?_) | (refine stx ?_) | (refine sb ?_) | (intro _))
      refine zx_idxA (sz := i * 1) tab_ok rfl rfl rfl rfl rfl rfl (by omega) (by omega) (by simp) ?_
      refine zx_loadB (v := .int .i64 m) tab_ok rfl rfl rfl rfl (by rw [Nat.mul_one]; exact hmc) (by simp) rfl ?_
      repeat (first | (refine st ?_) | (refine stx ?_) | (refine sb ?_) | (intro _))
      rename_i sb
      by_cases hr : js.length < d
      · refine zx_call (Y := Unit) (v := fun _ => .tuple #[.int .i64 1, .int .i64 0]) (Φ := fun _ => True) (L' := fun _ => [] ++ S2s sb i m (S2 p mb cb d (bufJ ct js ++ [pr2 i m]) (s + 1) r)) rfl fnc58 rfl rfl (fun w1 hm1 => MC.use (R := []) (Offer2_room p mb cb sb d (bufJ ct js) s r i m (by rw [bufJ_len]; exact hr)) hm1) (fun _ _ => ?_)
        repeat (first | (refine st ?_) | (refine stx ?_) | (refine sb ?_) | (intro _))
        refine z_re 88 (.bool false) rfl (by simp [hr]) ?_
        repeat (first | (refine st ?_) | (refine stx ?_) | (refine sb ?_) | (intro _))
        refine zx_re 10 (.int .i64 ((js ++ [i]).length : Int)) rfl (by rw [List.length_append, List.length_singleton, wrapI (by omega) (by omega)]; rfl) ?_
        repeat (first | (refine st ?_) | (refine stx ?_) | (intro _))
        ((try (refine sg ?_)); (refine zx_call0 rfl fnc60 rfl rfl (fun w hm => MQ.use (R := [_]) (Wait2_any p mb cb d _ _ _) hm) ?_))
        repeat (first | (refine st ?_) | (refine stx ?_) | (intro _))
        refine zx_re 140 (.bool false) rfl (congrArg _ (bne_eq_false_iff_eq.2 (by first | rfl | (simp [bufJ_len])))) ?_
        repeat (first | (refine st ?_) | (refine stx ?_) | (intro _))
        refine z_re 144 (.bool false) rfl (congrArg _ (decide_eq_false (by simp; omega))) ?_
        repeat (first | (refine st ?_) | (refine stx ?_) | (intro _))
        refine z_re 11 (.int .i64 ((i + 1 : Nat) : Int)) rfl (congrArg _ (wrapI (by omega) (by omega))) ?_
        refine z_weaken (fO p d (some ⟨bc, off, none⟩) ct.length cap ⟨i + 1, js ++ [i], last, s + 1, r⟩) (S2 p mb cb d (bufJ ct (js ++ [i])) (s + 1) (r)) ⟨rfl, rfl, rfl, rfl, rfl, rfl, rfl, rfl, rfl, trivial⟩ (by rw [← bufJ_app ct js i m hm0]; exact List.Sublist.cons _ (List.Sublist.refl _)) (fun _ h => h) ?_
        exact ih ⟨i + 1, js ++ [i], last, s + 1, r⟩ ⟨asc_app o1 (fun j hj => (o2 j hj).2), rng_app o2 o5, (by rw [List.length_append]; exact hr), o4, (by simp only; omega), hi⟩ (by simp only; omega)
      · refine zx_call (Y := Unit) (v := fun _ => .tuple #[.int .i64 0, .int .i64 0]) (Φ := fun _ => True) (L' := fun _ => [] ++ S2s sb i m (S2 p mb cb d (bufJ ct js) s r)) rfl fnc58 rfl rfl (fun w1 hm1 => MC.use (R := []) (Offer2_full p mb cb sb d (bufJ ct js) s r i m (by rw [bufJ_len]; exact Nat.le_of_not_lt hr)) hm1) (fun _ _ => ?_)
        repeat (first | (refine st ?_) | (refine stx ?_) | (refine sb ?_) | (intro _))
        refine z_re 88 (.bool false) rfl (by simp [hr]) ?_
        repeat (first | (refine st ?_) | (refine stx ?_) | (refine sb ?_) | (intro _))
        refine zx_re 10 (.int .i64 (js.length : Int)) rfl (congrArg _ (by rw [Int.add_zero]; exact wrapI (by omega) (by omega))) ?_
        repeat (first | (refine st ?_) | (refine stx ?_) | (intro _))
        ((try (refine sg ?_)); (refine zx_call0 rfl fnc60 rfl rfl (fun w hm => MQ.use (R := [_]) (Wait2_any p mb cb d _ _ _) hm) ?_))
        repeat (first | (refine st ?_) | (refine stx ?_) | (intro _))
        refine zx_re 140 (.bool false) rfl (congrArg _ (bne_eq_false_iff_eq.2 (by first | rfl | (simp [bufJ_len])))) ?_
        repeat (first | (refine st ?_) | (refine stx ?_) | (intro _))
        refine z_re 144 (.bool false) rfl (congrArg _ (decide_eq_false (by simp; omega))) ?_
        repeat (first | (refine st ?_) | (refine stx ?_) | (intro _))
        refine z_re 11 (.int .i64 ((i + 1 : Nat) : Int)) rfl (congrArg _ (wrapI (by omega) (by omega))) ?_
        refine z_weaken (fO p d (some ⟨bc, off, none⟩) ct.length cap ⟨i + 1, js, last, s, r⟩) (S2 p mb cb d (bufJ ct (js)) (s) (r)) ⟨rfl, rfl, rfl, rfl, rfl, rfl, rfl, rfl, rfl, trivial⟩ (List.Sublist.cons _ (List.Sublist.refl _)) (fun _ h => h) ?_
        exact ih ⟨i + 1, js, last, s, r⟩ ⟨o1, rng_up o2, o3, o4, (by simp only; omega), hi⟩ (by simp only; omega)
    · refine st ?_
      refine zx_re 58 (.bool false) rfl (congrArg _ (beq_eq_false_iff_ne.2 he)) ?_
      repeat (first | (refine st ?_) | (refine stx ?_) | (refine sb ?_) | (intro _))
      cases js with
      | nil =>
        refine zx_call (Y := Unit) (v := fun _ => .tuple #[pr2 0 0, .int .i64 82]) (Φ := fun _ => True) (L' := fun _ => [] ++ S2 p mb cb d [] s r) rfl fnc59 rfl rfl (fun w1 hm1 => MC.use (R := []) (Take2_none p mb cb d s r) hm1) (fun _ _ => ?_)
        repeat (first | (refine st ?_) | (refine stx ?_) | (refine sb ?_) | (intro _))
        ((try (refine sg ?_)); (refine zx_call0 rfl fnc60 rfl rfl (fun w hm => MQ.use (R := [_]) (Wait2_any p mb cb d _ _ _) hm) ?_))
        repeat (first | (refine st ?_) | (refine stx ?_) | (intro _))
        repeat (first | (refine st ?_) | (refine stx ?_) | (intro _))
        repeat (first | (refine st ?_) | (refine stx ?_) | (refine sb ?_) | (intro _))
        repeat (first | (refine st ?_) | (refine stx ?_) | (intro _))
        refine z_re 11 (.int .i64 ((i + 1 : Nat) : Int)) rfl (congrArg _ (wrapI (by omega) (by omega))) ?_
        refine z_weaken (fO p d (some ⟨bc, off, none⟩) ct.length cap ⟨i + 1, [], last, s, r⟩) (S2 p mb cb d (bufJ ct ([])) (s) (r)) ⟨rfl, rfl, rfl, rfl, rfl, rfl, rfl, rfl, rfl, trivial⟩ (List.Sublist.cons _ (List.Sublist.refl _)) (fun _ h => h) ?_
        exact ih ⟨i + 1, [], last, s, r⟩ ⟨o1, rng_up o2, o3, o4, (by simp only; omega), hi⟩ (by simp only; omega)
      | cons j js =>
        refine zx_call (Y := Unit) (v := fun _ => .tuple #[pr2 j (ct.getD j 0), .int .i64 0]) (Φ := fun _ => True) (L' := fun _ => [] ++ S2 p mb cb d (bufJ ct js) s (r + 1)) rfl fnc59 rfl rfl (fun w1 hm1 => MC.use (R := []) (Take2_one p mb cb d (bufJ ct js) s r j (ct.getD j 0)) hm1) (fun _ _ => ?_)
        have hj := o2 j (List.mem_cons_self ..)
        obtain ⟨m2, hm2⟩ : ∃ m, ct[j]? = some m := ⟨_, List.getElem?_eq_getElem (by omega)⟩
        obtain ⟨hmi2, hmc2⟩ := hcc j m2 hm2
        have hgd : ct.getD j 0 = m2 := by rw [List.getD_eq_getElem?_getD, hm2]; rfl
        rw [hgd]
        repeat (first | (refine st ?_) | (refine stx ?_) | (refine sb ?_) | (intro _))
        refine zx_re 102 (.bool false) rfl (by simp) ?_
        repeat (first | (refine st ?_) | (refine stx ?_) | (refine sb ?_) | (intro _))
        (try (refine sg ?_))
        refine zx_idxA (sz := j * 1) tab_ok rfl rfl rfl rfl rfl rfl (by omega) (by omega) (by simp) ?_
        (try (refine sg ?_))
        refine zx_loadB (v := .int .i64 m2) tab_ok rfl rfl rfl rfl (by rw [Nat.mul_one]; exact hmc2) (by simp) rfl ?_
        repeat (first | (refine st ?_) | (refine stx ?_) | (refine sb ?_) | (intro _))
        have hl : (j :: js).length = js.length + 1 := rfl
        refine zx_re 10 (.int .i64 (js.length : Int)) rfl (congrArg _ (by rw [hl, wrapI (by omega) (by omega)]; omega)) ?_
        repeat (first | (refine st ?_) | (refine stx ?_) | (intro _))
        ((try (refine sg ?_)); (refine zx_call0 rfl fnc60 rfl rfl (fun w hm => MQ.use (R := [_]) (Wait2_any p mb cb d _ _ _) hm) ?_))
        repeat (first | (refine st ?_) | (refine stx ?_) | (intro _))
        refine zx_re 140 (.bool false) rfl (congrArg _ (bne_eq_false_iff_eq.2 (by first | rfl | (simp [bufJ_len])))) ?_
        repeat (first | (refine st ?_) | (refine stx ?_) | (intro _))
        refine z_re 144 (.bool false) rfl (congrArg _ (decide_eq_false (by simp; omega))) ?_
        repeat (first | (refine st ?_) | (refine stx ?_) | (intro _))
        refine z_re 11 (.int .i64 ((i + 1 : Nat) : Int)) rfl (congrArg _ (wrapI (by omega) (by omega))) ?_
        refine z_weaken (fO p d (some ⟨bc, off, none⟩) ct.length cap ⟨i + 1, js, j, s, r + 1⟩) (S2 p mb cb d (bufJ ct (js)) (s) (r + 1)) ⟨rfl, rfl, rfl, rfl, rfl, rfl, rfl, rfl, rfl, trivial⟩ (List.Sublist.cons _ (List.Sublist.refl _)) (fun _ h => h) ?_
        exact ih ⟨i + 1, js, j, s, r + 1⟩ ⟨(List.pairwise_cons.1 o1).2, (fun j' h => ⟨Int.ofNat_lt.2 ((List.pairwise_cons.1 o1).1 j' h), Nat.lt_succ_of_lt (o2 j' (List.mem_cons_of_mem _ h)).2⟩), Nat.le_of_succ_le o3, (by simp only; omega), (by simp only; omega), hi⟩ (by simp only; omega)
  · repeat (first | (refine st ?_) | (refine stx ?_) | (refine sb ?_) | (intro _))
    refine z_ret1 tab_ok Try.func14 hb hk Try.results14 (.tmp rfl) (fun w hm => ?_)
    exact ⟨rfl, hm.bare⟩
end Go.Proofs.Ytabcaiecoiejkaa
