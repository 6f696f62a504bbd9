/- Walks of package udp: two, ends, sum, Build. -/
import Derived.Test.YtabcaiecoiejkaaA3
import Derived.Test.YtabcaiecoiejkaaA4
set_option maxRecDepth 100000
set_option linter.unusedSimpArgs false
set_option linter.unusedVariables false
namespace Go.Proofs.Ytabcaiecoiejkaa
open Go K

/-- two addresses between which something may go -/
def ends (a a' : Adr) : Bool := a.valid && a'.valid && (a.v6 == a'.v6)
theorem ends_iff {a a' : Adr} : ends a a' = true ↔ a.valid = true ∧ a'.valid = true ∧ a.v6 = a'.v6 := by simp [ends, and_assoc]

theorem two_any (x : Int) (w : World) (h0 : 0 ≤ x) (h1 : x ≤ 1000000000) :
    Calls Try.prog 71 [.int .i64 x].toArray w fun e w' => e = .returned (.string (putB x 2)) ∧ Mem w [] [] w' := by
  refine calls_of_z Try.func71 rfl Try.ntmps71 rfl (Mem.refl w) ?_; intro cs b hb hk
  repeat (first | (refine st ?_) | (refine sb ?_) | (intro _))
  ((try (refine sg ?_)); (refine zx_call0 rfl fnc32 rfl rfl (fun w hm => Put2_any _ w) ?_))
  repeat (first | (refine st ?_) | (refine sb ?_) | (intro _))
  refine z_ret1 tab_ok Try.func71 hb hk Try.results71 (.tmp rfl) (fun w hm => ?_)
  exact ⟨by rw [wru64 h0 (by omega)], hm.bare⟩

theorem ends16_any (a a' : Adr) (w : World) :
    Calls Try.prog 70 [a.val, a'.val].toArray w fun e w' => e = .returned (.bool (ends a a')) ∧ Mem w [] [] w' := by
  refine calls_of_z Try.func70 rfl Try.ntmps70 rfl (Mem.refl w) ?_; intro cs b hb hk
  repeat (first | (refine st ?_) | (refine sb ?_) | (intro _))
  ((try (refine sg ?_)); (refine zx_call0 rfl fnc48 rfl rfl (fun w hm => Valid_any a w) ?_))
  repeat (first | (refine st ?_) | (refine sb ?_) | (intro _))
  refine zx_split (t := 7) rfl (fun h => ?_) (fun h => ?_)
  · repeat (first | (refine st ?_) | (refine sb ?_) | (intro _))
    ((try (refine sg ?_)); (refine zx_call0 rfl fnc48 rfl rfl (fun w hm => Valid_any a' w) ?_))
    repeat (first | (refine st ?_) | (refine sb ?_) | (intro _))
    refine zx_split (t := 11) rfl (fun h1 => ?_) (fun h1 => ?_)
    · repeat (first | (refine st ?_) | (refine sb ?_) | (intro _))
      refine z_ret1 tab_ok Try.func70 hb hk Try.results70 (.tmp rfl) (fun w hm => ?_)
      exact ⟨by simp [ends, h, h1], hm.bare⟩
    · repeat (first | (refine st ?_) | (refine sb ?_) | (intro _))
      refine z_ret1 tab_ok Try.func70 hb hk Try.results70 (.tmp rfl) (fun w hm => ?_)
      exact ⟨by simp [ends, h, h1], hm.bare⟩
  · repeat (first | (refine st ?_) | (refine sb ?_) | (intro _))
    refine z_ret1 tab_ok Try.func70 hb hk Try.results70 (.tmp rfl) (fun w hm => ?_)
    exact ⟨by simp [ends, h], hm.bare⟩

theorem pseudo_size (a a' : Adr) (p n : Int) : (pseudo a a' p n).size ≤ 40 := by
  have h1 := a.bytes_size
  have h2 := a'.bytes_size
  unfold pseudo
  cases a.v6 <;> simp only [cond_true, cond_false, ByteArray.size_append, putB_size] <;> omega

/-- the checksum of a datagram in pieces -/
def usum (a a' : Adr) (first data : ByteArray) : Int :=
  if 65535 - csum (acc false (flat [pseudo a a' 17 (8 + data.size), first, data])) = 0 then 65535 else 65535 - csum (acc false (flat [pseudo a a' 17 (8 + data.size), first, data]))
theorem usum_range (a a' : Adr) (first data : ByteArray) : 1 ≤ usum a a' first data ∧ usum a a' first data ≤ 65535 := by
  have := @csum_range (acc false (flat [pseudo a a' 17 (8 + data.size), first, data]))
  unfold usum
  split <;> omega
theorem flat3 (x y z : ByteArray) : (flat [x, y, z]).length = x.size + y.size + z.size := by
  simp [flat, bL_length, Nat.add_assoc]

theorem strs_cell {w0 w : World} {ks : List Nat} {L : Mm} (h : Mem w0 ks L w) (j : Nat) {b : Nat} {ss : List ByteArray} {t : TypeId} {lo hi : Nat} (hL : L[j]? = some (b, .c (ss.map Value.string) t lo hi)) : ∀ (i : Nat) s, ss[i]? = some s → w.cell? ⟨b, 0 + i, none⟩ = some (.string s) := by
  intro i s hs
  rw [h.cell hL, Nat.zero_add, List.getElem?_map, hs]
  rfl
theorem sum16_any (a a' : Adr) (first data : ByteArray) (w : World) (he : ends a a' = true) (hf : first.size ≤ 100) (hd : data.size ≤ 65527) :
    Calls Try.prog 72 [a.val, a'.val, .string first, .string data].toArray w fun e w' => e = .returned (.int .i64 (usum a a' first data)) ∧ Mem w [] [] w' := by
  obtain ⟨h1, h2, h3⟩ := ends_iff.1 he
  have hps := pseudo_size a a' 17 (8 + data.size)
  have e8 : IntKind.i64.wrap (8 + (data.size : Int)) = 8 + data.size := wr64 (by omega) (by omega)
  refine calls_of_z Try.func72 rfl Try.ntmps72 rfl (Mem.refl w) ?_; intro cs b hb hk
  repeat (first | (refine st ?_) | (intro _))
  refine zx_re 14 (.int .i64 (8 + data.size)) rfl (congrArg _ e8) ?_
  ((try (refine sg ?_)); (refine zx_call0 rfl fnc31 rfl rfl (fun w hm => Pseudo_any a a' 17 (8 + data.size) w h1 h2 h3 (by omega) (by omega) (by omega) (by omega)) ?_))
  repeat (first | (refine st ?_) | (intro _))
  ((try (refine sg ?_)); (refine zx_call0 rfl fnc30 rfl rfl (fun w hm => Sum_any [pseudo a a' 17 (8 + data.size), first, data] _ 0 3 w (strs_cell hm 0 rfl) (by rw [flat3]; omega) (by simp)) ?_))
  repeat (first | (refine st ?_) | (intro _))
  by_cases hz : 65535 - csum (acc false (flat [pseudo a a' 17 (8 + data.size), first, data])) = 0
  · refine z_condKT rfl (beq_iff_eq.2 hz) ?_
    repeat (first | (refine st ?_) | (intro _))
    refine z_ret1 tab_ok Try.func72 hb hk Try.results72 (.tmp rfl) (fun w hm => ?_)
    exact ⟨by rw [usum, if_pos hz], hm.bare⟩
  · refine z_condKF rfl (beq_eq_false_iff_ne.2 hz) ?_
    repeat (first | (refine st ?_) | (intro _))
    refine z_ret1 tab_ok Try.func72 hb hk Try.results72 (.tmp rfl) (fun w hm => ?_)
    exact ⟨by rw [usum, if_neg hz], hm.bare⟩
end Go.Proofs.Ytabcaiecoiejkaa
