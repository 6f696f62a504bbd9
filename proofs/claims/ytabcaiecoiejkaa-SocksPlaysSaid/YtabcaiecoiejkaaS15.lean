/- Walks of package socks: the names that a session knows, IndexFunc over them; login. -/
import Derived.Test.YtabcaiecoiejkaaS8
import Derived.Test.YtabcaiecoiejkaaS13
set_option maxRecDepth 100000
set_option linter.unusedSimpArgs false
set_option linter.unusedVariables false
set_option maxHeartbeats 4000000
namespace Go.Proofs.Ytabcaiecoiejkaa
open Go K

structure Nm where
  name : ByteArray
  ad : Adr
def Nm.cells (m : Nm) : List Value := .string m.name :: m.ad.cells
/-- a slice of names lies in w, in no block of ks -/
def NmAt (w : World) (ks : List Nat) (v : Value) (ns : List Nm) : Prop :=
  ∃ (a : Option Addr) (nb off cap : Nat), v = .slice a ns.length cap ∧ (ns = [] ∨ (a = some ⟨nb, off, none⟩ ∧ nb ∉ ks)) ∧ ns.length ≤ 1000000000000000 ∧ ∀ (i : Nat) m, ns[i]? = some m → ∀ j u, m.cells[j]? = some u → w.cell? ⟨nb, off + i * 18 + j, none⟩ = some u
theorem NmAt.step {w w1 : World} {ks ks1 : List Nat} {L : Mm} {v : Value} {ns : List Nm} (h : NmAt w ks v ns) (hm : Mem w ks L w1) (hks : ∀ k ∈ ks1, k ∈ L.map (·.1)) : NmAt w1 ks1 v ns := by
  obtain ⟨a, nb, off, cap, hv, ha, hl, hc⟩ := h
  rcases ha with h0 | ⟨ha, hnb⟩
  · exact ⟨a, nb, off, cap, hv, .inl h0, hl, by subst h0; intro i m hi; simp at hi⟩
  · cases hns : ns with
    | nil => subst hns; exact ⟨a, nb, off, cap, hv, .inl rfl, hl, by intro i m hi; simp at hi⟩
    | cons m0 r =>
      subst hns
      have h00 := hc 0 m0 rfl 0 _ rfl
      have hlt := World.block_lt_of_cell? w _ h00
      refine ⟨a, nb, off, cap, hv, .inr ⟨ha, fun hk => ?_⟩, hl, fun i m hi j u hu => hm.cellB (hc i m hi j u hu) hnb⟩
      obtain ⟨q, hq, hqe⟩ := List.mem_map.1 (hks nb hk)
      rcases hm.kept q hq with h2 | h2
      · rw [hqe] at h2; exact hnb h2
      · rw [hqe] at h2; simp only at hlt; omega
def nmIx (ns : List Nm) (b : ByteArray) : Int := match ns.findIdx? (fun m => decide (m.name = b)) with | some i => (i : Int) | none => -1
theorem nameIs_any (m : Nm) (bd : ByteArray) (kb : Nat) (w : World) (hbc : w.cell? ⟨kb, 0, none⟩ = some (.string bd)) :
    Calls Try.prog 140 [.agg #[.string m.name, .bool m.ad.v6, .int .u8 (m.ad.b 0), .int .u8 (m.ad.b 1), .int .u8 (m.ad.b 2), .int .u8 (m.ad.b 3), .int .u8 (m.ad.b 4), .int .u8 (m.ad.b 5), .int .u8 (m.ad.b 6), .int .u8 (m.ad.b 7), .int .u8 (m.ad.b 8), .int .u8 (m.ad.b 9), .int .u8 (m.ad.b 10), .int .u8 (m.ad.b 11), .int .u8 (m.ad.b 12), .int .u8 (m.ad.b 13), .int .u8 (m.ad.b 14), .int .u8 (m.ad.b 15)], fP kb 0].toArray w fun e w' => e = .returned (.bool (decide (m.name = bd))) ∧ Mem w [] [] w' := by
  refine calls_of_z Try.func140 rfl Try.ntmps140 rfl (Mem.refl w) ?_; intro cs b hb hk
  repeat (first | (refine st ?_) | (refine stx ?_) | (intro _))
  refine zx_loadB (v := .string bd) tab_ok rfl rfl rfl rfl hbc (by simp) rfl ?_
  repeat (first | (refine st ?_) | (refine stx ?_) | (intro _))
  refine z_ret1 tab_ok Try.func140 hb hk Try.results140 (.tmp rfl) (fun w hm => ?_)
  exact ⟨rfl, hm.bare⟩
theorem IndexFunc_any (v : Value) (ns : List Nm) (bd : ByteArray) (kb : Nat) (w : World) (hn : NmAt w [] v ns) (hbc : w.cell? ⟨kb, 0, none⟩ = some (.string bd)) :
    Calls Try.prog 139 [v, .func (.func 140) #[] #[fP kb 0]].toArray w fun e w' => e = .returned (.int .i64 (nmIx ns bd)) ∧ Mem w [] [] w' := by
  obtain ⟨a, nb, off, cap, rfl, ha, hl, hc⟩ := hn
  refine calls_of_z Try.func139 rfl Try.ntmps139 rfl (Mem.refl w) ?_; intro cs b hb hk
  repeat (first | (refine sn ?_) | (refine stx ?_) | (refine sb ?_) | (intro _))
  refine z_loop (fun i : Nat => i ≤ ns.length ∧ ∀ j m, j < i → ns[j]? = some m → m.name ≠ bd) (fun i => [(0, .slice a ns.length cap), (1, .func (.func 140) #[] #[fP kb 0]), (7, .int .i64 (ns.length : Int)), (8, .int .i64 (i : Int))]) (fun _ => []) (fun i => ns.length - i) 0 ⟨Nat.zero_le _, fun j m h => absurd h (Nat.not_lt_zero _)⟩ ⟨rfl, rfl, rfl, rfl, trivial⟩ (List.Sublist.refl _) ?_
  intro i hi ih
  obtain ⟨hi, hno⟩ := hi
  by_cases hlt : i < ns.length
  · obtain ⟨m, hm0⟩ : ∃ m, ns[i]? = some m := ⟨ns[i], by simp [hlt]⟩
    have hmc := hc i m hm0
    have hae : a = some ⟨nb, off, none⟩ := by
      rcases ha with h | h
      · subst h; exact absurd hlt (Nat.not_lt_zero _)
      · exact h.1
    subst hae
    repeat (first | (refine sn ?_) | (refine stx ?_) | (refine sb ?_) | (intro _))
    refine zx_idxA (sz := i * 18) tab_ok rfl rfl rfl rfl rfl rfl (by omega) (by omega) (by simp) ?_
    refine zx_loadBA tab_ok [.string m.name, .bool m.ad.v6, .int .u8 (m.ad.b 0), .int .u8 (m.ad.b 1), .int .u8 (m.ad.b 2), .int .u8 (m.ad.b 3), .int .u8 (m.ad.b 4), .int .u8 (m.ad.b 5), .int .u8 (m.ad.b 6), .int .u8 (m.ad.b 7), .int .u8 (m.ad.b 8), .int .u8 (m.ad.b 9), .int .u8 (m.ad.b 10), .int .u8 (m.ad.b 11), .int .u8 (m.ad.b 12), .int .u8 (m.ad.b 13), .int .u8 (m.ad.b 14), .int .u8 (m.ad.b 15)] rfl rfl rfl rfl hmc (by simp) rfl rfl ?_
    ((try (refine sg ?_)); (refine zx_callC rfl rfl fnc140 rfl rfl (fun w hm => nameIs_any m bd kb w (hm.cellB hbc (by simp))) ?_))
    by_cases hq : m.name = bd
    · have hix : nmIx ns bd = (i : Int) := by
        unfold nmIx
        have : ns.findIdx? (fun m => decide (m.name = bd)) = some i := by
          rw [List.findIdx?_eq_some_iff_getElem]
          refine ⟨hlt, ?_, fun j hj => ?_⟩
          · have : ns[i] = m := by rw [List.getElem?_eq_getElem hlt] at hm0; exact Option.some.inj hm0
            rw [this]; exact decide_eq_true hq
          · have := hno j ns[j] hj (List.getElem?_eq_getElem (by omega))
            simpa using this
        rw [this]
      have hqd : decide (m.name = bd) = true := decide_eq_true hq
      repeat (first | (refine sn ?_) | (refine stx ?_) | (refine sb ?_) | (intro _))
      refine z_ret1 tab_ok Try.func139 hb hk Try.results139 (.tmp rfl) (fun w hm => ?_)
      exact ⟨by rw [hix], hm.bare⟩
    · have hqd : decide (m.name = bd) = false := decide_eq_false hq
      repeat (first | (refine sn ?_) | (refine stx ?_) | (refine sb ?_) | (intro _))
      refine z_weaken _ _ ?_ (List.Sublist.refl _) (fun _ h => h) (ih (i + 1) ⟨hlt, fun j g hj hg => by
        by_cases e : j = i
        · subst e; rw [hm0] at hg; cases hg; exact hq
        · exact hno j g (by omega) hg⟩ (by omega))
      exact ⟨rfl, rfl, rfl, congrArg (fun x => some (Value.int .i64 x)) (wr64 (by omega) (by omega)), trivial⟩
  · have hix : nmIx ns bd = -1 := by
      unfold nmIx
      have : ns.findIdx? (fun m => decide (m.name = bd)) = none := by
        rw [List.findIdx?_eq_none_iff]
        intro m hmm
        obtain ⟨j, hj⟩ := List.getElem?_of_mem hmm
        have hjl : j < ns.length := (List.getElem?_eq_some_iff.1 hj).1
        exact decide_eq_false (hno j m (by omega) hj)
      rw [this]
    repeat (first | (refine sn ?_) | (refine stx ?_) | (refine sb ?_) | (intro _))
    refine z_ret1 tab_ok Try.func139 hb hk Try.results139 (.tmp rfl) (fun w hm => ?_)
    exact ⟨by rw [hix], hm.bare⟩
end Go.Proofs.Ytabcaiecoiejkaa
