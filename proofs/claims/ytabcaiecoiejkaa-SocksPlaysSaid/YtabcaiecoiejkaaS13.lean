/- Toward SocksRelays: a load of a row of cells that came in, pick, the session's steps behind Connected. -/
import Derived.Test.YtabcaiecoiejkaaS10
import Derived.Test.YtabcaiecoiejkaaS12
set_option maxRecDepth 100000
set_option linter.unusedSimpArgs false
set_option linter.unusedVariables false
set_option maxHeartbeats 1600000
namespace Go.Proofs.Ytabcaiecoiejkaa
open Go K

section
variable {c : Cx} {q : Bool} {n : Nat} {F : Fr} {w0 : World} {ks : List Nat} {L : Mm} {D : List Deferred} {ops : Array Oper} {i : Nat} {rest : List Oper} {k : List Item}
/-- a load of some cells that came in -/
theorem zx_loadBA {tb : Tab} (ht : TabOk c.P tb) {d : Nat} {t : TypeId} {x : Operand} {ty : TypeId} {pos : String} {af : Array Edge} {g : Option (Nat × Bool)} {ti : TI} {b off : Nat} (vs : List Value) (hw : wn ops F g = some true)
    (htt : lookT tb t = some ti) (hag : isAggD ti.desc = true) (hx : ev F x = some (.pointer (some ⟨b, off, none⟩))) (hc : ∀ m u, vs[m]? = some u → w0.cell? ⟨b, off + m, none⟩ = some u) (hk : b ∉ ks) (hlen : Nat.beq vs.length ti.size = true) (hd : Nat.blt d n = true)
    (h : ZX c q n ((d, .agg vs.toArray) :: F) w0 ks L D ops (i + 1) rest k) : ZX c q n F w0 ks L D ops i (⟨some d, .load t x, ty, pos, af, g⟩ :: rest) k :=
  zx_val hw hd (fun a w h2 h3 => by
    have h1 := (ht _ _ htt).run_agg w
    rw [hag] at h1
    have hs := (ht _ _ htt).run_size w
    have hl : vs.length = ti.size := Nat.eq_of_beq_eq_true hlen
    have h4 := run_loadCells_list (P := c.P) w ⟨b, off, none⟩ vs (fun m u hu => by
      rw [addr_add]
      exact h3.cellB (hc m u hu) hk)
    rw [hl] at h4
    simp [execOp, ev_eval h2 hx, Instr.loadAt, Instr.sureAddr, loadVar, h1, hs, h4]) h
end
def pk (x n : Int) : Int := (if x < 0 then -(x + 1) else x).tmod n
theorem pk_range (x n : Int) (hn : 0 < n) : 0 ≤ pk x n ∧ pk x n < n := by
  unfold pk
  split
  · rw [Int.tmod_eq_emod_of_nonneg (by omega)]; exact ⟨Int.emod_nonneg _ (by omega), Int.emod_lt_of_pos _ hn⟩
  · rw [Int.tmod_eq_emod_of_nonneg (by omega)]; exact ⟨Int.emod_nonneg _ (by omega), Int.emod_lt_of_pos _ hn⟩
def okI (x : Int) : Prop := -9223372036854775808 ≤ x ∧ x ≤ 9223372036854775807
theorem pick7_any (x : Int) (hx : okI x) (w : World) : Calls Try.prog 52 [.int .i64 x, .int .i64 7].toArray w fun e w' => e = .returned (.int .i64 (pk x 7)) ∧ Mem w [] [] w' := by
  obtain ⟨hx0, hx1⟩ := hx
  unfold pk
  by_cases h : x < 0
  · rw [if_pos h]
    refine calls_of_z Try.func52 rfl Try.ntmps52 rfl (Mem.refl w) ?_; intro cs b hb hk
    repeat (first | (refine st ?_) | (refine stx ?_) | (refine sb ?_) | (intro _))
    refine z_ret1 tab_ok Try.func52 hb hk Try.results52 (.tmp rfl) (fun w hm => ?_)
    exact ⟨by show Ending.returned (.int .i64 ((IntKind.i64.wrap (0 - IntKind.i64.wrap (x + 1))).tmod _)) = _; rw [wr64 (x := x + 1) (by omega) (by omega), wr64 (by omega) (by omega), Int.zero_sub]; rfl, hm.bare⟩
  · rw [if_neg h]
    refine calls_of_z Try.func52 rfl Try.ntmps52 rfl (Mem.refl w) ?_; intro cs b hb hk
    repeat (first | (refine st ?_) | (refine stx ?_) | (refine sb ?_) | (intro _))
    refine z_ret1 tab_ok Try.func52 hb hk Try.results52 (.tmp rfl) (fun w hm => ?_)
    exact ⟨rfl, hm.bare⟩
theorem pick5000_any (x : Int) (hx : okI x) (w : World) : Calls Try.prog 52 [.int .i64 x, .int .i64 5000].toArray w fun e w' => e = .returned (.int .i64 (pk x 5000)) ∧ Mem w [] [] w' := by
  obtain ⟨hx0, hx1⟩ := hx
  unfold pk
  by_cases h : x < 0
  · rw [if_pos h]
    refine calls_of_z Try.func52 rfl Try.ntmps52 rfl (Mem.refl w) ?_; intro cs b hb hk
    repeat (first | (refine st ?_) | (refine stx ?_) | (refine sb ?_) | (intro _))
    refine z_ret1 tab_ok Try.func52 hb hk Try.results52 (.tmp rfl) (fun w hm => ?_)
    exact ⟨by show Ending.returned (.int .i64 ((IntKind.i64.wrap (0 - IntKind.i64.wrap (x + 1))).tmod _)) = _; rw [wr64 (x := x + 1) (by omega) (by omega), wr64 (by omega) (by omega), Int.zero_sub]; rfl, hm.bare⟩
  · rw [if_neg h]
    refine calls_of_z Try.func52 rfl Try.ntmps52 rfl (Mem.refl w) ?_; intro cs b hb hk
    repeat (first | (refine st ?_) | (refine stx ?_) | (refine sb ?_) | (intro _))
    refine z_ret1 tab_ok Try.func52 hb hk Try.results52 (.tmp rfl) (fun w hm => ?_)
    exact ⟨rfl, hm.bare⟩
theorem ToRemote_not (p : Nat) (x : Px) (h4 : x.state ≠ 4) (n : Int) : PC 45 [fP p 0, .int .i64 n] p x x (.string noX) := by
  intro o w hok h
  refine calls_of_z Try.func45 rfl Try.ntmps45 rfl h ?_; intro cs b hb hk
  repeat (first | (refine st ?_) | (refine stx ?_) | (refine sb ?_) | (intro _))
  refine z_ret1 tab_ok Try.func45 hb hk Try.results45 (.tmp rfl) (fun w hm => ?_)
  exact ⟨o, hok, rfl, hm⟩
/-- what holds of a session that relays, of which G went up and B went down -/
structure Ri (z : Px) (G B : List Int) (i : Nat) : Prop where
  relayed : z.relayed = true
  names : z.names = .slice none 0 0
  user : z.user = noX
  state : z.state = 4 ∨ (z.state = 5 ∧ z.cOver = true ∧ z.rOver = true ∧ z.up = [] ∧ z.down = [])
  small : Small z.up
  ups : z.up.length ≤ 4096
  downs : z.down.length ≤ 4096
  gs : (G ++ z.up).length ≤ 4096 * (i + 1)
  bs : (B ++ z.down).length ≤ 4096 * (i + 1)
theorem Ri.settle {z : Px} {G B : List Int} {i : Nat} (h : Ri z G B i) : Ri (pSettle z) G B i := by
  unfold pSettle
  split
  · rename_i hc
    exact ⟨h.relayed, h.names, h.user, .inr ⟨rfl, hc.2.1, hc.2.2.1, hc.2.2.2.1, hc.2.2.2.2⟩, h.small, h.ups, h.downs, h.gs, h.bs⟩
  · exact h
theorem pSettle_same (z : Px) : (pSettle z).cOver = z.cOver ∧ (pSettle z).rOver = z.rOver ∧ (pSettle z).up = z.up ∧ (pSettle z).down = z.down := by
  unfold pSettle
  split <;> exact ⟨rfl, rfl, rfl, rfl⟩
theorem Ri.good {z : Px} {G B : List Int} {i : Nat} (h : Ri z G B i) : Good z :=
  ⟨h.small, Nat.le_trans h.ups (by decide), Nat.le_trans h.downs (by decide), h.names, h.user, .inr (.inr (by rcases h.state with h | h <;> omega))⟩
/-- bytes of the client -/
theorem Ri.client {z : Px} {G B : List Int} {i : Nat} (h : Ri z G B i) (s : ByteArray) : ∃ (z' : Px) (k : Nat), pClient z s = (z', (k : Int)) ∧ k ≤ s.size ∧ (z.cOver = true → k = 0) ∧ z'.cOver = z.cOver ∧ z'.rOver = z.rOver ∧ z'.up = z.up ++ (bL s).take k ∧ z'.down = z.down ∧ Ri z' G B (i + 1) := by
  unfold pClient
  have hg := h.gs
  have hb := h.bs
  by_cases hc : z.state = 5 ∨ z.cOver = true
  · rw [if_pos hc]
    refine ⟨z, 0, rfl, Nat.zero_le _, fun _ => rfl, rfl, rfl, by rw [List.take_zero, List.append_nil], rfl, ?_⟩
    exact ⟨h.relayed, h.names, h.user, h.state, h.small, h.ups, h.downs, by omega, by omega⟩
  · rw [if_neg hc]
    have h4 : z.state = 4 := by rcases h.state with h | h; exact h; exact absurd (.inl h.1) hc
    generalize hk : min s.size (4096 - z.up.length) = k
    have hr : pRun { z with up := z.up ++ (bL s).take k } = { z with up := z.up ++ (bL s).take k } := by
      unfold pRun
      rw [if_neg (by show ¬ z.state = 0; omega), if_neg (by show ¬ z.state = 2; omega)]
    have hu := h.ups
    rw [List.length_append] at hg
    have hkl : ((bL s).take k).length = k := by rw [List.length_take, bL_length]; omega
    refine ⟨{ z with up := z.up ++ (bL s).take k }, k, by rw [hr], by omega, fun hh => absurd (.inr hh) hc, rfl, rfl, rfl, rfl, ?_⟩
    refine ⟨h.relayed, h.names, h.user, .inl h4, h.small.app ((bL_small s).take k), ?_, h.downs, ?_, by show (B ++ z.down).length ≤ _; omega⟩
    · show (z.up ++ (bL s).take k).length ≤ _; rw [List.length_append, hkl]; omega
    · show (G ++ (z.up ++ (bL s).take k)).length ≤ _; rw [List.length_append, List.length_append, hkl]; omega
/-- bytes of the remote end -/
theorem Ri.remote {z : Px} {G B : List Int} {i : Nat} (h : Ri z G B i) (s : ByteArray) : ∃ (z' : Px) (k : Nat), pRemote z s = (z', (k : Int)) ∧ k ≤ s.size ∧ (z.rOver = true → k = 0) ∧ z'.cOver = z.cOver ∧ z'.rOver = z.rOver ∧ z'.up = z.up ∧ z'.down = z.down ++ (bL s).take k ∧ Ri z' G B (i + 1) := by
  unfold pRemote
  have hg := h.gs
  have hb := h.bs
  have hd := h.downs
  by_cases hc : z.state = 4 ∧ z.rOver = false
  · rw [if_pos hc]
    generalize hk : min s.size (4096 - z.down.length) = k
    have hkl : ((bL s).take k).length = k := by rw [List.length_take, bL_length]; omega
    rw [List.length_append] at hb
    refine ⟨{ z with down := z.down ++ (bL s).take k }, k, rfl, by omega, (fun hh => absurd (hc.2.symm.trans hh) (by decide)), rfl, rfl, rfl, rfl, ?_⟩
    refine ⟨h.relayed, h.names, h.user, .inl hc.1, h.small, h.ups, ?_, by show (G ++ z.up).length ≤ _; omega, ?_⟩
    · show (z.down ++ (bL s).take k).length ≤ _; rw [List.length_append, hkl]; omega
    · show (B ++ (z.down ++ (bL s).take k)).length ≤ _; rw [List.length_append, List.length_append, hkl]; omega
  · rw [if_neg hc]
    refine ⟨z, 0, rfl, Nat.zero_le _, fun _ => rfl, rfl, rfl, rfl, by rw [List.take_zero, List.append_nil], ?_⟩
    exact ⟨h.relayed, h.names, h.user, h.state, h.small, h.ups, h.downs, by omega, by omega⟩
theorem Ri.next {z : Px} {G B : List Int} {i : Nat} (h : Ri z G B i) : Ri z G B (i + 1) := by
  have hg := h.gs
  have hb := h.bs
  exact ⟨h.relayed, h.names, h.user, h.state, h.small, h.ups, h.downs, by omega, by omega⟩
theorem Ri.toR {z : Px} {G B : List Int} {i : Nat} (h : Ri z G B i) (p : Nat) (n : Int) (hn : 0 ≤ n) : ∃ (z' : Px) (l : List Int), PC 45 [fP p 0, .int .i64 n] p z z' (.string (ofInts l)) ∧ l ++ z'.up = z.up ∧ z'.down = z.down ∧ z'.cOver = z.cOver ∧ z'.rOver = z.rOver ∧ Ri z' (G ++ l) B (i + 1) := by
  rcases h.state with h4 | h5
  · have hu := h.ups
    have hd := h.downs
    have hs := pSettle_same { z with up := z.up.drop (min n.toNat z.up.length) }
    refine ⟨_, _, ToRemote_any p z h4 n (min n.toNat z.up.length) (by omega) (by omega), ?_, hs.2.2.2, hs.1, hs.2.1, ?_⟩
    · rw [hs.2.2.1]; exact List.take_append_drop _ _
    · refine Ri.settle ⟨h.relayed, h.names, h.user, .inl h4, h.small.drop _, ?_, hd, ?_, h.next.bs⟩
      · show (z.up.drop _).length ≤ _; rw [List.length_drop]; omega
      · show (G ++ z.up.take _ ++ z.up.drop _).length ≤ _
        rw [List.append_assoc, List.take_append_drop]
        exact h.next.gs
  · refine ⟨z, [], ToRemote_not p z (by omega) n, rfl, rfl, rfl, rfl, ?_⟩
    rw [List.append_nil]
    exact h.next
theorem Ri.toC {z : Px} {G B : List Int} {i : Nat} (h : Ri z G B i) (p : Nat) (n : Int) (hn : 0 ≤ n) : ∃ (z' : Px) (l : List Int), PC 39 [fP p 0, .int .i64 n] p z z' (.string (ofInts l)) ∧ l ++ z'.down = z.down ∧ z'.up = z.up ∧ z'.cOver = z.cOver ∧ z'.rOver = z.rOver ∧ Ri z' G (B ++ l) (i + 1) := by
  have hu := h.ups
  have hd := h.downs
  have hs := pSettle_same { z with down := z.down.drop (min n.toNat z.down.length) }
  refine ⟨_, _, ToClient_any p z n (min n.toNat z.down.length) (by omega) (by omega), ?_, hs.2.2.1, hs.1, hs.2.1, ?_⟩
  · rw [hs.2.2.2]; exact List.take_append_drop _ _
  · refine Ri.settle ⟨h.relayed, h.names, h.user, ?_, h.small, hu, ?_, h.next.gs, ?_⟩
    · rcases h.state with h4 | ⟨h5, hc, hr, h1, h2⟩
      · exact .inl h4
      · exact .inr ⟨h5, hc, hr, h1, by show z.down.drop _ = []; rw [h2, List.drop_nil]⟩
    · show (z.down.drop _).length ≤ _; rw [List.length_drop]; omega
    · show (B ++ z.down.take _ ++ z.down.drop _).length ≤ _
      rw [List.append_assoc, List.take_append_drop]
      exact h.next.bs
theorem Ri.endC {z : Px} {G B : List Int} {i : Nat} (h : Ri z G B i) (p : Nat) : ∃ z' : Px, PC 53 [fP p 0] p z z' (.tuple #[]) ∧ z'.up = z.up ∧ z'.down = z.down ∧ z'.cOver = true ∧ z'.rOver = z.rOver ∧ Ri z' G B (i + 1) := by
  have hu := h.ups
  have hd := h.downs
  have hs := pSettle_same { z with cOver := true }
  have hP := ClientEnd_any p z (by omega)
  rw [if_neg (by rcases h.state with h | h <;> omega)] at hP
  refine ⟨_, hP, hs.2.2.1, hs.2.2.2, hs.1, hs.2.1, Ri.settle ⟨h.relayed, h.names, h.user, ?_, h.small, hu, hd, h.next.gs, h.next.bs⟩⟩
  rcases h.state with h4 | ⟨h5, hc, hr, h1, h2⟩
  · exact .inl h4
  · exact .inr ⟨h5, rfl, hr, h1, h2⟩
theorem Ri.endR {z : Px} {G B : List Int} {i : Nat} (h : Ri z G B i) (p : Nat) : ∃ z' : Px, PC 54 [fP p 0] p z z' (.tuple #[]) ∧ z'.up = z.up ∧ z'.down = z.down ∧ z'.cOver = z.cOver ∧ z'.rOver = true ∧ Ri z' G B (i + 1) := by
  have hu := h.ups
  have hd := h.downs
  have hs := pSettle_same { z with rOver := true }
  have hP := RemoteEnd_any p z (by omega)
  rcases h.state with h4 | ⟨h5, hc, hr, h1, h2⟩
  · rw [if_pos h4] at hP
    exact ⟨_, hP, hs.2.2.1, hs.2.2.2, hs.1, hs.2.1, Ri.settle ⟨h.relayed, h.names, h.user, .inl h4, h.small, hu, hd, h.next.gs, h.next.bs⟩⟩
  · rw [if_neg (by omega)] at hP
    exact ⟨z, hP, rfl, rfl, rfl, hr, h.next⟩
theorem Ri.ends {z : Px} {G B : List Int} {i : Nat} (h : Ri z G B i) : pEndR z = (z.cOver && z.up.isEmpty) ∧ pEndC z = (z.rOver && z.down.isEmpty) := by
  unfold pEndR pEndC
  rw [h.relayed]
  refine ⟨by cases z.cOver <;> cases z.up.isEmpty <;> rfl, ?_⟩
  rcases h.state with h4 | ⟨h5, hc, hr, h1, h2⟩
  · rw [h4]; cases z.rOver <;> cases z.down.isEmpty <;> rfl
  · rw [h5, hr, h2]; rfl
theorem ext_ofInts (G U : List Int) : (ofInts (G ++ U)).extract 0 G.length = ofInts G := by
  have h1 : ofInts (G ++ U) = ofInts G ++ ofInts U := (ofInts_app G U).symm
  rw [h1]
  have := ofInts_size G
  rw [← this]
  exact ByteArray.extract_append_eq_left rfl
theorem ofInts_nil_iff (G U : List Int) : ofInts G = ofInts (G ++ U) ↔ U = [] := by
  constructor
  · intro h
    have h2 := congrArg ByteArray.size h
    rw [ofInts_size, ofInts_size, List.length_append] at h2
    exact List.eq_nil_of_length_eq_zero (by omega)
  · intro h; rw [h, List.append_nil]
theorem ofInts_bL (s : ByteArray) : ofInts (bL s) = s := by
  apply ByteArray.ext
  unfold ofInts bL
  apply Array.ext'
  simp [List.map_map, Function.comp_def]
theorem ext_bL (s : ByteArray) (k : Nat) (h : k ≤ s.size) : s.extract 0 k = ofInts ((bL s).take k) := by
  have h1 : bL (s.extract 0 k) = (bL s).take k := by
    unfold bL
    rw [List.map_take.symm]
    simp [ByteArray.data_extract]
  rw [← h1, ofInts_bL]
end Go.Proofs.Ytabcaiecoiejkaa
