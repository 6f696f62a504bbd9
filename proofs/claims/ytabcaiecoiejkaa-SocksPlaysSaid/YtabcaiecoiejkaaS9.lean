/- Walks of package socks: New of an empty configuration, Connected; layer 22's first look; the nil session. -/
import Derived.Test.YtabcaiecoiejkaaS8
import Derived.Test.YtabcaiecoiejkaaA4
set_option maxRecDepth 100000
set_option linter.unusedSimpArgs false
set_option linter.unusedVariables false
set_option maxHeartbeats 2000000
namespace Go.Proofs.Ytabcaiecoiejkaa
open Go K

section
variable {c : Cx} {q : Bool} {n d : Nat} {F : Fr} {w0 : World} {ks : List Nat} {L : Mm} {D : List Deferred} {k : List Item} {ops : Array Oper} {i : Nat} {rest : List Oper} {ty : TypeId} {pos : String} {af : Array Edge} {g : Option (Nat × Bool)} {tb : Tab}
theorem zx_eqNil (ht : TabOk c.P tb) {t e u : TypeId} {x y : Operand} {tz : Nat} {tzs : List Value} {a : Option Addr} {l m : Nat} (hw : wn ops F g = some true) (htt : lookT tb t = some ⟨.slice e, tz, tzs⟩) (hx : ev F x = some (.slice a l m)) (hy : ev F y = some (.slice none 0 0)) (hd : Nat.blt d n = true)
    (h : ZX c q n ((d, .bool a.isNone) :: F) w0 ks L D ops (i + 1) rest k) : ZX c q n F w0 ks L D ops i (⟨some d, .binOp .eql t x y u, ty, pos, af, g⟩ :: rest) k :=
  zx_val hw hd (fun a' w h2 _ => by
    have h1 := (ht _ _ htt).und
    have h3 := Go.run_eql_slice_nil (P := c.P) w t e a l m h1
    have h4 : ∀ p r, (eqGuard .eql t p r (.slice a l m) (.slice none 0 0)).run c.P w = .ok () w := by intro p r; unfold eqGuard; simp
    simp [execOp, ev_eval h2 hx, ev_eval h2 hy, h3, h4, Result.andThen]) h
end
def cfg0 : Value := .agg #[.string noX, .string noX, .slice none 0 0]
def px0 : Px := ⟨noX, noX, .slice none 0 0, 0, [], [], false, false, false, adr0, 0⟩
theorem Clone_nil (w : World) : Calls Try.prog 91 [.slice none 0 0].toArray w fun e w' => e = .returned (.slice none 0 0) ∧ Mem w [] [] w' := by
  refine calls_of_z Try.func91 rfl Try.ntmps91 rfl (Mem.refl w) ?_; intro cs b hb hk
  repeat (first | (refine st ?_) | (refine stx ?_) | (refine sb ?_) | (intro _))
  refine zx_eqNil tab_ok rfl rfl rfl rfl rfl ?_
  repeat (first | (refine st ?_) | (refine stx ?_) | (refine sb ?_) | (intro _))
  refine z_ret1 tab_ok Try.func91 hb hk Try.results91 (.tmp rfl) (fun w hm => ?_)
  exact ⟨rfl, hm.bare⟩
theorem New_zero (w : World) : Calls Try.prog 34 [cfg0].toArray w fun e w' => ∃ p : Nat, True ∧ e = .returned (fP p 0) ∧ Mem w [] (pX p px0 (none, none)) w' := by
  refine calls_of_z Try.func34 rfl Try.ntmps34 rfl (Mem.refl w) ?_; intro cs b hb hk
  repeat (first | (refine st ?_) | (refine stx ?_) | (refine sb ?_) | (intro _))
  ((try (refine sg ?_)); (refine zx_call0 rfl fnc91 rfl rfl (fun w hm => Clone_nil w) ?_))
  repeat (first | (refine st ?_) | (refine stx ?_) | (refine sb ?_) | (intro _))
  rename_i p
  refine z_ret1 tab_ok Try.func34 hb hk Try.results34 (.tmp rfl) (fun w hm => ?_)
  exact ⟨p, trivial, rfl, hm.weaken (fun _ h => h) (List.Sublist.cons_cons _ (List.nil_sublist _))⟩
theorem okX_px0 : okX px0 (none, none) := ⟨RowOk.nil0 1, RowOk.nil0 1⟩
theorem good_px0 : Good px0 := ⟨Small.nil, Nat.zero_le _, Nat.zero_le _, rfl, rfl, .inl rfl⟩
def hiB (n : Int) : Int := IntKind.u8.wrap (n.fdiv (2 ^ min 8 IntKind.i64.bits))
def loB (n : Int) : Int := IntKind.u8.wrap n
def kindB (a : Adr) : Int := bif a.v6 then 4 else 1
def pConn (x : Px) (a : Adr) (n : Int) : Px := { pSay (pSay (pSay x [5, 0, 0, kindB a]) (bL a.bytes)) [hiB n, loB n] with state := 4, relayed := true }
theorem Connected_ok (p : Nat) (x : Px) (a : Adr) (n : Int) (hst : x.state = 3) (hv : a.valid = true) (hd : x.down.length ≤ 1000000) : PC 51 [fP p 0, epV a n, .int .i64 0] p x (pConn x a n) (.bool true) := by
  intro o w hok h
  have hbs := a.bytes_size
  have hbl := bL_length a.bytes
  unfold pConn
  rcases Bool.eq_false_or_eq_true a.v6 with h6 | h6
  · have hkb : kindB a = 4 := by unfold kindB; rw [h6]; rfl
    rw [hkb]
    refine calls_of_z Try.func51 rfl Try.ntmps51 rfl h ?_; intro cs b hb hk
    repeat (first | (refine st ?_) | (refine stx ?_) | (refine sb ?_) | (intro _))
    rename_i k1
    ((try (refine sg ?_)); (refine zx_call0 rfl fnc48 rfl rfl (fun w hm => Valid_any a w) ?_))
    repeat (first | (refine st ?_) | (refine stx ?_) | (refine sb ?_) | (intro _))
    rename_i k2
    refine zx_call (Y := Own × Own) (v := fun _ => .tuple #[]) (Φ := fun y => okX (pSay x [5, 0, 0, 4]) y) (L' := fun y => [(k2, Blk.c (u8s [5, 0, 0, 4]) 5 0 0), (k1, Blk.c (a.cells ++ [Value.int .i64 n]) 65 0 0)] ++ pX p (pSay x [5, 0, 0, 4]) y) rfl fnc107 rfl rfl
      (fun w1 hm1 => say_use (R := [(k2, Blk.c (u8s [5, 0, 0, 4]) 5 0 0), (k1, Blk.c (a.cells ++ [Value.int .i64 n]) 65 0 0)]) hok hm1 0 rfl [5, 0, 0, 4] [] (by rw [List.append_nil]) 4 4 (by omega) rfl) (fun y1 hy1 => ?_)
    repeat (first | (refine st ?_) | (refine stx ?_) | (refine sb ?_) | (intro _))
    ((try (refine sg ?_)); (refine zx_call0 rfl fnc41 rfl rfl (fun w hm => Bytes_any a w) ?_))
    repeat (first | (refine st ?_) | (refine stx ?_) | (refine sb ?_) | (intro _))
    refine zx_s2b tab_ok rfl rfl rfl rfl rfl rfl ?_
    intro k3 cap lo hi rst hcap
    refine zx_call (Y := Own × Own) (v := fun _ => .tuple #[]) (Φ := fun y => okX (pSay (pSay x [5, 0, 0, 4]) (bL a.bytes)) y) (L' := fun y => [(k3, Blk.c (byteCells a.bytes ++ rst) 5 lo hi), (k2, Blk.c (u8s [5, 0, 0, 4]) 5 0 0), (k1, Blk.c (a.cells ++ [Value.int .i64 n]) 65 0 0)] ++ pX p (pSay (pSay x [5, 0, 0, 4]) (bL a.bytes)) y) rfl fnc107 rfl rfl
      (fun w1 hm1 => say_use (R := [(k3, Blk.c (byteCells a.bytes ++ rst) 5 lo hi), (k2, Blk.c (u8s [5, 0, 0, 4]) 5 0 0), (k1, Blk.c (a.cells ++ [Value.int .i64 n]) 65 0 0)]) hy1 hm1 0 rfl (bL a.bytes) rst (by rw [bc_eq]) a.bytes.size cap (by show (x.down ++ [5, 0, 0, 4]).length + _ ≤ _; rw [List.length_append]; simp only [List.length_cons, List.length_nil]; omega) hbl) (fun y2 hy2 => ?_)
    repeat (first | (refine st ?_) | (refine stx ?_) | (refine sb ?_) | (intro _))
    rename_i k4
    refine zx_call (Y := Own × Own) (v := fun _ => .tuple #[]) (Φ := fun y => okX (pSay (pSay (pSay x [5, 0, 0, 4]) (bL a.bytes)) [hiB n, loB n]) y) (L' := fun y => [(k4, Blk.c (u8s [hiB n, loB n]) 5 0 0), (k3, Blk.c (byteCells a.bytes ++ rst) 5 lo hi), (k2, Blk.c (u8s [5, 0, 0, 4]) 5 0 0), (k1, Blk.c (a.cells ++ [Value.int .i64 n]) 65 0 0)] ++ pX p (pSay (pSay (pSay x [5, 0, 0, 4]) (bL a.bytes)) [hiB n, loB n]) y) rfl fnc107 rfl rfl
      (fun w1 hm1 => say_use (R := [(k4, Blk.c (u8s [hiB n, loB n]) 5 0 0), (k3, Blk.c (byteCells a.bytes ++ rst) 5 lo hi), (k2, Blk.c (u8s [5, 0, 0, 4]) 5 0 0), (k1, Blk.c (a.cells ++ [Value.int .i64 n]) 65 0 0)]) hy2 hm1 0 rfl [hiB n, loB n] [] (by rw [List.append_nil]) 2 2 (by show ((x.down ++ [5, 0, 0, 4]) ++ bL a.bytes).length + _ ≤ _; rw [List.length_append, List.length_append]; simp only [List.length_cons, List.length_nil]; omega) rfl) (fun y3 hy3 => ?_)
    repeat (first | (refine st ?_) | (refine stx ?_) | (refine sb ?_) | (intro _))
    refine z_ret1 tab_ok Try.func51 hb hk Try.results51 (.tmp rfl) (fun w hm => ?_)
    exact ⟨y3, okX_same hy3 rfl rfl, rfl, hm.weaken (fun _ h => h) (List.Sublist.cons _ (List.Sublist.cons _ (List.Sublist.cons _ (List.Sublist.cons _ (List.Sublist.refl _)))))⟩
  · have hkb : kindB a = 1 := by unfold kindB; rw [h6]; rfl
    rw [hkb]
    refine calls_of_z Try.func51 rfl Try.ntmps51 rfl h ?_; intro cs b hb hk
    repeat (first | (refine st ?_) | (refine stx ?_) | (refine sb ?_) | (intro _))
    rename_i k1
    ((try (refine sg ?_)); (refine zx_call0 rfl fnc48 rfl rfl (fun w hm => Valid_any a w) ?_))
    repeat (first | (refine st ?_) | (refine stx ?_) | (refine sb ?_) | (intro _))
    rename_i k2
    refine zx_call (Y := Own × Own) (v := fun _ => .tuple #[]) (Φ := fun y => okX (pSay x [5, 0, 0, 1]) y) (L' := fun y => [(k2, Blk.c (u8s [5, 0, 0, 1]) 5 0 0), (k1, Blk.c (a.cells ++ [Value.int .i64 n]) 65 0 0)] ++ pX p (pSay x [5, 0, 0, 1]) y) rfl fnc107 rfl rfl
      (fun w1 hm1 => say_use (R := [(k2, Blk.c (u8s [5, 0, 0, 1]) 5 0 0), (k1, Blk.c (a.cells ++ [Value.int .i64 n]) 65 0 0)]) hok hm1 0 rfl [5, 0, 0, 1] [] (by rw [List.append_nil]) 4 4 (by omega) rfl) (fun y1 hy1 => ?_)
    repeat (first | (refine st ?_) | (refine stx ?_) | (refine sb ?_) | (intro _))
    ((try (refine sg ?_)); (refine zx_call0 rfl fnc41 rfl rfl (fun w hm => Bytes_any a w) ?_))
    repeat (first | (refine st ?_) | (refine stx ?_) | (refine sb ?_) | (intro _))
    refine zx_s2b tab_ok rfl rfl rfl rfl rfl rfl ?_
    intro k3 cap lo hi rst hcap
    refine zx_call (Y := Own × Own) (v := fun _ => .tuple #[]) (Φ := fun y => okX (pSay (pSay x [5, 0, 0, 1]) (bL a.bytes)) y) (L' := fun y => [(k3, Blk.c (byteCells a.bytes ++ rst) 5 lo hi), (k2, Blk.c (u8s [5, 0, 0, 1]) 5 0 0), (k1, Blk.c (a.cells ++ [Value.int .i64 n]) 65 0 0)] ++ pX p (pSay (pSay x [5, 0, 0, 1]) (bL a.bytes)) y) rfl fnc107 rfl rfl
      (fun w1 hm1 => say_use (R := [(k3, Blk.c (byteCells a.bytes ++ rst) 5 lo hi), (k2, Blk.c (u8s [5, 0, 0, 1]) 5 0 0), (k1, Blk.c (a.cells ++ [Value.int .i64 n]) 65 0 0)]) hy1 hm1 0 rfl (bL a.bytes) rst (by rw [bc_eq]) a.bytes.size cap (by show (x.down ++ [5, 0, 0, 1]).length + _ ≤ _; rw [List.length_append]; simp only [List.length_cons, List.length_nil]; omega) hbl) (fun y2 hy2 => ?_)
    repeat (first | (refine st ?_) | (refine stx ?_) | (refine sb ?_) | (intro _))
    rename_i k4
    refine zx_call (Y := Own × Own) (v := fun _ => .tuple #[]) (Φ := fun y => okX (pSay (pSay (pSay x [5, 0, 0, 1]) (bL a.bytes)) [hiB n, loB n]) y) (L' := fun y => [(k4, Blk.c (u8s [hiB n, loB n]) 5 0 0), (k3, Blk.c (byteCells a.bytes ++ rst) 5 lo hi), (k2, Blk.c (u8s [5, 0, 0, 1]) 5 0 0), (k1, Blk.c (a.cells ++ [Value.int .i64 n]) 65 0 0)] ++ pX p (pSay (pSay (pSay x [5, 0, 0, 1]) (bL a.bytes)) [hiB n, loB n]) y) rfl fnc107 rfl rfl
      (fun w1 hm1 => say_use (R := [(k4, Blk.c (u8s [hiB n, loB n]) 5 0 0), (k3, Blk.c (byteCells a.bytes ++ rst) 5 lo hi), (k2, Blk.c (u8s [5, 0, 0, 1]) 5 0 0), (k1, Blk.c (a.cells ++ [Value.int .i64 n]) 65 0 0)]) hy2 hm1 0 rfl [hiB n, loB n] [] (by rw [List.append_nil]) 2 2 (by show ((x.down ++ [5, 0, 0, 1]) ++ bL a.bytes).length + _ ≤ _; rw [List.length_append, List.length_append]; simp only [List.length_cons, List.length_nil]; omega) rfl) (fun y3 hy3 => ?_)
    repeat (first | (refine st ?_) | (refine stx ?_) | (refine sb ?_) | (intro _))
    refine z_ret1 tab_ok Try.func51 hb hk Try.results51 (.tmp rfl) (fun w hm => ?_)
    exact ⟨y3, okX_same hy3 rfl rfl, rfl, hm.weaken (fun _ h => h) (List.Sublist.cons _ (List.Sublist.cons _ (List.Sublist.cons _ (List.Sublist.cons _ (List.Sublist.refl _)))))⟩
theorem nil_FromClient (s : ByteArray) (w : World) : Calls Try.prog 38 [.pointer none, .string s].toArray w fun e w' => e = .returned (.int .i64 0) ∧ Mem w [] [] w' := by
  refine calls_of_z Try.func38 rfl Try.ntmps38 rfl (Mem.refl w) ?_; intro cs b hb hk
  repeat (first | (refine st ?_) | (refine stx ?_) | (refine sb ?_) | (intro _))
  refine z_ret1 tab_ok Try.func38 hb hk Try.results38 (.tmp rfl) (fun w hm => ?_)
  exact ⟨rfl, hm.bare⟩
theorem nil_FromRemote (s : ByteArray) (w : World) : Calls Try.prog 46 [.pointer none, .string s].toArray w fun e w' => e = .returned (.int .i64 0) ∧ Mem w [] [] w' := by
  refine calls_of_z Try.func46 rfl Try.ntmps46 rfl (Mem.refl w) ?_; intro cs b hb hk
  repeat (first | (refine st ?_) | (refine stx ?_) | (refine sb ?_) | (intro _))
  refine z_ret1 tab_ok Try.func46 hb hk Try.results46 (.tmp rfl) (fun w hm => ?_)
  exact ⟨rfl, hm.bare⟩
theorem nil_ToClient (n : Int) (w : World) : Calls Try.prog 39 [.pointer none, .int .i64 n].toArray w fun e w' => e = .returned (.string noX) ∧ Mem w [] [] w' := by
  refine calls_of_z Try.func39 rfl Try.ntmps39 rfl (Mem.refl w) ?_; intro cs b hb hk
  repeat (first | (refine st ?_) | (refine stx ?_) | (refine sb ?_) | (intro _))
  refine z_ret1 tab_ok Try.func39 hb hk Try.results39 (.tmp rfl) (fun w hm => ?_)
  exact ⟨rfl, hm.bare⟩
theorem nil_ToRemote (n : Int) (w : World) : Calls Try.prog 45 [.pointer none, .int .i64 n].toArray w fun e w' => e = .returned (.string noX) ∧ Mem w [] [] w' := by
  refine calls_of_z Try.func45 rfl Try.ntmps45 rfl (Mem.refl w) ?_; intro cs b hb hk
  repeat (first | (refine st ?_) | (refine stx ?_) | (refine sb ?_) | (intro _))
  refine z_ret1 tab_ok Try.func45 hb hk Try.results45 (.tmp rfl) (fun w hm => ?_)
  exact ⟨rfl, hm.bare⟩
theorem nil_EndClient (w : World) : Calls Try.prog 44 [.pointer none].toArray w fun e w' => e = .returned (.bool false) ∧ Mem w [] [] w' := by
  refine calls_of_z Try.func44 rfl Try.ntmps44 rfl (Mem.refl w) ?_; intro cs b hb hk
  repeat (first | (refine st ?_) | (refine stx ?_) | (refine sb ?_) | (intro _))
  refine z_ret1 tab_ok Try.func44 hb hk Try.results44 (.tmp rfl) (fun w hm => ?_)
  exact ⟨rfl, hm.bare⟩
theorem nil_EndRemote (w : World) : Calls Try.prog 47 [.pointer none].toArray w fun e w' => e = .returned (.bool false) ∧ Mem w [] [] w' := by
  refine calls_of_z Try.func47 rfl Try.ntmps47 rfl (Mem.refl w) ?_; intro cs b hb hk
  repeat (first | (refine st ?_) | (refine stx ?_) | (refine sb ?_) | (intro _))
  refine z_ret1 tab_ok Try.func47 hb hk Try.results47 (.tmp rfl) (fun w hm => ?_)
  exact ⟨rfl, hm.bare⟩
theorem nil_State (w : World) : Calls Try.prog 37 [.pointer none].toArray w fun e w' => e = .returned (.int .i64 5) ∧ Mem w [] [] w' := by
  refine calls_of_z Try.func37 rfl Try.ntmps37 rfl (Mem.refl w) ?_; intro cs b hb hk
  repeat (first | (refine st ?_) | (refine stx ?_) | (refine sb ?_) | (intro _))
  refine z_ret1 tab_ok Try.func37 hb hk Try.results37 (.tmp rfl) (fun w hm => ?_)
  exact ⟨rfl, hm.bare⟩
theorem nil_Target (w : World) : Calls Try.prog 36 [.pointer none].toArray w fun e w' => e = .returned (.tuple #[epV adr0 0, .bool false]) ∧ Mem w [] [] w' := by
  refine calls_of_z Try.func36 rfl Try.ntmps36 rfl (Mem.refl w) ?_; intro cs b hb hk
  repeat (first | (refine st ?_) | (refine stx ?_) | (refine sb ?_) | (intro _))
  first | (refine z_ret2A tab_ok Try.func36 hb hk Try.results36 0 rfl rfl rfl rfl rfl rfl rfl (fun w hm => ?_)) | (refine z_ret2A tab_ok Try.func36 hb hk Try.results36 1 rfl rfl rfl rfl rfl rfl rfl (fun w hm => ?_)) | (refine z_ret2A tab_ok Try.func36 hb hk Try.results36 2 rfl rfl rfl rfl rfl rfl rfl (fun w hm => ?_)) | (refine z_ret2A tab_ok Try.func36 hb hk Try.results36 3 rfl rfl rfl rfl rfl rfl rfl (fun w hm => ?_)) | (refine z_ret2A tab_ok Try.func36 hb hk Try.results36 4 rfl rfl rfl rfl rfl rfl rfl (fun w hm => ?_))
  exact ⟨rfl, hm.bare⟩
theorem nil_ClientEnd (w : World) : Calls Try.prog 53 [.pointer none].toArray w fun e w' => e = .returned (.tuple #[]) ∧ Mem w [] [] w' := by
  refine calls_of_z Try.func53 rfl Try.ntmps53 rfl (Mem.refl w) ?_; intro cs b hb hk
  repeat (first | (refine st ?_) | (refine stx ?_) | (refine sb ?_) | (intro _))
  refine z_ret0 Try.func53 hb hk Try.results53 (fun w hm => ?_)
  exact ⟨rfl, hm.bare⟩
theorem nil_RemoteEnd (w : World) : Calls Try.prog 54 [.pointer none].toArray w fun e w' => e = .returned (.tuple #[]) ∧ Mem w [] [] w' := by
  refine calls_of_z Try.func54 rfl Try.ntmps54 rfl (Mem.refl w) ?_; intro cs b hb hk
  repeat (first | (refine st ?_) | (refine stx ?_) | (refine sb ?_) | (intro _))
  refine z_ret0 Try.func54 hb hk Try.results54 (fun w hm => ?_)
  exact ⟨rfl, hm.bare⟩
theorem nil_Connected (a : Adr) (n e : Int) (w : World) : Calls Try.prog 51 [.pointer none, epV a n, .int .i64 e].toArray w fun e w' => e = .returned (.bool false) ∧ Mem w [] [] w' := by
  refine calls_of_z Try.func51 rfl Try.ntmps51 rfl (Mem.refl w) ?_; intro cs b hb hk
  repeat (first | (refine st ?_) | (refine stx ?_) | (refine sb ?_) | (intro _))
  refine z_ret1 tab_ok Try.func51 hb hk Try.results51 (.tmp rfl) (fun w hm => ?_)
  exact ⟨rfl, hm.bare⟩
end Go.Proofs.Ytabcaiecoiejkaa
