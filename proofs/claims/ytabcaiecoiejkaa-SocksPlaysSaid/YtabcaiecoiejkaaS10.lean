/- Layer 22's first look (awake), and the law SocksNil: they answer true. -/
import Derived.Test.YtabcaiecoiejkaaS9
set_option maxRecDepth 100000
set_option linter.unusedSimpArgs false
set_option linter.unusedVariables false
set_option maxHeartbeats 2000000
namespace Go.Proofs.Ytabcaiecoiejkaa
open Go K

def s13 : ByteArray := ⟨#[5, 1, 0, 5, 1, 0, 1, 10, 0, 0, 2, 0, 80]⟩
def px1 : Px := ⟨noX, noX, .slice none 0 0, 3, [], [5, 0], false, false, false, adr4 (ofInts [10, 0, 0, 2]), 80⟩
def px2 : Px := ⟨noX, noX, .slice none 0 0, 3, [], [], false, false, false, adr4 (ofInts [10, 0, 0, 2]), 80⟩
def px3 : Px := ⟨noX, noX, .slice none 0 0, 4, [], [5, 0, 0, 1, 10, 0, 0, 1, 192, 0], false, false, true, adr4 (ofInts [10, 0, 0, 2]), 80⟩
def px4 : Px := ⟨noX, noX, .slice none 0 0, 4, [], [], false, false, true, adr4 (ofInts [10, 0, 0, 2]), 80⟩
theorem client13 : pClient px0 s13 = (px1, 13) := by kernel_rfl
theorem settle1 : pSettle { px1 with down := px1.down.drop 2 } = px2 := by kernel_rfl
theorem conn2 : pConn px2 (v4 10 0 0 1) 49152 = px3 := by kernel_rfl
theorem settle3 : pSettle { px3 with down := px3.down.drop 10 } = px4 := by kernel_rfl
theorem FC_13 (p : Nat) : PC 38 [fP p 0, .string s13] p px0 px1 (.int .i64 13) := by
  have := FromClient_any p px0 s13 good_px0 (by decide)
  rw [client13] at this
  exact this
theorem TC_1 (p : Nat) : PC 39 [fP p 0, .int .i64 9] p px1 px2 (.string ⟨#[5, 0]⟩) := by
  have := ToClient_any p px1 9 2 (by decide) (by decide)
  rw [settle1] at this
  exact this
theorem CO_2 (p : Nat) : PC 51 [fP p 0, epV (v4 10 0 0 1) 49152, .int .i64 0] p px2 px3 (.bool true) := by
  have := Connected_ok p px2 (v4 10 0 0 1) 49152 rfl rfl (by decide)
  rw [conn2] at this
  exact this
theorem TC_3 (p : Nat) : PC 39 [fP p 0, .int .i64 99] p px3 px4 (.string ⟨#[5, 0, 0, 1, 10, 0, 0, 1, 192, 0]⟩) := by
  have := ToClient_any p px3 99 10 (by decide) (by decide)
  rw [settle3] at this
  exact this
theorem TA_1 (p : Nat) : QC 36 [fP p 0] p px1 (.tuple #[epV px1.ta 80, .bool true]) := Target_any p px1
theorem awake22_any (w : World) : Calls Try.prog 33 [].toArray w fun e w' => e = .returned (.bool true) ∧ Mem w [] [] w' := by
  refine calls_of_z Try.func33 rfl Try.ntmps33 rfl (Mem.refl w) ?_; intro cs b hb hk
  repeat (first | (refine st ?_) | (refine stx ?_) | (refine sb ?_) | (intro _))
  refine zx_call (Y := Nat) (v := fun p => fP p 0) (Φ := fun _ => True) (L' := fun p => pX p px0 (none, none)) rfl fnc34 rfl rfl (fun w hm => (New_zero w).mono fun e w' ⟨p, _, he, hm'⟩ => ⟨p, trivial, he, by have := hm.trans0 hm'; rwa [List.append_nil] at this⟩) (fun p _ => ?_)
  repeat (first | (refine st ?_) | (refine stx ?_) | (refine sb ?_) | (intro _))
  refine zx_call (Y := Own × Own) (v := fun _ => .int .i64 13) (Φ := fun y => okX px1 y) (L' := fun y => [] ++ pX p px1 y) rfl fnc38 rfl rfl (fun w1 hm1 => PC.use (R := []) (FC_13 p) okX_px0 hm1) (fun y1 hy1 => ?_)
  repeat (first | (refine st ?_) | (refine stx ?_) | (refine sb ?_) | (intro _))
  ((try (refine sg ?_)); (refine zx_call0 rfl fnc36 rfl rfl (fun w hm => QC.use (R := []) (TA_1 p) hy1 hm) ?_))
  repeat (first | (refine st ?_) | (refine stx ?_) | (refine sb ?_) | (intro _))
  rename_i kt
  refine zx_call (Y := Own × Own) (v := fun _ => .string ⟨#[5, 0]⟩) (Φ := fun y => okX px2 y) (L' := fun y => [(kt, Blk.c (px1.ta.cells ++ [Value.int .i64 80]) 65 0 0)] ++ pX p px2 y) rfl fnc39 rfl rfl (fun w1 hm1 => PC.use (R := [(kt, Blk.c (px1.ta.cells ++ [Value.int .i64 80]) 65 0 0)]) (TC_1 p) hy1 hm1) (fun y2 hy2 => ?_)
  repeat (first | (refine st ?_) | (refine stx ?_) | (refine sb ?_) | (intro _))
  ((try (refine sg ?_)); (refine zx_call0 rfl fnc40 rfl rfl (fun w hm => V4_any 10 0 0 1 w) ?_))
  repeat (first | (refine st ?_) | (refine stx ?_) | (refine sb ?_) | (intro _))
  refine zx_call (Y := Own × Own) (v := fun _ => .bool true) (Φ := fun y => okX px3 y) (L' := fun y => [(kt, Blk.c (px1.ta.cells ++ [Value.int .i64 80]) 65 0 0)] ++ pX p px3 y) rfl fnc51 rfl rfl (fun w1 hm1 => PC.use (R := [(kt, Blk.c (px1.ta.cells ++ [Value.int .i64 80]) 65 0 0)]) (CO_2 p) hy2 hm1) (fun y3 hy3 => ?_)
  repeat (first | (refine st ?_) | (refine stx ?_) | (refine sb ?_) | (intro _))
  refine zx_call (Y := Own × Own) (v := fun _ => .string ⟨#[5, 0, 0, 1, 10, 0, 0, 1, 192, 0]⟩) (Φ := fun y => okX px4 y) (L' := fun y => [(kt, Blk.c (px1.ta.cells ++ [Value.int .i64 80]) 65 0 0)] ++ pX p px4 y) rfl fnc39 rfl rfl (fun w1 hm1 => PC.use (R := [(kt, Blk.c (px1.ta.cells ++ [Value.int .i64 80]) 65 0 0)]) (TC_3 p) hy3 hm1) (fun y4 hy4 => ?_)
  repeat (first | (refine st ?_) | (refine stx ?_) | (refine sb ?_) | (intro _))
  ((try (refine sg ?_)); (refine zx_call0 rfl fnc37 rfl rfl (fun w hm => QC.use (R := [(kt, Blk.c (px1.ta.cells ++ [Value.int .i64 80]) 65 0 0)]) (State_any p px4) hy4 hm) ?_))
  repeat (first | (refine st ?_) | (refine stx ?_) | (refine sb ?_) | (intro _))
  refine z_ret1 tab_ok Try.func33 hb hk Try.results33 (.tmp rfl) (fun w hm => ?_)
  exact ⟨rfl, hm.bare⟩
def s4 : ByteArray := ⟨#[4]⟩
def px5 : Px := ⟨noX, noX, .slice none 0 0, 5, [], [], false, false, false, adr0, 0⟩
theorem client4 : pClient px0 s4 = (px5, 1) := by kernel_rfl
theorem FC_4 (p : Nat) : PC 38 [fP p 0, .string s4] p px0 px5 (.int .i64 1) := by
  have := FromClient_any p px0 s4 good_px0 (by decide)
  rw [client4] at this
  exact this
theorem SocksNil_any (s : ByteArray) (n : Int) (w : World) : Calls Try.prog 13 [.string s, .int .i64 n].toArray w fun e w' => e = .returned (.bool true) ∧ Mem w [] [] w' := by
  refine calls_of_z Try.func13 rfl Try.ntmps13 rfl (Mem.refl w) ?_; intro cs b hb hk
  repeat (first | (refine st ?_) | (refine stx ?_) | (refine sb ?_) | (intro _))
  rename_i p
  refine zx_re 11 (.pointer none) rfl rfl ?_
  ((try (refine sg ?_)); (refine zx_call0 rfl fnc53 rfl rfl (fun w hm => nil_ClientEnd w) ?_))
  repeat (first | (refine st ?_) | (refine stx ?_) | (refine sb ?_) | (intro _))
  ((try (refine sg ?_)); (refine zx_call0 rfl fnc54 rfl rfl (fun w hm => nil_RemoteEnd w) ?_))
  repeat (first | (refine st ?_) | (refine stx ?_) | (refine sb ?_) | (intro _))
  ((try (refine sg ?_)); (refine zx_call0 rfl fnc36 rfl rfl (fun w hm => nil_Target w) ?_))
  repeat (first | (refine st ?_) | (refine stx ?_) | (refine sb ?_) | (intro _))
  rename_i kt
  ((try (refine sg ?_)); (refine zx_call0 rfl fnc33 rfl rfl (fun w hm => awake22_any w) ?_))
  repeat (first | (refine st ?_) | (refine stx ?_) | (refine sb ?_) | (intro _))
  ((try (refine sg ?_)); (refine zx_call0 rfl fnc38 rfl rfl (fun w hm => nil_FromClient s w) ?_))
  repeat (first | (refine st ?_) | (refine stx ?_) | (refine sb ?_) | (intro _))
  ((try (refine sg ?_)); (refine zx_call0 rfl fnc46 rfl rfl (fun w hm => nil_FromRemote s w) ?_))
  repeat (first | (refine st ?_) | (refine stx ?_) | (refine sb ?_) | (intro _))
  ((try (refine sg ?_)); (refine zx_call0 rfl fnc39 rfl rfl (fun w hm => nil_ToClient n w) ?_))
  repeat (first | (refine st ?_) | (refine stx ?_) | (refine sb ?_) | (intro _))
  ((try (refine sg ?_)); (refine zx_call0 rfl fnc45 rfl rfl (fun w hm => nil_ToRemote n w) ?_))
  repeat (first | (refine st ?_) | (refine stx ?_) | (refine sb ?_) | (intro _))
  ((try (refine sg ?_)); (refine zx_call0 rfl fnc44 rfl rfl (fun w hm => nil_EndClient w) ?_))
  repeat (first | (refine st ?_) | (refine stx ?_) | (refine sb ?_) | (intro _))
  ((try (refine sg ?_)); (refine zx_call0 rfl fnc47 rfl rfl (fun w hm => nil_EndRemote w) ?_))
  repeat (first | (refine st ?_) | (refine stx ?_) | (refine sb ?_) | (intro _))
  ((try (refine sg ?_)); (refine zx_call0 rfl fnc37 rfl rfl (fun w hm => nil_State w) ?_))
  repeat (first | (refine st ?_) | (refine stx ?_) | (refine sb ?_) | (intro _))
  ((try (refine sg ?_)); (refine zx_call0 rfl fnc51 rfl rfl (fun w hm => nil_Connected adr0 0 0 w) ?_))
  repeat (first | (refine st ?_) | (refine stx ?_) | (refine sb ?_) | (intro _))
  ((try (refine sg ?_)); (refine zx_call0 rfl fnc37 rfl rfl (fun w hm => QC.use (R := [(kt, Blk.c (adr0.cells ++ [Value.int .i64 0]) 65 0 0)]) (State_any p px0) okX_px0 hm) ?_))
  repeat (first | (refine st ?_) | (refine stx ?_) | (refine sb ?_) | (intro _))
  try (refine sg ?_)
  refine zx_call (Y := Own × Own) (v := fun _ => .int .i64 1) (Φ := fun y => okX px5 y) (L' := fun y => [(kt, Blk.c (adr0.cells ++ [Value.int .i64 0]) 65 0 0)] ++ pX p px5 y) rfl fnc38 rfl rfl (fun w1 hm1 => PC.use (R := [(kt, Blk.c (adr0.cells ++ [Value.int .i64 0]) 65 0 0)]) (FC_4 p) okX_px0 hm1) (fun y1 hy1 => ?_)
  repeat (first | (refine st ?_) | (refine stx ?_) | (refine sb ?_) | (intro _))
  ((try (refine sg ?_)); (refine zx_call0 rfl fnc37 rfl rfl (fun w hm => QC.use (R := [(kt, Blk.c (adr0.cells ++ [Value.int .i64 0]) 65 0 0)]) (State_any p px5) hy1 hm) ?_))
  repeat (first | (refine st ?_) | (refine stx ?_) | (refine sb ?_) | (intro _))
  refine z_ret1 tab_ok Try.func13 hb hk Try.results13 (.tmp rfl) (fun w hm => ?_)
  exact ⟨rfl, hm.bare⟩
end Go.Proofs.Ytabcaiecoiejkaa
