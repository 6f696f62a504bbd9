/- What bytes say as a segment; plain facts on two bytes and a number; the walk of seg.Parse's closure. -/
import Derived.Test.YtabcaiecoiejkaaG2
import Derived.Test.YtabcaiecoiejkaaD1
set_option maxRecDepth 100000
set_option linter.unusedSimpArgs false
set_option linter.unusedVariables false
set_option maxHeartbeats 800000
namespace Go.Proofs.Ytabcaiecoiejkaa
open Go K

theorem wru32 {x : Int} (h0 : 0 ≤ x) (h1 : x ≤ 4294967295) : IntKind.u32.wrap x = x := by rw [IntKind.wrap_u32]; omega
theorem byte_of_bt {x y : ByteArray} (h : bL x = bL y) : x = y := by
  apply ByteArray.ext
  apply Array.ext'
  unfold bL at h
  exact (List.map_inj_right (f := fun u : UInt8 => (u.toNat : Int)) (fun a b hab => UInt8.toNat_inj.1 (Int.ofNat.inj hab))).1 h
theorem ba_ext {x y : ByteArray} (hs : x.size = y.size) (h : ∀ i, i < x.size → bt x i = bt y i) : x = y := by
  apply byte_of_bt
  apply List.ext_getElem?
  intro i
  by_cases hi : i < x.size
  · rw [bL_get x i hi, bL_get y i (by omega), h i hi]
  · rw [List.getElem?_eq_none (by rw [bL_length]; omega), List.getElem?_eq_none (by rw [bL_length]; omega)]
theorem bt_ext (x : ByteArray) (i j k : Nat) (h : i + k < j) : bt (x.extract i j) k = bt x (i + k) := by
  unfold bt
  rw [Lib.extract_data, List.getD_eq_getElem?_getD, List.getD_eq_getElem?_getD, List.getElem?_take_of_lt (by omega), List.getElem?_drop]
theorem getN_ext (x : ByteArray) (i j a : Nat) : ∀ n, i + a + n ≤ j → getN (x.extract i j) a n = getN x (i + a) n
  | 0, _ => rfl
  | n + 1, h => by rw [getN, getN, getN_ext x i j a n (by omega), bt_ext x i j (a + n) (by omega), Nat.add_assoc]
theorem two_iff (x : ByteArray) (i : Nat) (v : Int) (h0 : 0 ≤ v) (h1 : v ≤ 65535) (hs : i + 2 ≤ x.size) : putB v 2 = x.extract i (i + 2) ↔ v = getN x i 2 := by
  have he : (x.extract i (i + 2)).size = 2 := by rw [ByteArray.size_extract]; omega
  constructor
  · intro h
    have := getN_put v h0 h1
    rw [h, getN_ext x i (i + 2) 0 2 (by omega)] at this
    exact this.symm
  · intro h
    have hg := getN_put v h0 h1
    have hg2 : getN (x.extract i (i + 2)) 0 2 = getN x i 2 := getN_ext x i (i + 2) 0 2 (by omega)
    rw [← h] at hg2
    have g1 : (0 * 256 + bt (putB v 2) 0) * 256 + bt (putB v 2) 1 = v := hg
    have g2 : (0 * 256 + bt (x.extract i (i + 2)) 0) * 256 + bt (x.extract i (i + 2)) 1 = v := hg2
    refine ba_ext (by rw [putB_size, he]) ?_
    intro k hk
    rw [putB_size] at hk
    have r1 := bt_range (putB v 2) 0
    have r2 := bt_range (putB v 2) 1
    have r3 := bt_range (x.extract i (i + 2)) 0
    have r4 := bt_range (x.extract i (i + 2)) 1
    obtain rfl | rfl : k = 0 ∨ k = 1 := by omega
    · omega
    · omega
theorem getN_one (x : ByteArray) (i : Nat) : getN x i 1 = bt x i := by simp [getN]

def shead (x : ByteArray) : Nat := (bt x 12 / 16).toNat * 4
def sfields (x : ByteArray) (h : Nat) : Sg := ⟨getN x 0 2, getN x 2 2, getN x 4 4, getN x 8 4, getN x 13 1, getN x 14 2, 0, -1, x.extract h x.size⟩
/-- the options of a segment -/
def sopts (x : ByteArray) : ByteArray := x.extract 20 (shead x)
open Classical in
/-- what Parse tells -/
noncomputable def sparse (a a' : Adr) (x : ByteArray) : Sg × Int :=
  if ends a a' = true then
    if x.size < 20 then (sg0, 70)
    else if shead x < 20 ∨ x.size < shead x then (sg0, 72)
    else if 65515 < x.size ∨ ssum a a' (x.extract 0 16) (x.extract 18 x.size) ≠ getN x 16 2 then (sg0, 73)
    else if (sread (sopts x) (sopts x).size 0 (sfields x (shead x))).2 = true then ((sread (sopts x) (sopts x).size 0 (sfields x (shead x))).1, 0) else (sg0, 74)
  else (sg0, 1)
theorem shead_eq (x : ByteArray) : IntKind.i64.wrap (IntKind.i64.wrap ((bt x 12).fdiv 16) * 4) = (shead x : Int) := by
  have := bt_range x 12
  rw [Int.fdiv_eq_ediv_of_nonneg _ (by omega), wr64 (x := bt x 12 / 16) (by omega) (by omega), wr64 (by omega) (by omega)]
  unfold shead
  omega
theorem shead_eqR (x : ByteArray) : IntKind.i64.wrap (((IntKind.i64.wrap (bt x 12)).tdiv 16) * 4) = (shead x : Int) := by
  have := bt_range x 12
  rw [wr64 (x := bt x 12) (by omega) (by omega), Int.tdiv_eq_ediv_of_nonneg (by omega), wr64 (by omega) (by omega)]
  unfold shead
  omega
theorem shead_le (x : ByteArray) : shead x ≤ 60 := by
  have := bt_range x 12
  unfold shead
  omega

theorem Get1_any (s : ByteArray) (a : Nat) (w : World) (h : a + 1 ≤ s.size) (hs : s.size ≤ 1000000000000000000) :
    Calls Try.prog 77 [.string s, .int .i64 (a : Int), .int .i64 1].toArray w fun e w' => e = .returned (.tuple #[.int .u64 (getN s a 1), .bool true]) ∧ Mem w [] [] w' := by
  refine calls_of_z Try.func77 rfl Try.ntmps77 rfl (Mem.refl w) ?_; intro cs b hb hk
  repeat (first | (refine st ?_) | (refine sb ?_) | (intro _))
  refine z_once ?_
  repeat (first | (refine st ?_) | (refine sb ?_) | (intro _))
  ((try (refine sg ?_)); refine zx_idxN (a + 0) tab_ok rfl rfl rfl rfl rfl rfl (by first | omega | (simp only [IntKind.wrap_i64]; omega)) (by omega) ?_)
  repeat (first | (refine st ?_) | (refine sb ?_) | (intro _))
  refine z_re 8 (.int .u64 (getN s a 1)) rfl (congrArg (Value.int .u64) (get_step s a 0 (by omega))) ?_
  refine z_again ?_
  repeat (first | (refine st ?_) | (refine sb ?_) | (intro _))
  refine z_ret2 tab_ok Try.func77 hb hk Try.results77 (.tmp rfl) (.tmp rfl) (fun w hm => ?_)
  exact ⟨rfl, hm.bare⟩
theorem numS1_any (s : ByteArray) (a p : Nat) (w : World) (hp : w.cell? ⟨p, 0, none⟩ = some (.string s)) (h : a + 1 ≤ s.size) (hs : s.size ≤ 1000000000000000000) :
    Calls Try.prog 87 [.int .i64 (a : Int), .int .i64 1, .pointer (some ⟨p, 0, none⟩)].toArray w fun e w' => e = .returned (.int .i64 (getN s a 1)) ∧ Mem w [] [] w' := by
  have hr := getN_range s a 1
  refine calls_of_z Try.func87 rfl Try.ntmps87 rfl (Mem.refl w) ?_; intro cs b hb hk
  repeat (first | (refine st ?_) | (intro _))
  refine zx_loadB tab_ok rfl rfl rfl rfl hp (by simp) rfl ?_
  repeat (first | (refine st ?_) | (intro _))
  ((try (refine sg ?_)); (refine zx_call0 rfl fnc77 rfl rfl (fun w hm => Get1_any s a w h hs) ?_))
  repeat (first | (refine st ?_) | (intro _))
  refine z_ret1 tab_ok Try.func87 hb hk Try.results87 (.tmp rfl) (fun w hm => ?_)
  exact ⟨by rw [wr64 (by omega) (by omega)], hm.bare⟩
theorem numS2_any (s : ByteArray) (a p : Nat) (w : World) (hp : w.cell? ⟨p, 0, none⟩ = some (.string s)) (h : a + 2 ≤ s.size) (hs : s.size ≤ 1000000000000000000) :
    Calls Try.prog 87 [.int .i64 (a : Int), .int .i64 2, .pointer (some ⟨p, 0, none⟩)].toArray w fun e w' => e = .returned (.int .i64 (getN s a 2)) ∧ Mem w [] [] w' := by
  have hr := getN_range s a 2
  refine calls_of_z Try.func87 rfl Try.ntmps87 rfl (Mem.refl w) ?_; intro cs b hb hk
  repeat (first | (refine st ?_) | (intro _))
  refine zx_loadB tab_ok rfl rfl rfl rfl hp (by simp) rfl ?_
  repeat (first | (refine st ?_) | (intro _))
  ((try (refine sg ?_)); (refine zx_call0 rfl fnc77 rfl rfl (fun w hm => Get2_any s a w h hs) ?_))
  repeat (first | (refine st ?_) | (intro _))
  refine z_ret1 tab_ok Try.func87 hb hk Try.results87 (.tmp rfl) (fun w hm => ?_)
  exact ⟨by rw [wr64 (by omega) (by omega)], hm.bare⟩
theorem numS4_any (s : ByteArray) (a p : Nat) (w : World) (hp : w.cell? ⟨p, 0, none⟩ = some (.string s)) (h : a + 4 ≤ s.size) (hs : s.size ≤ 1000000000000000000) :
    Calls Try.prog 87 [.int .i64 (a : Int), .int .i64 4, .pointer (some ⟨p, 0, none⟩)].toArray w fun e w' => e = .returned (.int .i64 (getN s a 4)) ∧ Mem w [] [] w' := by
  have hr := getN_range s a 4
  refine calls_of_z Try.func87 rfl Try.ntmps87 rfl (Mem.refl w) ?_; intro cs b hb hk
  repeat (first | (refine st ?_) | (intro _))
  refine zx_loadB tab_ok rfl rfl rfl rfl hp (by simp) rfl ?_
  repeat (first | (refine st ?_) | (intro _))
  ((try (refine sg ?_)); (refine zx_call0 rfl fnc77 rfl rfl (fun w hm => Get4_any s a w h hs) ?_))
  repeat (first | (refine st ?_) | (intro _))
  refine z_ret1 tab_ok Try.func87 hb hk Try.results87 (.tmp rfl) (fun w hm => ?_)
  exact ⟨by rw [wr64 (by omega) (by omega)], hm.bare⟩
end Go.Proofs.Ytabcaiecoiejkaa
