/- Walks of the reference's Pseudo, and of layer 16's reference: ends, check, Build. -/
import Derived.Test.YtabcaiecoiejkaaB3
import Derived.Test.YtabcaiecoiejkaaA6
set_option maxRecDepth 100000
set_option linter.unusedSimpArgs false
set_option linter.unusedVariables false
set_option maxHeartbeats 400000
namespace Go.Proofs.Ytabcaiecoiejkaa
open Go K

theorem PseudoR_any (a a' : Adr) (proto size : Int) (w : World) (ha : a.valid = true) (ha' : a'.valid = true) (hv : a.v6 = a'.v6) (hp0 : 0 ≤ proto) (hp1 : proto ≤ 255) (hs0 : 0 ≤ size) (hs1 : size ≤ 65535) :
    Calls Try.prog 120 [a.val, a'.val, .int .i64 proto, .int .i64 size].toArray w fun e w' => e = .returned (.string (pseudo a a' proto size)) ∧ Mem w [] [] w' := by
  have hA := a.bytes_size
  have hB := a'.bytes_size
  have ws : IntKind.u64.wrap size = size := wru64 hs0 (by omega)
  have wp : IntKind.u64.wrap proto = proto := wru64 hp0 (by omega)
  refine calls_of_z Try.func120 rfl Try.ntmps120 rfl (Mem.refl w) ?_; intro cs b hb hk
  repeat (first | (refine st ?_) | (refine sb ?_) | (intro _))
  ((try (refine sg ?_)); (refine zx_call0 rfl fnc118 rfl rfl (fun w hm => ValidR_any a w) ?_))
  repeat (first | (refine st ?_) | (refine sb ?_) | (intro _))
  ((try (refine sg ?_)); (refine zx_call0 rfl fnc118 rfl rfl (fun w hm => ValidR_any a' w) ?_))
  repeat (first | (refine st ?_) | (refine sb ?_) | (intro _))
  rcases Bool.eq_false_or_eq_true a.v6 with h6 | h6
  · repeat (first | (refine st ?_) | (refine sb ?_) | (intro _))
    ((try (refine sg ?_)); (refine zx_call0 rfl fnc130 rfl rfl (fun w hm => BytesR_any a w) ?_))
    repeat (first | (refine st ?_) | (refine sb ?_) | (intro _))
    ((try (refine sg ?_)); (refine zx_call0 rfl fnc130 rfl rfl (fun w hm => BytesR_any a' w) ?_))
    repeat (first | (refine st ?_) | (refine sb ?_) | (intro _))
    ((try (refine sg ?_)); (refine zx_call0 rfl fnc74 rfl rfl (fun w hm => PutR4_any _ w (by rw [ws]; exact hs0) (by rw [ws]; omega)) ?_))
    repeat (first | (refine st ?_) | (refine sb ?_) | (intro _))
    ((try (refine sg ?_)); (refine zx_call0 rfl fnc74 rfl rfl (fun w hm => PutR4_any _ w (by rw [wp]; exact hp0) (by rw [wp]; omega)) ?_))
    repeat (first | (refine st ?_) | (refine sb ?_) | (intro _))
    refine z_ret1 tab_ok Try.func120 hb hk Try.results120 (.tmp rfl) (fun w hm => ?_)
    exact ⟨by rw [pseudo, h6, ws, wp]; rfl, hm.bare⟩
  · repeat (first | (refine st ?_) | (refine sb ?_) | (intro _))
    ((try (refine sg ?_)); (refine zx_call0 rfl fnc130 rfl rfl (fun w hm => BytesR_any a w) ?_))
    repeat (first | (refine st ?_) | (refine sb ?_) | (intro _))
    ((try (refine sg ?_)); (refine zx_call0 rfl fnc130 rfl rfl (fun w hm => BytesR_any a' w) ?_))
    repeat (first | (refine st ?_) | (refine sb ?_) | (intro _))
    ((try (refine sg ?_)); (refine zx_call0 rfl fnc74 rfl rfl (fun w hm => PutR2_any _ w (by rw [wp]; exact hp0) (by rw [wp]; omega)) ?_))
    repeat (first | (refine st ?_) | (refine sb ?_) | (intro _))
    ((try (refine sg ?_)); (refine zx_call0 rfl fnc74 rfl rfl (fun w hm => PutR2_any _ w (by rw [ws]; exact hs0) (by rw [ws]; omega)) ?_))
    repeat (first | (refine st ?_) | (refine sb ?_) | (intro _))
    refine z_ret1 tab_ok Try.func120 hb hk Try.results120 (.tmp rfl) (fun w hm => ?_)
    exact ⟨by rw [pseudo, h6, ws, wp]; rfl, hm.bare⟩

theorem endsR16_any (a a' : Adr) (w : World) :
    Calls Try.prog 73 [a.val, a'.val].toArray w fun e w' => e = .returned (.bool (ends a a')) ∧ Mem w [] [] w' := by
  cases h : a.valid <;> cases h1 : a'.valid
  all_goals
    refine calls_of_z Try.func73 rfl Try.ntmps73 rfl (Mem.refl w) ?_; intro cs b hb hk
    repeat (first | (refine st ?_) | (refine sb ?_) | (intro _))
    ((try (refine sg ?_)); (refine zx_call0 rfl fnc118 rfl rfl (fun w hm => ValidR_any a w) ?_))
    repeat (first | (refine st ?_) | (refine sb ?_) | (intro _))
    ((try (refine sg ?_)); (refine zx_call0 rfl fnc118 rfl rfl (fun w hm => ValidR_any a' w) ?_))
    repeat (first | (refine st ?_) | (refine sb ?_) | (intro _))
    refine z_ret1 tab_ok Try.func73 hb hk Try.results73 (.tmp rfl) (fun w hm => ?_)
    exact ⟨by simp [ends, h, h1], hm.bare⟩

theorem bL_append (x y : ByteArray) : bL (x ++ y) = bL x ++ bL y := by
  unfold bL
  rw [← List.map_append]
  congr 1
def zz : ByteArray := ⟨#[0, 0]⟩
theorem acc_zz (od : Bool) (l m : List Int) : acc od (l ++ ([0, 0] ++ m)) = acc od (l ++ m) := by
  rw [acc_append, acc_append od l m]
  have h : ∀ q : Bool, acc q ([0, 0] ++ m) = acc q m := by intro q; cases q <;> simp [acc]
  rw [h]
/-- the checksum of bytes whose own is 0 -/
def rsum (a a' : Adr) (b : ByteArray) : Int :=
  if 65535 - csum (acc false (flat [pseudo a a' 17 b.size, b])) = 0 then 65535 else 65535 - csum (acc false (flat [pseudo a a' 17 b.size, b]))
theorem rsum_eq (a a' : Adr) (first data : ByteArray) (h : first.size = 6) : rsum a a' (first ++ zz ++ data) = usum a a' first data := by
  have hsz : ((first ++ zz ++ data).size : Int) = 8 + data.size := by
    rw [ByteArray.size_append, ByteArray.size_append, h, show zz.size = 2 from rfl]; omega
  have hfl : acc false (flat [pseudo a a' 17 (8 + data.size), first ++ zz ++ data]) = acc false (flat [pseudo a a' 17 (8 + data.size), first, data]) := by
    have e1 : flat [pseudo a a' 17 (8 + data.size), first ++ zz ++ data] = (bL (pseudo a a' 17 (8 + data.size)) ++ bL first) ++ ([0, 0] ++ bL data) := by
      simp only [flat, List.flatMap_cons, List.flatMap_nil, List.append_nil, bL_append, List.append_assoc]
      rfl
    have e2 : flat [pseudo a a' 17 (8 + data.size), first, data] = (bL (pseudo a a' 17 (8 + data.size)) ++ bL first) ++ bL data := by
      simp only [flat, List.flatMap_cons, List.flatMap_nil, List.append_nil, List.append_assoc]
    rw [e1, e2, acc_zz]
  unfold rsum usum
  rw [hsz, hfl]

theorem flat2 (x y : ByteArray) : (flat [x, y]).length = x.size + y.size := by
  simp [flat, bL_length]
theorem checkR16_any (a a' : Adr) (x : ByteArray) (w : World) (he : ends a a' = true) (hx : x.size ≤ 65535) :
    Calls Try.prog 75 [a.val, a'.val, .string x].toArray w fun e w' => e = .returned (.int .i64 (rsum a a' x)) ∧ Mem w [] [] w' := by
  obtain ⟨h1, h2, h3⟩ := ends_iff.1 he
  have hps := pseudo_size a a' 17 x.size
  refine calls_of_z Try.func75 rfl Try.ntmps75 rfl (Mem.refl w) ?_; intro cs b hb hk
  repeat (first | (refine st ?_) | (intro _))
  ((try (refine sg ?_)); (refine zx_call0 rfl fnc120 rfl rfl (fun w hm => PseudoR_any a a' 17 x.size w h1 h2 h3 (by omega) (by omega) (by omega) (by omega)) ?_))
  repeat (first | (refine st ?_) | (intro _))
  ((try (refine sg ?_)); (refine zx_call0 rfl fnc119 rfl rfl (fun w hm => sumR_any [pseudo a a' 17 x.size, x] _ 0 2 w (strs_cell hm 0 rfl) (by rw [flat2]; omega) (by simp)) ?_))
  repeat (first | (refine st ?_) | (intro _))
  by_cases hz : 65535 - csum (acc false (flat [pseudo a a' 17 x.size, x])) = 0
  · refine z_condKT rfl (beq_iff_eq.2 hz) ?_
    repeat (first | (refine st ?_) | (intro _))
    refine z_ret1 tab_ok Try.func75 hb hk Try.results75 (.tmp rfl) (fun w hm => ?_)
    exact ⟨by rw [rsum, if_pos hz], hm.bare⟩
  · refine z_condKF rfl (beq_eq_false_iff_ne.2 hz) ?_
    repeat (first | (refine st ?_) | (intro _))
    refine z_ret1 tab_ok Try.func75 hb hk Try.results75 (.tmp rfl) (fun w hm => ?_)
    exact ⟨by rw [rsum, if_neg hz], hm.bare⟩

theorem checkU16_any (a a' : Adr) (first data : ByteArray) (w : World) (he : ends a a' = true) (h6 : first.size = 6) (hx : data.size ≤ 65527) :
    Calls Try.prog 75 [a.val, a'.val, .string (first ++ zz ++ data)].toArray w fun e w' => e = .returned (.int .i64 (usum a a' first data)) ∧ Mem w [] [] w' := by
  rw [← rsum_eq a a' first data h6]
  exact checkR16_any a a' _ w he (by rw [ByteArray.size_append, ByteArray.size_append, h6, show zz.size = 2 from rfl]; omega)

theorem BuildR16_any (a a' : Adr) (s d : Int) (x : ByteArray) (w : World) (hx : x.size ≤ 1000000000000000) :
    Calls Try.prog 19 [a.val, a'.val, udpV s d x].toArray w fun e w' => e = .returned (.tuple #[.string (ubuild a a' s d x).1, .int .i64 (ubuild a a' s d x).2]) ∧ Mem w [] [] w' := by
  by_cases hg : UGood a a' s d
  · obtain ⟨he, hs0, hs1, hd0, hd1⟩ := hg
    have hg : UGood a a' s d := ⟨he, hs0, hs1, hd0, hd1⟩
    refine calls_of_z Try.func19 rfl Try.ntmps19 rfl (Mem.refl w) ?_; intro cs b hb hk
    repeat (first | (refine st ?_) | (refine sb ?_) | (intro _))
    ((try (refine sg ?_)); (refine zx_call0 rfl fnc73 rfl rfl (fun w hm => endsR16_any a a' w) ?_))
    repeat (first | (refine st ?_) | (refine sb ?_) | (intro _))
    by_cases hl : x.size ≤ 65507
    · have e8 : IntKind.u64.wrap (IntKind.i64.wrap ((x.size : Int) + 8)) = 8 + x.size := by rw [wr64 (by omega) (by omega), wru64 (by omega) (by omega)]; omega
      have es : IntKind.u64.wrap s = s := wru64 hs0 (by omega)
      have ed : IntKind.u64.wrap d = d := wru64 hd0 (by omega)
      have hu := usum_range a a' (ufirst s d x) x
      have eu : IntKind.u64.wrap (usum a a' (ufirst s d x) x) = usum a a' (ufirst s d x) x := wru64 (by omega) (by omega)
      repeat (first | (refine st ?_) | (refine sb ?_) | (intro _))
      refine zx_re 42 (.int .u64 s) rfl (congrArg _ es) ?_
      ((try (refine sg ?_)); (refine zx_call0 rfl fnc74 rfl rfl (fun w hm => PutR2_any s w hs0 (by omega)) ?_))
      repeat (first | (refine st ?_) | (refine sb ?_) | (intro _))
      refine zx_re 46 (.int .u64 d) rfl (congrArg _ ed) ?_
      ((try (refine sg ?_)); (refine zx_call0 rfl fnc74 rfl rfl (fun w hm => PutR2_any d w hd0 (by omega)) ?_))
      repeat (first | (refine st ?_) | (refine sb ?_) | (intro _))
      refine zx_re 53 (.int .u64 (8 + x.size)) rfl (congrArg _ e8) ?_
      ((try (refine sg ?_)); (refine zx_call0 rfl fnc74 rfl rfl (fun w hm => PutR2_any (8 + x.size) w (by omega) (by omega)) ?_))
      repeat (first | (first | (refine st ?_) | (refine sb ?_) | (intro _)) | (with_reducible refine g_bin ?_; refine zx_cat rfl rfl rfl ?_ rfl ?_; (focus (simp only [ByteArray.size_append, putB_size, show (⟨#[0, 0]⟩ : ByteArray).size = 2 from rfl]; omega))))
      refine zx_re 62 (.string (ufirst s d x ++ zz ++ x)) rfl rfl ?_
      ((try (refine sg ?_)); (refine zx_call0 rfl fnc75 rfl rfl (fun w hm => checkU16_any a a' (ufirst s d x) x w he (ufirst_size s d x) (by omega)) ?_))
      repeat (first | (refine st ?_) | (refine sb ?_) | (intro _))
      refine zx_re 66 (.int .u64 (usum a a' (ufirst s d x) x)) rfl (congrArg _ eu) ?_
      ((try (refine sg ?_)); (refine zx_call0 rfl fnc74 rfl rfl (fun w hm => PutR2_any (usum a a' (ufirst s d x) x) w (by omega) (by omega)) ?_))
      repeat (first | (refine st ?_) | (refine sb ?_) | (intro _))
      refine z_ret2 tab_ok Try.func19 hb hk Try.results19 (.tmp rfl) (.tmp rfl) (fun w hm => ?_)
      refine ⟨?_, hm.bare⟩
      rw [ubuild, if_pos hg, if_pos hl]
      rfl
    · repeat (first | (refine st ?_) | (refine sb ?_) | (intro _))
      refine z_ret2 tab_ok Try.func19 hb hk Try.results19 (.tmp rfl) (.tmp rfl) (fun w hm => ?_)
      refine ⟨?_, hm.bare⟩
      rw [ubuild, if_pos hg, if_neg hl]
      rfl
  · rw [ubuild, if_neg hg]
    rcases ubad hg with he | ⟨he, h1⟩ | ⟨he, h1, h2⟩ | ⟨he, h1, h2, h3⟩ | ⟨he, h1, h2, h3, h4⟩
    all_goals
      refine calls_of_z Try.func19 rfl Try.ntmps19 rfl (Mem.refl w) ?_; intro cs b hb hk
      repeat (first | (refine st ?_) | (refine sb ?_) | (intro _))
      ((try (refine sg ?_)); (refine zx_call0 rfl fnc73 rfl rfl (fun w hm => endsR16_any a a' w) ?_))
      repeat (first | (refine st ?_) | (refine sb ?_) | (intro _))
      refine z_ret2 tab_ok Try.func19 hb hk Try.results19 (.tmp rfl) (.tmp rfl) (fun w hm => ?_)
      exact ⟨rfl, hm.bare⟩
end Go.Proofs.Ytabcaiecoiejkaa
