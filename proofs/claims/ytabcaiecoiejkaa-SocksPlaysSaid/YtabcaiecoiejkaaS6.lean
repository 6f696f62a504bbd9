/- Walks of package wire: From, None, Group; and of slices.IndexFunc over no names. -/
import Derived.Test.YtabcaiecoiejkaaS5
import Derived.Lib.LazyBuf
set_option maxRecDepth 100000
set_option linter.unusedSimpArgs false
set_option linter.unusedVariables false
set_option maxHeartbeats 1600000
namespace Go.Proofs.Ytabcaiecoiejkaa
open Go K

section
variable {c : Cx} {n d : Nat} {F : Fr} {w0 : World} {ks : List Nat} {L : Mm} {D : List Deferred} {k : List Item} {ops : Array Oper} {i : Nat} {rest : List Oper} {ty : TypeId} {pos : String} {af : Array Edge} {g : Option (Nat × Bool)} {tb : Tab}
theorem zx_copyS (ht : TabOk c.P tb) {t1 t2 e : TypeId} {x y : Operand} {tz : Nat} {tzs ez : List Value} {ed : TypeDesc} {b off len cap : Nat} {s : ByteArray} (j : Nat) (vs : List Value) {cs cs' : List Value} {et : TypeId} {L' : Mm} (hw : wn ops F g = some true)
    (htt : lookT tb t1 = some ⟨.slice e, tz, tzs⟩) (hte : lookT tb e = some ⟨ed, 1, ez⟩) (hx : ev F x = some (.slice (some ⟨b, off, none⟩) len cap)) (hy : ev F y = some (.string s)) (hle : s.size ≤ len) (hvs : byteCells s = vs) (hL : L[j]? = some (b, .c cs et 0 0)) (hlen : off + s.size ≤ cs.length) (hcs : over cs off vs = cs') (hL' : L.set j (b, .c cs' et 0 0) = L') (hd : Nat.blt d n = true)
    (h : ZX c false n ((d, .int .i64 (s.size : Int)) :: F) w0 ks L' D ops (i + 1) rest k) : ZX c false n F w0 ks L D ops i (⟨some d, .call ⟨.builtin .copy, #[x, y], #[t1, t2]⟩, ty, pos, af, g⟩ :: rest) k :=
  zx_mem (o := ⟨some d, .call ⟨.builtin .copy, #[x, y], #[t1, t2]⟩, ty, pos, af, g⟩) (Y := Unit) (v := fun _ => .int .i64 (s.size : Int)) (L' := fun _ => L') (Φ := fun _ => True) hw
    (fun a w _ h2 hm _ hK => by
      have h1 := (ht _ _ htt).und
      have h4 := fun w => (ht _ _ hte).run_size w
      simp only at h4
      have hblk : w.heap[b]? = some (.cells cs.toArray et (0, 0)) := hm.known _ (List.mem_of_getElem? hL)
      have hr := Go.run_copy_string (P := c.P) w t1 t2 ty e b off len cap s h1 h4 hle
        (fun q hq => by rw [hm.cell hL, List.getElem?_eq_getElem (by omega)]; rfl) (fun q _ => by simp [World.frozen?, hblk])
      have hl : (byteCells s).length = s.size := byteCells_length s
      have hmm := setCells_mem (byteCells s) off L cs w hm hL (by rw [hl]; omega)
      rw [hvs, hcs, hL'] at hmm
      have e2 : (s.data.toList.map fun x => Value.int .u8 (x.toNat : Int)) = vs := hvs
      rw [e2] at hr
      refine upon_val (w' := _) ?_ (hK () _ trivial hmm)
      simp [execOp, resolve, invoke, builtin, ev_eval h2 hx, ev_eval h2 hy, hr, goInt])
    (fun _ => has_put_d hd _) (fun _ _ => h)
end

def adr4 (s : ByteArray) : Adr := ⟨false, fun i => [bt s 0, bt s 1, bt s 2, bt s 3].getD i 0⟩
def adr16 (s : ByteArray) : Adr := ⟨true, fun i => bt s i⟩
theorem cells_of4 (s : ByteArray) (h : s.size = 4) : byteCells s = [.int .u8 (bt s 0), .int .u8 (bt s 1), .int .u8 (bt s 2), .int .u8 (bt s 3)] := by
  rw [bc_eq]
  unfold u8s
  have hl := bL_length s
  rw [h] at hl
  have e : bL s = [bt s 0, bt s 1, bt s 2, bt s 3] := by
    apply List.ext_getElem?
    intro i
    by_cases hi : i < 4
    · rw [bL_get s i (by omega)]
      obtain rfl | rfl | rfl | rfl : i = 0 ∨ i = 1 ∨ i = 2 ∨ i = 3 := by omega
      all_goals rfl
    · rw [List.getElem?_eq_none (by omega), List.getElem?_eq_none (by simp; omega)]
  rw [e]
  rfl
theorem cells_of16 (s : ByteArray) (h : s.size = 16) : byteCells s = [.int .u8 (bt s 0), .int .u8 (bt s 1), .int .u8 (bt s 2), .int .u8 (bt s 3), .int .u8 (bt s 4), .int .u8 (bt s 5), .int .u8 (bt s 6), .int .u8 (bt s 7), .int .u8 (bt s 8), .int .u8 (bt s 9), .int .u8 (bt s 10), .int .u8 (bt s 11), .int .u8 (bt s 12), .int .u8 (bt s 13), .int .u8 (bt s 14), .int .u8 (bt s 15)] := by
  rw [bc_eq]
  unfold u8s
  have hl := bL_length s
  rw [h] at hl
  have e : bL s = [bt s 0, bt s 1, bt s 2, bt s 3, bt s 4, bt s 5, bt s 6, bt s 7, bt s 8, bt s 9, bt s 10, bt s 11, bt s 12, bt s 13, bt s 14, bt s 15] := by
    apply List.ext_getElem?
    intro i
    by_cases hi : i < 16
    · rw [bL_get s i (by omega)]
      obtain rfl | rfl | rfl | rfl | rfl | rfl | rfl | rfl | rfl | rfl | rfl | rfl | rfl | rfl | rfl | rfl : i = 0 ∨ i = 1 ∨ i = 2 ∨ i = 3 ∨ i = 4 ∨ i = 5 ∨ i = 6 ∨ i = 7 ∨ i = 8 ∨ i = 9 ∨ i = 10 ∨ i = 11 ∨ i = 12 ∨ i = 13 ∨ i = 14 ∨ i = 15 := by omega
      all_goals rfl
    · rw [List.getElem?_eq_none (by omega), List.getElem?_eq_none (by simp; omega)]
  rw [e]
  rfl
theorem From4_any (s : ByteArray) (h : s.size = 4) (w : World) : Calls Try.prog 141 [.string s].toArray w fun e w' => e = .returned (.tuple #[(adr4 s).val, .int .i64 0]) ∧ Mem w [] [] w' := by
  have e1 : (s.size : Int) = 4 := by omega
  refine calls_of_z Try.func141 rfl Try.ntmps141 rfl (Mem.refl w) ?_; intro cs b hb hk
  repeat (first | (refine st ?_) | (refine stx ?_) | (refine sb ?_) | (intro _))
  rename_i b1 b2
  refine zx_copyS tab_ok 0 _ rfl rfl rfl rfl rfl (by omega) (cells_of4 s h) rfl (by rw [h]; decide) rfl rfl rfl ?_
  refine zx_re 16 (.bool false) rfl (congrArg _ (beq_eq_false_iff_ne.2 (by omega))) ?_
  have e2 : ((s.size : Int) == 16) = false := beq_eq_false_iff_ne.2 (by omega)
  repeat (first | (refine st ?_) | (refine stx ?_) | (refine sb ?_) | (intro _))
  first | (refine z_ret2A tab_ok Try.func141 hb hk Try.results141 0 rfl rfl rfl rfl rfl rfl rfl (fun w hm => ?_)) | (refine z_ret2A tab_ok Try.func141 hb hk Try.results141 1 rfl rfl rfl rfl rfl rfl rfl (fun w hm => ?_)) | (refine z_ret2A tab_ok Try.func141 hb hk Try.results141 2 rfl rfl rfl rfl rfl rfl rfl (fun w hm => ?_)) | (refine z_ret2A tab_ok Try.func141 hb hk Try.results141 3 rfl rfl rfl rfl rfl rfl rfl (fun w hm => ?_)) | (refine z_ret2A tab_ok Try.func141 hb hk Try.results141 4 rfl rfl rfl rfl rfl rfl rfl (fun w hm => ?_))
  exact ⟨by rw [e2]; rfl, hm.bare⟩
theorem From16_any (s : ByteArray) (h : s.size = 16) (w : World) : Calls Try.prog 141 [.string s].toArray w fun e w' => e = .returned (.tuple #[(adr16 s).val, .int .i64 0]) ∧ Mem w [] [] w' := by
  have e1 : (s.size : Int) = 16 := by omega
  refine calls_of_z Try.func141 rfl Try.ntmps141 rfl (Mem.refl w) ?_; intro cs b hb hk
  repeat (first | (refine st ?_) | (refine stx ?_) | (refine sb ?_) | (intro _))
  rename_i b1 b2
  refine zx_copyS tab_ok 0 _ rfl rfl rfl rfl rfl (by omega) (cells_of16 s h) rfl (by rw [h]; decide) rfl rfl rfl ?_
  have e2 : ((s.size : Int) == 16) = true := beq_iff_eq.2 (by omega)
  repeat (first | (refine st ?_) | (refine stx ?_) | (refine sb ?_) | (intro _))
  first | (refine z_ret2A tab_ok Try.func141 hb hk Try.results141 0 rfl rfl rfl rfl rfl rfl rfl (fun w hm => ?_)) | (refine z_ret2A tab_ok Try.func141 hb hk Try.results141 1 rfl rfl rfl rfl rfl rfl rfl (fun w hm => ?_)) | (refine z_ret2A tab_ok Try.func141 hb hk Try.results141 2 rfl rfl rfl rfl rfl rfl rfl (fun w hm => ?_)) | (refine z_ret2A tab_ok Try.func141 hb hk Try.results141 3 rfl rfl rfl rfl rfl rfl rfl (fun w hm => ?_)) | (refine z_ret2A tab_ok Try.func141 hb hk Try.results141 4 rfl rfl rfl rfl rfl rfl rfl (fun w hm => ?_))
  exact ⟨by rw [e2]; rfl, hm.bare⟩
theorem IndexFunc_nil (fv : Value) (w : World) : Calls Try.prog 139 [.slice none 0 0, fv].toArray w fun e w' => e = .returned (.int .i64 (-1)) ∧ Mem w [] [] w' := by
  refine calls_of_z Try.func139 rfl Try.ntmps139 rfl (Mem.refl w) ?_; intro cs b hb hk
  repeat (first | (refine st ?_) | (refine stx ?_) | (refine sb ?_) | (intro _) | (refine z_once ?_) | (refine z_again ?_))
  refine z_ret1 tab_ok Try.func139 hb hk Try.results139 (.tmp rfl) (fun w hm => ?_)
  exact ⟨rfl, hm.bare⟩
end Go.Proofs.Ytabcaiecoiejkaa
