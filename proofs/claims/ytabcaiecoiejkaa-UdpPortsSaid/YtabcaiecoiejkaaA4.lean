/- Walk of wire.Pseudo. -/
import Derived.Test.YtabcaiecoiejkaaA1
import Derived.Test.YtabcaiecoiejkaaA2
set_option maxRecDepth 100000
set_option linter.unusedSimpArgs false
set_option linter.unusedVariables false
namespace Go.Proofs.Ytabcaiecoiejkaa
open Go K

theorem Adr.bytes_size (a : Adr) : a.bytes.size ≤ 16 := by
  rw [Adr.bytes, ofInts_size, Adr.nums]
  cases a.v6 <;> cases a.valid <;> simp [Adr.all, Adr.four]

/-- the pseudo header -/
def pseudo (a b : Adr) (proto size : Int) : ByteArray := bif a.v6 then a.bytes ++ b.bytes ++ putB size 4 ++ putB proto 4 else a.bytes ++ b.bytes ++ putB proto 2 ++ putB size 2

theorem Pseudo_any (a a' : Adr) (proto size : Int) (w : World) (ha : a.valid = true) (ha' : a'.valid = true) (hv : a.v6 = a'.v6) (hp0 : 0 ≤ proto) (hp1 : proto ≤ 255) (hs0 : 0 ≤ size) (hs1 : size ≤ 65535) :
    Calls Try.prog 31 [a.val, a'.val, .int .i64 proto, .int .i64 size].toArray w fun e w' => e = .returned (.string (pseudo a a' proto size)) ∧ Mem w [] [] w' := by
  have hA := a.bytes_size
  have hB := a'.bytes_size
  refine calls_of_z Try.func31 rfl Try.ntmps31 rfl (Mem.refl w) ?_; intro cs b hb hk
  repeat (first | (refine st ?_) | (refine sb ?_) | (intro _))
  ((try (refine sg ?_)); (refine zx_call0 rfl fnc48 rfl rfl (fun w hm => Valid_any a w) ?_))
  repeat (first | (refine st ?_) | (refine sb ?_) | (intro _))
  ((try (refine sg ?_)); (refine zx_call0 rfl fnc48 rfl rfl (fun w hm => Valid_any a' w) ?_))
  repeat (first | (refine st ?_) | (refine sb ?_) | (intro _))
  ((try (refine sg ?_)); (refine zx_call0 rfl fnc41 rfl rfl (fun w hm => Bytes_any a w) ?_))
  repeat (first | (refine st ?_) | (refine sb ?_) | (intro _))
  ((try (refine sg ?_)); (refine zx_call0 rfl fnc41 rfl rfl (fun w hm => Bytes_any a' w) ?_))
  repeat (first | (refine st ?_) | (refine sb ?_) | (intro _))
  cases h6 : a.v6 with
  | true =>
    repeat (first | (refine st ?_) | (refine sb ?_) | (intro _))
    ((try (refine sg ?_)); (refine zx_call0 rfl fnc32 rfl rfl (fun w hm => Put4_any _ w) ?_))
    repeat (first | (refine st ?_) | (refine sb ?_) | (intro _))
    ((try (refine sg ?_)); (refine zx_call0 rfl fnc32 rfl rfl (fun w hm => Put4_any _ w) ?_))
    repeat (first | (refine st ?_) | (refine sb ?_) | (intro _))
    refine z_ret1 tab_ok Try.func31 hb hk Try.results31 (.tmp rfl) (fun w hm => ?_)
    exact ⟨by rw [pseudo, h6, wru64 hs0 (by omega), wru64 hp0 (by omega)]; rfl, hm.bare⟩
  | false =>
    repeat (first | (refine st ?_) | (refine sb ?_) | (intro _))
    ((try (refine sg ?_)); (refine zx_call0 rfl fnc32 rfl rfl (fun w hm => Put2_any _ w) ?_))
    repeat (first | (refine st ?_) | (refine sb ?_) | (intro _))
    ((try (refine sg ?_)); (refine zx_call0 rfl fnc32 rfl rfl (fun w hm => Put2_any _ w) ?_))
    repeat (first | (refine st ?_) | (refine sb ?_) | (intro _))
    refine z_ret1 tab_ok Try.func31 hb hk Try.results31 (.tmp rfl) (fun w hm => ?_)
    exact ⟨by rw [pseudo, h6, wru64 hs0 (by omega), wru64 hp0 (by omega)]; rfl, hm.bare⟩
end Go.Proofs.Ytabcaiecoiejkaa
