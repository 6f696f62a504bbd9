/- Walks of the small functions of package wire: V4, Valid, None, Group, Bytes. -/
import Derived.Test.YtabcaiecoiejkaaKS
set_option maxRecDepth 100000
namespace Go.Proofs.Ytabcaiecoiejkaa
open Go K

/-- an address: its kind and its bytes -/
structure Adr where
  v6 : Bool
  b : Nat → Int
def Adr.cells (a : Adr) : List Value := [.bool a.v6, .int .u8 (a.b 0), .int .u8 (a.b 1), .int .u8 (a.b 2), .int .u8 (a.b 3), .int .u8 (a.b 4), .int .u8 (a.b 5), .int .u8 (a.b 6), .int .u8 (a.b 7), .int .u8 (a.b 8), .int .u8 (a.b 9), .int .u8 (a.b 10), .int .u8 (a.b 11), .int .u8 (a.b 12), .int .u8 (a.b 13), .int .u8 (a.b 14), .int .u8 (a.b 15)]
def Adr.val (a : Adr) : Value := .agg a.cells.toArray
def v4 (a b c d : Int) : Adr := ⟨false, fun i => [a, b, c, d].getD i 0⟩
/-- the last twelve bytes are 0 -/
def Adr.tail0 (a : Adr) : Bool := a.b 4 == 0 && (a.b 5 == 0 && (a.b 6 == 0 && (a.b 7 == 0 && (a.b 8 == 0 && (a.b 9 == 0 && (a.b 10 == 0 && (a.b 11 == 0 && (a.b 12 == 0 && (a.b 13 == 0 && (a.b 14 == 0 && a.b 15 == 0))))))))))
def Adr.valid (a : Adr) : Bool := a.v6 || a.tail0
def Adr.head0 (a : Adr) : Bool := a.b 0 == 0 && (a.b 1 == 0 && (a.b 2 == 0 && a.b 3 == 0))
def Adr.none (a : Adr) : Bool := a.head0 && a.tail0
def Adr.group (a : Adr) : Bool := bif a.v6 then a.b 0 == 255 else a.valid && decide (224 ≤ a.b 0)
/-- an address's bytes -/
def Adr.four (a : Adr) : List Int := [a.b 0, a.b 1, a.b 2, a.b 3]
def Adr.all (a : Adr) : List Int := [a.b 0, a.b 1, a.b 2, a.b 3, a.b 4, a.b 5, a.b 6, a.b 7, a.b 8, a.b 9, a.b 10, a.b 11, a.b 12, a.b 13, a.b 14, a.b 15]
def Adr.nums (a : Adr) : List Int := bif a.v6 then a.all else bif a.valid then a.four else []
def Adr.bytes (a : Adr) : ByteArray := ofInts a.nums


theorem V4_any (a b c d : Int) (w : World) :
    Calls Try.prog 40 [.int .u8 a, .int .u8 b, .int .u8 c, .int .u8 d].toArray w fun e w' => e = .returned (v4 a b c d).val ∧ Mem w [] [] w' := by
  refine calls_of_z Try.func40 rfl Try.ntmps40 rfl (Mem.refl w) ?_; intro cs b hb hk
  repeat (first | (refine st ?_) | (intro _))
  first | (refine z_ret1A tab_ok Try.func40 hb hk Try.results40 0 rfl rfl rfl rfl rfl rfl (fun w hm => ?_)) | (refine z_ret1A tab_ok Try.func40 hb hk Try.results40 1 rfl rfl rfl rfl rfl rfl (fun w hm => ?_)) | (refine z_ret1A tab_ok Try.func40 hb hk Try.results40 2 rfl rfl rfl rfl rfl rfl (fun w hm => ?_)) | (refine z_ret1A tab_ok Try.func40 hb hk Try.results40 3 rfl rfl rfl rfl rfl rfl (fun w hm => ?_)) | (refine z_ret1A tab_ok Try.func40 hb hk Try.results40 4 rfl rfl rfl rfl rfl rfl (fun w hm => ?_))
  exact ⟨rfl, hm.bare⟩

theorem Valid_any (a : Adr) (w : World) :
    Calls Try.prog 48 [a.val].toArray w fun e w' => e = .returned (.bool a.valid) ∧ Mem w [] [] w' := by
  refine calls_of_z Try.func48 rfl Try.ntmps48 rfl (Mem.refl w) ?_; intro cs b hb hk
  repeat (first | (refine st ?_) | (intro _))
  refine zx_split (t := 5) rfl (fun h => ?_) (fun h => ?_)
  · repeat (first | (refine st ?_) | (intro _))
    refine z_ret1 tab_ok Try.func48 hb hk Try.results48 (.tmp rfl) (fun w hm => ?_)
    exact ⟨by simp [Adr.valid, h], hm.bare⟩
  · repeat (first | (refine st ?_) | (intro _))
    refine zx_call0 rfl fnc40 rfl rfl (fun w _ => V4_any _ _ _ _ w) ?_
    repeat (first | (refine st ?_) | (intro _))
    refine z_ret1 tab_ok Try.func48 hb hk Try.results48 (.tmp rfl) (fun w hm => ?_)
    exact ⟨by simp [Adr.valid, h, v4, Adr.tail0], hm.bare⟩

theorem None_any (a : Adr) (w : World) :
    Calls Try.prog 42 [a.val].toArray w fun e w' => e = .returned (.bool a.none) ∧ Mem w [] [] w' := by
  refine calls_of_z Try.func42 rfl Try.ntmps42 rfl (Mem.refl w) ?_; intro cs b hb hk
  repeat (first | (refine st ?_) | (intro _))
  refine z_ret1 tab_ok Try.func42 hb hk Try.results42 (.tmp rfl) (fun w hm => ?_)
  exact ⟨by simp [Adr.none, Adr.head0, Adr.tail0, Bool.and_assoc], hm.bare⟩

theorem Group_any (a : Adr) (w : World) :
    Calls Try.prog 43 [a.val].toArray w fun e w' => e = .returned (.bool a.group) ∧ Mem w [] [] w' := by
  refine calls_of_z Try.func43 rfl Try.ntmps43 rfl (Mem.refl w) ?_; intro cs b hb hk
  repeat (first | (refine st ?_) | (intro _))
  refine z_cond rfl (fun h => ?_) (fun h => ?_)
  · repeat (first | (refine st ?_) | (intro _))
    refine z_ret1 tab_ok Try.func43 hb hk Try.results43 (.tmp rfl) (fun w hm => ?_)
    exact ⟨by simp [Adr.group, h], hm.bare⟩
  · repeat (first | (refine st ?_) | (intro _))
    refine zx_call0 rfl fnc48 rfl rfl (fun w _ => Valid_any a w) ?_
    repeat (first | (refine st ?_) | (intro _))
    refine zx_split (t := 11) rfl (fun h1 => ?_) (fun h1 => ?_)
    · repeat (first | (refine st ?_) | (intro _))
      refine z_ret1 tab_ok Try.func43 hb hk Try.results43 (.tmp rfl) (fun w hm => ?_)
      exact ⟨by simp [Adr.group, h, h1], hm.bare⟩
    · repeat (first | (refine st ?_) | (intro _))
      refine z_ret1 tab_ok Try.func43 hb hk Try.results43 (.tmp rfl) (fun w hm => ?_)
      exact ⟨by simp [Adr.group, h, h1], hm.bare⟩

theorem Bytes_any (a : Adr) (w : World) :
    Calls Try.prog 41 [a.val].toArray w fun e w' => e = .returned (.string a.bytes) ∧ Mem w [] [] w' := by
  refine calls_of_z Try.func41 rfl Try.ntmps41 rfl (Mem.refl w) ?_; intro cs b hb hk
  repeat (first | (refine st ?_) | (intro _))
  refine z_cond rfl (fun h => ?_) (fun h => ?_)
  · repeat (first | (refine st ?_) | (intro _))
    refine z_ret1 tab_ok Try.func41 hb hk Try.results41 (.tmp rfl) (fun w hm => ?_)
    exact ⟨by simp [Adr.bytes, Adr.nums, h, Adr.all], hm.bare⟩
  · repeat (first | (refine st ?_) | (intro _))
    refine zx_call0 rfl fnc48 rfl rfl (fun w _ => Valid_any a w) ?_
    repeat (first | (refine st ?_) | (intro _))
    refine z_cond rfl (fun h1 => ?_) (fun h1 => ?_)
    · repeat (first | (refine st ?_) | (intro _))
      refine z_ret1 tab_ok Try.func41 hb hk Try.results41 (.tmp rfl) (fun w hm => ?_)
      exact ⟨by simp [Adr.bytes, Adr.nums, h, h1, Adr.four], hm.bare⟩
    · repeat (first | (refine st ?_) | (intro _))
      refine z_ret1 tab_ok Try.func41 hb hk Try.results41 (.tmp rfl) (fun w hm => ?_)
      exact ⟨by simp [Adr.bytes, Adr.nums, h, h1, ofInts], hm.bare⟩
end Go.Proofs.Ytabcaiecoiejkaa
