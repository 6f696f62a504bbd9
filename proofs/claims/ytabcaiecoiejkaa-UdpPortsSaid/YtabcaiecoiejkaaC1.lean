/- Walks of the ports of strings, as far as layer 16's first look goes: NewPorts, Open, queue, Offer, Take. -/
import Derived.Test.YtabcaiecoiejkaaKS
import Derived.Test.YtabcaiecoiejkaaK10
set_option maxRecDepth 100000
set_option linter.unusedSimpArgs false
set_option linter.unusedVariables false
set_option maxHeartbeats 400000
namespace Go.Proofs.Ytabcaiecoiejkaa
open Go K

theorem zero163 (w : World) : (zeroValue 163).run Try.prog w = .ok (.chan none) w := zero_of (by kernel_rfl) w
def pP (p : Nat) (m : Option Nat) : Nat × Blk := (p, .c [.map m] 160 0 0)
def ptr (p : Nat) : Value := .pointer (some ⟨p, 0, none⟩)

theorem NewPorts_any (w : World) : Calls Try.prog 61 [].toArray w fun e w' => ∃ p : Nat, True ∧ e = .returned (ptr p) ∧ Mem w [] [pP p none] w' := by
  refine calls_of_z Try.func61 rfl Try.ntmps61 rfl (Mem.refl w) ?_; intro cs b hb hk
  repeat (first | (refine st ?_) | (intro _))
  rename_i p
  refine z_ret1 tab_ok Try.func61 hb hk Try.results61 (.tmp rfl) (fun w hm => ?_)
  exact ⟨p, trivial, rfl, hm⟩

theorem queue_any (p mb : Nat) (ms : List (Int × Value × Nat)) (clock : Nat) (n : Int) (w : World) (h : Mem w [mb, p] [(mb, mB ms clock), pP p (some mb)] w) :
    Calls Try.prog 117 [ptr p, .int .i64 n].toArray w fun e w' => e = .returned (lkp n ms (.chan none)) ∧ Mem w [] [] w' := by
  refine calls_of_z Try.func117 rfl Try.ntmps117 rfl h ?_; intro cs b hb hk
  repeat (first | (refine st ?_) | (intro _))
  refine zx_lookup tab_ok 0 rfl rfl rfl zero163 rfl rfl rfl rfl ?_
  repeat (first | (refine st ?_) | (intro _))
  refine z_ret1 tab_ok Try.func117 hb hk Try.results117 (.tmp rfl) (fun w hm => ?_)
  exact ⟨rfl, hm.back (fun q hq => h.known q hq) (by simp [pP])⟩
def pC (cb : Nat) (buf : List Value) (s r : Nat) : Nat × Blk := (cb, cB 1 buf s r)
def pM (mb cb : Nat) : Nat × Blk := (mb, mB [(49152, .chan (some cb), 0)] 1)
theorem Open_new (p : Nat) (w : World) (h : Mem w [p] [pP p none] w) :
    Calls Try.prog 66 [ptr p, .int .i64 0, .int .i64 1].toArray w fun e w' => ∃ y : Nat × Nat, True ∧ e = .returned (.tuple #[.int .i64 49152, .int .i64 0]) ∧ Mem w [p] [pC y.2 [] 0 0, pM y.1 y.2, pP p (some y.1)] w' := by
  refine calls_of_z Try.func66 rfl Try.ntmps66 rfl h ?_; intro cs b hb hk
  repeat (first | (refine st ?_) | (intro _))
  refine zx_lenMap0 tab_ok rfl rfl rfl rfl ?_
  repeat (first | (refine st ?_) | (intro _))
  refine z_once ?_
  repeat (first | (refine st ?_) | (intro _))
  refine zx_lookup0 tab_ok rfl rfl rfl zero163 rfl rfl rfl ?_
  repeat (first | (refine st ?_) | (intro _))
  refine zx_lookup0 tab_ok rfl rfl rfl zero163 rfl rfl rfl ?_
  repeat (first | (refine st ?_) | (intro _))
  refine zx_makeMap rfl rfl (fun mb => ?_)
  repeat (first | (refine sn ?_) | (intro _))
  refine z_regionH [(p, .c [.map (some mb)] 160 0 0)] (by rfl) follows_mixed (by simp) (m := 8) rfl ?_
  refine zh_take 0 (by kernel_rfl) rfl (by kernel_rfl) (by kernel_rfl) ?_ (by simp); (repeat (first | (refine sn ?_) | (refine sb ?_))); refine zh_took (by rfl) ?_
  refine zh_take 1 (by kernel_rfl) rfl (by kernel_rfl) (by kernel_rfl) ?_ (by simp); (repeat (first | (refine sn ?_) | (refine sb ?_))); refine zh_took (by rfl) ?_
  refine zh_take 2 (by kernel_rfl) rfl (by kernel_rfl) (by kernel_rfl) ?_ (by simp); (repeat (first | (refine sn ?_) | (refine sb ?_))); refine zh_took (by rfl) ?_
  refine zh_take 3 (by kernel_rfl) rfl (by kernel_rfl) (by kernel_rfl) ?_ (by simp); (repeat (first | (refine sn ?_) | (refine sb ?_))); refine zh_took (by rfl) ?_
  refine zh_take 4 (by kernel_rfl) rfl (by kernel_rfl) (by kernel_rfl) ?_ (by simp); (repeat (first | (refine sn ?_) | (refine sb ?_))); refine zh_took (by rfl) ?_
  refine zh_take 5 (by kernel_rfl) rfl (by kernel_rfl) (by kernel_rfl) ?_ (by simp); (repeat (first | (refine sn ?_) | (refine sb ?_))); refine zh_took (by rfl) ?_
  refine zh_one 6 rfl (by kernel_rfl) ?_
  refine zx_makeChan (m := 1) (nb := 16) tab_ok rfl rfl (by kernel_rfl) rfl (by decide) (by decide) rfl (fun cb => ?_)
  refine zh_oned (by rfl) (by simp) ?_
  refine zh_one 7 rfl (by kernel_rfl) ?_
  refine zx_mapNew tab_ok 1 rfl rfl rfl rfl rfl rfl rfl rfl rfl ?_
  refine zh_oned (by rfl) (by simp) ?_
  refine zh_end (by rfl) (by kernel_rfl) ?_
  repeat (first | (refine st ?_) | (intro _))
  refine z_ret2 tab_ok Try.func66 hb hk Try.results66 (.tmp rfl) (.tmp rfl) (fun w hm => ?_)
  exact ⟨(mb, cb), trivial, rfl, hm⟩
def sX : ByteArray := ⟨#[120]⟩
def sY : ByteArray := ⟨#[121]⟩
def pS (sb : Nat) : Nat × Blk := (sb, .c [.string sX, .string sY] 9 0 0)
theorem Offer_two (p mb cb sb : Nat) (w : World) (h : Mem w [cb, mb, p, sb] [pC cb [] 0 0, pM mb cb, pP p (some mb), pS sb] w) :
    Calls Try.prog 68 [ptr p, .int .i64 49152, .slice (some ⟨sb, 0, none⟩) 2 2].toArray w fun e w' => e = .returned (.tuple #[.int .i64 1, .int .i64 0]) ∧ Mem w [cb, mb, p, sb] [pC cb [.string sX] 1 0, pM mb cb, pP p (some mb), pS sb] w' := by
  refine calls_of_z Try.func68 rfl Try.ntmps68 rfl h ?_; intro cs b hb hk
  repeat (first | (refine st ?_) | (intro _))
  ((try (refine sg ?_)); (refine zx_call0 rfl fnc117 rfl rfl (fun w hm => queue_any p mb _ _ _ w (hm.perm (L' := [pM mb cb, pP p (some mb)] ++ pC cb [] 0 0 :: [pS sb]) List.perm_middle).now) ?_))
  repeat (first | (refine st ?_) | (intro _))
  refine z_once ?_
  repeat (first | (refine sn ?_) | (intro _))
  refine z_selRoom tab_ok 0 rfl hk rfl rfl rfl rfl rfl rfl (by decide) rfl ?_
  repeat (first | (refine sn ?_) | (intro _))
  refine z_again ?_
  repeat (first | (refine sn ?_) | (intro _))
  refine z_selFull tab_ok 0 rfl hk rfl rfl rfl rfl rfl rfl (by decide) ?_
  repeat (first | (refine st ?_) | (intro _))
  refine z_again ?_
  repeat (first | (refine st ?_) | (intro _))
  refine z_ret2 tab_ok Try.func68 hb hk Try.results68 (.tmp rfl) (.tmp rfl) (fun w hm => ?_)
  exact ⟨rfl, hm⟩
theorem Take_one (p mb cb : Nat) (w : World) (h : Mem w [cb, mb, p] [pC cb [.string sX] 1 0, pM mb cb, pP p (some mb)] w) :
    Calls Try.prog 69 [ptr p, .int .i64 49152].toArray w fun e w' => e = .returned (.tuple #[.string sX, .int .i64 0]) ∧ Mem w [cb, mb, p] [pC cb [] 1 1, pM mb cb, pP p (some mb)] w' := by
  refine calls_of_z Try.func69 rfl Try.ntmps69 rfl h ?_; intro cs b hb hk
  repeat (first | (refine st ?_) | (intro _))
  ((try (refine sg ?_)); (refine zx_call0 rfl fnc117 rfl rfl (fun w hm => queue_any p mb _ _ _ w (hm.perm (L' := [pM mb cb, pP p (some mb)] ++ pC cb [.string sX] 1 0 :: []) List.perm_middle).now) ?_))
  repeat (first | (refine sn ?_) | (intro _))
  refine z_selTake tab_ok 0 rfl hk rfl rfl rfl rfl rfl rfl ?_
  repeat (first | (refine sn ?_) | (intro _))
  refine z_ret2 tab_ok Try.func69 hb hk Try.results69 (.tmp rfl) (.tmp rfl) (fun w hm => ?_)
  exact ⟨rfl, hm⟩
end Go.Proofs.Ytabcaiecoiejkaa
