/- Layer 16's first look (awake): it answers true. -/
import Derived.Test.YtabcaiecoiejkaaD1
import Derived.Test.YtabcaiecoiejkaaC1
set_option maxRecDepth 100000
set_option linter.unusedSimpArgs false
set_option linter.unusedVariables false
set_option maxHeartbeats 800000
namespace Go.Proofs.Ytabcaiecoiejkaa
open Go K

def adA : Adr := v4 10 0 0 1
def adB : Adr := v4 10 0 0 2
def sHi : ByteArray := ⟨#[104, 105]⟩
theorem goodHi : UGood adA adB 1 2 := ⟨by decide, by decide, by decide, by decide, by decide⟩
theorem buildHi : ubuild adA adB 1 2 sHi = (ubytes adA adB 1 2 sHi, 0) := by rw [ubuild, if_pos goodHi, if_pos (by decide)]
theorem parseHi : uparse adA adB (ubytes adA adB 1 2 sHi) = ((1, 2, sHi), 0) := by
  have := round adA adB 1 2 sHi ByteArray.empty goodHi (by decide)
  rwa [ByteArray.append_empty] at this
theorem ubytes_size (a a' : Adr) (s d : Int) (x : ByteArray) : (ubytes a a' s d x).size = 8 + x.size := by
  rw [ubytes, ByteArray.size_append, ByteArray.size_append, ufirst_size, putB_size]
def pD (k : Nat) : Nat × Blk := (k, .c [.int .i64 1, .int .i64 2, .string sHi] 28 0 0)
theorem awake16_any (w : World) : Calls Try.prog 17 [].toArray w fun e w' => e = .returned (.bool true) ∧ Mem w [] [] w' := by
  refine calls_of_z Try.func17 rfl Try.ntmps17 rfl (Mem.refl w) ?_; intro cs b hb hk
  repeat (first | (refine st ?_) | (intro _))
  ((try (refine sg ?_)); (refine zx_call0 rfl fnc40 rfl rfl (fun w hm => V4_any 10 0 0 1 w) ?_))
  repeat (first | (refine st ?_) | (intro _))
  ((try (refine sg ?_)); (refine zx_call0 rfl fnc40 rfl rfl (fun w hm => V4_any 10 0 0 2 w) ?_))
  repeat (first | (refine st ?_) | (intro _))
  refine zx_re 17 adA.val rfl rfl ?_
  refine zx_re 18 adB.val rfl rfl ?_
  refine zx_re 19 (udpV 1 2 sHi) rfl rfl ?_
  ((try (refine sg ?_)); (refine zx_call0 rfl fnc18 rfl rfl (fun w hm => Build16_any adA adB 1 2 sHi w (by decide)) ?_))
  refine zx_re 20 (.tuple #[.string (ubytes adA adB 1 2 sHi), .int .i64 0]) rfl (by rw [buildHi]) ?_
  repeat (first | (refine st ?_) | (intro _))
  refine zx_re 24 adA.val rfl rfl ?_
  refine zx_re 25 adB.val rfl rfl ?_
  ((try (refine sg ?_)); (refine zx_call0 rfl fnc20 rfl rfl (fun w hm => Parse16_any adA adB _ w (by rw [ubytes_size]; decide)) ?_))
  refine zx_re 27 (.tuple #[udpV 1 2 sHi, .int .i64 0]) rfl (by rw [parseHi]; rfl) ?_
  iterate 5 (first | (refine st ?_) | (intro _))
  rename_i dk
  iterate 3 (refine st ?_)
  refine z_weaken [(4, .int .i64 0), (6, .int .i64 0), (5, .pointer (some ⟨dk, 0, none⟩))] [pD dk] (by repeat' constructor) (by simp [pD]; done) (fun _ h => h) ?_
  repeat (first | (refine st ?_) | (intro _))
  refine zx_call (Y := Nat) (v := fun p => ptr p) (Φ := fun _ => True) (L' := fun p => pP p none :: [pD dk]) rfl fnc61 rfl rfl (fun w hm => (NewPorts_any w).mono fun e w' ⟨p, _, he, hm'⟩ => ⟨p, trivial, he, hm.trans0 hm'⟩) (fun p _ => ?_)
  repeat (first | (refine st ?_) | (intro _))
  refine zx_call (Y := Nat × Nat) (v := fun _ => .tuple #[.int .i64 49152, .int .i64 0]) (Φ := fun _ => True) (L' := fun y => pC y.2 [] 0 0 :: pM y.1 y.2 :: pP p (some y.1) :: [pD dk]) rfl fnc66 rfl rfl
    (fun w hm => (Open_new p w (Mem.now (S := [pP p none]) (R := [pD dk]) hm)).mono fun e w' ⟨y, _, he, hm'⟩ => ⟨y, trivial, he, Mem.call (S := [pP p none]) (R := [pD dk]) hm hm'⟩) (fun y _ => ?_)
  obtain ⟨mb, cb⟩ := y
  repeat (first | (refine st ?_) | (intro _))
  rename_i sb
  refine zx_call (Y := Unit) (v := fun _ => .tuple #[.int .i64 1, .int .i64 0]) (Φ := fun _ => True) (L' := fun _ => pC cb [.string sX] 1 0 :: pM mb cb :: pP p (some mb) :: pS sb :: [pD dk]) rfl fnc68 rfl rfl
    (fun w hm => by
      have hm2 := hm.perm (L' := [pC cb [] 0 0, pM mb cb, pP p (some mb)] ++ pS sb :: [pD dk]) List.perm_middle
      exact (Offer_two p mb cb sb w (Mem.now (S := [pC cb [] 0 0, pM mb cb, pP p (some mb), pS sb]) (R := [pD dk]) hm2)).mono fun e w' ⟨he, hm'⟩ => ⟨(), trivial, he, Mem.call (S := [pC cb [] 0 0, pM mb cb, pP p (some mb), pS sb]) (R := [pD dk]) hm2 hm'⟩) (fun _ _ => ?_)
  repeat (first | (refine st ?_) | (intro _))
  refine zx_call (Y := Unit) (v := fun _ => .tuple #[.string sX, .int .i64 0]) (Φ := fun _ => True) (L' := fun _ => pC cb [] 1 1 :: pM mb cb :: pP p (some mb) :: pS sb :: [pD dk]) rfl fnc69 rfl rfl
    (fun w hm => (Take_one p mb cb w (Mem.now (S := [pC cb [.string sX] 1 0, pM mb cb, pP p (some mb)]) (R := [pS sb, pD dk]) hm)).mono fun e w' ⟨he, hm'⟩ => ⟨(), trivial, he, Mem.call (S := [pC cb [.string sX] 1 0, pM mb cb, pP p (some mb)]) (R := [pS sb, pD dk]) hm hm'⟩) (fun _ _ => ?_)
  repeat (first | (refine st ?_) | (refine sb ?_) | (intro _))
  refine z_ret1 tab_ok Try.func17 hb hk Try.results17 (.tmp rfl) (fun w hm => ?_)
  exact ⟨rfl, hm.bare⟩
end Go.Proofs.Ytabcaiecoiejkaa
