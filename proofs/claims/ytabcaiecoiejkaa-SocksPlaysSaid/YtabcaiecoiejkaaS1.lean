/- A session of package socks as it lies in memory; walks of its queues: put, take, offer. -/
import Derived.Test.YtabcaiecoiejkaaKX
import Derived.Test.YtabcaiecoiejkaaA1
set_option maxRecDepth 100000
set_option linter.unusedSimpArgs false
set_option linter.unusedVariables false
set_option maxHeartbeats 1600000
namespace Go.Proofs.Ytabcaiecoiejkaa
open Go K

/-- a session -/
structure Px where
  user : ByteArray
  pass : ByteArray
  names : Value
  state : Int
  up : List Int
  down : List Int
  cOver : Bool
  rOver : Bool
  relayed : Bool
  ta : Adr
  tp : Int
def u8s (l : List Int) : List Value := l.map (Value.int .u8)
theorem u8s_len (l : List Int) : (u8s l).length = l.length := List.length_map ..
theorem u8s_app (l m : List Int) : u8s (l ++ m) = u8s l ++ u8s m := List.map_append ..
theorem u8s_drop (l : List Int) (k : Nat) : u8s (l.drop k) = (u8s l).drop k := List.map_drop ..
theorem u8s_take (l : List Int) (k : Nat) : u8s (l.take k) = (u8s l).take k := List.map_take ..
def Px.cells (x : Px) (o : Own × Own) : List Value := [.string x.user, .string x.pass, x.names, .int .i64 x.state, sV o.1 x.up.length, sV o.2 x.down.length, .bool x.cOver, .bool x.rOver, .bool x.relayed] ++ x.ta.cells ++ [.int .i64 x.tp]
def pX (p : Nat) (x : Px) (o : Own × Own) : Mm := (p, .c (x.cells o) 96 0 0) :: (rowL 5 o.1 (u8s x.up) ++ rowL 5 o.2 (u8s x.down))
def kX (p : Nat) (x : Px) (o : Own × Own) : List Nat := (pX p x o).map (·.1)
def okX (x : Px) (o : Own × Own) : Prop := RowOk 1 o.1 x.up.length (u8s x.up) ∧ RowOk 1 o.2 x.down.length (u8s x.down)
def fP (p j : Nat) : Value := .pointer (some ⟨p, j, none⟩)
theorem drop_u8 (l : List Int) (k : Nat) (h : k ≤ l.length) : k ≤ (u8s l).length := by rw [u8s_len]; exact h
theorem put_up (p : Nat) (x : Px) (o : Own × Own) (hok : okX x o) (src : Value) (m : Nat) (news : List Int) (w : World) (h : Mem w (kX p x o) (pX p x o) w) (hsrc : ∀ w', Mem w (kX p x o) (pX p x o) w' → Src Try.prog 1 46 src m (u8s news) w')
    (hl : x.up.length + m ≤ 1000000000) (hnl : news.length = m) :
    Calls Try.prog 122 [fP p 4, src].toArray w fun e w' => ∃ y : Own × Own, okX { x with up := x.up ++ news } y ∧ e = .returned (.tuple #[]) ∧ Mem w (kX p x o) (pX p { x with up := x.up ++ news } y) w' := by
  refine calls_of_z Try.func122 rfl Try.ntmps122 rfl h ?_; intro cs b hb hk
  repeat (first | (refine st ?_) | (refine stx ?_) | (intro _))
  refine zx_perm (((p, .c (x.cells o) 96 0 0) :: rowL 5 o.2 (u8s x.down)) ++ rowL 5 o.1 (u8s x.up)) (List.Perm.cons _ List.perm_append_comm) ?_
  refine zx_re 8 (rowV o.1 x.up.length) rfl (sV_row hok.1).symm ?_
  refine zx_append elt5 tab_ok ((p, .c (x.cells o) 96 0 0) :: rowL 5 o.2 (u8s x.down)) o.1 x.up.length (u8s x.up) rfl rfl rfl rfl (by rfl) rfl hok.1 (fun w hm => hsrc w (hm.perm (List.Perm.cons _ List.perm_append_comm))) (by omega) (by omega) ?_
  intro o' hok'
  refine zx_re 10 (sV o' (x.up.length + m)) rfl (sV_row hok') ?_
  repeat (first | (refine st ?_) | (refine stx ?_) | (intro _))
  refine z_end0 Try.func122 hb hk Try.results122 (fun w hm => ?_)
  have hlen : (x.up ++ news).length = x.up.length + m := by rw [List.length_append, hnl]
  rw [← u8s_app, ← hlen] at hok' hm
  refine ⟨(o', o.2), ⟨hok', hok.2⟩, rfl, ?_⟩
  exact hm.perm (List.Perm.cons _ List.perm_append_comm)
theorem put_down (p : Nat) (x : Px) (o : Own × Own) (hok : okX x o) (src : Value) (m : Nat) (news : List Int) (w : World) (h : Mem w (kX p x o) (pX p x o) w) (hsrc : ∀ w', Mem w (kX p x o) (pX p x o) w' → Src Try.prog 1 46 src m (u8s news) w')
    (hl : x.down.length + m ≤ 1000000000) (hnl : news.length = m) :
    Calls Try.prog 122 [fP p 5, src].toArray w fun e w' => ∃ y : Own × Own, okX { x with down := x.down ++ news } y ∧ e = .returned (.tuple #[]) ∧ Mem w (kX p x o) (pX p { x with down := x.down ++ news } y) w' := by
  refine calls_of_z Try.func122 rfl Try.ntmps122 rfl h ?_; intro cs b hb hk
  repeat (first | (refine st ?_) | (refine stx ?_) | (intro _))
  refine zx_re 8 (rowV o.2 x.down.length) rfl (sV_row hok.2).symm ?_
  refine zx_append elt5 tab_ok ((p, .c (x.cells o) 96 0 0) :: rowL 5 o.1 (u8s x.up)) o.2 x.down.length (u8s x.down) rfl rfl rfl rfl (by rfl) rfl hok.2 (fun w hm => hsrc w hm) (by omega) (by omega) ?_
  intro o' hok'
  refine zx_re 10 (sV o' (x.down.length + m)) rfl (sV_row hok') ?_
  repeat (first | (refine st ?_) | (refine stx ?_) | (intro _))
  refine z_end0 Try.func122 hb hk Try.results122 (fun w hm => ?_)
  have hlen : (x.down ++ news).length = x.down.length + m := by rw [List.length_append, hnl]
  rw [← u8s_app, ← hlen] at hok' hm
  refine ⟨(o.1, o'), ⟨hok.1, hok'⟩, rfl, ?_⟩
  exact hm
theorem take_up (p : Nat) (x : Px) (o : Own × Own) (hok : okX x o) (n : Int) (k : Nat) (hkn : (k : Int) = min (max n 0) x.up.length) (hx : x.up.length ≤ 1000000000) (w : World) (h : Mem w (kX p x o) (pX p x o) w) :
    Calls Try.prog 95 [fP p 4, .int .i64 n].toArray w fun e w' => e = .returned (.slice (oA o.1) k k) ∧ Mem w (kX p x o) (pX p { x with up := x.up.drop k } (ownDrop o.1 (u8s x.up) k, o.2)) w' := by
  have hkl : k ≤ x.up.length := by omega
  have hcap : x.up.length ≤ oC o.1 x.up.length := by
    cases ho : o.1 with
    | none => have := hok.1.nil ho; rw [this]; exact Nat.zero_le _
    | some q => obtain ⟨b, pre, r, rest⟩ := q; exact Nat.le_add_right _ _
  refine calls_of_z Try.func95 rfl Try.ntmps95 rfl h ?_; intro cs b hb hk
  repeat (first | (refine st ?_) | (refine stx ?_) | (intro _))
  refine zx_max (max n 0) rfl rfl rfl (by omega) rfl ?_
  repeat (first | (refine st ?_) | (refine stx ?_) | (intro _))
  refine zx_min (k : Int) rfl rfl rfl (by omega) rfl ?_
  repeat (first | (refine st ?_) | (refine stx ?_) | (intro _))
  refine zx_sliceW tab_ok 0 k k rfl rfl rfl rfl rfl rfl rfl (fun _ => rfl) rfl rfl rfl rfl (Nat.zero_le _) (Nat.le_refl _) (Nat.le_trans hkl hcap) ?_
  refine zx_re 20 (.slice (oA o.1) k k) rfl (by rw [Nat.sub_zero, Nat.zero_mul]; cases o.1 with | none => simp [oA] | some q => (obtain ⟨b, pre, r, rest⟩ := q; simp [oA, Addr.add])) ?_
  repeat (first | (refine st ?_) | (refine stx ?_) | (intro _))
  refine zx_sliceW tab_ok k x.up.length (oC o.1 x.up.length) rfl rfl rfl rfl rfl rfl rfl (fun h => by cases h) rfl rfl rfl rfl hkl hcap (Nat.le_refl _) ?_
  refine zx_re 27 (sV (ownDrop o.1 (u8s x.up) k) (x.up.length - k)) rfl (sV_drop hok.1 k hkl) ?_
  repeat (first | (refine st ?_) | (refine stx ?_) | (intro _))
  refine z_ret1 tab_ok Try.func95 hb hk Try.results95 (.tmp rfl) (fun w hm => ?_)
  refine ⟨rfl, ?_⟩
  have hd := rowL_drop 5 o.1 (u8s x.up) k (drop_u8 _ _ hkl)
  rw [← u8s_drop] at hd
  have hlen : (x.up.drop k).length = x.up.length - k := List.length_drop ..
  unfold pX Px.cells
  simp only [hd, hlen]
  exact hm
theorem okX_take_up {x : Px} {o : Own × Own} (hok : okX x o) (k : Nat) (hk : k ≤ x.up.length) : okX { x with up := x.up.drop k } (ownDrop o.1 (u8s x.up) k, o.2) := by
  have := rowOk_drop hok.1 k hk
  rw [← u8s_drop, ← List.length_drop] at this
  exact ⟨this, hok.2⟩
theorem take_down (p : Nat) (x : Px) (o : Own × Own) (hok : okX x o) (n : Int) (k : Nat) (hkn : (k : Int) = min (max n 0) x.down.length) (hx : x.down.length ≤ 1000000000) (w : World) (h : Mem w (kX p x o) (pX p x o) w) :
    Calls Try.prog 95 [fP p 5, .int .i64 n].toArray w fun e w' => e = .returned (.slice (oA o.2) k k) ∧ Mem w (kX p x o) (pX p { x with down := x.down.drop k } (o.1, ownDrop o.2 (u8s x.down) k)) w' := by
  have hkl : k ≤ x.down.length := by omega
  have hcap : x.down.length ≤ oC o.2 x.down.length := by
    cases ho : o.2 with
    | none => have := hok.2.nil ho; rw [this]; exact Nat.zero_le _
    | some q => obtain ⟨b, pre, r, rest⟩ := q; exact Nat.le_add_right _ _
  refine calls_of_z Try.func95 rfl Try.ntmps95 rfl h ?_; intro cs b hb hk
  repeat (first | (refine st ?_) | (refine stx ?_) | (intro _))
  refine zx_max (max n 0) rfl rfl rfl (by omega) rfl ?_
  repeat (first | (refine st ?_) | (refine stx ?_) | (intro _))
  refine zx_min (k : Int) rfl rfl rfl (by omega) rfl ?_
  repeat (first | (refine st ?_) | (refine stx ?_) | (intro _))
  refine zx_sliceW tab_ok 0 k k rfl rfl rfl rfl rfl rfl rfl (fun _ => rfl) rfl rfl rfl rfl (Nat.zero_le _) (Nat.le_refl _) (Nat.le_trans hkl hcap) ?_
  refine zx_re 20 (.slice (oA o.2) k k) rfl (by rw [Nat.sub_zero, Nat.zero_mul]; cases o.2 with | none => simp [oA] | some q => (obtain ⟨b, pre, r, rest⟩ := q; simp [oA, Addr.add])) ?_
  repeat (first | (refine st ?_) | (refine stx ?_) | (intro _))
  refine zx_sliceW tab_ok k x.down.length (oC o.2 x.down.length) rfl rfl rfl rfl rfl rfl rfl (fun h => by cases h) rfl rfl rfl rfl hkl hcap (Nat.le_refl _) ?_
  refine zx_re 27 (sV (ownDrop o.2 (u8s x.down) k) (x.down.length - k)) rfl (sV_drop hok.2 k hkl) ?_
  repeat (first | (refine st ?_) | (refine stx ?_) | (intro _))
  refine z_ret1 tab_ok Try.func95 hb hk Try.results95 (.tmp rfl) (fun w hm => ?_)
  refine ⟨rfl, ?_⟩
  have hd := rowL_drop 5 o.2 (u8s x.down) k (drop_u8 _ _ hkl)
  rw [← u8s_drop] at hd
  have hlen : (x.down.drop k).length = x.down.length - k := List.length_drop ..
  unfold pX Px.cells
  simp only [hd, hlen]
  exact hm
theorem okX_take_down {x : Px} {o : Own × Own} (hok : okX x o) (k : Nat) (hk : k ≤ x.down.length) : okX { x with down := x.down.drop k } (o.1, ownDrop o.2 (u8s x.down) k) := by
  have := rowOk_drop hok.2 k hk
  rw [← u8s_drop, ← List.length_drop] at this
  exact ⟨hok.1, this⟩
end Go.Proofs.Ytabcaiecoiejkaa
