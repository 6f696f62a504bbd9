/- Walks of the ports of pairs of numbers with one port open: NewPorts, Open, queue, Offer, Take, Waiting. -/
import Derived.Test.YtabcaiecoiejkaaC1
import Derived.Test.YtabcaiecoiejkaaK18
import Derived.Test.YtabcaiecoiejkaaKX
set_option maxRecDepth 100000
set_option linter.unusedSimpArgs false
set_option linter.unusedVariables false
set_option maxHeartbeats 2000000
namespace Go.Proofs.Ytabcaiecoiejkaa
open Go K

/-- a call that turns what is known of S into S' and tells v -/
def MC (f : Nat) (args : List Value) (S S' : Mm) (v : Value) : Prop := ∀ w, Mem w (S.map (·.1)) S w → Calls Try.prog f args.toArray w fun e w' => e = .returned v ∧ Mem w (S.map (·.1)) S' w'
theorem MC.use {f : Nat} {args : List Value} {S S' : Mm} {v : Value} (h : MC f args S S' v) {w0 w : World} {ks : List Nat} {R : Mm} (hm : Mem w0 ks (R ++ S) w) :
    Calls Try.prog f args.toArray w fun e w' => ∃ y : Unit, True ∧ e = .returned v ∧ Mem w0 ks (R ++ S') w' := by
  have hm2 := hm.perm (L' := S ++ R) List.perm_append_comm
  refine (h w (Mem.now (S := S) (R := R) hm2)).mono fun e w' ⟨he, hm'⟩ => ⟨(), trivial, he, ?_⟩
  exact (Mem.call (S := S) (S' := S') (R := R) hm2 hm').perm List.perm_append_comm
/-- one that only reads -/
def MQ (f : Nat) (args : List Value) (S : Mm) (v : Value) : Prop := ∀ w, Mem w (S.map (·.1)) S w → Calls Try.prog f args.toArray w fun e w' => e = .returned v ∧ Mem w [] [] w'
theorem MQ.use {f : Nat} {args : List Value} {S : Mm} {v : Value} (h : MQ f args S v) {w0 w : World} {ks : List Nat} {R : Mm} (hm : Mem w0 ks (R ++ S) w) : Calls Try.prog f args.toArray w fun e w' => e = .returned v ∧ Mem w [] [] w' :=
  h w (Mem.now (S := S) (R := R) (hm.perm List.perm_append_comm))
theorem MQ.back {w w' : World} {S L : Mm} (h : Mem w (S.map (·.1)) S w) (hm : Mem w (S.map (·.1)) L w') (hL : S.Sublist L) : Mem w [] [] w' := Mem.back (hm.weaken (fun _ h => h) hL) h.known (fun k hk => hk)
theorem zero151 (w : World) : (zeroValue 151).run Try.prog w = .ok (.chan none) w := zero_of (by kernel_rfl) w
theorem zero100 (w : World) : (zeroValue 100).run Try.prog w = .ok (.agg #[.int .i64 0, .int .i64 0]) w := zero_of (by kernel_rfl) w
def pP2 (p : Nat) (m : Option Nat) : Nat × Blk := (p, .c [.map m] 150 0 0)
def pM7 (mb cb : Nat) : Nat × Blk := (mb, mB [(7, .chan (some cb), 0)] 1)
def pC2 (cb d : Nat) (buf : List Value) (s r : Nat) : Nat × Blk := (cb, cB d buf s r)
def S2 (p mb cb d : Nat) (buf : List Value) (s r : Nat) : Mm := [pC2 cb d buf s r, pM7 mb cb, pP2 p (some mb)]
def pr2 (i v : Int) : Value := .agg #[.int .i64 i, .int .i64 v]
theorem New2_any (w : World) : Calls Try.prog 55 [].toArray w fun e w' => ∃ p : Nat, True ∧ e = .returned (ptr p) ∧ Mem w [] [pP2 p none] w' := by
  refine calls_of_z Try.func55 rfl Try.ntmps55 rfl (Mem.refl w) ?_; intro cs b hb hk
  repeat (first | (refine st ?_) | (refine stx ?_) | (intro _))
  rename_i p
  refine z_ret1 tab_ok Try.func55 hb hk Try.results55 (.tmp rfl) (fun w hm => ?_)
  exact ⟨p, trivial, rfl, hm⟩
theorem Open2_bad (p : Nat) (d : Int) (hd : d < 1 ∨ 16 < d) : MC 56 [ptr p, .int .i64 7, .int .i64 d] [pP2 p none] [pP2 p none] (.tuple #[.int .i64 0, .int .i64 1]) := by
  intro w h
  refine calls_of_z Try.func56 rfl Try.ntmps56 rfl h ?_; intro cs b hb hk
  by_cases h1 : d < 1
  · repeat (first | (refine st ?_) | (refine stx ?_) | (refine sb ?_) | (intro _))
    refine z_ret2 tab_ok Try.func56 hb hk Try.results56 (.tmp rfl) (.tmp rfl) (fun w hm => ?_)
    exact ⟨rfl, hm⟩
  · have h16 : 16 < d := by omega
    repeat (first | (refine st ?_) | (refine stx ?_) | (refine sb ?_) | (intro _))
    refine z_ret2 tab_ok Try.func56 hb hk Try.results56 (.tmp rfl) (.tmp rfl) (fun w hm => ?_)
    exact ⟨rfl, hm⟩
theorem Open2_new (p d : Nat) (hd1 : 1 ≤ d) (hd2 : d ≤ 16) (w : World) (h : Mem w [p] [pP2 p none] w) :
    Calls Try.prog 56 [ptr p, .int .i64 7, .int .i64 (d : Int)].toArray w fun e w' => ∃ y : Nat × Nat, True ∧ e = .returned (.tuple #[.int .i64 7, .int .i64 0]) ∧ Mem w [p] (S2 p y.1 y.2 d [] 0 0) w' := by
  refine calls_of_z Try.func56 rfl Try.ntmps56 rfl h ?_; intro cs b hb hk
  repeat (first | (refine st ?_) | (refine stx ?_) | (refine sb ?_) | (intro _))
  refine zx_lenMap0 tab_ok rfl rfl rfl rfl ?_
  repeat (first | (refine st ?_) | (refine stx ?_) | (refine sb ?_) | (intro _))
  refine zx_lookup0 tab_ok rfl rfl rfl zero151 rfl rfl rfl ?_
  repeat (first | (refine st ?_) | (refine stx ?_) | (refine sb ?_) | (intro _))
  refine zx_makeMap rfl rfl (fun mb => ?_)
  repeat (first | (refine sn ?_) | (refine stx ?_) | (intro _))
  refine z_regionH [(p, .c [.map (some mb)] 150 0 0)] (by rfl) follows_mixed (by simp) (m := 8) rfl ?_
  refine zh_take 0 (by kernel_rfl) rfl (by kernel_rfl) (by kernel_rfl) ?_ (by simp); (repeat (first | (refine sn ?_) | (refine stx ?_) | (refine sb ?_))); refine zh_took (by rfl) ?_
  refine zh_take 1 (by kernel_rfl) rfl (by kernel_rfl) (by kernel_rfl) ?_ (by simp); (repeat (first | (refine sn ?_) | (refine stx ?_) | (refine sb ?_))); refine zh_took (by rfl) ?_
  refine zh_take 2 (by kernel_rfl) rfl (by kernel_rfl) (by kernel_rfl) ?_ (by simp); (repeat (first | (refine sn ?_) | (refine stx ?_) | (refine sb ?_))); refine zh_took (by rfl) ?_
  refine zh_take 3 (by kernel_rfl) rfl (by kernel_rfl) (by kernel_rfl) ?_ (by simp); (repeat (first | (refine sn ?_) | (refine stx ?_) | (refine sb ?_))); refine zh_took (by rfl) ?_
  refine zh_take 4 (by kernel_rfl) rfl (by kernel_rfl) (by kernel_rfl) ?_ (by simp); (repeat (first | (refine sn ?_) | (refine stx ?_) | (refine sb ?_))); refine zh_took (by rfl) ?_
  refine zh_take 5 (by kernel_rfl) rfl (by kernel_rfl) (by kernel_rfl) ?_ (by simp); (repeat (first | (refine sn ?_) | (refine stx ?_) | (refine sb ?_))); refine zh_took (by rfl) ?_
  refine zh_one 6 rfl (by kernel_rfl) ?_
  refine zx_makeChan (m := d) (nb := 16) tab_ok rfl rfl (by kernel_rfl) rfl (by omega) (by omega) rfl (fun cb => ?_)
  refine zh_oned (by rfl) (by simp) ?_
  refine zh_one 7 rfl (by kernel_rfl) ?_
  refine zx_mapNew tab_ok 1 rfl rfl rfl rfl rfl rfl rfl rfl rfl ?_
  refine zh_oned (by rfl) (by simp) ?_
  refine zh_end (by rfl) (by kernel_rfl) ?_
  repeat (first | (refine st ?_) | (refine stx ?_) | (intro _))
  refine z_ret2 tab_ok Try.func56 hb hk Try.results56 (.tmp rfl) (.tmp rfl) (fun w hm => ?_)
  exact ⟨(mb, cb), trivial, rfl, hm⟩
theorem queue2_any (p mb cb : Nat) : MQ 111 [ptr p, .int .i64 7] [pM7 mb cb, pP2 p (some mb)] (.chan (some cb)) := by
  intro w h
  refine calls_of_z Try.func111 rfl Try.ntmps111 rfl h ?_; intro cs b hb hk
  repeat (first | (refine st ?_) | (refine stx ?_) | (intro _))
  refine zx_lookup tab_ok 0 rfl rfl rfl zero151 rfl rfl rfl rfl ?_
  repeat (first | (refine st ?_) | (refine stx ?_) | (intro _))
  refine z_ret1 tab_ok Try.func111 hb hk Try.results111 (.tmp rfl) (fun w hm => ?_)
  exact ⟨rfl, MQ.back h hm (List.Sublist.refl _)⟩
def S2s (sb : Nat) (i v : Int) (S : Mm) : Mm := (sb, .c [.int .i64 i, .int .i64 v] 100 0 0) :: S
theorem Offer2_room (p mb cb sb d : Nat) (buf : List Value) (s r : Nat) (i v : Int) (hroom : buf.length < d) : MC 58 [ptr p, .int .i64 7, .slice (some ⟨sb, 0, none⟩) 1 1] (S2s sb i v (S2 p mb cb d buf s r)) (S2s sb i v (S2 p mb cb d (buf ++ [pr2 i v]) (s + 1) r)) (.tuple #[.int .i64 1, .int .i64 0]) := by
  intro w h
  refine calls_of_z Try.func58 rfl Try.ntmps58 rfl h ?_; intro cs b hb hk
  repeat (first | (refine st ?_) | (refine stx ?_) | (intro _))
  ((try (refine sg ?_)); (refine zx_call0 rfl fnc111 rfl rfl (fun w hm => MQ.use (R := [_, _]) (queue2_any p mb cb) hm) ?_))
  repeat (first | (refine st ?_) | (refine stx ?_) | (intro _))
  refine z_once ?_
  repeat (first | (refine sn ?_) | (refine stx ?_) | (intro _))
  refine z_selRoom tab_ok 2 rfl hk rfl rfl rfl rfl rfl rfl hroom rfl ?_
  repeat (first | (refine sn ?_) | (refine stx ?_) | (intro _))
  refine z_again ?_
  repeat (first | (refine st ?_) | (refine stx ?_) | (intro _))
  refine z_ret2 tab_ok Try.func58 hb hk Try.results58 (.tmp rfl) (.tmp rfl) (fun w hm => ?_)
  exact ⟨rfl, hm.weaken (fun _ h => h) (List.Sublist.cons _ (List.Sublist.refl _))⟩
theorem Offer2_full (p mb cb sb d : Nat) (buf : List Value) (s r : Nat) (i v : Int) (hroom : d ≤ buf.length) : MC 58 [ptr p, .int .i64 7, .slice (some ⟨sb, 0, none⟩) 1 1] (S2s sb i v (S2 p mb cb d buf s r)) (S2s sb i v (S2 p mb cb d buf s r)) (.tuple #[.int .i64 0, .int .i64 0]) := by
  intro w h
  refine calls_of_z Try.func58 rfl Try.ntmps58 rfl h ?_; intro cs b hb hk
  repeat (first | (refine st ?_) | (refine stx ?_) | (intro _))
  ((try (refine sg ?_)); (refine zx_call0 rfl fnc111 rfl rfl (fun w hm => MQ.use (R := [_, _]) (queue2_any p mb cb) hm) ?_))
  repeat (first | (refine st ?_) | (refine stx ?_) | (intro _))
  refine z_once ?_
  repeat (first | (refine sn ?_) | (refine stx ?_) | (intro _))
  refine z_selFull tab_ok 2 rfl hk rfl rfl rfl rfl rfl rfl hroom ?_
  repeat (first | (refine sn ?_) | (refine stx ?_) | (intro _))
  refine z_again ?_
  repeat (first | (refine st ?_) | (refine stx ?_) | (intro _))
  refine z_ret2 tab_ok Try.func58 hb hk Try.results58 (.tmp rfl) (.tmp rfl) (fun w hm => ?_)
  exact ⟨rfl, hm.weaken (fun _ h => h) (List.Sublist.cons _ (List.Sublist.refl _))⟩
theorem Take2_one (p mb cb d : Nat) (buf : List Value) (s r : Nat) (i v : Int) : MC 59 [ptr p, .int .i64 7] (S2 p mb cb d (pr2 i v :: buf) s r) (S2 p mb cb d buf s (r + 1)) (.tuple #[pr2 i v, .int .i64 0]) := by
  intro w h
  refine calls_of_z Try.func59 rfl Try.ntmps59 rfl h ?_; intro cs b hb hk
  repeat (first | (refine st ?_) | (refine stx ?_) | (intro _))
  ((try (refine sg ?_)); (refine zx_call0 rfl fnc111 rfl rfl (fun w hm => MQ.use (R := [_, _, _]) (queue2_any p mb cb) hm) ?_))
  repeat (first | (refine sn ?_) | (refine stx ?_) | (intro _))
  refine z_selTake tab_ok 2 rfl hk rfl rfl rfl rfl rfl rfl ?_
  repeat (first | (refine sn ?_) | (refine stx ?_) | (intro _))
  first | (refine z_ret2A tab_ok Try.func59 hb hk Try.results59 0 rfl rfl rfl rfl rfl rfl rfl (fun w hm => ?_)) | (refine z_ret2A tab_ok Try.func59 hb hk Try.results59 1 rfl rfl rfl rfl rfl rfl rfl (fun w hm => ?_)) | (refine z_ret2A tab_ok Try.func59 hb hk Try.results59 2 rfl rfl rfl rfl rfl rfl rfl (fun w hm => ?_)) | (refine z_ret2A tab_ok Try.func59 hb hk Try.results59 3 rfl rfl rfl rfl rfl rfl rfl (fun w hm => ?_)) | (refine z_ret2A tab_ok Try.func59 hb hk Try.results59 4 rfl rfl rfl rfl rfl rfl rfl (fun w hm => ?_))
  exact ⟨rfl, hm.weaken (fun _ h => h) (List.Sublist.cons _ (List.Sublist.cons _ (List.Sublist.cons _ (List.Sublist.refl _))))⟩
theorem Take2_none (p mb cb d : Nat) (s r : Nat) : MC 59 [ptr p, .int .i64 7] (S2 p mb cb d [] s r) (S2 p mb cb d [] s r) (.tuple #[pr2 0 0, .int .i64 82]) := by
  intro w h
  refine calls_of_z Try.func59 rfl Try.ntmps59 rfl h ?_; intro cs b hb hk
  repeat (first | (refine st ?_) | (refine stx ?_) | (intro _))
  ((try (refine sg ?_)); (refine zx_call0 rfl fnc111 rfl rfl (fun w hm => MQ.use (R := [_, _, _]) (queue2_any p mb cb) hm) ?_))
  repeat (first | (refine sn ?_) | (refine stx ?_) | (intro _))
  refine z_selNone tab_ok 2 rfl hk rfl rfl rfl rfl rfl zero100 ?_
  repeat (first | (refine sn ?_) | (refine stx ?_) | (intro _))
  first | (refine z_ret2A tab_ok Try.func59 hb hk Try.results59 0 rfl rfl rfl rfl rfl rfl rfl (fun w hm => ?_)) | (refine z_ret2A tab_ok Try.func59 hb hk Try.results59 1 rfl rfl rfl rfl rfl rfl rfl (fun w hm => ?_)) | (refine z_ret2A tab_ok Try.func59 hb hk Try.results59 2 rfl rfl rfl rfl rfl rfl rfl (fun w hm => ?_)) | (refine z_ret2A tab_ok Try.func59 hb hk Try.results59 3 rfl rfl rfl rfl rfl rfl rfl (fun w hm => ?_)) | (refine z_ret2A tab_ok Try.func59 hb hk Try.results59 4 rfl rfl rfl rfl rfl rfl rfl (fun w hm => ?_))
  exact ⟨rfl, hm.weaken (fun _ h => h) (List.Sublist.cons _ (List.Sublist.cons _ (List.Sublist.refl _)))⟩
theorem Wait2_any (p mb cb d : Nat) (buf : List Value) (s r : Nat) : MQ 60 [ptr p, .int .i64 7] (S2 p mb cb d buf s r) (.int .i64 (buf.length : Int)) := by
  intro w h
  refine calls_of_z Try.func60 rfl Try.ntmps60 rfl h ?_; intro cs b hb hk
  repeat (first | (refine st ?_) | (refine stx ?_) | (intro _))
  ((try (refine sg ?_)); (refine zx_call0 rfl fnc111 rfl rfl (fun w hm => MQ.use (R := [_]) (queue2_any p mb cb) hm) ?_))
  refine zx_lenChan tab_ok 0 rfl rfl rfl rfl rfl ?_
  repeat (first | (refine st ?_) | (refine stx ?_) | (intro _))
  refine z_ret1 tab_ok Try.func60 hb hk Try.results60 (.tmp rfl) (fun w hm => ?_)
  exact ⟨rfl, MQ.back h hm (List.Sublist.refl _)⟩
end Go.Proofs.Ytabcaiecoiejkaa
