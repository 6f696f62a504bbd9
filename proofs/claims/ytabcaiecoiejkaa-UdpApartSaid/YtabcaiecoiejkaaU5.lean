/- Walks of Open of the ports of strings; what each call does, told by what is open. -/
import Derived.Test.YtabcaiecoiejkaaU4
set_option maxRecDepth 100000
set_option linter.unusedSimpArgs false
set_option linter.unusedVariables false
set_option maxHeartbeats 4000000
namespace Go.Proofs.Ytabcaiecoiejkaa
open Go K

theorem OpenS_bad (p : Nat) (S : Mm) (n d : Int) (hn : 1 ≤ n ∧ n ≤ 65535) (hd : d < 1 ∨ 16 < d) : MC 66 [ptr p, .int .i64 n, .int .i64 d] S S (.tuple #[.int .i64 0, .int .i64 1]) := by
  intro w h
  refine calls_of_z Try.func66 rfl Try.ntmps66 rfl h ?_; intro cs b hb hk
  by_cases h1 : d < 1
  · repeat (first | (refine st ?_) | (refine stx ?_) | (refine sb ?_) | (intro _))
    refine z_ret2 tab_ok Try.func66 hb hk Try.results66 (.tmp rfl) (.tmp rfl) (fun w hm => ?_)
    exact ⟨rfl, hm⟩
  · have h16 : 16 < d := by omega
    repeat (first | (refine st ?_) | (refine stx ?_) | (refine sb ?_) | (intro _))
    refine z_ret2 tab_ok Try.func66 hb hk Try.results66 (.tmp rfl) (.tmp rfl) (fun w hm => ?_)
    exact ⟨rfl, hm⟩
theorem OpenS_dup (p mb ck : Nat) (pre : List Chn) (c : Chn) (post : List Chn) (hne : ∀ x ∈ pre, x.n ≠ c.n) (d : Nat) (hn : 1 ≤ c.n ∧ c.n ≤ 65535) (hd : 1 ≤ d ∧ d ≤ 16) (hl : (pre ++ c :: post).length < 16) : MC 66 [ptr p, .int .i64 c.n, .int .i64 (d : Int)] (mP p mb ck (pre ++ c :: post)) (mP p mb ck (pre ++ c :: post)) (.tuple #[.int .i64 0, .int .i64 80]) := by
  intro w h
  refine calls_of_z Try.func66 rfl Try.ntmps66 rfl h ?_; intro cs b hb hk
  repeat (first | (refine st ?_) | (refine stx ?_) | (refine sb ?_) | (intro _))
  refine zx_lenMap tab_ok 1 rfl rfl rfl rfl rfl ?_
  refine zx_re 32 (.int .i64 (((pre ++ c :: post).length : Nat) : Int)) rfl (by rw [List.length_map]) ?_
  generalize (pre ++ c :: post).length = len at hl
  repeat (first | (refine st ?_) | (refine stx ?_) | (refine sb ?_) | (intro _))
  refine zx_lookup tab_ok 1 rfl rfl rfl zero163 rfl rfl rfl rfl ?_
  refine zx_re 50 (.chan (some c.cb)) rfl (lkp_hit hne _) ?_
  repeat (first | (refine st ?_) | (refine stx ?_) | (refine sb ?_) | (intro _))
  refine z_ret2 tab_ok Try.func66 hb hk Try.results66 (.tmp rfl) (.tmp rfl) (fun w hm => ?_)
  exact ⟨rfl, hm⟩
theorem OpenS_new (p mb ck : Nat) (cs : List Chn) (n : Int) (hne : ∀ x ∈ cs, x.n ≠ n) (d : Nat) (hn : 1 ≤ n ∧ n ≤ 65535) (hd : 1 ≤ d ∧ d ≤ 16) (hl : cs.length < 16) (w : World) (h : Mem w ((mP p mb ck cs).map (·.1)) (mP p mb ck cs) w) :
    Calls Try.prog 66 [ptr p, .int .i64 n, .int .i64 (d : Int)].toArray w fun e w' => ∃ cb : Nat, e = .returned (.tuple #[.int .i64 n, .int .i64 0]) ∧ Mem w ((mP p mb ck cs).map (·.1)) (mP p mb (ck + 1) (cs ++ [⟨n, cb, ck, d, [], 0, 0⟩])) w' := by
  refine calls_of_z Try.func66 rfl Try.ntmps66 rfl h ?_; intro cs' b hb hk
  repeat (first | (refine st ?_) | (refine stx ?_) | (refine sb ?_) | (intro _))
  refine zx_lenMap tab_ok 1 rfl rfl rfl rfl rfl ?_
  refine zx_re 32 (.int .i64 ((cs.length : Nat) : Int)) rfl (by rw [List.length_map]) ?_
  repeat (first | (refine st ?_) | (refine stx ?_) | (refine sb ?_) | (intro _))
  refine zx_lookup tab_ok 1 rfl rfl rfl zero163 rfl rfl rfl rfl ?_
  refine zx_re 50 (.chan none) rfl (lkp_miss hne _) ?_
  repeat (first | (refine sn ?_) | (refine stx ?_) | (intro _))
  refine z_mem (pP p (some mb) :: (mb, mB (cs.map Chn.en) ck) :: cs.map Chn.blk) rfl ?_
  refine z_regionH [pP p (some mb)] (by rfl) follows_mixed (List.sublist_append_left [_] _) (m := 8) rfl ?_
  refine zh_take 0 (by kernel_rfl) rfl (by kernel_rfl) (by kernel_rfl) ?_ (by simp); (repeat (first | (refine sn ?_) | (refine stx ?_) | (refine sb ?_))); refine zh_took (by rfl) ?_
  refine zh_take 1 (by kernel_rfl) rfl (by kernel_rfl) (by kernel_rfl) ?_ (by simp); (repeat (first | (refine sn ?_) | (refine stx ?_) | (refine sb ?_))); refine zh_took (by rfl) ?_
  refine zh_take 2 (by kernel_rfl) rfl (by kernel_rfl) (by kernel_rfl) ?_ (by simp); (repeat (first | (refine sn ?_) | (refine stx ?_) | (refine sb ?_))); refine zh_took (by rfl) ?_
  refine zh_take 3 (by kernel_rfl) rfl (by kernel_rfl) (by kernel_rfl) ?_ (by simp); (repeat (first | (refine sn ?_) | (refine stx ?_) | (refine sb ?_))); refine zh_took (by rfl) ?_
  refine zh_take 4 (by kernel_rfl) rfl (by kernel_rfl) (by kernel_rfl) ?_ (by simp); (repeat (first | (refine sn ?_) | (refine stx ?_) | (refine sb ?_))); refine zh_took (by rfl) ?_
  refine zh_take 5 (by kernel_rfl) rfl (by kernel_rfl) (by kernel_rfl) ?_ (by simp); (repeat (first | (refine sn ?_) | (refine stx ?_) | (refine sb ?_))); refine zh_took (by rfl) ?_
  refine zh_one 6 rfl (by kernel_rfl) ?_
  refine zx_makeChan (m := d) (nb := 16) tab_ok rfl rfl (by kernel_rfl) rfl (by omega) (by omega) rfl (fun cb => ?_)
  refine zh_oned (by rfl) (by simp) ?_
  refine zh_one 7 rfl (by kernel_rfl) ?_
  refine zx_mapNew tab_ok 2 rfl rfl rfl rfl rfl rfl rfl rfl (fnd_miss cs n 0 hne) ?_
  refine zh_oned (by rfl) (by simp) ?_
  refine zh_end (by rfl) (by kernel_rfl) ?_
  repeat (first | (refine st ?_) | (refine stx ?_) | (intro _))
  refine z_ret2 tab_ok Try.func66 hb hk Try.results66 (.tmp rfl) (.tmp rfl) (fun w hm => ?_)
  refine ⟨cb, rfl, ?_⟩
  have hm2 : Mem _ _ ((cb, cB d [] 0 0) :: pP p (some mb) :: (mb, mB (cs.map Chn.en ++ [(n, .chan (some cb), ck)]) (ck + 1)) :: cs.map Chn.blk) w := hm
  refine hm2.perm ?_
  unfold mP
  rw [List.map_append, List.map_append]
  have := (List.perm_append_singleton (cb, cB d [] 0 0) (pP p (some mb) :: (mb, mB (cs.map Chn.en ++ [(n, .chan (some cb), ck)]) (ck + 1)) :: cs.map Chn.blk))
  exact this
theorem OpenS_first (p : Nat) (n : Int) (d : Nat) (hn : 1 ≤ n ∧ n ≤ 65535) (hd : 1 ≤ d ∧ d ≤ 16) (w : World) (h : Mem w [p] [pP p none] w) :
    Calls Try.prog 66 [ptr p, .int .i64 n, .int .i64 (d : Int)].toArray w fun e w' => ∃ y : Nat × Nat, e = .returned (.tuple #[.int .i64 n, .int .i64 0]) ∧ Mem w [p] (mP p y.1 1 [⟨n, y.2, 0, d, [], 0, 0⟩]) w' := by
  refine calls_of_z Try.func66 rfl Try.ntmps66 rfl h ?_; intro cs' b hb hk
  repeat (first | (refine st ?_) | (refine stx ?_) | (refine sb ?_) | (intro _))
  refine zx_lenMap0 tab_ok rfl rfl rfl rfl ?_
  repeat (first | (refine st ?_) | (refine stx ?_) | (refine sb ?_) | (intro _))
  refine zx_lookup0 tab_ok rfl rfl rfl zero163 rfl rfl rfl ?_
  repeat (first | (refine st ?_) | (refine stx ?_) | (refine sb ?_) | (intro _))
  refine zx_makeMap rfl rfl (fun mb => ?_)
  repeat (first | (refine sn ?_) | (refine stx ?_) | (intro _))
  refine z_regionH [(p, .c [.map (some mb)] 160 0 0)] (by rfl) follows_mixed (by simp) (m := 8) rfl ?_
  refine zh_take 0 (by kernel_rfl) rfl (by kernel_rfl) (by kernel_rfl) ?_ (by simp); (repeat (first | (refine sn ?_) | (refine stx ?_) | (refine sb ?_))); refine zh_took (by rfl) ?_
  refine zh_take 1 (by kernel_rfl) rfl (by kernel_rfl) (by kernel_rfl) ?_ (by simp); (repeat (first | (refine sn ?_) | (refine stx ?_) | (refine sb ?_))); refine zh_took (by rfl) ?_
  refine zh_take 2 (by kernel_rfl) rfl (by kernel_rfl) (by kernel_rfl) ?_ (by simp); (repeat (first | (refine sn ?_) | (refine stx ?_) | (refine sb ?_))); refine zh_took (by rfl) ?_
  refine zh_take 3 (by kernel_rfl) rfl (by kernel_rfl) (by kernel_rfl) ?_ (by simp); (repeat (first | (refine sn ?_) | (refine stx ?_) | (refine sb ?_))); refine zh_took (by rfl) ?_
  refine zh_take 4 (by kernel_rfl) rfl (by kernel_rfl) (by kernel_rfl) ?_ (by simp); (repeat (first | (refine sn ?_) | (refine stx ?_) | (refine sb ?_))); refine zh_took (by rfl) ?_
  refine zh_take 5 (by kernel_rfl) rfl (by kernel_rfl) (by kernel_rfl) ?_ (by simp); (repeat (first | (refine sn ?_) | (refine stx ?_) | (refine sb ?_))); refine zh_took (by rfl) ?_
  refine zh_one 6 rfl (by kernel_rfl) ?_
  refine zx_makeChan (m := d) (nb := 16) tab_ok rfl rfl (by kernel_rfl) rfl (by omega) (by omega) rfl (fun cb => ?_)
  refine zh_oned (by rfl) (by simp) ?_
  refine zh_one 7 rfl (by kernel_rfl) ?_
  refine zx_mapNew tab_ok 1 rfl rfl rfl rfl rfl rfl rfl rfl rfl ?_
  refine zh_oned (by rfl) (by simp) ?_
  refine zh_end (by rfl) (by kernel_rfl) ?_
  repeat (first | (refine st ?_) | (refine stx ?_) | (intro _))
  refine z_ret2 tab_ok Try.func66 hb hk Try.results66 (.tmp rfl) (.tmp rfl) (fun w hm => ?_)
  refine ⟨(mb, cb), rfl, ?_⟩
  have hm2 : Mem _ _ ([(cb, cB d [] 0 0), (mb, mB [(n, .chan (some cb), 0)] 1), pP p (some mb)]) w := hm
  refine hm2.perm ?_
  show [pP p (some mb), (mb, mB [(n, .chan (some cb), 0)] 1), (cb, cB d [] 0 0)].Perm _
  exact (List.reverse_perm [(cb, cB d [] 0 0), (mb, mB [(n, .chan (some cb), 0)] 1), pP p (some mb)])
end Go.Proofs.Ytabcaiecoiejkaa
