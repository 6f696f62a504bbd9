/- Walks of Open of the ports of strings, at the port 0 and with sixteen ports open. The reference's ports: its entries in memory; Find. List's result as a row that is owned; Open at any port, told by what stands there. Plain: the reference's ports, told by what stands at each; two sets of ports that tell the same. -/
import Derived.Test.YtabcaiecoiejkaaW1
import Derived.Test.YtabcaiecoiejkaaW3
set_option maxRecDepth 100000
set_option linter.unusedSimpArgs false
set_option linter.unusedVariables false
set_option maxHeartbeats 4000000
namespace Go.Proofs.Ytabcaiecoiejkaa
open Go K

theorem OpenS_badA (p : Nat) (S : Mm) (n d : Int) (hb0 : n < 0 ∨ 65535 < n ∨ d < 1 ∨ 16 < d) : MC 66 [ptr p, .int .i64 n, .int .i64 d] S S (.tuple #[.int .i64 0, .int .i64 1]) := by
  intro w h
  refine calls_of_z Try.func66 rfl Try.ntmps66 rfl h ?_; intro cs b hb hk
  by_cases h1 : n < 0
  · repeat (first | (refine st ?_) | (refine stx ?_) | (refine sb ?_) | (intro _))
    refine z_ret2 tab_ok Try.func66 hb hk Try.results66 (.tmp rfl) (.tmp rfl) (fun w hm => ?_)
    exact ⟨rfl, hm⟩
  by_cases h2 : 65535 < n
  · repeat (first | (refine st ?_) | (refine stx ?_) | (refine sb ?_) | (intro _))
    refine z_ret2 tab_ok Try.func66 hb hk Try.results66 (.tmp rfl) (.tmp rfl) (fun w hm => ?_)
    exact ⟨rfl, hm⟩
  by_cases h3 : d < 1
  · repeat (first | (refine st ?_) | (refine stx ?_) | (refine sb ?_) | (intro _))
    refine z_ret2 tab_ok Try.func66 hb hk Try.results66 (.tmp rfl) (.tmp rfl) (fun w hm => ?_)
    exact ⟨rfl, hm⟩
  · have h16 : 16 < d := by omega
    repeat (first | (refine st ?_) | (refine stx ?_) | (refine sb ?_) | (intro _))
    refine z_ret2 tab_ok Try.func66 hb hk Try.results66 (.tmp rfl) (.tmp rfl) (fun w hm => ?_)
    exact ⟨rfl, hm⟩
theorem OpenS_full (p mb ck : Nat) (cs : List Chn) (n : Int) (d : Nat) (hn : 0 ≤ n ∧ n ≤ 65535) (hd : 1 ≤ d ∧ d ≤ 16) (hl : 16 ≤ cs.length) (hl2 : cs.length ≤ 1000000) : MC 66 [ptr p, .int .i64 n, .int .i64 (d : Int)] (mP p mb ck cs) (mP p mb ck cs) (.tuple #[.int .i64 0, .int .i64 81]) := by
  intro w h
  refine calls_of_z Try.func66 rfl Try.ntmps66 rfl h ?_; intro cs' b hb hk
  repeat (first | (refine st ?_) | (refine stx ?_) | (refine sb ?_) | (intro _))
  refine zx_lenMap tab_ok 1 rfl rfl rfl rfl rfl ?_
  refine zx_re 32 (.int .i64 (((cs.length) : Nat) : Int)) rfl (by rw [List.length_map]) ?_
  repeat (first | (refine st ?_) | (refine stx ?_) | (refine sb ?_) | (intro _))
  refine z_ret2 tab_ok Try.func66 hb hk Try.results66 (.tmp rfl) (.tmp rfl) (fun w hm => ?_)
  exact ⟨rfl, hm⟩
/-- the first free port from t on -/
def nxt (V : Int → Bool) : Nat → Int → Int
  | 0, t => t
  | f + 1, t => if V t then nxt V f (t + 1) else t
theorem above_le {cs : List Chn} {t : Int} : (cs.filter fun c => decide (t ≤ c.n)).length ≤ cs.length := List.length_filter_le ..
theorem above_lt : ∀ {cs : List Chn} {c : Chn}, c ∈ cs → (cs.filter fun x => decide (c.n + 1 ≤ x.n)).length + 1 ≤ (cs.filter fun x => decide (c.n ≤ x.n)).length
  | x :: cs, c, h => by
    have hmono : (cs.filter fun x => decide (c.n + 1 ≤ x.n)).length ≤ (cs.filter fun x => decide (c.n ≤ x.n)).length := by
      clear h
      induction cs with
      | nil => exact Nat.le_refl _
      | cons y cs ih =>
        rw [List.filter_cons, List.filter_cons]
        by_cases h1 : c.n + 1 ≤ y.n
        · rw [if_pos (decide_eq_true h1), if_pos (decide_eq_true (by omega))]
          exact Nat.succ_le_succ ih
        · rw [if_neg (by rw [decide_eq_true_eq]; exact h1)]
          split
          · exact Nat.le_succ_of_le ih
          · exact ih
    rw [List.filter_cons, List.filter_cons]
    rcases List.mem_cons.1 h with h | h
    · subst h
      rw [if_neg (by rw [decide_eq_true_eq]; omega), if_pos (decide_eq_true (Int.le_refl _))]
      exact Nat.succ_le_succ hmono
    · have ih := above_lt h
      by_cases h1 : c.n + 1 ≤ x.n
      · rw [if_pos (decide_eq_true h1), if_pos (decide_eq_true (by omega))]
        exact Nat.succ_le_succ ih
      · rw [if_neg (by rw [decide_eq_true_eq]; exact h1)]
        split
        · exact Nat.le_succ_of_le ih
        · exact ih
theorem nxt_miss {V : Int → Bool} {f : Nat} {t : Int} (h : V t = false) : nxt V f t = t := by
  cases f with
  | zero => rfl
  | succ f => show (if V t = true then _ else _) = _; rw [h]; rfl
theorem OpenS_zero (p mb ck : Nat) (cs : List Chn) (d : Nat) (hd : 1 ≤ d ∧ d ≤ 16) (hl : cs.length < 16) (w : World) (h : Mem w ((mP p mb ck cs).map (·.1)) (mP p mb ck cs) w) :
    Calls Try.prog 66 [ptr p, .int .i64 0, .int .i64 (d : Int)].toArray w fun e w' => ∃ y : Nat × Int, (y.2 = nxt (fun m => (vw cs m).isSome) 16 49152 ∧ vw cs y.2 = none ∧ 49152 ≤ y.2 ∧ y.2 ≤ 65535) ∧ e = .returned (.tuple #[.int .i64 y.2, .int .i64 0]) ∧ Mem w ((mP p mb ck cs).map (·.1)) (mP p mb (ck + 1) (cs ++ [⟨y.2, y.1, ck, d, [], 0, 0⟩])) w' := by
  refine calls_of_z Try.func66 rfl Try.ntmps66 rfl h ?_; intro cs' b hb hk
  repeat (first | (refine st ?_) | (refine stx ?_) | (refine sb ?_) | (intro _))
  refine zx_lenMap tab_ok 1 rfl rfl rfl rfl rfl ?_
  refine zx_re 32 (.int .i64 ((cs.length : Nat) : Int)) rfl (by rw [List.length_map]) ?_
  repeat (first | (refine st ?_) | (refine stx ?_) | (refine sb ?_) | (intro _))
  refine z_loop (fun t : Int => 49152 ≤ t ∧ t + ((cs.filter fun c => decide (t ≤ c.n)).length : Nat) ≤ 49168 ∧ ∃ f, nxt (fun m => (vw cs m).isSome) f t = nxt (fun m => (vw cs m).isSome) 16 49152 ∧ (cs.filter fun c => decide (t ≤ c.n)).length ≤ f) (fun t => [(0, ptr p), (1, .int .i64 t), (2, .int .i64 (d : Int))]) (fun t => mP p mb ck cs) (fun t => (cs.filter fun c => decide (t ≤ c.n)).length) 49152 ⟨by decide, by have := above_le (cs := cs) (t := 49152); omega, 16, rfl, by have := above_le (cs := cs) (t := 49152); omega⟩ ⟨rfl, rfl, rfl, trivial⟩ (List.Sublist.refl _) ?_
  intro t ht ih
  obtain ⟨t1, t2, f, t3, t4⟩ := ht
  refine z_weaken [(0, ptr p), (1, .int .i64 t), (2, .int .i64 (d : Int))] (mP p mb ck cs) ⟨rfl, rfl, rfl, trivial⟩ (List.Sublist.refl _) (fun _ h => h) ?_
  cases hv : vw cs t with
  | some v =>
    obtain ⟨pre, c, post, rfl, rfl, hne, _⟩ := vw_some hv
    have hab := above_lt (cs := pre ++ c :: post) (c := c) (List.mem_append_right _ (List.mem_cons_self ..))
    repeat (first | (refine st ?_) | (refine stx ?_) | (refine sb ?_) | (intro _))
    refine zx_lookup tab_ok 1 rfl rfl rfl zero163 rfl rfl rfl rfl ?_
    refine zx_re 41 (.chan (some c.cb)) rfl (lkp_hit hne _) ?_
    repeat (first | (refine st ?_) | (refine stx ?_) | (refine sb ?_) | (intro _))
    refine z_re 1 (.int .i64 (c.n + 1)) rfl (congrArg _ (by simp only [IntKind.wrap_i64]; omega)) ?_
    refine z_weaken [(0, ptr p), (1, .int .i64 (c.n + 1)), (2, .int .i64 (d : Int))] (mP p mb ck (pre ++ c :: post)) ⟨rfl, rfl, rfl, trivial⟩ (List.Sublist.refl _) (fun _ h => h) ?_
    refine ih (c.n + 1) ⟨by omega, by omega, ?_⟩ (by omega)
    cases f with
    | zero => omega
    | succ f =>
      refine ⟨f, ?_, by omega⟩
      rw [← t3]
      show _ = if (vw (pre ++ c :: post) c.n).isSome = true then _ else _
      rw [hv]
      rfl
  | none =>
    have hne := vw_none hv
    have hT : t = nxt (fun m => (vw cs m).isSome) 16 49152 := by
      rw [← t3, nxt_miss]
      show (vw cs t).isSome = false
      rw [hv]; rfl
    repeat (first | (refine st ?_) | (refine stx ?_) | (refine sb ?_) | (intro _))
    refine zx_lookup tab_ok 1 rfl rfl rfl zero163 rfl rfl rfl rfl ?_
    refine zx_re 41 (.chan none) rfl (lkp_miss hne _) ?_
    repeat (first | (refine st ?_) | (refine stx ?_) | (refine sb ?_) | (intro _))
    refine zx_lookup tab_ok 1 rfl rfl rfl zero163 rfl rfl rfl rfl ?_
    refine zx_re 50 (.chan none) rfl (lkp_miss hne _) ?_
    repeat (first | (refine sn ?_) | (refine stx ?_) | (intro _))
    refine z_mem (pP p (some mb) :: (mb, mB (cs.map Chn.en) ck) :: cs.map Chn.blk) rfl ?_
    refine z_regionH [pP p (some mb)] (by rfl) follows_mixed (List.sublist_append_left [_] _) (m := 8) rfl ?_
    refine zh_take 0 (by kernel_rfl) rfl (by kernel_rfl) (by kernel_rfl) ?_ (by simp); (repeat (first | (refine sn ?_) | (refine stx ?_) | (refine sb ?_))); refine zh_took (by rfl) ?_
    refine zh_take 1 (by kernel_rfl) rfl (by kernel_rfl) (by kernel_rfl) ?_ (by simp); (repeat (first | (refine sn ?_) | (refine stx ?_) | (refine sb ?_))); refine zh_took (by rfl) ?_
    refine zh_take 2 (by kernel_rfl) rfl (by kernel_rfl) (by kernel_rfl) ?_ (by simp); (repeat (first | (refine sn ?_) | (refine stx ?_) | (refine sb ?_))); refine zh_took (by rfl) ?_
    refine zh_take 3 (by kernel_rfl) rfl (by kernel_rfl) (by kernel_rfl) ?_ (by simp); (repeat (first | (refine sn ?_) | (refine stx ?_) | (refine sb ?_))); refine zh_took (by rfl) ?_
    refine zh_take 4 (by kernel_rfl) rfl (by kernel_rfl) (by kernel_rfl) ?_ (by simp); (repeat (first | (refine sn ?_) | (refine stx ?_) | (refine sb ?_))); refine zh_took (by rfl) ?_
    refine zh_take 5 (by kernel_rfl) rfl (by kernel_rfl) (by kernel_rfl) ?_ (by simp); (repeat (first | (refine sn ?_) | (refine stx ?_) | (refine sb ?_))); refine zh_took (by rfl) ?_
    refine zh_one 6 rfl (by kernel_rfl) ?_
    refine zx_makeChan (m := d) (nb := 16) tab_ok rfl rfl (by kernel_rfl) rfl (by omega) (by omega) rfl (fun cb => ?_)
    refine zh_oned (by rfl) (by simp) ?_
    refine zh_one 7 rfl (by kernel_rfl) ?_
    refine zx_mapNew tab_ok 2 rfl rfl rfl rfl rfl rfl rfl rfl (fnd_miss cs t 0 hne) ?_
    refine zh_oned (by rfl) (by simp) ?_
    refine zh_end (by rfl) (by kernel_rfl) ?_
    repeat (first | (refine st ?_) | (refine stx ?_) | (intro _))
    refine z_ret2 tab_ok Try.func66 hb hk Try.results66 (.tmp rfl) (.tmp rfl) (fun w hm => ?_)
    refine ⟨(cb, t), ⟨hT, hv, t1, by omega⟩, rfl, ?_⟩
    have hm2 : Mem _ _ ((cb, cB d [] 0 0) :: pP p (some mb) :: (mb, mB (cs.map Chn.en ++ [(t, .chan (some cb), ck)]) (ck + 1)) :: cs.map Chn.blk) w := hm
    refine hm2.perm ?_
    unfold mP
    rw [List.map_append, List.map_append]
    have := (List.perm_append_singleton (cb, cB d [] 0 0) (pP p (some mb) :: (mb, mB (cs.map Chn.en ++ [(t, .chan (some cb), ck)]) (ck + 1)) :: cs.map Chn.blk))
    exact this
theorem OpenS_zero0 (p : Nat) (d : Nat) (hd : 1 ≤ d ∧ d ≤ 16) (w : World) (h : Mem w [p] [pP p none] w) :
    Calls Try.prog 66 [ptr p, .int .i64 0, .int .i64 (d : Int)].toArray w fun e w' => ∃ y : Nat × Nat, e = .returned (.tuple #[.int .i64 49152, .int .i64 0]) ∧ Mem w [p] (mP p y.1 1 [⟨49152, y.2, 0, d, [], 0, 0⟩]) w' := by
  refine calls_of_z Try.func66 rfl Try.ntmps66 rfl h ?_; intro cs' b hb hk
  repeat (first | (refine st ?_) | (refine stx ?_) | (refine sb ?_) | (intro _))
  refine zx_lenMap0 tab_ok rfl rfl rfl rfl ?_
  repeat (first | (refine st ?_) | (refine stx ?_) | (refine sb ?_) | (intro _) | (refine z_once ?_) | (refine z_again ?_))
  refine zx_lookup0 tab_ok rfl rfl rfl zero163 rfl rfl rfl ?_
  repeat (first | (refine st ?_) | (refine stx ?_) | (refine sb ?_) | (intro _))
  refine zx_lookup0 tab_ok rfl rfl rfl zero163 rfl rfl rfl ?_
  repeat (first | (refine st ?_) | (refine stx ?_) | (refine sb ?_) | (intro _))
  refine zx_makeMap rfl rfl (fun mb => ?_)
  repeat (first | (refine sn ?_) | (refine stx ?_) | (intro _))
  refine z_regionH [(p, .c [.map (some mb)] 160 0 0)] (by rfl) follows_mixed (by simp) (m := 8) rfl ?_
  refine zh_take 0 (by kernel_rfl) rfl (by kernel_rfl) (by kernel_rfl) ?_ (by simp); (repeat (first | (refine sn ?_) | (refine stx ?_) | (refine sb ?_))); refine zh_took (by rfl) ?_
  refine zh_take 1 (by kernel_rfl) rfl (by kernel_rfl) (by kernel_rfl) ?_ (by simp); (repeat (first | (refine sn ?_) | (refine stx ?_) | (refine sb ?_))); refine zh_took (by rfl) ?_
  refine zh_take 2 (by kernel_rfl) rfl (by kernel_rfl) (by kernel_rfl) ?_ (by simp); (repeat (first | (refine sn ?_) | (refine stx ?_) | (refine sb ?_))); refine zh_took (by rfl) ?_
  refine zh_take 3 (by kernel_rfl) rfl (by kernel_rfl) (by kernel_rfl) ?_ (by simp); (repeat (first | (refine sn ?_) | (refine stx ?_) | (refine sb ?_))); refine zh_took (by rfl) ?_
  refine zh_take 4 (by kernel_rfl) rfl (by kernel_rfl) (by kernel_rfl) ?_ (by simp); (repeat (first | (refine sn ?_) | (refine stx ?_) | (refine sb ?_))); refine zh_took (by rfl) ?_
  refine zh_take 5 (by kernel_rfl) rfl (by kernel_rfl) (by kernel_rfl) ?_ (by simp); (repeat (first | (refine sn ?_) | (refine stx ?_) | (refine sb ?_))); refine zh_took (by rfl) ?_
  refine zh_one 6 rfl (by kernel_rfl) ?_
  refine zx_makeChan (m := d) (nb := 16) tab_ok rfl rfl (by kernel_rfl) rfl (by omega) (by omega) rfl (fun cb => ?_)
  refine zh_oned (by rfl) (by simp) ?_
  refine zh_one 7 rfl (by kernel_rfl) ?_
  refine zx_mapNew tab_ok 1 rfl rfl rfl rfl rfl rfl rfl rfl rfl ?_
  refine zh_oned (by rfl) (by simp) ?_
  refine zh_end (by rfl) (by kernel_rfl) ?_
  repeat (first | (refine st ?_) | (refine stx ?_) | (intro _))
  refine z_ret2 tab_ok Try.func66 hb hk Try.results66 (.tmp rfl) (.tmp rfl) (fun w hm => ?_)
  refine ⟨(mb, cb), rfl, ?_⟩
  have hm2 : Mem _ _ ([(cb, cB d [] 0 0), (mb, mB [(49152, .chan (some cb), 0)] 1), pP p (some mb)]) w := hm
  refine hm2.perm ?_
  show [pP p (some mb), (mb, mB [(49152, .chan (some cb), 0)] 1), (cb, cB d [] 0 0)].Perm _
  exact (List.reverse_perm [(cb, cB d [] 0 0), (mb, mB [(49152, .chan (some cb), 0)] 1), pP p (some mb)])
end Go.Proofs.Ytabcaiecoiejkaa
namespace Go.Proofs.Ytabcaiecoiejkaa
open Go K

/-- an entry: its number, its depth, what waits there and where that lies -/
structure Ent where
  n : Int
  d : Nat
  o : Own
  ws : List ByteArray
def strC (ws : List ByteArray) : List Value := ws.map Value.string
def Ent.cells (e : Ent) : List Value := [.int .i64 e.n, .int .i64 (e.d : Int), rowV e.o e.ws.length]
def Ent.row (e : Ent) : Mm := rowL 9 e.o (strC e.ws)
def entC (es : List Ent) : List Value := flatC Ent.cells es
theorem ent_len (e : Ent) : e.cells.length = 3 := rfl
theorem entC_len (es : List Ent) : (entC es).length = es.length * 3 := flatC_len ent_len es
theorem entC_at {es : List Ent} {i : Nat} {e : Ent} {j : Nat} {u : Value} (hi : es[i]? = some e) (hj : e.cells[j]? = some u) : (entC es)[i * 3 + j]? = some u := flatC_at ent_len es i j e u hi hj
/-- where a cell of an entry lies in its block -/
theorem ent_at {pre rest : List Value} {es : List Ent} {i : Nat} {e : Ent} {j : Nat} {u : Value} (hi : es[i]? = some e) (hj : e.cells[j]? = some u) : (pre ++ entC es ++ rest)[pre.length + i * 3 + j]? = some u := by
  have h := entC_at hi hj
  have hlt := (List.getElem?_eq_some_iff.1 h).1
  rw [List.append_assoc, List.getElem?_append_right (by omega), List.getElem?_append_left (by omega)]
  rw [show pre.length + i * 3 + j - pre.length = i * 3 + j by omega]
  exact h
/-- the reference's two blocks: its own, and that of its entries -/
def mF (p : Nat) (o : Own) (es : List Ent) : Mm := (p, .c [rowV o es.length] 115 0 0) :: rowL 121 o (entC es)
theorem Find_nil (p : Nat) (n : Int) : MQ 65 [ptr p, .int .i64 n] [(p, .c [.slice none 0 0] 115 0 0)] (.int .i64 (-1)) := by
  intro w h
  refine calls_of_z Try.func65 rfl Try.ntmps65 rfl h ?_; intro cs b hb hk
  repeat (first | (refine st ?_) | (refine stx ?_) | (refine sb ?_) | (intro _) | (refine z_once ?_) | (refine z_again ?_))
  refine z_ret1 tab_ok Try.func65 hb hk Try.results65 (.tmp rfl) (fun w hm => ?_)
  exact ⟨rfl, MQ.back h hm (List.Sublist.refl _)⟩
theorem Find_any (p b : Nat) (pre : List Value) (r : Nat) (rest : List Value) (es : List Ent) (n : Int) (hl : es.length ≤ 1000) (out : Int) (hout : (∃ (i : Nat) (e : Ent), es[i]? = some e ∧ e.n = n ∧ (∀ (j : Nat) (x : Ent), es[j]? = some x → j < i → x.n ≠ n) ∧ out = (i : Int)) ∨ ((∀ (j : Nat) (x : Ent), es[j]? = some x → x.n ≠ n) ∧ out = -1)) :
    MQ 65 [ptr p, .int .i64 n] [(p, .c [.slice (some ⟨b, pre.length, none⟩) es.length (es.length + r)] 115 0 0), (b, .c (pre ++ entC es ++ rest) 121 0 0)] (.int .i64 out) := by
  intro w h
  refine calls_of_z Try.func65 rfl Try.ntmps65 rfl h ?_; intro cs b' hb hk
  repeat (first | (refine st ?_) | (refine stx ?_) | (intro _))
  refine z_loop (fun i : Nat => i ≤ es.length ∧ ∀ (j : Nat) (x : Ent), es[j]? = some x → j < i → x.n ≠ n) (fun i => [(0, ptr p), (1, .int .i64 n), (5, .int .i64 (i : Int))]) (fun _ => [(p, .c [.slice (some ⟨b, pre.length, none⟩) es.length (es.length + r)] 115 0 0), (b, .c (pre ++ entC es ++ rest) 121 0 0)]) (fun i => es.length - i) 0 ⟨Nat.zero_le _, fun j x _ hj => absurd hj (Nat.not_lt_zero _)⟩ ⟨rfl, rfl, rfl, trivial⟩ (List.Sublist.refl _) ?_
  intro i hi ih
  obtain ⟨hi0, hi1⟩ := hi
  refine z_weaken [(0, ptr p), (1, .int .i64 n), (5, .int .i64 (i : Int))] [(p, .c [.slice (some ⟨b, pre.length, none⟩) es.length (es.length + r)] 115 0 0), (b, .c (pre ++ entC es ++ rest) 121 0 0)] ⟨rfl, rfl, rfl, trivial⟩ (List.Sublist.refl _) (fun _ h => h) ?_
  by_cases hlt : i < es.length
  · obtain ⟨e, he⟩ : ∃ e, es[i]? = some e := ⟨_, List.getElem?_eq_getElem hlt⟩
    repeat (first | (refine st ?_) | (refine stx ?_) | (refine sb ?_) | (intro _))
    refine zx_idxA (sz := i * 3) tab_ok rfl rfl rfl rfl rfl rfl (by omega) (by omega) (by simp) ?_
    repeat (first | (refine st ?_) | (refine stx ?_) | (intro _))
    refine zx_load tab_ok 1 rfl rfl rfl rfl rfl (ent_at (j := 0) he rfl) rfl ?_
    repeat (first | (refine st ?_) | (refine stx ?_) | (intro _))
    by_cases hen : e.n = n
    · have ho : out = (i : Int) := by
        rcases hout with ⟨i', e', h1, h2, h3, h4⟩ | ⟨h1, _⟩
        · rcases Nat.lt_trichotomy i i' with hl | hl | hl
          · exact absurd hen (h3 i e he hl)
          · rw [h4, hl]
          · exact absurd h2 (hi1 i' e' h1 hl)
        · exact absurd hen (h1 i e he)
      subst ho
      refine z_re 24 (.bool true) rfl (congrArg _ (beq_iff_eq.2 hen)) ?_
      repeat (first | (refine st ?_) | (refine stx ?_) | (intro _))
      refine z_ret1 tab_ok Try.func65 hb hk Try.results65 (.tmp rfl) (fun w hm => ?_)
      exact ⟨rfl, MQ.back h hm (List.Sublist.refl _)⟩
    · refine z_re 24 (.bool false) rfl (congrArg _ (beq_eq_false_iff_ne.2 hen)) ?_
      repeat (first | (refine st ?_) | (refine stx ?_) | (intro _))
      refine z_re 5 (.int .i64 ((i + 1 : Nat) : Int)) rfl (congrArg _ (wrW (by omega) (by omega))) ?_
      refine z_weaken _ _ ?_ (List.Sublist.refl _) (fun _ h => h) (ih (i + 1) ⟨hlt, fun j x hx hj => ?_⟩ (by omega))
      · exact ⟨rfl, rfl, rfl, trivial⟩
      · rcases Nat.lt_or_eq_of_le (Nat.le_of_lt_succ hj) with hj | hj
        · exact hi1 j x hx hj
        · subst hj
          rw [he] at hx
          cases hx
          exact hen
  · have ho : out = -1 := by
      rcases hout with ⟨i', e', h1, h2, h3, h4⟩ | ⟨_, h1⟩
      · have := (List.getElem?_eq_some_iff.1 h1).1
        exact absurd h2 (hi1 i' e' h1 (by omega))
      · exact h1
    subst ho
    repeat (first | (refine st ?_) | (refine stx ?_) | (refine sb ?_) | (intro _))
    refine z_ret1 tab_ok Try.func65 hb hk Try.results65 (.tmp rfl) (fun w hm => ?_)
    exact ⟨rfl, MQ.back h hm (List.Sublist.refl _)⟩
end Go.Proofs.Ytabcaiecoiejkaa
namespace Go.Proofs.Ytabcaiecoiejkaa
open Go K Go.RowKit Go.Maps Go.Sort Go.Shelf

/-- nothing that was known was turned; what is new is known -/
theorem Mem.back2 {w w' : World} {N S L : Mm} (h : Mem w (S.map (·.1)) S w) (hm : Mem w (S.map (·.1)) L w') (hL : (N ++ S).Sublist L) : Mem w [] N w' := by
  have h1 := Mem.back (hm.weaken (fun _ h => h) ((List.sublist_append_right N S).trans hL)) h.known (fun k hk => hk)
  have h2 := hm.weaken (fun _ h => h) hL
  have hnd := h2.nd
  rw [List.map_append, List.nodup_append] at hnd
  refine ⟨h1.size, h1.tape, h1.os, h1.out, h1.base, fun p hp => h2.known p (List.mem_append_left _ hp), fun p hp => .inr ?_, hnd.1⟩
  rcases h2.kept p (List.mem_append_left _ hp) with hk | hk
  · exact absurd rfl (hnd.2.2 p.1 (List.mem_map.2 ⟨p, hp, rfl⟩) p.1 hk)
  · exact hk
theorem Lst.row {w w' : World} {v : Value} {l : List Int} (h : Lst w w' v l) (hm : Mem w [] [] w') : ∃ (o : Own) (xs : List Int), xs.Perm l ∧ xs.Pairwise (· ≤ ·) ∧ RowOk 1 o l.length (xs.map (Value.int .i64)) ∧ v = rowV o l.length ∧ Mem w [] (rowL 3 o (xs.map (Value.int .i64))) w' := by
  obtain ⟨ss, hp, hlen, hr⟩ := h
  have hxs : (ss.mergeSort fun x y => decide (x ≤ y)).Perm l := (List.mergeSort_perm _ _).trans hp
  have hpw : (ss.mergeSort fun x y => decide (x ≤ y)).Pairwise (· ≤ ·) := (List.pairwise_mergeSort (le := fun x y : Int => decide (x ≤ y)) (fun a b c h1 h2 => decide_eq_true (Int.le_trans (of_decide_eq_true h1) (of_decide_eq_true h2))) (fun a b => by
    simp only [Bool.or_eq_true, decide_eq_true_eq]; omega) ss).imp (fun h => of_decide_eq_true h)
  have hl := hp.length_eq
  have hlm : ((ss.mergeSort fun x y => decide (x ≤ y)).map (Value.int .i64)).length = l.length * 1 := by rw [List.length_map, hxs.length_eq, Nat.mul_one]
  rcases hr with ⟨hv, hn⟩ | ⟨g, cap, cur, hv, hg, hb, hc1, hc2, hsz, htk⟩
  · have hl0 : l.length = 0 := by omega
    have h0 : (ss.mergeSort fun x y => decide (x ≤ y)) = [] := List.eq_nil_of_length_eq_zero (by rw [hxs.length_eq, hl0])
    refine ⟨none, _, hxs, hpw, ⟨hlm, fun _ => hl0, fun _ _ _ _ h => by cases h⟩, by rw [hv, hl0]; rfl, ?_⟩
    exact hm
  · refine ⟨some (g, [], cap - ss.length, cur.toList.drop ss.length), _, hxs, hpw, ⟨hlm, (fun h => by cases h), ?_⟩, ?_, ?_⟩
    · intro b pre r rest h
      simp only [Option.some.injEq, Prod.mk.injEq] at h
      obtain ⟨rfl, rfl, rfl, rfl⟩ := h
      have hcl : cur.toList.length = cap := by rw [Array.length_toList, hsz, Nat.mul_one]
      rw [List.length_drop, hcl, Nat.mul_one]
      exact Nat.le_refl _
    · rw [hv]
      show Value.slice (some ⟨g, 0, none⟩) ss.length cap = Value.slice (some ⟨g, 0, none⟩) l.length (l.length + (cap - ss.length))
      rw [← hl, show ss.length + (cap - ss.length) = cap by omega]
    · rw [Nat.mul_one] at htk
      have hcur : cur.toList = (ss.mergeSort fun x y => decide (x ≤ y)).map (Value.int .i64) ++ cur.toList.drop ss.length := by
        have := List.take_append_drop ss.length cur.toList
        rw [htk] at this
        exact this.symm
      refine ⟨hm.size, hm.tape, hm.os, hm.out, hm.base, fun p hp => ?_, fun p hp => ?_, by simp [rowL]⟩
      · obtain rfl := List.mem_singleton.1 hp
        show w'.heap[g]? = some (.cells ([] ++ _ ++ _ : List Value).toArray 3 (0, 0))
        rw [List.nil_append, ← hcur, hb]
      · obtain rfl := List.mem_singleton.1 hp
        exact .inr hg
/-- what List hands back: the numbers that are open, in order, in a row of its own -/
def Lso (x : Pq) (o : Own) (xs : List Int) : Prop := xs.Perm (x.cs.map Chn.n) ∧ xs.Pairwise (· ≤ ·) ∧ RowOk 1 o x.cs.length (xs.map (Value.int .i64))
theorem ListO (x : Pq) (hx : WQ x) (hl : x.cs.length ≤ 16) (hr : inRange x.cs) (w : World) (hw : Mem w ((mQ x).map (·.1)) (mQ x) w) :
    Calls Try.prog 63 [ptr x.p].toArray w fun e w' => ∃ y : Own × List Int, Lso x y.1 y.2 ∧ e = .returned (rowV y.1 x.cs.length) ∧ Mem w [] (rowL 3 y.1 (y.2.map (Value.int .i64))) w' := by
  obtain ⟨p, sq⟩ := x
  cases sq with
  | none =>
    have hw : Mem w [p] [pP p none] w := hw
    refine calls_of_z Try.func63 rfl Try.ntmps63 rfl hw ?_; intro cs b hb hk
    repeat (first | (refine st ?_) | (refine stx ?_) | (intro _))
    refine zx_call (Y := Nat) (v := fun k => .func (.func 135) #[] #[ptr k]) (Φ := fun _ => True) (L' := fun k => [(k, .c [.map none] 158 0 0), pP p none]) rfl fnc116 rfl rfl (fun w1 hm1 => (Keys3_any none w1).mono fun e w' ⟨k, _, he, hm'⟩ => ⟨k, trivial, he, hm1.trans0 hm'⟩) (fun k _ => ?_)
    refine zx_call (Y := Own × List Int) (v := fun y => rowV y.1 0) (Φ := fun y => Lso ⟨p, none⟩ y.1 y.2) (L' := fun y => rowL 3 y.1 (y.2.map (Value.int .i64)) ++ [(k, .c [.map none] 158 0 0), pP p none]) rfl fnc109 rfl rfl (fun w1 hm1 => (Sorted3_nil k w1 (hm1.cell (i := 0) rfl)).mono fun e w' ⟨v, hv, he, hm'⟩ => by
      obtain ⟨o, xs, h1, h2, h3, h4, h5⟩ := hv.row hm'
      exact ⟨(o, xs), ⟨h1, h2, h3⟩, by rw [he, h4]; rfl, hm1.trans0 h5⟩) (fun y hy => ?_)
    repeat (first | (refine st ?_) | (refine stx ?_) | (intro _))
    refine z_ret1 tab_ok Try.func63 hb hk Try.results63 (.tmp rfl) (fun w hm => ?_)
    refine ⟨y, hy, rfl, ?_⟩
    exact Mem.back2 (S := [pP p none]) hw hm (List.Sublist.append (List.Sublist.refl _) (List.Sublist.cons _ (List.Sublist.refl _)))
  | some z =>
    obtain ⟨mb, ck, ds⟩ := z
    obtain ⟨hs1, hs2⟩ : (∀ x ∈ ds, x.ck < ck) ∧ (ds.map Chn.ck).Nodup := hx.stamp
    have hd : (ds.map Chn.n).Nodup := hx.dist
    have hw : Mem w ((mP p mb ck ds).map (·.1)) (mP p mb ck ds) w := hw
    refine calls_of_z Try.func63 rfl Try.ntmps63 rfl hw ?_; intro cs b hb hk
    repeat (first | (refine st ?_) | (refine stx ?_) | (intro _))
    refine zx_call (Y := Nat) (v := fun k => .func (.func 135) #[] #[ptr k]) (Φ := fun _ => True) (L' := fun k => (k, .c [.map (some mb)] 158 0 0) :: mP p mb ck ds) rfl fnc116 rfl rfl (fun w1 hm1 => (Keys3_any (some mb) w1).mono fun e w' ⟨k, _, he, hm'⟩ => ⟨k, trivial, he, hm1.trans0 hm'⟩) (fun k _ => ?_)
    refine zx_call (Y := Own × List Int) (v := fun y => rowV y.1 ds.length) (Φ := fun y => Lso ⟨p, some (mb, ck, ds)⟩ y.1 y.2) (L' := fun y => rowL 3 y.1 (y.2.map (Value.int .i64)) ++ (k, .c [.map (some mb)] 158 0 0) :: mP p mb ck ds) rfl fnc109 rfl rfl (fun w1 hm1 => (Sorted3_any k mb ck ds hl hr hd hs1 hs2 w1 (hm1.known _ (List.mem_cons_of_mem _ (List.mem_cons_of_mem _ (List.mem_cons_self ..)))) (hm1.cell (i := 0) rfl)).mono fun e w' ⟨v, hv, he, hm'⟩ => by
      obtain ⟨o, xs, h1, h2, h3, h4, h5⟩ := hv.row hm'
      rw [List.length_map] at h3 h4
      exact ⟨(o, xs), ⟨h1, h2, h3⟩, by rw [he, h4], hm1.trans0 h5⟩) (fun y hy => ?_)
    repeat (first | (refine st ?_) | (refine stx ?_) | (intro _))
    refine z_ret1 tab_ok Try.func63 hb hk Try.results63 (.tmp rfl) (fun w hm => ?_)
    refine ⟨y, hy, rfl, ?_⟩
    exact Mem.back2 hw hm (List.Sublist.append (List.Sublist.refl _) (List.Sublist.cons _ (List.Sublist.refl _)))
/-- a new port is open -/
theorem Stp.new {p mb ck : Nat} {cs : List Chn} (hx : WQ ⟨p, some (mb, ck, cs)⟩) {n : Int} (hv : vw cs n = none) (cb d : Nat) : Stp ⟨p, some (mb, ck, cs)⟩ ⟨p, some (mb, ck + 1, cs ++ [Chn.mk n cb ck d [] 0 0])⟩ n (some (d, [])) := by
  have hne := vw_none hv
  have hd0 : (cs.map Chn.n).Nodup := hx.dist
  have hc0 : ∀ x ∈ cs, x.buf.length ≤ x.cap := hx.caps
  obtain ⟨hs1, hs2⟩ : (∀ x ∈ cs, x.ck < ck) ∧ (cs.map Chn.ck).Nodup := hx.stamp
  refine ⟨rfl, ⟨?_, fun c hc => ?_, fun c hc => ?_, ?_⟩, ?_, fun m hm => ?_⟩
  · show ((cs ++ [Chn.mk n cb ck d [] 0 0]).map Chn.n).Nodup
    rw [List.map_append, List.nodup_append]
    refine ⟨hd0, (by simp), fun a ha b hb => ?_⟩
    rw [List.map_singleton, List.mem_singleton] at hb
    obtain ⟨x, hx1, rfl⟩ := List.mem_map.1 ha
    rw [hb]; exact hne x hx1
  · rcases List.mem_append.1 hc with h | h
    · exact hc0 c h
    · rw [List.mem_singleton.1 h]; exact Nat.zero_le _
  · rcases List.mem_append.1 hc with h | h
    · exact Nat.lt_succ_of_lt (hs1 c h)
    · rw [List.mem_singleton.1 h]; exact Nat.lt_succ_self _
  · show ((cs ++ [Chn.mk n cb ck d [] 0 0]).map Chn.ck).Nodup
    rw [List.map_append, List.nodup_append]
    refine ⟨hs2, (by simp), fun a ha b hb => ?_⟩
    rw [List.map_singleton, List.mem_singleton] at hb
    obtain ⟨x, hx1, rfl⟩ := List.mem_map.1 ha
    rw [hb]
    exact Nat.ne_of_lt (hs1 x hx1)
  · exact vw_new (c := ⟨n, cb, ck, d, [], 0, 0⟩) hne
  · exact vw_new_other (c := ⟨n, cb, ck, d, [], 0, 0⟩) m hm
theorem Stp.first (p mb cb d : Nat) (n : Int) : Stp ⟨p, none⟩ ⟨p, some (mb, 1, [Chn.mk n cb 0 d [] 0 0])⟩ n (some (d, [])) := by
  refine ⟨rfl, ⟨nodup1 _, fun c hc => ?_, fun c hc => ?_, nodup1 _⟩, ?_, fun m hm => ?_⟩
  · rw [List.mem_singleton.1 hc]; exact Nat.zero_le _
  · rw [List.mem_singleton.1 hc]; exact Nat.one_pos
  · exact vw_new (cs := []) (c := ⟨n, cb, 0, d, [], 0, 0⟩) (fun x hx => by cases hx)
  · exact vw_new_other (cs := []) (c := ⟨n, cb, 0, d, [], 0, 0⟩) m hm
abbrev opBad (n d : Int) : Prop := n < 0 ∨ 65535 < n ∨ d < 1 ∨ 16 < d
/-- the port that Open is about -/
def opM (V : Int → Vw) (n : Int) : Int := if n = 0 then nxt (fun t => (V t).isSome) 16 49152 else n
def opR (V : Int → Vw) (k : Nat) (n d : Int) : Int × Int := if opBad n d then (0, 1) else if 16 ≤ k then (0, 81) else if (V (opM V n)).isSome = true then (0, 80) else (opM V n, 0)
def opN (V : Int → Vw) (k : Nat) (n d : Int) : Vw := if opBad n d then V (opM V n) else if 16 ≤ k then V (opM V n) else if (V (opM V n)).isSome = true then V (opM V n) else some (d.toNat, [])
theorem nxt_range {V : Int → Bool} : ∀ (f : Nat) (t : Int), t ≤ nxt V f t ∧ nxt V f t ≤ t + f
  | 0, t => by show t ≤ t ∧ t ≤ _; omega
  | f + 1, t => by
    have h := nxt_range (V := V) f (t + 1)
    show t ≤ (if V t = true then _ else _) ∧ (if V t = true then _ else _) ≤ _
    split <;> omega
theorem opM_range {V : Int → Vw} {n d : Int} (h : ¬ opBad n d) : 0 ≤ opM V n ∧ opM V n ≤ 65535 := by
  unfold opM
  have := nxt_range (V := fun t => (V t).isSome) 16 49152
  split <;> omega
theorem OpenVA (x : Pq) (n d : Int) (hx : WQ x) (hl : x.cs.length ≤ 16) : VC 66 [ptr x.p, .int .i64 n, .int .i64 d] x (.tuple #[.int .i64 (opR (vw x.cs) x.cs.length n d).1, .int .i64 (opR (vw x.cs) x.cs.length n d).2]) (opM (vw x.cs) n) (opN (vw x.cs) x.cs.length n d) := by
  unfold opR opN
  by_cases hb : opBad n d
  · rw [if_pos hb, if_pos hb]
    exact VC.ofMC (x' := x) (OpenS_badA x.p (mQ x) n d hb) (Stp.same hx)
  rw [if_neg hb, if_neg hb]
  have hn : 0 ≤ n ∧ n ≤ 65535 := by omega
  obtain ⟨d', rfl⟩ : ∃ d' : Nat, d = (d' : Int) := ⟨d.toNat, by omega⟩
  have hd : 1 ≤ d' ∧ d' ≤ 16 := by omega
  rw [show (d' : Int).toNat = d' by omega]
  clear hb
  by_cases hk : 16 ≤ x.cs.length
  · rw [if_pos hk, if_pos hk]
    obtain ⟨p, st0⟩ := x
    cases st0 with
    | none => exact absurd hk (by show ¬ 16 ≤ 0; decide)
    | some y =>
      obtain ⟨mb, ck, cs⟩ := y
      have hk : 16 ≤ cs.length := hk
      have hl : cs.length ≤ 16 := hl
      exact VC.ofMC (x' := ⟨p, some (mb, ck, cs)⟩) (OpenS_full p mb ck cs n d' hn hd hk (by omega)) (Stp.same hx)
  rw [if_neg hk, if_neg hk]
  have hk : x.cs.length < 16 := by omega
  by_cases h0 : n = 0
  · subst h0
    obtain ⟨p, st0⟩ := x
    cases st0 with
    | none =>
      have hM : opM (vw []) 0 = 49152 := rfl
      intro w hw
      show Calls _ _ _ _ fun e w' => ∃ x' : Pq, Stp _ x' (opM (vw []) 0) (if (vw [] (opM (vw []) 0)).isSome = true then vw [] (opM (vw []) 0) else some (d', [])) ∧ e = .returned (.tuple #[.int .i64 (if (vw [] (opM (vw []) 0)).isSome = true then ((0, 80) : Int × Int) else (opM (vw []) 0, 0)).1, .int .i64 (if (vw [] (opM (vw []) 0)).isSome = true then ((0, 80) : Int × Int) else (opM (vw []) 0, 0)).2]) ∧ Mem w _ (mQ x') w'
      rw [hM]
      exact (OpenS_zero0 p d' hd w hw).mono fun e w' ⟨y, he, hm⟩ => ⟨⟨p, some (y.1, 1, [Chn.mk 49152 y.2 0 d' [] 0 0])⟩, Stp.first p y.1 y.2 d' 49152, he, hm⟩
    | some y =>
      obtain ⟨mb, ck, cs⟩ := y
      have hk : cs.length < 16 := hk
      intro w hw
      refine (OpenS_zero p mb ck cs d' hd hk w hw).mono fun e w' ⟨y, ⟨h1, h2, _, _⟩, he, hm⟩ => ⟨⟨p, some (mb, ck + 1, cs ++ [Chn.mk y.2 y.1 ck d' [] 0 0])⟩, ?_, ?_, hm⟩
      · show Stp _ _ (nxt (fun m => (vw cs m).isSome) 16 49152) (if (vw cs (nxt (fun m => (vw cs m).isSome) 16 49152)).isSome = true then _ else _)
        rw [← h1, h2]
        exact Stp.new hx h2 y.1 d'
      · rw [he]
        show Ending.returned _ = .returned (.tuple #[.int .i64 (if (vw cs (nxt (fun m => (vw cs m).isSome) 16 49152)).isSome = true then ((0, 80) : Int × Int) else (nxt (fun m => (vw cs m).isSome) 16 49152, 0)).1, .int .i64 (if (vw cs (nxt (fun m => (vw cs m).isSome) 16 49152)).isSome = true then ((0, 80) : Int × Int) else (nxt (fun m => (vw cs m).isSome) 16 49152, 0)).2])
        rw [← h1, h2]
        rfl
  · have hM : opM (vw x.cs) n = n := if_neg h0
    rw [hM]
    have h := OpenV x n d' hx (by omega) hd.1 hk
    unfold rOpen nOpen at h
    have h16 : ¬ 16 < d' := by omega
    rw [if_neg h16, if_neg h16] at h
    exact h
end Go.Proofs.Ytabcaiecoiejkaa
namespace Go.Proofs.Ytabcaiecoiejkaa
open Go K

/-- the reference's ports -/
structure Rq where
  p : Nat
  o : Own
  es : List Ent
def rowsE (es : List Ent) : Mm := es.flatMap Ent.row
def mR (y : Rq) : Mm := mF y.p y.o y.es ++ rowsE y.es
def look (es : List Ent) (m : Int) : Vw := (es.find? fun e => e.n == m).map fun e => (e.d, e.ws)
structure WR (y : Rq) : Prop where
  row : RowOk 3 y.o y.es.length (entC y.es)
  rows : ∀ e ∈ y.es, RowOk 1 e.o e.ws.length (strC e.ws)
  caps : ∀ e ∈ y.es, e.ws.length ≤ e.d ∧ e.d ≤ 16
  sorted : y.es.Pairwise fun a b => a.n < b.n
  len : y.es.length ≤ 16
theorem look_none {es : List Ent} {n : Int} (h : look es n = none) : ∀ e ∈ es, e.n ≠ n := by
  unfold look at h
  rw [Option.map_eq_none_iff, List.find?_eq_none] at h
  intro x hx hn
  exact h x hx (beq_iff_eq.2 hn)
theorem look_none_of {es : List Ent} {n : Int} (h : ∀ e ∈ es, e.n ≠ n) : look es n = none := by
  unfold look
  rw [Option.map_eq_none_iff, List.find?_eq_none]
  intro x hx hb
  exact h x hx (beq_iff_eq.1 hb)
theorem look_some {es : List Ent} {n : Int} {v : Nat × List ByteArray} (h : look es n = some v) : ∃ pre e post, es = pre ++ e :: post ∧ e.n = n ∧ (∀ x ∈ pre, x.n ≠ e.n) ∧ v = (e.d, e.ws) := by
  unfold look at h
  obtain ⟨c, hc, hv⟩ := Option.map_eq_some_iff.1 h
  obtain ⟨hn, pre, post, hcs, hp⟩ := List.find?_eq_some_iff_append.1 hc
  refine ⟨pre, c, post, hcs, beq_iff_eq.1 hn, fun x hx hh => ?_, hv.symm⟩
  have := hp x hx
  rw [Bool.not_eq_true', beq_eq_false_iff_ne] at this
  exact this (hh.trans (beq_iff_eq.1 hn))
theorem look_at {pre : List Ent} {e : Ent} {post : List Ent} (h : ∀ x ∈ pre, x.n ≠ e.n) : look (pre ++ e :: post) e.n = some (e.d, e.ws) := by
  unfold look
  have : (pre ++ e :: post).find? (fun x => x.n == e.n) = some e := List.find?_eq_some_iff_append.2 ⟨beq_self_eq_true _, pre, post, rfl, fun x hx => by rw [Bool.not_eq_true', beq_eq_false_iff_ne]; exact h x hx⟩
  rw [this]; rfl
theorem look_other {pre : List Ent} {c c' : Ent} {post : List Ent} (hn : c'.n = c.n) (m : Int) (hm : m ≠ c.n) : look (pre ++ c' :: post) m = look (pre ++ c :: post) m := by
  unfold look
  rw [List.find?_append, List.find?_append, List.find?_cons_of_neg, List.find?_cons_of_neg]
  · rw [beq_iff_eq]; exact fun hh => hm hh.symm
  · rw [beq_iff_eq, hn]; exact fun hh => hm hh.symm
theorem look_struck {pre : List Ent} {c : Ent} {post : List Ent} (m : Int) (hm : m ≠ c.n) : look (pre ++ post) m = look (pre ++ c :: post) m := by
  unfold look
  rw [List.find?_append, List.find?_append, List.find?_cons_of_neg]
  rw [beq_iff_eq]; exact fun hh => hm hh.symm
/-- in a sorted list an entry has its number alone -/
theorem sorted_at {pre post : List Ent} {e : Ent} (h : (pre ++ e :: post).Pairwise fun a b => a.n < b.n) : (∀ x ∈ pre, x.n < e.n) ∧ (∀ x ∈ post, e.n < x.n) := by
  rw [List.pairwise_append] at h
  obtain ⟨_, h2, h3⟩ := h
  exact ⟨fun x hx => h3 x hx e (List.mem_cons_self ..), fun x hx => (List.pairwise_cons.1 h2).1 x hx⟩
/-- y has become y' by a call of port n, where r stands now -/
structure StR (y y' : Rq) (n : Int) (r : Vw) : Prop where
  p : y'.p = y.p
  wr : WR y'
  here : look y'.es n = r
  others : ∀ m, m ≠ n → look y'.es m = look y.es m
theorem StR.same {y : Rq} {n : Int} (h : WR y) : StR y y n (look y.es n) := ⟨rfl, h, rfl, fun _ _ => rfl⟩
theorem entC_app (a b : List Ent) : entC (a ++ b) = entC a ++ entC b := flatC_app a b
theorem entC_cons (e : Ent) (b : List Ent) : entC (e :: b) = e.cells ++ entC b := rfl
/-- one entry turned -/
theorem StR.turn {p : Nat} {o o' : Own} {pre post : List Ent} {e e' : Ent} (h : WR ⟨p, o, pre ++ e :: post⟩) (hn : e'.n = e.n) (hrow : RowOk 3 o' (pre ++ e' :: post).length (entC (pre ++ e' :: post))) (he : RowOk 1 e'.o e'.ws.length (strC e'.ws)) (hc : e'.ws.length ≤ e'.d ∧ e'.d ≤ 16) : StR ⟨p, o, pre ++ e :: post⟩ ⟨p, o', pre ++ e' :: post⟩ e.n (some (e'.d, e'.ws)) := by
  have hs : (pre ++ e :: post).Pairwise fun a b => a.n < b.n := h.sorted
  have hl : (pre ++ e :: post).length ≤ 16 := h.len
  obtain ⟨h1, h2⟩ := sorted_at hs
  refine ⟨rfl, ⟨hrow, fun x hx => ?_, fun x hx => ?_, ?_, ?_⟩, ?_, fun m hm => look_other hn m hm⟩
  · rcases List.mem_append.1 hx with hx | hx
    · exact h.rows x (List.mem_append_left _ hx)
    · rcases List.mem_cons.1 hx with rfl | hx
      · exact he
      · exact h.rows x (List.mem_append_right _ (List.mem_cons_of_mem _ hx))
  · rcases List.mem_append.1 hx with hx | hx
    · exact h.caps x (List.mem_append_left _ hx)
    · rcases List.mem_cons.1 hx with rfl | hx
      · exact hc
      · exact h.caps x (List.mem_append_right _ (List.mem_cons_of_mem _ hx))
  · show (pre ++ e' :: post).Pairwise fun a b => a.n < b.n
    rw [List.pairwise_append, List.pairwise_cons] at hs ⊢
    refine ⟨hs.1, ⟨fun x hx => by rw [hn]; exact hs.2.1.1 x hx, hs.2.1.2⟩, fun a ha b hb => ?_⟩
    rcases List.mem_cons.1 hb with rfl | hb
    · rw [hn]; exact hs.2.2 a ha e (List.mem_cons_self ..)
    · exact hs.2.2 a ha b (List.mem_cons_of_mem _ hb)
  · show (pre ++ e' :: post).length ≤ 16
    simp only [List.length_append, List.length_cons] at hl ⊢
    exact hl
  · rw [← hn]
    exact look_at fun x hx => by rw [hn]; exact Int.ne_of_lt (h1 x hx)
/-- one entry struck -/
theorem StR.struck {p : Nat} {o o' : Own} {pre post : List Ent} {e : Ent} (h : WR ⟨p, o, pre ++ e :: post⟩) (hrow : RowOk 3 o' (pre ++ post).length (entC (pre ++ post))) : StR ⟨p, o, pre ++ e :: post⟩ ⟨p, o', pre ++ post⟩ e.n none := by
  have hs : (pre ++ e :: post).Pairwise fun a b => a.n < b.n := h.sorted
  have hl : (pre ++ e :: post).length ≤ 16 := h.len
  obtain ⟨h1, h2⟩ := sorted_at hs
  have hsub : (pre ++ post).Sublist (pre ++ e :: post) := (List.Sublist.refl _).append (List.Sublist.cons _ (List.Sublist.refl _))
  refine ⟨rfl, ⟨hrow, fun x hx => h.rows x (hsub.subset hx), fun x hx => h.caps x (hsub.subset hx), hs.sublist hsub, Nat.le_trans hsub.length_le hl⟩, ?_, fun m hm => look_struck m hm⟩
  refine look_none_of fun x hx hn => ?_
  rcases List.mem_append.1 hx with hx | hx
  · exact Int.ne_of_lt (h1 x hx) hn
  · exact Int.ne_of_gt (h2 x hx) hn
/-- an entry more -/
theorem StR.more {p : Nat} {o o' : Own} {pre post : List Ent} {n : Int} {d : Nat} (h : WR ⟨p, o, pre ++ post⟩) (h1 : ∀ x ∈ pre, x.n < n) (h2 : ∀ x ∈ post, n < x.n) (hd : d ≤ 16) (hl : (pre ++ post).length < 16) (hrow : RowOk 3 o' (pre ++ (⟨n, d, none, []⟩ : Ent) :: post).length (entC (pre ++ (⟨n, d, none, []⟩ : Ent) :: post))) :
    StR ⟨p, o, pre ++ post⟩ ⟨p, o', pre ++ (⟨n, d, none, []⟩ : Ent) :: post⟩ n (some (d, [])) := by
  have hs : (pre ++ post).Pairwise fun a b => a.n < b.n := h.sorted
  refine ⟨rfl, ⟨hrow, fun x hx => ?_, fun x hx => ?_, ?_, ?_⟩, look_at (e := ⟨n, d, none, []⟩) fun x hx => Int.ne_of_lt (h1 x hx), fun m hm => (look_struck (c := ⟨n, d, none, []⟩) m hm).symm⟩
  · rcases List.mem_append.1 hx with hx | hx
    · exact h.rows x (List.mem_append_left _ hx)
    · rcases List.mem_cons.1 hx with rfl | hx
      · exact RowOk.nil0 1
      · exact h.rows x (List.mem_append_right _ hx)
  · rcases List.mem_append.1 hx with hx | hx
    · exact h.caps x (List.mem_append_left _ hx)
    · rcases List.mem_cons.1 hx with rfl | hx
      · exact ⟨Nat.zero_le _, hd⟩
      · exact h.caps x (List.mem_append_right _ hx)
  · show (pre ++ (⟨n, d, none, []⟩ : Ent) :: post).Pairwise fun a b => a.n < b.n
    rw [List.pairwise_append] at hs
    rw [List.pairwise_append, List.pairwise_cons]
    refine ⟨hs.1, ⟨h2, hs.2.1⟩, fun a ha b hb => ?_⟩
    rcases List.mem_cons.1 hb with rfl | hb
    · exact h1 a ha
    · exact hs.2.2 a ha b hb
  · show (pre ++ (⟨n, d, none, []⟩ : Ent) :: post).length ≤ 16
    simp only [List.length_append, List.length_cons] at hl ⊢
    omega
def RC (f : Nat) (args : List Value) (y : Rq) (v : Value) (n : Int) (r : Vw) : Prop := ∀ w, Mem w ((mR y).map (·.1)) (mR y) w → Calls Try.prog f args.toArray w fun e w' => ∃ y' : Rq, StR y y' n r ∧ e = .returned v ∧ Mem w ((mR y).map (·.1)) (mR y') w'
theorem RC.ofMQ {f : Nat} {args : List Value} {y : Rq} {v : Value} {n : Int} {r : Vw} (h : ∀ w, Mem w ((mR y).map (·.1)) (mR y) w → Calls Try.prog f args.toArray w fun e w' => e = .returned v ∧ Mem w ((mR y).map (·.1)) (mR y) w') (hs : StR y y n r) : RC f args y v n r := fun w hw => (h w hw).mono fun e w' ⟨he, hm⟩ => ⟨y, hs, he, hm⟩
/-- both tell the same -/
structure Rel (x : Pq) (y : Rq) : Prop where
  wx : WQ x
  wy : WR y
  all : ∀ m, vw x.cs m = look y.es m
  rng : ∀ e ∈ y.es, 0 ≤ e.n ∧ e.n ≤ 65535
theorem vw_mem {cs : List Chn} {m : Int} : m ∈ cs.map Chn.n ↔ (vw cs m).isSome = true := by
  constructor
  · intro hm
    cases hv : vw cs m with
    | none =>
      obtain ⟨c, hc, hcn⟩ := List.mem_map.1 hm
      exact absurd hcn (vw_none hv c hc)
    | some v => rfl
  · intro hm
    obtain ⟨v, hv⟩ := Option.isSome_iff_exists.1 hm
    obtain ⟨pre, c, post, h1, h2, _⟩ := vw_some hv
    rw [h1]
    exact List.mem_map.2 ⟨c, List.mem_append_right _ (List.mem_cons_self ..), h2⟩
theorem look_mem {es : List Ent} {m : Int} : m ∈ es.map Ent.n ↔ (look es m).isSome = true := by
  constructor
  · intro hm
    cases hv : look es m with
    | none =>
      obtain ⟨c, hc, hcn⟩ := List.mem_map.1 hm
      exact absurd hcn (look_none hv c hc)
    | some v => rfl
  · intro hm
    obtain ⟨v, hv⟩ := Option.isSome_iff_exists.1 hm
    obtain ⟨pre, c, post, h1, h2, _⟩ := look_some hv
    rw [h1]
    exact List.mem_map.2 ⟨c, List.mem_append_right _ (List.mem_cons_self ..), h2⟩
theorem WR.nums {y : Rq} (h : WR y) : (y.es.map Ent.n).Pairwise (· < ·) := List.pairwise_map.2 h.sorted
theorem WR.dist {y : Rq} (h : WR y) : (y.es.map Ent.n).Nodup := h.nums.imp fun h => Int.ne_of_lt h
theorem Rel.nums {x : Pq} {y : Rq} (h : Rel x y) : (x.cs.map Chn.n).Perm (y.es.map Ent.n) :=
  (List.perm_ext_iff_of_nodup h.wx.dist h.wy.dist).2 fun m => by rw [vw_mem, look_mem, h.all]
theorem Rel.len {x : Pq} {y : Rq} (h : Rel x y) : x.cs.length = y.es.length := by
  have := h.nums.length_eq
  rwa [List.length_map, List.length_map] at this
theorem Rel.inr {x : Pq} {y : Rq} (h : Rel x y) : inRange x.cs := fun c hc => by
  obtain ⟨e, he, hn⟩ := List.mem_map.1 (h.nums.subset (List.mem_map.2 ⟨c, hc, rfl⟩))
  rw [← hn]
  exact h.rng e he
theorem Rel.list {x : Pq} {y : Rq} (h : Rel x y) {o : Own} {xs : List Int} (hl : Lso x o xs) : xs = y.es.map Ent.n := by
  obtain ⟨h1, h2, _⟩ := hl
  exact (h1.trans h.nums).eq_of_pairwise (le := fun a b : Int => a ≤ b) (fun a b _ _ h1 h2 => Int.le_antisymm h1 h2) h2 (h.wy.nums.imp fun h => Int.le_of_lt h)
theorem Rel.step {x x' : Pq} {y y' : Rq} {n : Int} {r : Vw} (h : Rel x y) (hx : Stp x x' n r) (hy : StR y y' n r) (hr : r.isSome = true → (look y.es n).isSome = true ∨ (0 ≤ n ∧ n ≤ 65535)) : Rel x' y' := by
  refine ⟨hx.wq, hy.wr, fun m => ?_, fun e he => ?_⟩
  · by_cases hm : m = n
    · subst hm; rw [hx.here, hy.here]
    · rw [hx.others m hm, hy.others m hm, h.all]
  · have hm : (look y'.es e.n).isSome = true := look_mem.1 (List.mem_map.2 ⟨e, he, rfl⟩)
    have old : (look y.es e.n).isSome = true → 0 ≤ e.n ∧ e.n ≤ 65535 := fun ho => by
      obtain ⟨e2, he2, hn2⟩ := List.mem_map.1 (look_mem.2 ho)
      rw [← hn2]
      exact h.rng e2 he2
    by_cases hn : e.n = n
    · rw [hn, hy.here] at hm
      rw [hn] at old ⊢
      exact (hr hm).elim old id
    · rw [hy.others _ hn] at hm
      exact old hm
theorem Rel.none0 (p q : Nat) : Rel ⟨p, none⟩ ⟨q, none, []⟩ :=
  ⟨⟨List.nodup_nil, (fun c hc => by cases hc), trivial⟩, ⟨RowOk.nil0 3, (fun c hc => by cases hc), (fun c hc => by cases hc), List.Pairwise.nil, Nat.zero_le _⟩, fun _ => rfl, (fun c hc => by cases hc)⟩
end Go.Proofs.Ytabcaiecoiejkaa
