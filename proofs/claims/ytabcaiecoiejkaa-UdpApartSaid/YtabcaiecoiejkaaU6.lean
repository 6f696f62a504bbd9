/- What each call of the ports of strings does, told by what stands at its port alone. -/
import Derived.Test.YtabcaiecoiejkaaU5
set_option maxRecDepth 100000
set_option linter.unusedSimpArgs false
set_option linter.unusedVariables false
set_option maxHeartbeats 2000000
namespace Go.Proofs.Ytabcaiecoiejkaa
open Go K

/-- ports: their block; the map's block, its clock, what is open, if the map has been made -/
structure Pq where
  p : Nat
  st : Option (Nat × Nat × List Chn)
def Pq.cs (x : Pq) : List Chn := match x.st with
  | none => []
  | some y => y.2.2
def mQ (x : Pq) : Mm := match x.st with
  | none => [pP x.p none]
  | some y => mP x.p y.1 y.2.1 y.2.2
abbrev Vw := Option (Nat × List ByteArray)
/-- what stands at a port -/
def vw (cs : List Chn) (n : Int) : Vw := (cs.find? (fun c => c.n == n)).map fun c => (c.cap, c.buf)
def stampOk (x : Pq) : Prop := match x.st with
  | none => True
  | some y => (∀ c ∈ y.2.2, c.ck < y.2.1) ∧ (y.2.2.map Chn.ck).Nodup
structure WQ (x : Pq) : Prop where
  dist : (x.cs.map Chn.n).Nodup
  caps : ∀ c ∈ x.cs, c.buf.length ≤ c.cap
  stamp : stampOk x
theorem nodup1 {α : Type} (a : α) : [a].Nodup := by simp
theorem vw_none {cs : List Chn} {n : Int} (h : vw cs n = none) : ∀ x ∈ cs, x.n ≠ n := by
  unfold vw at h
  rw [Option.map_eq_none_iff, List.find?_eq_none] at h
  intro x hx hn
  exact h x hx (beq_iff_eq.2 hn)
theorem vw_none_of {cs : List Chn} {n : Int} (h : ∀ x ∈ cs, x.n ≠ n) : vw cs n = none := by
  unfold vw
  rw [Option.map_eq_none_iff, List.find?_eq_none]
  intro x hx hb
  exact h x hx (beq_iff_eq.1 hb)
theorem vw_some {cs : List Chn} {n : Int} {v : Nat × List ByteArray} (h : vw cs n = some v) : ∃ pre c post, cs = pre ++ c :: post ∧ c.n = n ∧ (∀ x ∈ pre, x.n ≠ c.n) ∧ v = (c.cap, c.buf) := by
  unfold vw at h
  obtain ⟨c, hc, hv⟩ := Option.map_eq_some_iff.1 h
  obtain ⟨hn, pre, post, hcs, hp⟩ := List.find?_eq_some_iff_append.1 hc
  refine ⟨pre, c, post, hcs, beq_iff_eq.1 hn, fun x hx hh => ?_, hv.symm⟩
  have := hp x hx
  rw [Bool.not_eq_true', beq_eq_false_iff_ne] at this
  exact this (hh.trans (beq_iff_eq.1 hn))
theorem vw_at {pre : List Chn} {c : Chn} {post : List Chn} (h : ∀ x ∈ pre, x.n ≠ c.n) : vw (pre ++ c :: post) c.n = some (c.cap, c.buf) := by
  unfold vw
  have : (pre ++ c :: post).find? (fun x => x.n == c.n) = some c := List.find?_eq_some_iff_append.2 ⟨beq_self_eq_true _, pre, post, rfl, fun x hx => by rw [Bool.not_eq_true', beq_eq_false_iff_ne]; exact h x hx⟩
  rw [this]; rfl
theorem vw_other {pre : List Chn} {c c' : Chn} {post : List Chn} (hn : c'.n = c.n) (m : Int) (hm : m ≠ c.n) : vw (pre ++ c' :: post) m = vw (pre ++ c :: post) m := by
  unfold vw
  rw [List.find?_append, List.find?_append, List.find?_cons_of_neg, List.find?_cons_of_neg]
  · rw [beq_iff_eq]; exact fun hh => hm hh.symm
  · rw [beq_iff_eq, hn]; exact fun hh => hm hh.symm
theorem vw_struck {pre : List Chn} {c : Chn} {post : List Chn} (m : Int) (hm : m ≠ c.n) : vw (pre ++ post) m = vw (pre ++ c :: post) m := by
  unfold vw
  rw [List.find?_append, List.find?_append, List.find?_cons_of_neg]
  rw [beq_iff_eq]; exact fun hh => hm hh.symm
theorem vw_new {cs : List Chn} {c : Chn} (h : ∀ x ∈ cs, x.n ≠ c.n) : vw (cs ++ [c]) c.n = some (c.cap, c.buf) := vw_at (post := []) h
theorem vw_new_other {cs : List Chn} {c : Chn} (m : Int) (hm : m ≠ c.n) : vw (cs ++ [c]) m = vw cs m := by
  unfold vw
  rw [List.find?_append, List.find?_cons_of_neg (by rw [beq_iff_eq]; exact fun hh => hm hh.symm), List.find?_nil, Option.or_none]
/-- x has become x' by a call of port n, where r stands now -/
structure Stp (x x' : Pq) (n : Int) (r : Vw) : Prop where
  p : x'.p = x.p
  wq : WQ x'
  here : vw x'.cs n = r
  others : ∀ m, m ≠ n → vw x'.cs m = vw x.cs m
theorem Stp.same {x : Pq} {n : Int} (h : WQ x) : Stp x x n (vw x.cs n) := ⟨rfl, h, rfl, fun _ _ => rfl⟩
def VC (f : Nat) (args : List Value) (x : Pq) (v : Value) (n : Int) (r : Vw) : Prop := ∀ w, Mem w ((mQ x).map (·.1)) (mQ x) w → Calls Try.prog f args.toArray w fun e w' => ∃ x' : Pq, Stp x x' n r ∧ e = .returned v ∧ Mem w ((mQ x).map (·.1)) (mQ x') w'
theorem VC.use {f : Nat} {args : List Value} {x : Pq} {v : Value} {n : Int} {r : Vw} (h : VC f args x v n r) {w0 w : World} {ks : List Nat} {R : Mm} (hm : Mem w0 ks (R ++ mQ x) w) :
    Calls Try.prog f args.toArray w fun e w' => ∃ x' : Pq, Stp x x' n r ∧ e = .returned v ∧ Mem w0 ks (R ++ mQ x') w' := by
  have hm2 := hm.perm (L' := mQ x ++ R) List.perm_append_comm
  refine (h w (Mem.now (S := mQ x) (R := R) hm2)).mono fun e w' ⟨x', hs, he, hm'⟩ => ⟨x', hs, he, ?_⟩
  exact (Mem.call (S := mQ x) (S' := mQ x') (R := R) hm2 hm').perm List.perm_append_comm
theorem VC.ofMC {f : Nat} {args : List Value} {x x' : Pq} {v : Value} {n : Int} {r : Vw} (h : MC f args (mQ x) (mQ x') v) (hs : Stp x x' n r) : VC f args x v n r := fun w hw => (h w hw).mono fun e w' ⟨he, hm⟩ => ⟨x', hs, he, hm⟩
/-- one port's channel turned -/
theorem Stp.turn {p mb ck : Nat} {pre : List Chn} {c c' : Chn} {post : List Chn} (h : WQ ⟨p, some (mb, ck, pre ++ c :: post)⟩) (hne : ∀ x ∈ pre, x.n ≠ c.n) (hn : c'.n = c.n) (hk : c'.ck = c.ck) (hb : c'.buf.length ≤ c'.cap) : Stp ⟨p, some (mb, ck, pre ++ c :: post)⟩ ⟨p, some (mb, ck, pre ++ c' :: post)⟩ c.n (some (c'.cap, c'.buf)) := by
  have hd : ((pre ++ c :: post).map Chn.n).Nodup := h.dist
  have hc : ∀ x ∈ pre ++ c :: post, x.buf.length ≤ x.cap := h.caps
  obtain ⟨hs1, hs2⟩ : (∀ x ∈ pre ++ c :: post, x.ck < ck) ∧ ((pre ++ c :: post).map Chn.ck).Nodup := h.stamp
  have e1 : (pre ++ c' :: post).map Chn.n = (pre ++ c :: post).map Chn.n := by rw [List.map_append, List.map_append, List.map_cons, List.map_cons, hn]
  have e2 : (pre ++ c' :: post).map Chn.ck = (pre ++ c :: post).map Chn.ck := by rw [List.map_append, List.map_append, List.map_cons, List.map_cons, hk]
  refine ⟨rfl, ⟨?_, ?_, ?_, ?_⟩, ?_, fun m hm => vw_other hn m hm⟩
  · show ((pre ++ c' :: post).map Chn.n).Nodup
    rw [e1]; exact hd
  · intro x hx
    rcases List.mem_append.1 hx with hx | hx
    · exact hc x (List.mem_append_left _ hx)
    · rcases List.mem_cons.1 hx with rfl | hx
      · exact hb
      · exact hc x (List.mem_append_right _ (List.mem_cons_of_mem _ hx))
  · intro x hx
    rcases List.mem_append.1 hx with hx | hx
    · exact hs1 x (List.mem_append_left _ hx)
    · rcases List.mem_cons.1 hx with rfl | hx
      · show x.ck < ck
        rw [hk]; exact hs1 c (List.mem_append_right _ (List.mem_cons_self ..))
      · exact hs1 x (List.mem_append_right _ (List.mem_cons_of_mem _ hx))
  · show ((pre ++ c' :: post).map Chn.ck).Nodup
    rw [e2]; exact hs2
  · have := vw_at (c := c') (post := post) (pre := pre) (fun x hx => by rw [hn]; exact hne x hx)
    rw [hn] at this
    exact this
def rTake : Vw → ByteArray × Int
  | none => (⟨#[]⟩, 80)
  | some (_, []) => (⟨#[]⟩, 82)
  | some (_, x :: _) => (x, 0)
def nTake : Vw → Vw
  | none => none
  | some (c, []) => some (c, [])
  | some (c, _ :: l) => some (c, l)
theorem TakeV (x : Pq) (n : Int) (hx : WQ x) : VC 69 [ptr x.p, .int .i64 n] x (.tuple #[.string (rTake (vw x.cs n)).1, .int .i64 (rTake (vw x.cs n)).2]) n (nTake (vw x.cs n)) := by
  obtain ⟨p, st⟩ := x
  cases st with
  | none => exact VC.ofMC (x' := ⟨p, none⟩) (TakeS_nil p n) (Stp.same hx)
  | some y =>
    obtain ⟨mb, ck, cs⟩ := y
    cases hv : vw cs n with
    | none =>
      have h1 := TakeS_miss p mb ck cs n (vw_none hv)
      have h2 : Stp ⟨p, some (mb, ck, cs)⟩ ⟨p, some (mb, ck, cs)⟩ n (vw cs n) := Stp.same hx
      show VC 69 _ _ (.tuple #[.string (rTake (vw cs n)).1, .int .i64 (rTake (vw cs n)).2]) n (nTake (vw cs n))
      rw [hv] at h2 ⊢
      exact VC.ofMC (x' := ⟨p, some (mb, ck, cs)⟩) h1 h2
    | some v =>
      obtain ⟨pre, c, post, rfl, rfl, hne, rfl⟩ := vw_some hv
      show VC 69 _ _ (.tuple #[.string (rTake (vw (pre ++ c :: post) c.n)).1, .int .i64 (rTake (vw (pre ++ c :: post) c.n)).2]) c.n (nTake (vw (pre ++ c :: post) c.n))
      have h2 : Stp ⟨p, some (mb, ck, pre ++ c :: post)⟩ ⟨p, some (mb, ck, pre ++ c :: post)⟩ c.n (vw (pre ++ c :: post) c.n) := Stp.same hx
      rw [hv] at h2 ⊢
      cases hb : c.buf with
      | nil =>
        rw [hb] at h2
        exact VC.ofMC (x' := ⟨p, some (mb, ck, pre ++ c :: post)⟩) (TakeS_none p mb ck pre c post hne hb) h2
      | cons z rest =>
        have hcap := hx.caps c (List.mem_append_right _ (List.mem_cons_self ..))
        rw [hb] at hcap
        exact VC.ofMC (x' := ⟨p, some (mb, ck, pre ++ { c with buf := rest, r := c.r + 1 } :: post)⟩) (TakeS_one p mb ck pre c post hne z rest hb) (Stp.turn (c' := { c with buf := rest, r := c.r + 1 }) hx hne rfl rfl (by show rest.length ≤ c.cap; simp only [List.length_cons] at hcap; omega))
def rShut : Vw → Int
  | none => 80
  | some _ => 0
theorem ShutV (x : Pq) (n : Int) (hx : WQ x) : VC 67 [ptr x.p, .int .i64 n] x (.int .i64 (rShut (vw x.cs n))) n none := by
  obtain ⟨p, st⟩ := x
  cases st with
  | none => exact VC.ofMC (x' := ⟨p, none⟩) (ShutS_nil p n) (Stp.same hx)
  | some y =>
    obtain ⟨mb, ck, cs⟩ := y
    cases hv : vw cs n with
    | none =>
      have h1 := ShutS_miss p mb ck cs n (vw_none hv)
      have h2 : Stp ⟨p, some (mb, ck, cs)⟩ ⟨p, some (mb, ck, cs)⟩ n (vw cs n) := Stp.same hx
      show VC 67 _ _ (.int .i64 (rShut (vw cs n))) n none
      rw [hv] at h2 ⊢
      exact VC.ofMC (x' := ⟨p, some (mb, ck, cs)⟩) h1 h2
    | some v =>
      obtain ⟨pre, c, post, rfl, rfl, hne, rfl⟩ := vw_some hv
      show VC 67 _ _ (.int .i64 (rShut (vw (pre ++ c :: post) c.n))) c.n none
      rw [hv]
      have hd : ((pre ++ c :: post).map Chn.n).Nodup := hx.dist
      have hc : ∀ x ∈ pre ++ c :: post, x.buf.length ≤ x.cap := hx.caps
      obtain ⟨hs1, hs2⟩ : (∀ x ∈ pre ++ c :: post, x.ck < ck) ∧ ((pre ++ c :: post).map Chn.ck).Nodup := hx.stamp
      have hsub : (pre ++ post).Sublist (pre ++ c :: post) := (List.Sublist.refl _).append (List.Sublist.cons _ (List.Sublist.refl _))
      refine VC.ofMC (x' := ⟨p, some (mb, ck, pre ++ post)⟩) (ShutS_hit p mb ck pre c post hne) ⟨rfl, ⟨hd.sublist (hsub.map _), fun x hx => hc x (hsub.subset hx), fun x hx => hs1 x (hsub.subset hx), hs2.sublist (hsub.map _)⟩, ?_, fun m hm => vw_struck m hm⟩
      refine vw_none_of fun x hxm hxn => ?_
      rw [List.map_append, List.map_cons, List.nodup_append, List.nodup_cons] at hd
      rcases List.mem_append.1 hxm with h | h
      · exact hne x h hxn
      · exact hd.2.1.1 (List.mem_map.2 ⟨x, h, hxn⟩)
def rOpen (v : Vw) (n : Int) (d : Nat) : Int × Int := if 16 < d then (0, 1) else if v.isSome then (0, 80) else (n, 0)
def nOpen (v : Vw) (d : Nat) : Vw := if 16 < d then v else if v.isSome then v else some (d, [])
theorem OpenV (x : Pq) (n : Int) (d : Nat) (hx : WQ x) (hn : 1 ≤ n ∧ n ≤ 65535) (hd : 1 ≤ d) (hl : x.cs.length < 16) : VC 66 [ptr x.p, .int .i64 n, .int .i64 (d : Int)] x (.tuple #[.int .i64 (rOpen (vw x.cs n) n d).1, .int .i64 (rOpen (vw x.cs n) n d).2]) n (nOpen (vw x.cs n) d) := by
  unfold rOpen nOpen
  by_cases h16 : 16 < d
  · rw [if_pos h16, if_pos h16]
    exact VC.ofMC (OpenS_bad x.p (mQ x) n d hn (.inr (by omega))) (Stp.same hx)
  · rw [if_neg h16, if_neg h16]
    obtain ⟨p, st⟩ := x
    cases st with
    | none =>
      intro w hw
      refine (OpenS_first p n d hn ⟨hd, by omega⟩ w hw).mono fun e w' ⟨y, he, hm⟩ => ⟨⟨p, some (y.1, 1, [Chn.mk n y.2 0 d [] 0 0])⟩, ⟨rfl, ⟨nodup1 _, fun c hc => ?_, fun c hc => ?_, nodup1 _⟩, ?_, fun m hm => ?_⟩, he, hm⟩
      · rw [List.mem_singleton.1 hc]; exact Nat.zero_le _
      · rw [List.mem_singleton.1 hc]; exact Nat.one_pos
      · exact vw_new (cs := []) (c := ⟨n, y.2, 0, d, [], 0, 0⟩) (fun x hx => by cases hx)
      · exact vw_new_other (cs := []) (c := ⟨n, y.2, 0, d, [], 0, 0⟩) m hm
    | some y =>
      obtain ⟨mb, ck, cs⟩ := y
      have hl : cs.length < 16 := hl
      show VC 66 _ _ (.tuple #[.int .i64 (if (vw cs n).isSome then ((0, 80) : Int × Int) else (n, 0)).1, .int .i64 (if (vw cs n).isSome then ((0, 80) : Int × Int) else (n, 0)).2]) n (if (vw cs n).isSome then vw cs n else some (d, []))
      cases hv : vw cs n with
      | none =>
        have hne := vw_none hv
        have hd0 : (cs.map Chn.n).Nodup := hx.dist
        have hc0 : ∀ x ∈ cs, x.buf.length ≤ x.cap := hx.caps
        obtain ⟨hs1, hs2⟩ : (∀ x ∈ cs, x.ck < ck) ∧ (cs.map Chn.ck).Nodup := hx.stamp
        intro w hw
        refine (OpenS_new p mb ck cs n hne d hn ⟨hd, by omega⟩ hl w hw).mono fun e w' ⟨cb, he, hm⟩ => ⟨⟨p, some (mb, ck + 1, cs ++ [Chn.mk n cb ck d [] 0 0])⟩, ⟨rfl, ⟨?_, fun c hc => ?_, fun c hc => ?_, ?_⟩, ?_, fun m hm => ?_⟩, he, hm⟩
        · show ((cs ++ [Chn.mk n cb ck d [] 0 0]).map Chn.n).Nodup
          rw [List.map_append, List.nodup_append]
          refine ⟨hd0, (by simp), fun a ha b hb => ?_⟩
          rw [List.map_singleton, List.mem_singleton] at hb
          obtain ⟨x, hx1, rfl⟩ := List.mem_map.1 ha
          rw [hb]; exact hne x hx1
        · rcases List.mem_append.1 hc with h | h
          · exact hc0 c h
          · rw [List.mem_singleton.1 h]; exact Nat.zero_le _
        · rcases List.mem_append.1 hc with h | h
          · exact Nat.lt_succ_of_lt (hs1 c h)
          · rw [List.mem_singleton.1 h]; exact Nat.lt_succ_self _
        · show ((cs ++ [Chn.mk n cb ck d [] 0 0]).map Chn.ck).Nodup
          rw [List.map_append, List.nodup_append]
          refine ⟨hs2, (by simp), fun a ha b hb => ?_⟩
          rw [List.map_singleton, List.mem_singleton] at hb
          obtain ⟨x, hx1, rfl⟩ := List.mem_map.1 ha
          rw [hb]
          exact Nat.ne_of_lt (hs1 x hx1)
        · exact vw_new (c := ⟨n, cb, ck, d, [], 0, 0⟩) hne
        · exact vw_new_other (c := ⟨n, cb, ck, d, [], 0, 0⟩) m hm
      | some v =>
        obtain ⟨pre, c, post, rfl, rfl, hne, rfl⟩ := vw_some hv
        have h2 : Stp ⟨p, some (mb, ck, pre ++ c :: post)⟩ ⟨p, some (mb, ck, pre ++ c :: post)⟩ c.n (vw (pre ++ c :: post) c.n) := Stp.same hx
        rw [hv] at h2
        exact VC.ofMC (x' := ⟨p, some (mb, ck, pre ++ c :: post)⟩) (OpenS_dup p mb ck pre c post hne d hn ⟨hd, by omega⟩ hl) h2
def rWait : Vw → Int
  | none => 0
  | some v => (v.2.length : Int)
theorem WaitV (x : Pq) (n : Int) : MQ 64 [ptr x.p, .int .i64 n] (mQ x) (.int .i64 (rWait (vw x.cs n))) := by
  obtain ⟨p, st⟩ := x
  cases st with
  | none => exact WaitS_nil p n
  | some y =>
    obtain ⟨mb, ck, cs⟩ := y
    show MQ 64 _ _ (.int .i64 (rWait (vw cs n)))
    cases hv : vw cs n with
    | none => exact WaitS_miss p mb ck cs n (vw_none hv)
    | some v =>
      obtain ⟨pre, c, post, rfl, rfl, hne, rfl⟩ := vw_some hv
      exact WaitS_hit p mb ck pre c post hne
def rOffer (v : Vw) (l : List ByteArray) : Int × Int := match v with
  | none => (0, 80)
  | some v => (((min (v.1 - v.2.length) l.length : Nat) : Int), 0)
def nOffer (v : Vw) (l : List ByteArray) : Vw := v.map fun v => (v.1, v.2 ++ l.take (min (v.1 - v.2.length) l.length))
/-- some strings lie in w, in no block of ks -/
def StrsAt (w : World) (ks : List Nat) (ia : Option Addr) (l : List ByteArray) : Prop := ∃ bi ioff : Nat, (l = [] ∨ (ia = some ⟨bi, ioff, none⟩ ∧ bi ∉ ks)) ∧ l.length ≤ 1000000000000000 ∧ ∀ (j : Nat) x, l[j]? = some x → w.cell? ⟨bi, ioff + j, none⟩ = some (.string x)
theorem OfferV (x : Pq) (n : Int) (ia : Option Addr) (l : List ByteArray) (icap : Nat) (hx : WQ x) (w : World) (hw : Mem w ((mQ x).map (·.1)) (mQ x) w) (hl : StrsAt w ((mQ x).map (·.1)) ia l) :
    Calls Try.prog 68 [ptr x.p, .int .i64 n, .slice ia l.length icap].toArray w fun e w' => ∃ x' : Pq, Stp x x' n (nOffer (vw x.cs n) l) ∧ e = .returned (.tuple #[.int .i64 (rOffer (vw x.cs n) l).1, .int .i64 (rOffer (vw x.cs n) l).2]) ∧ Mem w ((mQ x).map (·.1)) (mQ x') w' := by
  obtain ⟨p, st⟩ := x
  cases st with
  | none => exact (OfferS_nil p n _ w hw).mono fun e w' ⟨he, hm⟩ => ⟨⟨p, none⟩, Stp.same hx, he, hm⟩
  | some y =>
    obtain ⟨mb, ck, cs⟩ := y
    show Calls _ _ _ _ fun e w' => ∃ x' : Pq, Stp _ x' n (nOffer (vw cs n) l) ∧ e = .returned (.tuple #[.int .i64 (rOffer (vw cs n) l).1, .int .i64 (rOffer (vw cs n) l).2]) ∧ Mem w _ (mQ x') w'
    cases hv : vw cs n with
    | none =>
      have h2 : Stp ⟨p, some (mb, ck, cs)⟩ ⟨p, some (mb, ck, cs)⟩ n (vw cs n) := Stp.same hx
      rw [hv] at h2
      exact (OfferS_miss p mb ck cs n (vw_none hv) _ w hw).mono fun e w' ⟨he, hm⟩ => ⟨⟨p, some (mb, ck, cs)⟩, h2, he, hm⟩
    | some v =>
      obtain ⟨pre, c, post, rfl, rfl, hne, rfl⟩ := vw_some hv
      obtain ⟨bi, ioff, h1, h2, h3⟩ := hl
      have hcap := hx.caps c (List.mem_append_right _ (List.mem_cons_self ..))
      refine (OfferS_hit p mb ck pre c post hne ia l icap bi ioff h1 h2 hcap w hw h3).mono fun e w' ⟨s', he, hm⟩ => ⟨⟨p, some (mb, ck, pre ++ { c with buf := c.buf ++ l.take (min (c.cap - c.buf.length) l.length), s := s' } :: post)⟩, ?_, he, hm⟩
      exact Stp.turn (c' := { c with buf := c.buf ++ l.take (min (c.cap - c.buf.length) l.length), s := s' }) hx hne rfl rfl (by
        show (c.buf ++ l.take _).length ≤ c.cap
        rw [List.length_append, List.length_take]
        omega)
end Go.Proofs.Ytabcaiecoiejkaa
