/- Walk of layer 22's law: is. Walk of the law SocksPlays: it answers true. -/
import Derived.Test.YtabcaiecoiejkaaQ6
set_option maxRecDepth 100000
set_option linter.unusedSimpArgs false
set_option linter.unusedVariables false
set_option maxHeartbeats 8000000
namespace Go.Proofs.Ytabcaiecoiejkaa
open Go K

theorem is_any (p b : Nat) (nv : Value) (x : Px) (o : Own × Own) (hok : okX x o) (w : World) (h : Mem w ((pX p x o ++ pR b nv x).map (·.1)) (pX p x o ++ pR b nv x) w) :
    Calls Try.prog 50 [fP p 0, fP b 0].toArray w fun e w' => e = .returned (.bool true) ∧ Mem w [] [] w' := by
  have hTA := Target_any p x
  have hST := State_any p x
  have hEC := EndClient_any p x
  have hER := EndRemote_any p x
  have hRC := EndClientR_any b nv x
  have hRR := EndRemoteR_any b nv x
  generalize pEndC x = ec at hEC hRC
  generalize pEndR x = er at hER hRR
  by_cases h3 : x.state = 3
  · rw [if_pos h3, decide_eq_true h3] at hTA
    have h3e : (x.state == 3) = true := beq_iff_eq.2 h3
    refine calls_of_z Try.func50 rfl Try.ntmps50 rfl h ?_; intro cs b' hb hk
    refine z_perm (pR b nv x ++ pX p x o) List.perm_append_comm ?_
    repeat (first | (refine st ?_) | (refine stx ?_) | (refine sb ?_) | (intro _))
    ((try (refine sg ?_)); (refine zx_call0 rfl fnc36 rfl rfl (fun w hm => QC.use (R := pR b nv x) hTA hok hm) ?_))
    repeat (first | (refine st ?_) | (refine stx ?_) | (refine sb ?_) | (intro _))
    ((try (refine sg ?_)); (refine zx_call0 rfl fnc37 rfl rfl (fun w hm => QC.use (R := _ :: _ :: pR b nv x) hST hok hm) ?_))
    repeat (first | (refine st ?_) | (refine stx ?_) | (refine sb ?_) | (intro _))
    refine zx_re 30 (.bool true) rfl (congrArg _ (by simp)) ?_
    repeat (first | (refine st ?_) | (refine stx ?_) | (refine sb ?_) | (intro _))
    refine zx_re 35 (.bool true) rfl (congrArg _ (by first | rfl | (simp; done) | simp [adr0])) ?_
    repeat (first | (refine st ?_) | (refine stx ?_) | (refine sb ?_) | (intro _))
    refine zx_re 44 (.bool true) rfl (congrArg _ (by first | rfl | (rw [h3e]; rfl))) ?_
    repeat (first | (refine st ?_) | (refine stx ?_) | (refine sb ?_) | (intro _))
    ((try (refine sg ?_)); (refine zx_call0 rfl fnc44 rfl rfl (fun w hm => QC.use (R := _ :: _ :: pR b nv x) hEC hok hm) ?_))
    repeat (first | (refine st ?_) | (refine stx ?_) | (refine sb ?_) | (intro _))
    ((try (refine sg ?_)); (refine zx_call0 rfl fnc104 rfl rfl (fun w hm => RQ.use (R := (_ :: [_]) ++ pX p x o) hRC (hm.perm (perm_swap (_ :: [_]) (pX p x o) (pR b nv x)))) ?_))
    repeat (first | (refine st ?_) | (refine stx ?_) | (refine sb ?_) | (intro _))
    refine zx_re 51 (.bool true) rfl (congrArg _ (by simp)) ?_
    repeat (first | (refine st ?_) | (refine stx ?_) | (refine sb ?_) | (intro _))
    ((try (refine sg ?_)); (refine zx_call0 rfl fnc47 rfl rfl (fun w hm => QC.use (R := _ :: _ :: pR b nv x) hER hok hm) ?_))
    repeat (first | (refine st ?_) | (refine stx ?_) | (refine sb ?_) | (intro _))
    ((try (refine sg ?_)); (refine zx_call0 rfl fnc105 rfl rfl (fun w hm => RQ.use (R := (_ :: [_]) ++ pX p x o) hRR (hm.perm (perm_swap (_ :: [_]) (pX p x o) (pR b nv x)))) ?_))
    repeat (first | (refine st ?_) | (refine stx ?_) | (refine sb ?_) | (intro _))
    refine z_ret1 tab_ok Try.func50 hb hk Try.results50 (.tmp rfl) (fun w hm => ?_)
    refine ⟨by first | rfl | simp, ?_⟩
    exact Mem.back ((hm.perm (perm_swap (_ :: [_]) (pX p x o) (pR b nv x))).weaken (L' := pX p x o ++ pR b nv x) (fun _ h => h) (List.Sublist.cons _ (List.Sublist.cons _ (List.Sublist.refl _)))) h.known (fun k hk => hk)
  · rw [if_neg h3, decide_eq_false h3] at hTA
    have h3e : (x.state == 3) = false := beq_eq_false_iff_ne.2 h3
    refine calls_of_z Try.func50 rfl Try.ntmps50 rfl h ?_; intro cs b' hb hk
    refine z_perm (pR b nv x ++ pX p x o) List.perm_append_comm ?_
    repeat (first | (refine st ?_) | (refine stx ?_) | (refine sb ?_) | (intro _))
    ((try (refine sg ?_)); (refine zx_call0 rfl fnc36 rfl rfl (fun w hm => QC.use (R := pR b nv x) hTA hok hm) ?_))
    repeat (first | (refine st ?_) | (refine stx ?_) | (refine sb ?_) | (intro _))
    ((try (refine sg ?_)); (refine zx_call0 rfl fnc37 rfl rfl (fun w hm => QC.use (R := _ :: _ :: pR b nv x) hST hok hm) ?_))
    repeat (first | (refine st ?_) | (refine stx ?_) | (refine sb ?_) | (intro _))
    refine zx_re 30 (.bool true) rfl (congrArg _ (by simp)) ?_
    repeat (first | (refine st ?_) | (refine stx ?_) | (refine sb ?_) | (intro _))
    refine zx_re 35 (.bool true) rfl (congrArg _ (by first | rfl | (simp; done) | simp [adr0])) ?_
    repeat (first | (refine st ?_) | (refine stx ?_) | (refine sb ?_) | (intro _))
    refine zx_re 44 (.bool true) rfl (congrArg _ (by first | rfl | (rw [h3e]; rfl))) ?_
    repeat (first | (refine st ?_) | (refine stx ?_) | (refine sb ?_) | (intro _))
    ((try (refine sg ?_)); (refine zx_call0 rfl fnc44 rfl rfl (fun w hm => QC.use (R := _ :: _ :: pR b nv x) hEC hok hm) ?_))
    repeat (first | (refine st ?_) | (refine stx ?_) | (refine sb ?_) | (intro _))
    ((try (refine sg ?_)); (refine zx_call0 rfl fnc104 rfl rfl (fun w hm => RQ.use (R := (_ :: [_]) ++ pX p x o) hRC (hm.perm (perm_swap (_ :: [_]) (pX p x o) (pR b nv x)))) ?_))
    repeat (first | (refine st ?_) | (refine stx ?_) | (refine sb ?_) | (intro _))
    refine zx_re 51 (.bool true) rfl (congrArg _ (by simp)) ?_
    repeat (first | (refine st ?_) | (refine stx ?_) | (refine sb ?_) | (intro _))
    ((try (refine sg ?_)); (refine zx_call0 rfl fnc47 rfl rfl (fun w hm => QC.use (R := _ :: _ :: pR b nv x) hER hok hm) ?_))
    repeat (first | (refine st ?_) | (refine stx ?_) | (refine sb ?_) | (intro _))
    ((try (refine sg ?_)); (refine zx_call0 rfl fnc105 rfl rfl (fun w hm => RQ.use (R := (_ :: [_]) ++ pX p x o) hRR (hm.perm (perm_swap (_ :: [_]) (pX p x o) (pR b nv x)))) ?_))
    repeat (first | (refine st ?_) | (refine stx ?_) | (refine sb ?_) | (intro _))
    refine z_ret1 tab_ok Try.func50 hb hk Try.results50 (.tmp rfl) (fun w hm => ?_)
    refine ⟨by first | rfl | simp, ?_⟩
    exact Mem.back ((hm.perm (perm_swap (_ :: [_]) (pX p x o) (pR b nv x))).weaken (L' := pX p x o ++ pR b nv x) (fun _ h => h) (List.Sublist.cons _ (List.Sublist.cons _ (List.Sublist.refl _)))) h.known (fun k hk => hk)
end Go.Proofs.Ytabcaiecoiejkaa
namespace Go.Proofs.Ytabcaiecoiejkaa
open Go K

theorem nmAt_rowS {w0 w : World} {ks : List Nat} {R S : Mm} {no : Own} {ns : List Nm} (hm : Mem w0 ks (R ++ S) w) (hR : ∀ q ∈ rowL 83 no (nmC ns), q ∈ R) (hok : RowOk 18 no ns.length (nmC ns)) (hl : ns.length ≤ 1000000000000000) : NmAt w (S.map (·.1)) (sV no ns.length) ns := by
  cases no with
  | none =>
    have h0 : ns = [] := List.eq_nil_of_length_eq_zero (hok.nil rfl)
    subst h0
    exact ⟨none, 0, 0, 0, rfl, .inl rfl, hl, fun i m hi => by simp at hi⟩
  | some q =>
    obtain ⟨b, pre, r, rest⟩ := q
    have hmem := hR _ (List.mem_singleton.2 rfl)
    refine ⟨some ⟨b, pre.length, none⟩, b, pre.length, ns.length + r, rfl, .inr ⟨rfl, fun hk => ?_⟩, hl, fun i m hi j u hu => ?_⟩
    · have hnd := hm.nd
      rw [List.map_append, List.nodup_append] at hnd
      exact hnd.2.2 b (List.mem_map.2 ⟨_, hmem, rfl⟩) b hk rfl
    · have hb := hm.known _ (List.mem_append_left _ hmem)
      have hq := flatC_at nm_len ns i j m u hi hu
      have hlt := (List.getElem?_eq_some_iff.1 hq).1
      simp only [World.cell?, hb, Blk.obj]
      have : (pre ++ nmC ns ++ rest)[pre.length + i * 18 + j]? = some u := by
        rw [List.append_assoc, List.getElem?_append_right (by omega), List.getElem?_append_left (by unfold nmC; omega)]
        rw [show pre.length + i * 18 + j - pre.length = i * 18 + j by omega]
        exact hq
      simpa using this
/-- a call of does beside other things -/
theorem does_use {w0 w : World} {ks : List Nat} {R : Mm} {p b : Nat} {na : Option Addr} {ncap : Nat} {ns : List Nm} {nv nvp : Value} (hnv : nv = .slice na ns.length ncap) {x : Px} {q : Qo} (hq : q.ok) {o : Own × Own} (hok : okX x o) (hx : Sm x nvp) (hm : Mem w0 ks (R ++ (pX p x o ++ pR b nv x)) w)
    (hnp : NmAt w ((pX p x o ++ pR b nv x).map (·.1)) x.names ns) (hnr : NmAt w ((pX p x o ++ pR b nv x).map (·.1)) nv ns) :
    Calls Try.prog 49 [fP p 0, fP b 0, .agg q.cells.toArray].toArray w fun e w' => ∃ g : Px × (Own × Own), (okX g.1 g.2 ∧ Sm g.1 nvp) ∧ e = .returned (.bool true) ∧ Mem w0 ks (R ++ (pX p g.1 g.2 ++ pR b nv g.1)) w' := by
  have hm2 := hm.perm (L' := (pX p x o ++ pR b nv x) ++ R) List.perm_append_comm
  refine (does_any p b na ncap ns nv nvp hnv x q hq o hok hx w (Mem.now (S := pX p x o ++ pR b nv x) (R := R) hm2) hnp hnr).mono fun e w' ⟨g, h1, h2, h3, hm'⟩ => ⟨g, ⟨h1, h2⟩, h3, ?_⟩
  exact (Mem.call (S := pX p x o ++ pR b nv x) (S' := pX p g.1 g.2 ++ pR b nv g.1) (R := R) hm2 hm').perm List.perm_append_comm
theorem is_use {w0 w : World} {ks : List Nat} {R : Mm} {p b : Nat} {nv : Value} {x : Px} {o : Own × Own} (hok : okX x o) (hm : Mem w0 ks (R ++ (pX p x o ++ pR b nv x)) w) :
    Calls Try.prog 50 [fP p 0, fP b 0].toArray w fun e w' => e = .returned (.bool true) ∧ Mem w [] [] w' := by
  have hm2 := hm.perm (L' := (pX p x o ++ pR b nv x) ++ R) List.perm_append_comm
  exact is_any p b nv x o hok w (Mem.now (S := pX p x o ++ pR b nv x) (R := R) hm2)
theorem over_lenX (cs vs : List Value) (i : Nat) : (over cs i vs).length = cs.length := over_len cs vs i
structure Pg where
  i : Nat
  x : Px
  y : Own × Own
theorem SocksPlays_any (user pass : ByteArray) (v : Value) (ns : List Nm) (qs : List Qo) (a : Option Addr) (bs off cap : Nat) (hqs : qs = [] ∨ a = some ⟨bs, off, none⟩) (hqok : ∀ q ∈ qs, q.ok) (hlen : qs.length ≤ 1000000000000000) (w : World) (hn : NmAt w [] v ns) (hsz : ns.length * 40 ≤ 140737488355328)
    (hc : ∀ (i : Nat) q, qs[i]? = some q → ∀ j v, q.cells[j]? = some v → w.cell? ⟨bs, off + i * 21 + j, none⟩ = some v) :
    Calls Try.prog 11 [.agg #[.string user, .string pass, v], .slice a qs.length cap].toArray w fun e w' => e = .returned (.bool true) ∧ Mem w [] [] w' := by
  have hnl : ns.length ≤ 1000000000000000 := by omega
  obtain ⟨na, nb0, noff, ncap, rfl, _, _, _⟩ := id hn
  refine calls_of_z Try.func11 rfl Try.ntmps11 rfl (Mem.refl w) ?_; intro cs b hb hk
  repeat (first | (refine st ?_) | (refine stx ?_) | (refine sb ?_) | (intro _))
  rename_i kc
  ((try (refine sg ?_)); (refine zx_call0 rfl fnc33 rfl rfl (fun w hm => awake22_any w) ?_))
  repeat (first | (refine st ?_) | (refine stx ?_) | (refine sb ?_) | (intro _))
  refine zx_append elt83 tab_ok [(kc, .c [.string user, .string pass, .slice na ns.length ncap] 59 0 0)] none 0 [] rfl rfl rfl rfl rfl rfl (RowOk.nil0 18) (fun w hm => (hn.step (ks1 := []) hm (fun k hk => by cases hk)).src) (by omega) (by omega) ?_
  intro o3 ho3
  rw [Nat.zero_add, List.nil_append] at ho3
  refine zx_re 18 (sV o3 ns.length) rfl (by rw [Nat.zero_add]; exact sV_rowG ho3) ?_
  refine zx_mm ((kc, .c [.string user, .string pass, .slice na ns.length ncap] 59 0 0) :: rowL 83 o3 (nmC ns)) rfl ?_
  repeat (first | (refine st ?_) | (refine stx ?_) | (refine sb ?_) | (intro _))
  rename_i k7
  refine zx_call (Y := Nat × Own) (v := fun g => fP g.1 0) (Φ := fun g => RowOk 18 g.2 ns.length (nmC ns)) (L' := fun g => (((k7, .c [.string user, .string pass, sV o3 ns.length] 59 0 0) :: (kc, .c [.string user, .string pass, .slice na ns.length ncap] 59 0 0) :: rowL 83 o3 (nmC ns)) ++ rowL 83 g.2 (nmC ns)) ++ pX g.1 (pxN user pass (sV g.2 ns.length)) (none, none)) rfl fnc34 rfl rfl
    (fun w1 hm1 => New_use hm1 (by
      have := nmAt_rowS (S := []) (R := (k7, .c [.string user, .string pass, sV o3 ns.length] 59 0 0) :: (kc, .c [.string user, .string pass, .slice na ns.length ncap] 59 0 0) :: rowL 83 o3 (nmC ns)) (no := o3) (by rw [List.append_nil]; exact hm1) (fun q hq => List.mem_cons_of_mem _ (List.mem_cons_of_mem _ hq)) ho3 hnl
      exact this) hsz) (fun g hno => ?_)
  obtain ⟨p, no⟩ := g
  simp only at hno
  repeat (first | (refine st ?_) | (refine stx ?_) | (refine sb ?_) | (intro _))
  rename_i kb
  generalize hx0 : pxN user pass (sV no ns.length) = x0
  have hx00 : okX x0 (none, none) := by rw [← hx0]; exact pxN_ok _ _ _
  have hsm0 : Sm x0 (sV no ns.length) := by
    rw [← hx0]
    exact ⟨⟨Small.nil, Nat.zero_le _, by show 0 + 30 * 4 ≤ 4300; decide, .inl rfl⟩, live_of (.inr (.inl rfl)), rfl⟩
  have hrc : ([.string user, .string pass, .slice na ns.length ncap, .int .i64 0, .string ⟨#[]⟩, .string ⟨#[]⟩, .bool false, .bool false, .bool false, .bool false, .int .u8 0, .int .u8 0, .int .u8 0, .int .u8 0, .int .u8 0, .int .u8 0, .int .u8 0, .int .u8 0, .int .u8 0, .int .u8 0, .int .u8 0, .int .u8 0, .int .u8 0, .int .u8 0, .int .u8 0, .int .u8 0, .int .i64 0] : List Value) = rC (.slice na ns.length ncap) x0 := by rw [← hx0]; rfl
  cases o3 with
  | none =>
    have hns0 : ns.length = 0 := ho3.nil rfl
    refine z_mem ((kb, .c (rC (.slice na ns.length ncap) x0) 81 0 0) :: ((k7, .c [.string user, .string pass, sV none ns.length] 59 0 0) :: (kc, .c [.string user, .string pass, .slice na ns.length ncap] 59 0 0) :: (rowL 83 no (nmC ns) ++ pX p x0 (none, none)))) (by rw [← hrc]; rfl) ?_
    refine z_once ?_
    repeat (first | (refine st ?_) | (refine stx ?_) | (refine sb ?_) | (intro _))
    refine z_perm (((k7, .c [.string user, .string pass, sV none ns.length] 59 0 0) :: (kc, .c [.string user, .string pass, .slice na ns.length ncap] 59 0 0) :: rowL 83 no (nmC ns)) ++ (pX p x0 (none, none) ++ pR kb (.slice na ns.length ncap) x0)) (by rw [← List.append_assoc]; exact List.perm_append_singleton _ _) ?_
    refine z_loop (fun g : Pg => okX g.x g.y ∧ Sm g.x (sV no ns.length) ∧ g.i ≤ qs.length) (fun g => [(1, .slice a qs.length cap), (8, fP p 0), (9, fP kb 0), (11, .int .i64 (g.i : Int))]) (fun g => ((k7, .c [.string user, .string pass, sV none ns.length] 59 0 0) :: (kc, .c [.string user, .string pass, .slice na ns.length ncap] 59 0 0) :: rowL 83 no (nmC ns)) ++ (pX p g.x g.y ++ pR kb (.slice na ns.length ncap) g.x)) (fun g => qs.length - g.i) ⟨0, x0, (none, none)⟩ ⟨hx00, hsm0, Nat.zero_le _⟩ ⟨rfl, rfl, rfl, rfl, trivial⟩ (List.Sublist.refl _) ?_
    intro g hg ih2
    obtain ⟨i, x, y⟩ := g
    obtain ⟨q1, q2, q3⟩ := hg
    simp only at q1 q2 q3
    refine z_weaken [(1, .slice a qs.length cap), (8, fP p 0), (9, fP kb 0), (11, .int .i64 (i : Int))] (((k7, .c [.string user, .string pass, sV none ns.length] 59 0 0) :: (kc, .c [.string user, .string pass, .slice na ns.length ncap] 59 0 0) :: rowL 83 no (nmC ns)) ++ (pX p x y ++ pR kb (.slice na ns.length ncap) x)) ⟨rfl, rfl, rfl, rfl, trivial⟩ (List.Sublist.refl _) (fun _ h => h) ?_
    by_cases hi : i < qs.length
    · obtain ⟨q, hq⟩ : ∃ q, qs[i]? = some q := ⟨_, List.getElem?_eq_getElem hi⟩
      have hqo := hqok q (List.mem_of_getElem? hq)
      have hqc := hc i q hq
      have ha : a = some ⟨bs, off, none⟩ := by
        rcases hqs with h | h
        · rw [h] at hi; exact absurd hi (Nat.not_lt_zero _)
        · exact h
      subst ha
      repeat (first | (refine st ?_) | (refine stx ?_) | (refine sb ?_) | (intro _))
      refine zx_idxA (sz := i * 21) tab_ok rfl rfl rfl rfl rfl rfl (by omega) (by omega) (by simp) ?_
      refine zx_loadBA tab_ok q.cells rfl rfl rfl rfl hqc (by simp) rfl rfl ?_
      repeat (first | (refine st ?_) | (refine stx ?_) | (refine sb ?_) | (intro _))
      refine zx_call (Y := Px × (Own × Own)) (v := fun _ => .bool true) (Φ := fun g => okX g.1 g.2 ∧ Sm g.1 (sV no ns.length)) (L' := fun g => ((k7, .c [.string user, .string pass, sV none ns.length] 59 0 0) :: (kc, .c [.string user, .string pass, .slice na ns.length ncap] 59 0 0) :: rowL 83 no (nmC ns)) ++ (pX p g.1 g.2 ++ pR kb (.slice na ns.length ncap) g.1)) rfl fnc49 rfl rfl
        (fun w1 hm1 => does_use rfl hqo q1 q2 hm1 (by
          rw [q2.names]
          exact nmAt_rowS hm1 (fun z hz => List.mem_cons_of_mem _ (List.mem_cons_of_mem _ hz)) hno hnl) (hn.step hm1 (mem_last _ (pX p x y ++ pR kb (.slice na ns.length ncap) x)))) (fun g hg => ?_)
      obtain ⟨x', y'⟩ := g
      obtain ⟨q1', q2'⟩ := hg
      simp only at q1' q2'
      repeat (first | (refine st ?_) | (refine stx ?_) | (refine sb ?_) | (intro _))
      ((try (refine sg ?_)); (refine zx_call0 rfl fnc50 rfl rfl (fun w hm => is_use (R := _ :: _ :: rowL 83 no (nmC ns)) q1' hm) ?_))
      repeat (first | (refine st ?_) | (refine stx ?_) | (refine sb ?_) | (intro _))
      refine z_re 11 (.int .i64 ((i + 1 : Nat) : Int)) rfl (congrArg _ (by rw [wr64 (by omega) (by omega)]; omega)) ?_
      refine z_weaken _ _ ?_ (List.Sublist.refl _) (fun _ h => h) (ih2 ⟨i + 1, x', y'⟩ ⟨q1', q2', hi⟩ (by show qs.length - (i + 1) < qs.length - i; omega))
      exact ⟨rfl, rfl, rfl, rfl, trivial⟩
    · repeat (first | (refine st ?_) | (refine stx ?_) | (refine sb ?_) | (intro _))
      refine z_ret1 tab_ok Try.func11 hb hk Try.results11 (.tmp rfl) (fun w hm => ?_)
      exact ⟨rfl, hm.bare⟩

  | some q3 =>
    obtain ⟨b3, pre3, r3, rest3⟩ := q3
    have hN := nmC_len ns
    refine z_perm ((b3, .c (pre3 ++ nmC ns ++ rest3) 83 0 0) :: ([(kb, .c (rC (.slice na ns.length ncap) x0) 81 0 0), (k7, .c [.string user, .string pass, sV (some (b3, pre3, r3, rest3)) ns.length] 59 0 0), (kc, .c [.string user, .string pass, .slice na ns.length ncap] 59 0 0)] ++ (rowL 83 no (nmC ns) ++ pX p x0 (none, none)))) (by
      rw [← hrc]
      exact (List.perm_middle (l₁ := [_, _, _])).symm) ?_
    refine z_loop (fun g : Nat × List Value => g.1 ≤ ns.length ∧ g.2.length = pre3.length + ns.length * 18 + rest3.length) (fun g => [(1, .slice a qs.length cap), (6, sV (some (b3, pre3, r3, rest3)) ns.length), (8, fP p 0), (9, fP kb 0), (10, .int .i64 (g.1 : Int))])
      (fun g => (b3, .c g.2 83 0 0) :: ([(kb, .c (rC (.slice na ns.length ncap) x0) 81 0 0), (k7, .c [.string user, .string pass, sV (some (b3, pre3, r3, rest3)) ns.length] 59 0 0), (kc, .c [.string user, .string pass, .slice na ns.length ncap] 59 0 0)] ++ (rowL 83 no (nmC ns) ++ pX p x0 (none, none)))) (fun g => ns.length - g.1) (0, pre3 ++ nmC ns ++ rest3) ⟨Nat.zero_le _, by rw [List.length_append, List.length_append, hN]⟩ ⟨rfl, rfl, rfl, rfl, rfl, trivial⟩ (List.Sublist.refl _) ?_
    intro g hg ih
    obtain ⟨i, cc⟩ := g
    obtain ⟨g1, g2⟩ := hg
    simp only at g1 g2
    refine z_weaken [(1, .slice a qs.length cap), (6, .slice (some ⟨b3, pre3.length, none⟩) ns.length (ns.length + r3)), (8, fP p 0), (9, fP kb 0), (10, .int .i64 (i : Int))] ((b3, .c cc 83 0 0) :: ([(kb, .c (rC (.slice na ns.length ncap) x0) 81 0 0), (k7, .c [.string user, .string pass, sV (some (b3, pre3, r3, rest3)) ns.length] 59 0 0), (kc, .c [.string user, .string pass, .slice na ns.length ncap] 59 0 0)] ++ (rowL 83 no (nmC ns) ++ pX p x0 (none, none)))) ⟨rfl, rfl, rfl, rfl, rfl, trivial⟩ (List.Sublist.refl _) (fun _ h => h) ?_
    by_cases hlt : i < ns.length
    · repeat (first | (refine st ?_) | (refine stx ?_) | (refine sb ?_) | (intro _))
      refine zx_idxA (sz := i * 18) tab_ok rfl rfl rfl rfl rfl rfl (by omega) (by omega) (by simp) ?_
      refine zx_storeG tab_ok 0 rfl rfl rfl rfl rfl rfl rfl rfl (by show pre3.length + i * 18 + 18 ≤ cc.length; omega) ?_
      repeat (first | (refine st ?_) | (refine stx ?_) | (refine sb ?_) | (intro _))
      refine z_re 10 (.int .i64 ((i + 1 : Nat) : Int)) rfl (congrArg _ (by rw [wr64 (by omega) (by omega)]; omega)) ?_
      refine z_weaken _ _ ?_ (List.Sublist.refl _) (fun _ h => h) (ih (i + 1, _) ⟨by show i + 1 ≤ ns.length; omega, by show (over cc _ _).length = _; rw [over_len]; exact g2⟩ (by show ns.length - (i + 1) < ns.length - i; omega))
      exact ⟨rfl, rfl, rfl, rfl, rfl, trivial⟩
    · repeat (first | (refine st ?_) | (refine stx ?_) | (refine sb ?_) | (intro _))
      refine z_weaken [(1, .slice a qs.length cap), (8, fP p 0), (9, fP kb 0), (11, .int .i64 0)] ([(kb, .c (rC (.slice na ns.length ncap) x0) 81 0 0), (k7, .c [.string user, .string pass, sV (some (b3, pre3, r3, rest3)) ns.length] 59 0 0), (kc, .c [.string user, .string pass, .slice na ns.length ncap] 59 0 0)] ++ (rowL 83 no (nmC ns) ++ pX p x0 (none, none))) ⟨rfl, rfl, rfl, rfl, trivial⟩ (List.Sublist.cons _ (List.Sublist.refl _)) (fun _ h => h) ?_
      refine z_perm (((k7, .c [.string user, .string pass, sV (some (b3, pre3, r3, rest3)) ns.length] 59 0 0) :: (kc, .c [.string user, .string pass, .slice na ns.length ncap] 59 0 0) :: rowL 83 no (nmC ns)) ++ (pX p x0 (none, none) ++ pR kb (.slice na ns.length ncap) x0)) (by rw [← List.append_assoc]; exact List.perm_append_singleton _ _) ?_
      refine z_loop (fun g : Pg => okX g.x g.y ∧ Sm g.x (sV no ns.length) ∧ g.i ≤ qs.length) (fun g => [(1, .slice a qs.length cap), (8, fP p 0), (9, fP kb 0), (11, .int .i64 (g.i : Int))]) (fun g => ((k7, .c [.string user, .string pass, sV (some (b3, pre3, r3, rest3)) ns.length] 59 0 0) :: (kc, .c [.string user, .string pass, .slice na ns.length ncap] 59 0 0) :: rowL 83 no (nmC ns)) ++ (pX p g.x g.y ++ pR kb (.slice na ns.length ncap) g.x)) (fun g => qs.length - g.i) ⟨0, x0, (none, none)⟩ ⟨hx00, hsm0, Nat.zero_le _⟩ ⟨rfl, rfl, rfl, rfl, trivial⟩ (List.Sublist.refl _) ?_
      intro g hg ih2
      obtain ⟨i, x, y⟩ := g
      obtain ⟨q1, q2, q3⟩ := hg
      simp only at q1 q2 q3
      refine z_weaken [(1, .slice a qs.length cap), (8, fP p 0), (9, fP kb 0), (11, .int .i64 (i : Int))] (((k7, .c [.string user, .string pass, sV (some (b3, pre3, r3, rest3)) ns.length] 59 0 0) :: (kc, .c [.string user, .string pass, .slice na ns.length ncap] 59 0 0) :: rowL 83 no (nmC ns)) ++ (pX p x y ++ pR kb (.slice na ns.length ncap) x)) ⟨rfl, rfl, rfl, rfl, trivial⟩ (List.Sublist.refl _) (fun _ h => h) ?_
      by_cases hi : i < qs.length
      · obtain ⟨q, hq⟩ : ∃ q, qs[i]? = some q := ⟨_, List.getElem?_eq_getElem hi⟩
        have hqo := hqok q (List.mem_of_getElem? hq)
        have hqc := hc i q hq
        have ha : a = some ⟨bs, off, none⟩ := by
          rcases hqs with h | h
          · rw [h] at hi; exact absurd hi (Nat.not_lt_zero _)
          · exact h
        subst ha
        repeat (first | (refine st ?_) | (refine stx ?_) | (refine sb ?_) | (intro _))
        refine zx_idxA (sz := i * 21) tab_ok rfl rfl rfl rfl rfl rfl (by omega) (by omega) (by simp) ?_
        refine zx_loadBA tab_ok q.cells rfl rfl rfl rfl hqc (by simp) rfl rfl ?_
        repeat (first | (refine st ?_) | (refine stx ?_) | (refine sb ?_) | (intro _))
        refine zx_call (Y := Px × (Own × Own)) (v := fun _ => .bool true) (Φ := fun g => okX g.1 g.2 ∧ Sm g.1 (sV no ns.length)) (L' := fun g => ((k7, .c [.string user, .string pass, sV (some (b3, pre3, r3, rest3)) ns.length] 59 0 0) :: (kc, .c [.string user, .string pass, .slice na ns.length ncap] 59 0 0) :: rowL 83 no (nmC ns)) ++ (pX p g.1 g.2 ++ pR kb (.slice na ns.length ncap) g.1)) rfl fnc49 rfl rfl
          (fun w1 hm1 => does_use rfl hqo q1 q2 hm1 (by
            rw [q2.names]
            exact nmAt_rowS hm1 (fun z hz => List.mem_cons_of_mem _ (List.mem_cons_of_mem _ hz)) hno hnl) (hn.step hm1 (mem_last _ (pX p x y ++ pR kb (.slice na ns.length ncap) x)))) (fun g hg => ?_)
        obtain ⟨x', y'⟩ := g
        obtain ⟨q1', q2'⟩ := hg
        simp only at q1' q2'
        repeat (first | (refine st ?_) | (refine stx ?_) | (refine sb ?_) | (intro _))
        ((try (refine sg ?_)); (refine zx_call0 rfl fnc50 rfl rfl (fun w hm => is_use (R := _ :: _ :: rowL 83 no (nmC ns)) q1' hm) ?_))
        repeat (first | (refine st ?_) | (refine stx ?_) | (refine sb ?_) | (intro _))
        refine z_re 11 (.int .i64 ((i + 1 : Nat) : Int)) rfl (congrArg _ (by rw [wr64 (by omega) (by omega)]; omega)) ?_
        refine z_weaken _ _ ?_ (List.Sublist.refl _) (fun _ h => h) (ih2 ⟨i + 1, x', y'⟩ ⟨q1', q2', hi⟩ (by show qs.length - (i + 1) < qs.length - i; omega))
        exact ⟨rfl, rfl, rfl, rfl, trivial⟩
      · repeat (first | (refine st ?_) | (refine stx ?_) | (refine sb ?_) | (intro _))
        refine z_ret1 tab_ok Try.func11 hb hk Try.results11 (.tmp rfl) (fun w hm => ?_)
        exact ⟨rfl, hm.bare⟩

end Go.Proofs.Ytabcaiecoiejkaa
