/- Walk of package socks: FromClient, of a session that asks no login and knows no names. -/
import Derived.Test.YtabcaiecoiejkaaS7
set_option maxRecDepth 100000
set_option linter.unusedSimpArgs false
set_option linter.unusedVariables false
set_option maxHeartbeats 4000000
namespace Go.Proofs.Ytabcaiecoiejkaa
open Go K

section
variable {c : Cx} {n d : Nat} {F : Fr} {w0 : World} {ks : List Nat} {L : Mm} {D : List Deferred} {k : List Item} {ops : Array Oper} {i : Nat} {rest : List Oper} {ty : TypeId} {pos : String} {af : Array Edge} {g : Option (Nat × Bool)} {tb : Tab}
theorem zx_callW {f : FuncId} {x : Operand} {ar : Array Operand} {ats : Array TypeId} {vs cap : List Value} {Y : Type} {v : Y → Value} {L' : Y → Mm} {Φ : Y → Prop} (hw : wn ops F g = some true) (hx : ev F x = some (.func (.func f) #[] cap.toArray)) (hf : Fnc c.P f) (ha : evs F ar.toList = some vs) (hd : Nat.blt d n = true)
    (hc : ∀ w, Mem w0 ks L w → Calls c.P f (vs ++ cap).toArray w fun e w' => ∃ y, Φ y ∧ e = .returned (v y) ∧ Mem w0 ks (L' y) w')
    (h : ∀ y, Φ y → ZX c false n ((d, v y) :: F) w0 ks (L' y) D ops (i + 1) rest k) : ZX c false n F w0 ks L D ops i (⟨some d, .call ⟨.value x, ar, ats⟩, ty, pos, af, g⟩ :: rest) k :=
  zx_mem (o := ⟨some d, .call ⟨.value x, ar, ats⟩, ty, pos, af, g⟩) (Y := Y) (v := v) (L' := L') (Φ := Φ) hw
    (fun a w _ h2 h3 _ hK => by
      unfold Oper.wp
      rw [run_callC h2 hf hx ha]
      exact (hc w h3).mono fun e w' ⟨y, hy, he, hm⟩ => by subst he; exact hK y w' hy hm)
    (fun y => has_put_d hd (v y)) h
end
def stepsV : Value := .agg #[.func (.func 123) #[] #[], .func (.func 124) #[] #[], .func (.func 125) #[] #[]]
theorem steps_any (w : World) : Calls Try.prog 93 [].toArray w fun e w' => e = .returned stepsV ∧ Mem w [] [] w' := by
  refine calls_of_z Try.func93 rfl Try.ntmps93 rfl (Mem.refl w) ?_; intro cs b hb hk
  repeat (first | (refine st ?_) | (refine stx ?_) | (intro _))
  first | (refine z_ret1A tab_ok Try.func93 hb hk Try.results93 0 rfl rfl rfl rfl rfl rfl (fun w hm => ?_)) | (refine z_ret1A tab_ok Try.func93 hb hk Try.results93 1 rfl rfl rfl rfl rfl rfl (fun w hm => ?_)) | (refine z_ret1A tab_ok Try.func93 hb hk Try.results93 2 rfl rfl rfl rfl rfl rfl (fun w hm => ?_)) | (refine z_ret1A tab_ok Try.func93 hb hk Try.results93 3 rfl rfl rfl rfl rfl rfl (fun w hm => ?_)) | (refine z_ret1A tab_ok Try.func93 hb hk Try.results93 4 rfl rfl rfl rfl rfl rfl (fun w hm => ?_))
  exact ⟨rfl, hm.bare⟩
theorem Small.drop {l : List Int} (h : Small l) (k : Nat) : Small (l.drop k) := fun x hx => h x (List.mem_of_mem_drop hx)
theorem Small.take {l : List Int} (h : Small l) (k : Nat) : Small (l.take k) := fun x hx => h x (List.mem_of_mem_take hx)
theorem Small.app {l m : List Int} (h : Small l) (h' : Small m) : Small (l ++ m) := fun x hx => (List.mem_append.1 hx).elim (h x) (h' x)
theorem Small.nil : Small [] := fun x hx => by cases hx
/-- y comes of x by a step -/
structure Fol (x y : Px) : Prop where
  small : Small x.up → Small y.up
  ups : y.up.length ≤ x.up.length
  downs : y.down.length ≤ x.down.length + 10
  names : y.names = x.names
  user : y.user = x.user
theorem fol_done (x : Px) : Fol x (pDone x) := ⟨fun _ => Small.nil, Nat.zero_le _, Nat.le_add_right _ _, rfl, rfl⟩
theorem fol_fail (code : Int) (x : Px) : Fol x (pFail code x) := ⟨fun _ => Small.nil, Nat.zero_le _, by show (x.down ++ failL code).length ≤ _; rw [List.length_append]; exact Nat.le_refl _, rfl, rfl⟩
theorem fol_failE (code : Int) (x : Px) (e : Nat) : Fol x (pFail code (pEat x e)) := ⟨fun _ => Small.nil, Nat.zero_le _, by show (x.down ++ failL code).length ≤ _; rw [List.length_append]; exact Nat.le_refl _, rfl, rfl⟩
theorem greet_fol {x y : Px} (hu : x.user = noX) (h : pGreet x = some y) : Fol x y ∧ (y.state = 5 ∨ y.state = 2) := by
  unfold pGreet at h
  split at h
  · cases h; exact ⟨fol_done x, .inl rfl⟩
  · split at h
    · try rw [if_pos hu] at h
      split at h
      · cases h
        exact ⟨⟨fun _ => Small.nil, Nat.zero_le _, by show (x.down ++ [5, 255]).length ≤ _; simp, rfl, rfl⟩, .inl rfl⟩
      · cases h
        exact ⟨⟨fun hs => hs.drop _, by show (x.up.drop _).length ≤ _; rw [List.length_drop]; omega, by show (x.down ++ [5, 0]).length ≤ _; simp, rfl, rfl⟩, .inr rfl⟩
    · cases h
theorem reqA_fol {x y : Px} {a : Adr} {e : Nat} (h : pReqA x a e = some y) : Fol x y ∧ (y.state = 5 ∨ y.state = 3) := by
  unfold pReqA at h
  split at h
  · cases h
  · split at h
    · cases h; exact ⟨fol_failE 1 x e, .inl rfl⟩
    · split at h
      · cases h; exact ⟨fol_failE 4 x e, .inl rfl⟩
      · cases h
        exact ⟨⟨fun hs => hs.drop _, by show (x.up.drop _).length ≤ _; rw [List.length_drop]; omega, Nat.le_add_right _ _, rfl, rfl⟩, .inr rfl⟩
theorem req_fol {x y : Px} (h : pReq x = some y) : Fol x y ∧ (y.state = 5 ∨ y.state = 3) := by
  unfold pReq at h
  split at h
  · cases h
  · split at h
    · cases h; exact ⟨fol_fail 1 x, .inl rfl⟩
    · split at h
      · cases h; exact ⟨fol_fail 7 x, .inl rfl⟩
      · split at h
        · exact reqA_fol h
        · split at h
          · exact reqA_fol h
          · split at h
            · split at h
              · split at h
                · cases h; exact ⟨fol_failE 1 x _, .inl rfl⟩
                · cases h; exact ⟨fol_failE 4 x _, .inl rfl⟩
              · cases h
            · cases h; exact ⟨fol_fail 8 x, .inl rfl⟩
/-- what comes of what the client has sent so far -/
def pRun (x : Px) : Px := if x.state = 0 then (match pGreet x with | none => x | some y => if y.state = 2 then (pReq y).getD y else y) else if x.state = 2 then (pReq x).getD x else x
def pRank (x : Px) : Nat := if x.state = 0 then 2 else if x.state = 2 then 1 else 0
def pClient (x : Px) (s : ByteArray) : Px × Int := if x.state = 5 ∨ x.cOver = true then (x, 0) else (pRun { x with up := x.up ++ (bL s).take (min s.size (4096 - x.up.length)) }, (min s.size (4096 - x.up.length) : Nat))
structure Good (x : Px) : Prop where
  small : Small x.up
  ups : x.up.length ≤ 900000
  downs : x.down.length ≤ 900000
  names : x.names = .slice none 0 0
  user : x.user = noX
  state : x.state = 0 ∨ x.state = 2 ∨ 3 ≤ x.state
theorem FromClient_any (p : Nat) (x : Px) (s : ByteArray) (hg : Good x) (hs : s.size ≤ 1000000000000000) : PC 38 [fP p 0, .string s] p x (pClient x s).1 (.int .i64 (pClient x s).2) := by
  intro o w hok h
  unfold pClient
  by_cases h5 : x.state = 5
  · rw [if_pos (.inl h5)]
    refine calls_of_z Try.func38 rfl Try.ntmps38 rfl h ?_; intro cs b hb hk
    repeat (first | (refine st ?_) | (refine stx ?_) | (refine sb ?_) | (intro _))
    refine z_ret1 tab_ok Try.func38 hb hk Try.results38 (.tmp rfl) (fun w hm => ?_)
    exact ⟨o, hok, rfl, hm⟩
  rcases Bool.eq_false_or_eq_true x.cOver with hc | hc
  · rw [if_pos (.inr hc)]
    refine calls_of_z Try.func38 rfl Try.ntmps38 rfl h ?_; intro cs b hb hk
    repeat (first | (refine st ?_) | (refine stx ?_) | (refine sb ?_) | (intro _))
    refine z_ret1 tab_ok Try.func38 hb hk Try.results38 (.tmp rfl) (fun w hm => ?_)
    exact ⟨o, hok, rfl, hm⟩
  rw [if_neg (fun hh => hh.elim h5 (fun hh => by rw [hc] at hh; cases hh))]
  generalize hn : min s.size (4096 - x.up.length) = n
  have hnl : ((bL s).take n).length = n := by rw [List.length_take, bL_length]; omega
  generalize hx1 : ({ x with up := x.up ++ (bL s).take n } : Px) = x1
  have hup1 : x1.up.length = x.up.length + n := by rw [← hx1]; show (x.up ++ (bL s).take n).length = _; rw [List.length_append, hnl]
  have hd1 : x1.down = x.down := by rw [← hx1]
  have hs1 : Small x1.up := by rw [← hx1]; exact hg.small.app ((bL_small s).take n)
  have hn1 : x1.names = .slice none 0 0 := by rw [← hx1]; exact hg.names
  have hu1 : x1.user = noX := by rw [← hx1]; exact hg.user
  have hst1 : x1.state = x.state := by rw [← hx1]
  have hgs := hg.state
  have hgd := hg.downs
  have hgu := hg.ups
  refine calls_of_z Try.func38 rfl Try.ntmps38 rfl h ?_; intro cs b hb hk
  repeat (first | (refine st ?_) | (refine stx ?_) | (refine sb ?_) | (intro _))
  refine zx_s2b tab_ok rfl rfl rfl rfl rfl rfl ?_
  intro kb cap lo hi rst hcap
  refine zx_call (Y := Own × Own) (v := fun _ => .int .i64 (n : Int)) (Φ := fun y => okX x1 y) (L' := fun y => [(kb, Blk.c (byteCells s ++ rst) 5 lo hi)] ++ pX p x1 y) rfl fnc92 rfl rfl
    (fun w1 hm1 => by rw [← hx1]; exact offer_up_use (R := [(kb, Blk.c (byteCells s ++ rst) 5 lo hi)]) hok hm1 0 rfl (bL s) rst (by rw [bc_eq]) s.size cap n (bL_length s) (by omega) hn.symm hs (by omega)) (fun y hy => ?_)
  repeat (first | (refine sn ?_) | (refine stx ?_) | (refine sb ?_) | (intro _))
  refine z_loop (fun g : Px × (Own × Own) => okX g.1 g.2 ∧ Small g.1.up ∧ g.1.up.length ≤ 1000000 ∧ g.1.down.length + 20 * pRank g.1 ≤ 950000 ∧ g.1.names = .slice none 0 0 ∧ g.1.user = noX ∧ (g.1.state = 0 ∨ g.1.state = 2 ∨ 3 ≤ g.1.state) ∧ pRun g.1 = pRun x1)
    (fun _ => [(0, fP p 0), (5, .int .i64 (n : Int))]) (fun g => pX p g.1 g.2) (fun g => pRank g.1) (x1, y) ⟨hy, hs1, by show x1.up.length ≤ _; omega, by
      show x1.down.length + 20 * pRank x1 ≤ _
      have : pRank x1 ≤ 2 := by unfold pRank; split <;> (try split) <;> omega
      rw [hd1]; omega, hn1, hu1, by show x1.state = 0 ∨ x1.state = 2 ∨ 3 ≤ x1.state; rw [hst1]; exact hgs, rfl⟩ ⟨rfl, rfl, trivial⟩ (List.Sublist.cons _ (List.Sublist.refl _)) ?_
  intro g hgg ih
  obtain ⟨z, y'⟩ := g
  obtain ⟨q1, q2, q3, q4, q5, q6, q7, q8⟩ := hgg
  simp only at q1 q2 q3 q4 q5 q6 q7 q8
  refine z_weaken [(0, fP p 0), (5, .int .i64 (n : Int))] (pX p z y') ⟨rfl, rfl, trivial⟩ (List.Sublist.refl _) (fun _ h => h) ?_
  rcases q7 with hz | hz | hz
  · have hrk : pRank z = 2 := by unfold pRank; rw [if_pos hz]
    repeat (first | (refine sn ?_) | (refine stx ?_) | (refine sb ?_) | (intro _))
    refine z_regionH [] (by rfl) follows_mixed (by simp) (m := 15) rfl ?_
    refine zh_take 0 (by kernel_rfl) rfl (by kernel_rfl) (by kernel_rfl) ?_ (by simp); (repeat (first | (refine sn ?_) | (refine stx ?_) | (refine sb ?_))); refine zh_took (by rfl) ?_
    refine zh_take 1 (by kernel_rfl) rfl (by kernel_rfl) (by kernel_rfl) ?_ (by simp); (repeat (first | (refine sn ?_) | (refine stx ?_) | (refine sb ?_))); refine zh_took (by rfl) ?_
    refine zh_take 2 (by kernel_rfl) rfl (by kernel_rfl) (by kernel_rfl) ?_ (by simp); (repeat (first | (refine sn ?_) | (refine stx ?_) | (refine sb ?_))); refine zh_took (by rfl) ?_
    refine zh_one 3 rfl (by kernel_rfl) ?_
    refine st ?_
    refine zx_re 30 (.int .i64 0) rfl (congrArg _ hz) ?_
    refine zh_oned (by rfl) (by simp) ?_
    refine zh_take 4 (by kernel_rfl) rfl (by kernel_rfl) (by kernel_rfl) ?_ (by simp); (repeat (first | (refine sn ?_) | (refine stx ?_) | (refine sb ?_))); refine zh_took (by rfl) ?_
    refine zh_take 5 (by kernel_rfl) rfl (by kernel_rfl) (by kernel_rfl) ?_ (by simp); (repeat (first | (refine sn ?_) | (refine stx ?_) | (refine sb ?_))); refine zh_took (by rfl) ?_
    refine zh_take 6 (by kernel_rfl) rfl (by kernel_rfl) (by kernel_rfl) ?_ (by simp)
    ((try (refine sg ?_)); (refine zx_call0 rfl fnc93 rfl rfl (fun w hm => steps_any w) ?_))
    refine zh_took (by rfl) ?_
    refine zh_take 7 (by kernel_rfl) rfl (by kernel_rfl) (by kernel_rfl) ?_ (by simp); (repeat (first | (refine sn ?_) | (refine stx ?_) | (refine sb ?_))); refine zh_took (by rfl) ?_
    refine zh_take 12 (by kernel_rfl) rfl (by kernel_rfl) (by kernel_rfl) ?_ (by simp); (repeat (first | (refine sn ?_) | (refine stx ?_) | (refine sb ?_))); refine zh_took (by rfl) ?_
    refine zh_take 8 (by kernel_rfl) rfl (by kernel_rfl) (by kernel_rfl) ?_ (by simp); (repeat (first | (refine sn ?_) | (refine stx ?_) | (refine sb ?_))); refine zh_took (by rfl) ?_
    refine zh_take 9 (by kernel_rfl) rfl (by kernel_rfl) (by kernel_rfl) ?_ (by simp); (repeat (first | (refine sn ?_) | (refine stx ?_) | (refine sb ?_))); refine zh_took (by rfl) ?_
    refine zh_one 10 rfl (by kernel_rfl) ?_
    refine st ?_
    refine zx_re 37 (.int .i64 0) rfl (congrArg _ hz) ?_
    refine zh_oned (by rfl) (by simp) ?_
    refine zh_take 11 (by kernel_rfl) rfl (by kernel_rfl) (by kernel_rfl) ?_ (by simp); (repeat (first | (refine sn ?_) | (refine stx ?_) | (refine sb ?_))); refine zh_took (by rfl) ?_
    refine zh_one 13 rfl (by kernel_rfl) ?_
    refine zx_callW (cap := []) (Y := Own × Own) (v := fun _ => .bool (pGreet z).isSome) (Φ := fun u => okX ((pGreet z).getD z) u) (L' := fun u => [] ++ pX p ((pGreet z).getD z) u) rfl rfl fnc123 rfl rfl (fun w1 hm1 => PC.use (R := []) (greet_any p z q2 q3 (by omega)) q1 hm1) (fun u hu => ?_)
    refine zh_oned (by rfl) (by simp) ?_
    refine zh_take 14 (by kernel_rfl) rfl (by kernel_rfl) (by kernel_rfl) ?_ (by simp); (repeat (first | (refine sn ?_) | (refine stx ?_) | (refine sb ?_))); refine zh_took (by rfl) ?_
    refine zh_end (by rfl) (by kernel_rfl) ?_
    cases hG : pGreet z with
    | none =>
      have hR : pRun z = z := by unfold pRun; rw [if_pos hz, hG]
      rw [hG] at hu
      rw [← q8, hR]
      refine z_re 41 (.bool false) rfl (by first | rfl | (rw [hG]; rfl)) ?_
      repeat (first | (refine st ?_) | (refine stx ?_) | (refine sb ?_) | (intro _))
      refine z_ret1 tab_ok Try.func38 hb hk Try.results38 (.tmp rfl) (fun w hm => ?_)
      exact ⟨u, hu, rfl, by first | exact hm | (rw [hG] at hm; exact hm)⟩
    | some z2 =>
      obtain ⟨f1, f2⟩ := greet_fol q6 hG
      have hR : pRun z2 = pRun x1 := by
        rw [← q8]
        unfold pRun
        rw [if_pos hz, hG]
        rcases f2 with e | e
        · rw [if_neg (by omega), if_neg (by omega)]; simp only; rw [if_neg (by omega)]
        · rw [if_neg (by omega), if_pos e]; simp only; rw [if_pos e]
      have hr2 : pRank z2 ≤ 1 := by unfold pRank; rcases f2 with e | e <;> (rw [if_neg (by omega)]; split <;> omega)
      rw [hG] at hu
      refine z_re 41 (.bool true) rfl (by first | rfl | (rw [hG]; rfl)) ?_
      refine z_mem (pX p z2 u) (by first | rfl | (rw [hG]; rfl)) ?_
      repeat (first | (refine st ?_) | (refine stx ?_) | (refine sb ?_) | (intro _))
      refine z_weaken _ _ ?_ (List.Sublist.refl _) (fun _ h => h) (ih (z2, u) ⟨hu, f1.small q2, Nat.le_trans f1.ups q3, by have := f1.downs; show z2.down.length + 20 * pRank z2 ≤ _; omega, f1.names.trans q5, f1.user.trans q6, by show z2.state = 0 ∨ z2.state = 2 ∨ 3 ≤ z2.state; omega, hR⟩ (by show pRank z2 < pRank z; omega))
      exact ⟨rfl, rfl, trivial⟩
  · have hrk : pRank z = 1 := by unfold pRank; rw [if_neg (by omega), if_pos hz]
    repeat (first | (refine sn ?_) | (refine stx ?_) | (refine sb ?_) | (intro _))
    refine z_regionH [] (by rfl) follows_mixed (by simp) (m := 15) rfl ?_
    refine zh_take 0 (by kernel_rfl) rfl (by kernel_rfl) (by kernel_rfl) ?_ (by simp); (repeat (first | (refine sn ?_) | (refine stx ?_) | (refine sb ?_))); refine zh_took (by rfl) ?_
    refine zh_take 1 (by kernel_rfl) rfl (by kernel_rfl) (by kernel_rfl) ?_ (by simp); (repeat (first | (refine sn ?_) | (refine stx ?_) | (refine sb ?_))); refine zh_took (by rfl) ?_
    refine zh_take 2 (by kernel_rfl) rfl (by kernel_rfl) (by kernel_rfl) ?_ (by simp); (repeat (first | (refine sn ?_) | (refine stx ?_) | (refine sb ?_))); refine zh_took (by rfl) ?_
    refine zh_one 3 rfl (by kernel_rfl) ?_
    refine st ?_
    refine zx_re 30 (.int .i64 2) rfl (congrArg _ hz) ?_
    refine zh_oned (by rfl) (by simp) ?_
    refine zh_take 4 (by kernel_rfl) rfl (by kernel_rfl) (by kernel_rfl) ?_ (by simp); (repeat (first | (refine sn ?_) | (refine stx ?_) | (refine sb ?_))); refine zh_took (by rfl) ?_
    refine zh_take 5 (by kernel_rfl) rfl (by kernel_rfl) (by kernel_rfl) ?_ (by simp); (repeat (first | (refine sn ?_) | (refine stx ?_) | (refine sb ?_))); refine zh_took (by rfl) ?_
    refine zh_take 6 (by kernel_rfl) rfl (by kernel_rfl) (by kernel_rfl) ?_ (by simp)
    ((try (refine sg ?_)); (refine zx_call0 rfl fnc93 rfl rfl (fun w hm => steps_any w) ?_))
    refine zh_took (by rfl) ?_
    refine zh_take 7 (by kernel_rfl) rfl (by kernel_rfl) (by kernel_rfl) ?_ (by simp); (repeat (first | (refine sn ?_) | (refine stx ?_) | (refine sb ?_))); refine zh_took (by rfl) ?_
    refine zh_take 12 (by kernel_rfl) rfl (by kernel_rfl) (by kernel_rfl) ?_ (by simp); (repeat (first | (refine sn ?_) | (refine stx ?_) | (refine sb ?_))); refine zh_took (by rfl) ?_
    refine zh_take 8 (by kernel_rfl) rfl (by kernel_rfl) (by kernel_rfl) ?_ (by simp); (repeat (first | (refine sn ?_) | (refine stx ?_) | (refine sb ?_))); refine zh_took (by rfl) ?_
    refine zh_take 9 (by kernel_rfl) rfl (by kernel_rfl) (by kernel_rfl) ?_ (by simp); (repeat (first | (refine sn ?_) | (refine stx ?_) | (refine sb ?_))); refine zh_took (by rfl) ?_
    refine zh_one 10 rfl (by kernel_rfl) ?_
    refine st ?_
    refine zx_re 37 (.int .i64 2) rfl (congrArg _ hz) ?_
    refine zh_oned (by rfl) (by simp) ?_
    refine zh_take 11 (by kernel_rfl) rfl (by kernel_rfl) (by kernel_rfl) ?_ (by simp); (repeat (first | (refine sn ?_) | (refine stx ?_) | (refine sb ?_))); refine zh_took (by rfl) ?_
    refine zh_one 13 rfl (by kernel_rfl) ?_
    refine zx_callW (cap := []) (Y := Own × Own) (v := fun _ => .bool (pReq z).isSome) (Φ := fun u => okX ((pReq z).getD z) u) (L' := fun u => [] ++ pX p ((pReq z).getD z) u) rfl rfl fnc125 rfl rfl (fun w1 hm1 => PC.use (R := []) (request_any p z q2 q3 (by omega) q5) q1 hm1) (fun u hu => ?_)
    refine zh_oned (by rfl) (by simp) ?_
    refine zh_take 14 (by kernel_rfl) rfl (by kernel_rfl) (by kernel_rfl) ?_ (by simp); (repeat (first | (refine sn ?_) | (refine stx ?_) | (refine sb ?_))); refine zh_took (by rfl) ?_
    refine zh_end (by rfl) (by kernel_rfl) ?_
    cases hG : pReq z with
    | none =>
      have hR : pRun z = z := by unfold pRun; rw [if_neg (by omega), if_pos hz, hG]; rfl
      rw [hG] at hu
      rw [← q8, hR]
      refine z_re 41 (.bool false) rfl (by first | rfl | (rw [hG]; rfl)) ?_
      repeat (first | (refine st ?_) | (refine stx ?_) | (refine sb ?_) | (intro _))
      refine z_ret1 tab_ok Try.func38 hb hk Try.results38 (.tmp rfl) (fun w hm => ?_)
      exact ⟨u, hu, rfl, by first | exact hm | (rw [hG] at hm; exact hm)⟩
    | some z2 =>
      obtain ⟨f1, f2⟩ := req_fol hG
      have hR : pRun z2 = pRun x1 := by
        rw [← q8]
        unfold pRun
        rw [if_neg (show ¬ z.state = 0 by omega), if_pos hz, hG]
        rcases f2 with e | e <;> (rw [if_neg (by omega), if_neg (by omega)]; rfl)
      have hr2 : pRank z2 = 0 := by unfold pRank; rcases f2 with e | e <;> (rw [if_neg (by omega), if_neg (by omega)])
      rw [hG] at hu
      refine z_re 41 (.bool true) rfl (by first | rfl | (rw [hG]; rfl)) ?_
      refine z_mem (pX p z2 u) (by first | rfl | (rw [hG]; rfl)) ?_
      repeat (first | (refine st ?_) | (refine stx ?_) | (refine sb ?_) | (intro _))
      refine z_weaken _ _ ?_ (List.Sublist.refl _) (fun _ h => h) (ih (z2, u) ⟨hu, f1.small q2, Nat.le_trans f1.ups q3, by have := f1.downs; show z2.down.length + 20 * pRank z2 ≤ _; omega, f1.names.trans q5, f1.user.trans q6, by show z2.state = 0 ∨ z2.state = 2 ∨ 3 ≤ z2.state; omega, hR⟩ (by show pRank z2 < pRank z; omega))
      exact ⟨rfl, rfl, trivial⟩
  · have hR : pRun z = z := by unfold pRun; rw [if_neg (by omega), if_neg (by omega)]
    repeat (first | (refine st ?_) | (refine stx ?_) | (refine sb ?_) | (intro _))
    rw [← q8, hR]
    refine z_ret1 tab_ok Try.func38 hb hk Try.results38 (.tmp rfl) (fun w hm => ?_)
    exact ⟨y', q1, rfl, hm⟩
end Go.Proofs.Ytabcaiecoiejkaa
