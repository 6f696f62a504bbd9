/- The engine's fifth part: what a function hands back. Nothing here speaks of the program of this seat. -/
import Derived.Test.YtabcaiecoiejkaaK4
namespace Go.Proofs.Ytabcaiecoiejkaa.K
open Go

/-- what one result variable holds at the end -/
inductive RV (P : Program) (tb : Tab) (F : Fr) (L : Mm) : ResultVar → Value → Prop
  | tmp {t : Nat} {v : Value} (h : look F t = some v) : RV P tb F L (.tmp t) v
  | cell {t : Nat} {u : TypeId} {ti : TI} {b off : Nat} (j : Nat) {cs : List Value} {et : TypeId} {lo hi : Nat} {v : Value} (htt : lookT tb u = some ti) (hag : isAggD ti.desc = false)
      (hx : look F t = some (.pointer (some ⟨b, off, none⟩))) (hL : L[j]? = some (b, .c cs et lo hi)) (hc : cs[off]? = some v) : RV P tb F L (.cell t u) v
  | agg {t : Nat} {u : TypeId} {ti : TI} {b off : Nat} (j : Nat) {cs : List Value} {et : TypeId} {lo hi : Nat} {vs : List Value} (htt : lookT tb u = some ti) (hag : isAggD ti.desc = true)
      (hx : look F t = some (.pointer (some ⟨b, off, none⟩))) (hL : L[j]? = some (b, .c cs et lo hi)) (hc : forceL ((cs.drop off).take ti.size) some = some vs) (hlen : Nat.beq vs.length ti.size = true) : RV P tb F L (.cell t u) (.agg vs.toArray)

def resOne (tmps : Array Value) : ResultVar → Sem Value
  | .tmp t => pure (tmps.getD t undef)
  | .cell a t => do loadVar t (← asAddr (tmps.getD a undef))
theorem RV.run {P : Program} {tb : Tab} (ht : TabOk P tb) {F : Fr} {L : Mm} {r : ResultVar} {v : Value} (h : RV P tb F L r v) {w0 w : World} {ks : List Nat} (hm : Mem w0 ks L w) {a : Act} (hF : Has F a) : (resOne a.tmps r).run P w = .ok v w := by
  cases h with
  | tmp h => have := hF _ _ h; simp [resOne, this]
  | cell j htt hag hx hL hc =>
    have h1 := (ht _ _ htt).run_agg w
    rw [hag] at h1
    rename_i t u ti b off cs et lo hi
    have h4 := hm.cell (j := off) hL
    rw [hc] at h4
    have := hF _ _ hx
    simp [resOne, this, asAddr, loadVar, h1, h4]
  | agg j htt hag hx hL hc hlen =>
    rename_i t u ti b off cs et lo hi vs
    have h1 := (ht _ _ htt).run_agg w
    rw [hag] at h1
    have hs := (ht _ _ htt).run_size w
    have hl : vs.length = ti.size := Nat.eq_of_beq_eq_true hlen
    have h4 := run_loadCells_list (P := P) w ⟨b, off, none⟩ vs (fun m x hx => by
      rw [addr_add, hm.cell hL]
      rw [← forceL_some hc, List.getElem?_take] at hx
      split at hx
      · rw [List.getElem?_drop] at hx; exact hx
      · simp at hx)
    rw [hl] at h4
    have := hF _ _ hx
    simp [resOne, this, asAddr, loadVar, h1, hs, h4]

theorem results_eq (fn : Func) (tmps : Array Value) : results fn tmps = (do let vs ← fn.results.mapM (resOne tmps); pure (if h : vs.size = 1 then vs[0] else .tuple vs)) := by
  unfold results
  congr 2

section
variable {P : Program} {tb : Tab} {F : Fr} {L : Mm} {fn : Func} {w0 w : World} {ks : List Nat} {a : Act}
theorem run_res1 (ht : TabOk P tb) {r : ResultVar} {v : Value} (hr : fn.results = #[r]) (h : RV P tb F L r v) (hm : Mem w0 ks L w) (hF : Has F a) : (results fn a.tmps).run P w = .ok v w := by
  rw [results_eq, hr]
  simp [h.run ht hm hF]
theorem run_res2 (ht : TabOk P tb) {r s : ResultVar} {v u : Value} (hr : fn.results = #[r, s]) (h : RV P tb F L r v) (h' : RV P tb F L s u) (hm : Mem w0 ks L w) (hF : Has F a) : (results fn a.tmps).run P w = .ok (.tuple #[v, u]) w := by
  rw [results_eq, hr]
  simp [h.run ht hm hF, h'.run ht hm hF]
theorem run_res3 (ht : TabOk P tb) {r s t : ResultVar} {v u x : Value} (hr : fn.results = #[r, s, t]) (h : RV P tb F L r v) (h' : RV P tb F L s u) (h'' : RV P tb F L t x) (hm : Mem w0 ks L w) (hF : Has F a) : (results fn a.tmps).run P w = .ok (.tuple #[v, u, x]) w := by
  rw [results_eq, hr]
  simp [h.run ht hm hF, h'.run ht hm hF, h''.run ht hm hF]
theorem run_res0 (hr : fn.results = #[]) : (results fn a.tmps).run P w = .ok (.tuple #[]) w := by
  rw [results_eq, hr]
  simp
end
section
variable {c : Cx} {n : Nat} {F : Fr} {w0 : World} {ks : List Nat} {L : Mm} {k : List Item} {tb : Tab} {fn : Func}
theorem z_ret1 (ht : TabOk c.P tb) (hf : c.P.funcs[c.f]? = some fn) (hb : c.b.fn = c.f) (hk : c.b.kind = .normal) {r : ResultVar} {v : Value} (hr : fn.results = #[r]) (h : RV c.P tb F L r v) (hR : ∀ w, Mem w0 ks L w → c.R (.returned v) w) : Z c n F w0 ks L [] (.code .ret :: k) :=
  z_ret_any hf hb hk (fun _ _ hF hm => run_res1 ht hr h hm hF) hR
theorem z_ret2 (ht : TabOk c.P tb) (hf : c.P.funcs[c.f]? = some fn) (hb : c.b.fn = c.f) (hk : c.b.kind = .normal) {r s : ResultVar} {v u : Value} (hr : fn.results = #[r, s]) (h : RV c.P tb F L r v) (h' : RV c.P tb F L s u) (hR : ∀ w, Mem w0 ks L w → c.R (.returned (.tuple #[v, u])) w) : Z c n F w0 ks L [] (.code .ret :: k) :=
  z_ret_any hf hb hk (fun _ _ hF hm => run_res2 ht hr h h' hm hF) hR
theorem z_ret1A (ht : TabOk c.P tb) (hf : c.P.funcs[c.f]? = some fn) (hb : c.b.fn = c.f) (hk : c.b.kind = .normal) {t : Nat} {u : TypeId} (hr : fn.results = #[.cell t u]) (j : Nat) {ti : TI} {b off : Nat} {cs : List Value} {et : TypeId} {lo hi : Nat} {vs : List Value} (htt : lookT tb u = some ti) (hag : isAggD ti.desc = true)
    (hx : look F t = some (.pointer (some ⟨b, off, none⟩))) (hL : L[j]? = some (b, .c cs et lo hi)) (hc : forceL ((cs.drop off).take ti.size) some = some vs) (hlen : Nat.beq vs.length ti.size = true) (hR : ∀ w, Mem w0 ks L w → c.R (.returned (.agg vs.toArray)) w) : Z c n F w0 ks L [] (.code .ret :: k) :=
  z_ret1 ht hf hb hk hr (.agg j htt hag hx hL hc hlen) hR
theorem z_ret2A (ht : TabOk c.P tb) (hf : c.P.funcs[c.f]? = some fn) (hb : c.b.fn = c.f) (hk : c.b.kind = .normal) {t t' : Nat} {u : TypeId} (hr : fn.results = #[.cell t u, .tmp t']) (j : Nat) {ti : TI} {b off : Nat} {cs : List Value} {et : TypeId} {lo hi : Nat} {vs : List Value} {v' : Value} (htt : lookT tb u = some ti) (hag : isAggD ti.desc = true)
    (hx : look F t = some (.pointer (some ⟨b, off, none⟩))) (hL : L[j]? = some (b, .c cs et lo hi)) (hc : forceL ((cs.drop off).take ti.size) some = some vs) (hlen : Nat.beq vs.length ti.size = true) (hv' : look F t' = some v') (hR : ∀ w, Mem w0 ks L w → c.R (.returned (.tuple #[.agg vs.toArray, v'])) w) : Z c n F w0 ks L [] (.code .ret :: k) :=
  z_ret2 ht hf hb hk hr (.agg j htt hag hx hL hc hlen) (.tmp hv') hR
theorem z_ret3 (ht : TabOk c.P tb) (hf : c.P.funcs[c.f]? = some fn) (hb : c.b.fn = c.f) (hk : c.b.kind = .normal) {r s t : ResultVar} {v u x : Value} (hr : fn.results = #[r, s, t]) (h : RV c.P tb F L r v) (h' : RV c.P tb F L s u) (h'' : RV c.P tb F L t x) (hR : ∀ w, Mem w0 ks L w → c.R (.returned (.tuple #[v, u, x])) w) : Z c n F w0 ks L [] (.code .ret :: k) :=
  z_ret_any hf hb hk (fun _ _ hF hm => run_res3 ht hr h h' h'' hm hF) hR
theorem z_ret0 (hf : c.P.funcs[c.f]? = some fn) (hb : c.b.fn = c.f) (hk : c.b.kind = .normal) (hr : fn.results = #[]) (hR : ∀ w, Mem w0 ks L w → c.R (.returned (.tuple #[])) w) : Z c n F w0 ks L [] (.code .ret :: k) :=
  z_ret_any hf hb hk (fun _ _ _ _ => run_res0 hr) hR
theorem z_end0 (hf : c.P.funcs[c.f]? = some fn) (hb : c.b.fn = c.f) (hk : c.b.kind = .normal) (hr : fn.results = #[]) (hR : ∀ w, Mem w0 ks L w → c.R (.returned (.tuple #[])) w) : Z c n F w0 ks L [] [] :=
  z_end_any hf hb hk (fun _ _ _ _ => run_res0 hr) hR
end
end Go.Proofs.Ytabcaiecoiejkaa.K
