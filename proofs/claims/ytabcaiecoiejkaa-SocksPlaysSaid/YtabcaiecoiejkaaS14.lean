/- Walk of the law SocksRelays: it answers true. -/
import Derived.Test.YtabcaiecoiejkaaS13
set_option maxRecDepth 100000
set_option linter.unusedSimpArgs false
set_option linter.unusedVariables false
set_option maxHeartbeats 8000000
namespace Go.Proofs.Ytabcaiecoiejkaa
open Go K

/-- a session that waits for its target, with what has come since -/
def pxU1 (u : List Int) : Px := ⟨noX, noX, .slice none 0 0, 3, u, [5, 0], false, false, false, adr4 (ofInts [10, 0, 0, 2]), 80⟩
def pxU2 (u : List Int) : Px := ⟨noX, noX, .slice none 0 0, 4, u, [5, 0, 5, 0, 0, 1, 10, 0, 0, 1, 0, 1], false, false, true, adr4 (ofInts [10, 0, 0, 2]), 80⟩
def pxU3 (u : List Int) : Px := ⟨noX, noX, .slice none 0 0, 4, u, [], false, false, true, adr4 (ofInts [10, 0, 0, 2]), 80⟩
theorem good_px1 : Good px1 := ⟨Small.nil, Nat.zero_le _, Nat.le_of_ble_eq_true rfl, rfl, rfl, .inr (.inr (by decide))⟩
theorem FC_ahead (p : Nat) (s : ByteArray) (hs : s.size ≤ 1000000000000000) : PC 38 [fP p 0, .string s] p px1 (pxU1 ((bL s).take (min s.size 4096))) (.int .i64 ((min s.size 4096 : Nat) : Int)) := by
  have := FromClient_any p px1 s good_px1 hs
  exact this
theorem conU (u : List Int) : pConn (pxU1 u) (v4 10 0 0 1) 1 = pxU2 u := by
  unfold pConn pSay pxU1 pxU2
  have h1 : hiB 1 = 0 := by kernel_rfl
  have h2 : loB 1 = 1 := by kernel_rfl
  have h3 : bL (v4 10 0 0 1).bytes = [10, 0, 0, 1] := by kernel_rfl
  rw [h1, h2, h3]
  rfl
theorem CO_ahead (p : Nat) (u : List Int) : PC 51 [fP p 0, epV (v4 10 0 0 1) 1, .int .i64 0] p (pxU1 u) (pxU2 u) (.bool true) := by
  have := Connected_ok p (pxU1 u) (v4 10 0 0 1) 1 rfl rfl (Nat.le_of_ble_eq_true rfl)
  rw [conU] at this
  exact this
theorem TC_ahead (p : Nat) (u : List Int) (hu : u.length ≤ 4096) : PC 39 [fP p 0, .int .i64 12] p (pxU2 u) (pxU3 u) (.string ⟨#[5, 0, 5, 0, 0, 1, 10, 0, 0, 1, 0, 1]⟩) := by
  have := ToClient_any p (pxU2 u) 12 12 (by show (12 : Int) = min (max 12 0) 12; decide) (by show u.length + 12 ≤ _; omega)
  exact this
structure Qo where
  kind : Int
  n : Int
  data : ByteArray
  ad : Adr
  port : Int
def Qo.cells (q : Qo) : List Value := [.int .i64 q.kind, .int .i64 q.n, .string q.data, .bool q.ad.v6, .int .u8 (q.ad.b 0), .int .u8 (q.ad.b 1), .int .u8 (q.ad.b 2), .int .u8 (q.ad.b 3), .int .u8 (q.ad.b 4), .int .u8 (q.ad.b 5), .int .u8 (q.ad.b 6), .int .u8 (q.ad.b 7), .int .u8 (q.ad.b 8), .int .u8 (q.ad.b 9), .int .u8 (q.ad.b 10), .int .u8 (q.ad.b 11), .int .u8 (q.ad.b 12), .int .u8 (q.ad.b 13), .int .u8 (q.ad.b 14), .int .u8 (q.ad.b 15), .int .i64 q.port]
def Qo.ok (q : Qo) : Prop := okI q.kind ∧ okI q.n ∧ q.data.size ≤ 1000000000000000
theorem z_join2 {c : Cx} {n : Nat} {F : Fr} {w0 : World} {ks : List Nat} {L : Mm} {D : List Deferred} {k : List Item} {i1 i2 : Item} {G : Type} (Φ : G → Prop) (F' : G → Fr) (L' : G → Mm) (h1 : ∀ g, Φ g → Z c n (F' g) w0 ks (L' g) D k) (h2 : ∀ k', (∀ g, Φ g → Z c n (F' g) w0 ks (L' g) D k') → Z c n F w0 ks L D (i1 :: i2 :: k')) : Z c n F w0 ks L D (i1 :: i2 :: k) := h2 k h1
theorem ne_self (x : ByteArray) : (!decide (x = x)) = false := by rw [decide_eq_true rfl]; rfl
structure Rg where
  z : Px
  y : Own × Own
  G : List Int
  B : List Int
  i : Nat

def fR (p kb : Nat) (a : Option Addr) (len cap : Nat) (g : Rg) : Fr := [(1, .slice a len cap), (6, fP p 0), (8, .string (ofInts (g.G ++ g.z.up))), (9, .string (ofInts g.G)), (10, .string (ofInts g.B)), (11, .string (ofInts (g.B ++ g.z.down))), (12, fP kb 0), (13, .int .i64 ((g.i : Nat) : Int))]
def mR (p kb : Nat) (g : Rg) : Mm := (kb, .c [.bool g.z.cOver, .bool g.z.rOver] 90 0 0) :: pX p g.z g.y
theorem SocksRelays_any (s : ByteArray) (hs : s.size ≤ 1000000000000000) (qs : List Qo) (a : Option Addr) (bs off cap : Nat) (hqs : qs = [] ∨ a = some ⟨bs, off, none⟩) (hok : ∀ q ∈ qs, q.ok) (hlen : qs.length ≤ 1000000000000000) (w : World)
    (hc : ∀ (i : Nat) q, qs[i]? = some q → ∀ j v, q.cells[j]? = some v → w.cell? ⟨bs, off + i * 21 + j, none⟩ = some v) :
    Calls Try.prog 12 [.string s, .slice a qs.length cap].toArray w fun e w' => e = .returned (.bool true) ∧ Mem w [] [] w' := by
  have hnle : min s.size 4096 ≤ s.size := Nat.min_le_left _ _
  have hn4 : min s.size 4096 ≤ 4096 := Nat.min_le_right _ _
  have hFC := fun p => FC_ahead p s hs
  have hext := ext_bL s (min s.size 4096) hnle
  have hul : ((bL s).take (min s.size 4096)).length ≤ 4096 := by rw [List.length_take]; omega
  have husm : Small ((bL s).take (min s.size 4096)) := (bL_small s).take _
  generalize min s.size 4096 = n at hnle hn4 hFC hext hul husm
  generalize hu : (bL s).take n = u at hFC hext hul husm
  refine calls_of_z Try.func12 rfl Try.ntmps12 rfl (Mem.refl w) ?_; intro cs b hb hk
  repeat (first | (refine st ?_) | (refine stx ?_) | (refine sb ?_) | (intro _))
  ((try (refine sg ?_)); (refine zx_call0 rfl fnc33 rfl rfl (fun w hm => awake22_any w) ?_))
  repeat (first | (refine st ?_) | (refine stx ?_) | (refine sb ?_) | (intro _))
  refine zx_call (Y := Nat) (v := fun p => fP p 0) (Φ := fun _ => True) (L' := fun p => [] ++ pX p px0 (none, none)) rfl fnc34 rfl rfl
    (fun w hm => (New_zero w).mono fun e w' ⟨p, _, he, hm'⟩ => ⟨p, trivial, he, by have := hm.trans0 hm'; rwa [List.append_nil] at this⟩) (fun p _ => ?_)
  repeat (first | (refine st ?_) | (refine stx ?_) | (refine sb ?_) | (intro _))
  refine zx_call (Y := Own × Own) (v := fun _ => .int .i64 13) (Φ := fun y => okX px1 y) (L' := fun y => [] ++ pX p px1 y) rfl fnc38 rfl rfl (fun w1 hm1 => PC.use (R := []) (FC_13 p) okX_px0 hm1) (fun y1 hy1 => ?_)
  repeat (first | (refine st ?_) | (refine stx ?_) | (refine sb ?_) | (intro _))
  refine zx_call (Y := Own × Own) (v := fun _ => .int .i64 (n : Int)) (Φ := fun y => okX (pxU1 u) y) (L' := fun y => [] ++ pX p (pxU1 u) y) rfl fnc38 rfl rfl (fun w1 hm1 => PC.use (R := []) (hFC p) hy1 hm1) (fun y2 hy2 => ?_)
  repeat (first | (refine st ?_) | (refine stx ?_) | (refine sb ?_) | (intro _))
  ((try (refine sg ?_)); (refine zx_sliceN (0 ) ( n ) tab_ok rfl rfl rfl rfl rfl rfl rfl (by first | rfl | omega | (simp only [IntKind.wrap_i64]; omega)) (by first | rfl | omega | (simp only [IntKind.wrap_i64]; omega)) (by omega) (by omega) ?_))
  refine zx_re 33 (.string (ofInts u)) rfl (congrArg _ hext) ?_
  repeat (first | (refine st ?_) | (refine stx ?_) | (refine sb ?_) | (intro _))
  ((try (refine sg ?_)); (refine zx_call0 rfl fnc40 rfl rfl (fun w hm => V4_any 10 0 0 1 w) ?_))
  repeat (first | (refine st ?_) | (refine stx ?_) | (refine sb ?_) | (intro _))
  refine zx_call (Y := Own × Own) (v := fun _ => .bool true) (Φ := fun y => okX (pxU2 u) y) (L' := fun y => [] ++ pX p (pxU2 u) y) rfl fnc51 rfl rfl (fun w1 hm1 => PC.use (R := []) (CO_ahead p u) hy2 hm1) (fun y3 hy3 => ?_)
  repeat (first | (refine st ?_) | (refine stx ?_) | (refine sb ?_) | (intro _))
  refine zx_call (Y := Own × Own) (v := fun _ => .string ⟨#[5, 0, 5, 0, 0, 1, 10, 0, 0, 1, 0, 1]⟩) (Φ := fun y => okX (pxU3 u) y) (L' := fun y => [] ++ pX p (pxU3 u) y) rfl fnc39 rfl rfl (fun w1 hm1 => PC.use (R := []) (TC_ahead p u hul) hy3 hm1) (fun y4 hy4 => ?_)
  repeat (first | (refine st ?_) | (refine stx ?_) | (refine sb ?_) | (intro _))
  rename_i kb
  refine z_loop (fun g : Rg => okX g.z g.y ∧ Ri g.z g.G g.B g.i ∧ g.i ≤ qs.length) (fR p kb a qs.length cap) (mR p kb) (fun g => qs.length - g.i) ⟨pxU3 u, y4, [], [], 0⟩ ⟨hy4, ⟨rfl, rfl, rfl, .inl rfl, husm, hul, Nat.zero_le _, hul, Nat.zero_le _⟩, Nat.zero_le _⟩ ⟨rfl, rfl, rfl, rfl, rfl, rfl, rfl, rfl, trivial⟩ (List.Sublist.refl _) ?_
  intro g hg ih
  obtain ⟨z, y, G, B, i⟩ := g
  obtain ⟨q1, q2, q3⟩ := hg
  simp only at q1 q2 q3
  have hups := q2.ups
  have hdowns := q2.downs
  have hgs := q2.gs
  have hbs := q2.bs
  rw [List.length_append] at hgs hbs
  have z1 : (ofInts (G ++ z.up)).size = G.length + z.up.length := by rw [ofInts_size, List.length_append]
  have z2 : (ofInts (B ++ z.down)).size = B.length + z.down.length := by rw [ofInts_size, List.length_append]
  have z3 : (ofInts G).size = G.length := ofInts_size G
  have z4 : (ofInts B).size = B.length := ofInts_size B
  refine z_weaken [(1, .slice a qs.length cap), (6, fP p 0), (8, .string (ofInts (G ++ z.up))), (9, .string (ofInts G)), (10, .string (ofInts B)), (11, .string (ofInts (B ++ z.down))), (12, fP kb 0), (13, .int .i64 (i : Int))] ((kb, .c [.bool z.cOver, .bool z.rOver] 90 0 0) :: pX p z y) ⟨rfl, rfl, rfl, rfl, rfl, rfl, rfl, rfl, trivial⟩ (List.Sublist.refl _) (fun _ h => h) ?_
  by_cases hi : i < qs.length
  · obtain ⟨q, hq⟩ : ∃ q, qs[i]? = some q := ⟨_, List.getElem?_eq_getElem hi⟩
    have hqo := hok q (List.mem_of_getElem? hq)
    have hqc := hc i q hq
    have ha : a = some ⟨bs, off, none⟩ := by
      rcases hqs with h | h
      · rw [h] at hi; exact absurd hi (Nat.not_lt_zero _)
      · exact h
    subst ha
    obtain ⟨hk1, hk2, hk3⟩ := hqo
    repeat (first | (refine st ?_) | (refine stx ?_) | (refine sb ?_) | (intro _))
    refine zx_idxA (sz := i * 21) tab_ok rfl rfl rfl rfl rfl rfl (by omega) (by omega) (by simp) ?_
    refine zx_loadBA tab_ok [.int .i64 q.kind, .int .i64 q.n, .string q.data, .bool q.ad.v6, .int .u8 (q.ad.b 0), .int .u8 (q.ad.b 1), .int .u8 (q.ad.b 2), .int .u8 (q.ad.b 3), .int .u8 (q.ad.b 4), .int .u8 (q.ad.b 5), .int .u8 (q.ad.b 6), .int .u8 (q.ad.b 7), .int .u8 (q.ad.b 8), .int .u8 (q.ad.b 9), .int .u8 (q.ad.b 10), .int .u8 (q.ad.b 11), .int .u8 (q.ad.b 12), .int .u8 (q.ad.b 13), .int .u8 (q.ad.b 14), .int .u8 (q.ad.b 15), .int .i64 q.port] rfl rfl rfl rfl hqc (by simp) rfl rfl ?_
    repeat (first | (refine st ?_) | (refine stx ?_) | (refine sb ?_) | (intro _))
    rename_i kq
    ((try (refine sg ?_)); (refine zx_call0 rfl fnc52 rfl rfl (fun w hm => pick7_any q.kind hk1 w) ?_))
    repeat (first | (refine st ?_) | (refine stx ?_) | (refine sb ?_) | (intro _))
    refine z_join2 (fun g : Rg => okX g.z g.y ∧ Ri g.z g.G g.B (i + 1) ∧ g.i = i) (fR p kb (some ⟨bs, off, none⟩) qs.length cap) (mR p kb) (fun g hg => ?_) (fun k' J => ?_)
    · obtain ⟨z, y, G, B, i'⟩ := g
      obtain ⟨q1, q2, q4⟩ := hg
      simp only at q1 q2 q4
      subst q4
      have hups := q2.ups
      have hdowns := q2.downs
      have hgs := q2.gs
      have hbs := q2.bs
      rw [List.length_append] at hgs hbs
      have z1 : (ofInts (G ++ z.up)).size = G.length + z.up.length := by rw [ofInts_size, List.length_append]
      have z2 : (ofInts (B ++ z.down)).size = B.length + z.down.length := by rw [ofInts_size, List.length_append]
      have z3 : (ofInts G).size = G.length := ofInts_size G
      have z4 : (ofInts B).size = B.length := ofInts_size B
      refine z_weaken [(1, .slice (some ⟨bs, off, none⟩) qs.length cap), (6, fP p 0), (8, .string (ofInts (G ++ z.up))), (9, .string (ofInts G)), (10, .string (ofInts B)), (11, .string (ofInts (B ++ z.down))), (12, fP kb 0), (13, .int .i64 (i' : Int))] ((kb, .c [.bool z.cOver, .bool z.rOver] 90 0 0) :: pX p z y) ⟨rfl, rfl, rfl, rfl, rfl, rfl, rfl, rfl, trivial⟩ (List.Sublist.refl _) (fun _ h => h) ?_
      repeat (first | (refine st ?_) | (refine stx ?_) | (refine sb ?_) | (intro _))
      ((try (refine sg ?_)); (refine zx_sliceN (0 ) ( G.length ) tab_ok rfl rfl rfl rfl rfl rfl rfl (by first | rfl | omega | (simp only [IntKind.wrap_i64]; omega)) (by first | rfl | omega | (simp only [IntKind.wrap_i64]; omega)) (by omega) (by omega) ?_))
      refine zx_re 154 (.string (ofInts G)) rfl (congrArg _ (ext_ofInts G z.up)) ?_
      refine st ?_
      refine zx_re 155 (.bool false) rfl (congrArg _ (ne_self _)) ?_
      repeat (first | (refine st ?_) | (refine stx ?_) | (refine sb ?_) | (intro _))
      ((try (refine sg ?_)); (refine zx_sliceN (0 ) ( B.length ) tab_ok rfl rfl rfl rfl rfl rfl rfl (by first | rfl | omega | (simp only [IntKind.wrap_i64]; omega)) (by first | rfl | omega | (simp only [IntKind.wrap_i64]; omega)) (by omega) (by omega) ?_))
      refine zx_re 169 (.string (ofInts B)) rfl (congrArg _ (ext_ofInts B z.down)) ?_
      refine st ?_
      refine zx_re 170 (.bool false) rfl (congrArg _ (ne_self _)) ?_
      repeat (first | (refine st ?_) | (refine stx ?_) | (refine sb ?_) | (intro _))
      have hends := q2.ends
      rcases Bool.eq_false_or_eq_true z.cOver with hcv | hcv
      · skip
        by_cases hup : z.up = []
        · have hue : z.up.isEmpty = true := by rw [hup]; rfl
          have hdu : decide (ofInts G = ofInts (G ++ z.up)) = true := decide_eq_true ((ofInts_nil_iff G z.up).2 hup)
          rcases Bool.eq_false_or_eq_true z.rOver with hrv | hrv
          · skip
            by_cases hdn : z.down = []
            · have hde : z.down.isEmpty = true := by rw [hdn]; rfl
              have hdd : decide (ofInts B = ofInts (B ++ z.down)) = true := decide_eq_true ((ofInts_nil_iff B z.down).2 hdn)
              repeat (first | (refine st ?_) | (refine stx ?_) | (refine sb ?_) | (intro _))
              ((try (refine sg ?_)); (refine zx_call0 rfl fnc47 rfl rfl (fun w hm => QC.use (R := [(kb, Blk.c [.bool z.cOver, .bool z.rOver] 90 0 0)]) (EndRemote_any p z) q1 hm) ?_))
              refine zx_re 173 (.bool true) rfl (congrArg _ (hends.1.trans (by rw [hcv, hue]; rfl))) ?_
              repeat (first | (refine st ?_) | (refine stx ?_) | (refine sb ?_) | (intro _))
              refine zx_re 182 (.bool false) rfl (congrArg _ (by rw [hdu]; rfl)) ?_
              repeat (first | (refine st ?_) | (refine stx ?_) | (refine sb ?_) | (intro _))
              ((try (refine sg ?_)); (refine zx_call0 rfl fnc44 rfl rfl (fun w hm => QC.use (R := [(kb, Blk.c [.bool z.cOver, .bool z.rOver] 90 0 0)]) (EndClient_any p z) q1 hm) ?_))
              refine zx_re 184 (.bool true) rfl (congrArg _ (hends.2.trans (by rw [hrv, hde]; rfl))) ?_
              repeat (first | (refine st ?_) | (refine stx ?_) | (refine sb ?_) | (intro _))
              refine z_re 193 (.bool false) rfl (congrArg _ (by rw [hdd]; rfl)) ?_
              repeat (first | (refine st ?_) | (refine stx ?_) | (refine sb ?_) | (intro _))
              refine z_weaken _ _ ?_ (List.Sublist.refl _) (fun _ h => h) (ih ⟨z, y, G, B, i' + 1⟩ ⟨q1, q2, hi⟩ (by show qs.length - (i' + 1) < qs.length - i'; omega))
              exact ⟨rfl, rfl, rfl, rfl, rfl, rfl, rfl, congrArg (fun x => some (Value.int .i64 x)) (wr64 (by omega) (by omega)), trivial⟩
            · have hde : z.down.isEmpty = false := by cases hx : z.down with | nil => exact absurd hx hdn | cons a l => rfl
              have hdd : decide (ofInts B = ofInts (B ++ z.down)) = false := decide_eq_false (fun hh => hdn ((ofInts_nil_iff B z.down).1 hh))
              repeat (first | (refine st ?_) | (refine stx ?_) | (refine sb ?_) | (intro _))
              ((try (refine sg ?_)); (refine zx_call0 rfl fnc47 rfl rfl (fun w hm => QC.use (R := [(kb, Blk.c [.bool z.cOver, .bool z.rOver] 90 0 0)]) (EndRemote_any p z) q1 hm) ?_))
              refine zx_re 173 (.bool true) rfl (congrArg _ (hends.1.trans (by rw [hcv, hue]; rfl))) ?_
              repeat (first | (refine st ?_) | (refine stx ?_) | (refine sb ?_) | (intro _))
              refine zx_re 182 (.bool false) rfl (congrArg _ (by rw [hdu]; rfl)) ?_
              repeat (first | (refine st ?_) | (refine stx ?_) | (refine sb ?_) | (intro _))
              ((try (refine sg ?_)); (refine zx_call0 rfl fnc44 rfl rfl (fun w hm => QC.use (R := [(kb, Blk.c [.bool z.cOver, .bool z.rOver] 90 0 0)]) (EndClient_any p z) q1 hm) ?_))
              refine zx_re 184 (.bool false) rfl (congrArg _ (hends.2.trans (by rw [hrv, hde]; rfl))) ?_
              repeat (first | (refine st ?_) | (refine stx ?_) | (refine sb ?_) | (intro _))
              skip
              repeat (first | (refine st ?_) | (refine stx ?_) | (refine sb ?_) | (intro _))
              refine z_weaken _ _ ?_ (List.Sublist.refl _) (fun _ h => h) (ih ⟨z, y, G, B, i' + 1⟩ ⟨q1, q2, hi⟩ (by show qs.length - (i' + 1) < qs.length - i'; omega))
              exact ⟨rfl, rfl, rfl, rfl, rfl, rfl, rfl, congrArg (fun x => some (Value.int .i64 x)) (wr64 (by omega) (by omega)), trivial⟩
          · skip
            repeat (first | (refine st ?_) | (refine stx ?_) | (refine sb ?_) | (intro _))
            ((try (refine sg ?_)); (refine zx_call0 rfl fnc47 rfl rfl (fun w hm => QC.use (R := [(kb, Blk.c [.bool z.cOver, .bool z.rOver] 90 0 0)]) (EndRemote_any p z) q1 hm) ?_))
            refine zx_re 173 (.bool true) rfl (congrArg _ (hends.1.trans (by rw [hcv, hue]; rfl))) ?_
            repeat (first | (refine st ?_) | (refine stx ?_) | (refine sb ?_) | (intro _))
            refine zx_re 182 (.bool false) rfl (congrArg _ (by rw [hdu]; rfl)) ?_
            repeat (first | (refine st ?_) | (refine stx ?_) | (refine sb ?_) | (intro _))
            ((try (refine sg ?_)); (refine zx_call0 rfl fnc44 rfl rfl (fun w hm => QC.use (R := [(kb, Blk.c [.bool z.cOver, .bool z.rOver] 90 0 0)]) (EndClient_any p z) q1 hm) ?_))
            refine zx_re 184 (.bool false) rfl (congrArg _ (hends.2.trans (by rw [hrv]; rfl))) ?_
            repeat (first | (refine st ?_) | (refine stx ?_) | (refine sb ?_) | (intro _))
            skip
            repeat (first | (refine st ?_) | (refine stx ?_) | (refine sb ?_) | (intro _))
            refine z_weaken _ _ ?_ (List.Sublist.refl _) (fun _ h => h) (ih ⟨z, y, G, B, i' + 1⟩ ⟨q1, q2, hi⟩ (by show qs.length - (i' + 1) < qs.length - i'; omega))
            exact ⟨rfl, rfl, rfl, rfl, rfl, rfl, rfl, congrArg (fun x => some (Value.int .i64 x)) (wr64 (by omega) (by omega)), trivial⟩
        · have hue : z.up.isEmpty = false := by cases hx : z.up with | nil => exact absurd hx hup | cons a l => rfl
          have hdu : decide (ofInts G = ofInts (G ++ z.up)) = false := decide_eq_false (fun hh => hup ((ofInts_nil_iff G z.up).1 hh))
          rcases Bool.eq_false_or_eq_true z.rOver with hrv | hrv
          · skip
            by_cases hdn : z.down = []
            · have hde : z.down.isEmpty = true := by rw [hdn]; rfl
              have hdd : decide (ofInts B = ofInts (B ++ z.down)) = true := decide_eq_true ((ofInts_nil_iff B z.down).2 hdn)
              repeat (first | (refine st ?_) | (refine stx ?_) | (refine sb ?_) | (intro _))
              ((try (refine sg ?_)); (refine zx_call0 rfl fnc47 rfl rfl (fun w hm => QC.use (R := [(kb, Blk.c [.bool z.cOver, .bool z.rOver] 90 0 0)]) (EndRemote_any p z) q1 hm) ?_))
              refine zx_re 173 (.bool false) rfl (congrArg _ (hends.1.trans (by rw [hcv, hue]; rfl))) ?_
              repeat (first | (refine st ?_) | (refine stx ?_) | (refine sb ?_) | (intro _))
              skip
              repeat (first | (refine st ?_) | (refine stx ?_) | (refine sb ?_) | (intro _))
              ((try (refine sg ?_)); (refine zx_call0 rfl fnc44 rfl rfl (fun w hm => QC.use (R := [(kb, Blk.c [.bool z.cOver, .bool z.rOver] 90 0 0)]) (EndClient_any p z) q1 hm) ?_))
              refine zx_re 184 (.bool true) rfl (congrArg _ (hends.2.trans (by rw [hrv, hde]; rfl))) ?_
              repeat (first | (refine st ?_) | (refine stx ?_) | (refine sb ?_) | (intro _))
              refine z_re 193 (.bool false) rfl (congrArg _ (by rw [hdd]; rfl)) ?_
              repeat (first | (refine st ?_) | (refine stx ?_) | (refine sb ?_) | (intro _))
              refine z_weaken _ _ ?_ (List.Sublist.refl _) (fun _ h => h) (ih ⟨z, y, G, B, i' + 1⟩ ⟨q1, q2, hi⟩ (by show qs.length - (i' + 1) < qs.length - i'; omega))
              exact ⟨rfl, rfl, rfl, rfl, rfl, rfl, rfl, congrArg (fun x => some (Value.int .i64 x)) (wr64 (by omega) (by omega)), trivial⟩
            · have hde : z.down.isEmpty = false := by cases hx : z.down with | nil => exact absurd hx hdn | cons a l => rfl
              have hdd : decide (ofInts B = ofInts (B ++ z.down)) = false := decide_eq_false (fun hh => hdn ((ofInts_nil_iff B z.down).1 hh))
              repeat (first | (refine st ?_) | (refine stx ?_) | (refine sb ?_) | (intro _))
              ((try (refine sg ?_)); (refine zx_call0 rfl fnc47 rfl rfl (fun w hm => QC.use (R := [(kb, Blk.c [.bool z.cOver, .bool z.rOver] 90 0 0)]) (EndRemote_any p z) q1 hm) ?_))
              refine zx_re 173 (.bool false) rfl (congrArg _ (hends.1.trans (by rw [hcv, hue]; rfl))) ?_
              repeat (first | (refine st ?_) | (refine stx ?_) | (refine sb ?_) | (intro _))
              skip
              repeat (first | (refine st ?_) | (refine stx ?_) | (refine sb ?_) | (intro _))
              ((try (refine sg ?_)); (refine zx_call0 rfl fnc44 rfl rfl (fun w hm => QC.use (R := [(kb, Blk.c [.bool z.cOver, .bool z.rOver] 90 0 0)]) (EndClient_any p z) q1 hm) ?_))
              refine zx_re 184 (.bool false) rfl (congrArg _ (hends.2.trans (by rw [hrv, hde]; rfl))) ?_
              repeat (first | (refine st ?_) | (refine stx ?_) | (refine sb ?_) | (intro _))
              skip
              repeat (first | (refine st ?_) | (refine stx ?_) | (refine sb ?_) | (intro _))
              refine z_weaken _ _ ?_ (List.Sublist.refl _) (fun _ h => h) (ih ⟨z, y, G, B, i' + 1⟩ ⟨q1, q2, hi⟩ (by show qs.length - (i' + 1) < qs.length - i'; omega))
              exact ⟨rfl, rfl, rfl, rfl, rfl, rfl, rfl, congrArg (fun x => some (Value.int .i64 x)) (wr64 (by omega) (by omega)), trivial⟩
          · skip
            repeat (first | (refine st ?_) | (refine stx ?_) | (refine sb ?_) | (intro _))
            ((try (refine sg ?_)); (refine zx_call0 rfl fnc47 rfl rfl (fun w hm => QC.use (R := [(kb, Blk.c [.bool z.cOver, .bool z.rOver] 90 0 0)]) (EndRemote_any p z) q1 hm) ?_))
            refine zx_re 173 (.bool false) rfl (congrArg _ (hends.1.trans (by rw [hcv, hue]; rfl))) ?_
            repeat (first | (refine st ?_) | (refine stx ?_) | (refine sb ?_) | (intro _))
            skip
            repeat (first | (refine st ?_) | (refine stx ?_) | (refine sb ?_) | (intro _))
            ((try (refine sg ?_)); (refine zx_call0 rfl fnc44 rfl rfl (fun w hm => QC.use (R := [(kb, Blk.c [.bool z.cOver, .bool z.rOver] 90 0 0)]) (EndClient_any p z) q1 hm) ?_))
            refine zx_re 184 (.bool false) rfl (congrArg _ (hends.2.trans (by rw [hrv]; rfl))) ?_
            repeat (first | (refine st ?_) | (refine stx ?_) | (refine sb ?_) | (intro _))
            skip
            repeat (first | (refine st ?_) | (refine stx ?_) | (refine sb ?_) | (intro _))
            refine z_weaken _ _ ?_ (List.Sublist.refl _) (fun _ h => h) (ih ⟨z, y, G, B, i' + 1⟩ ⟨q1, q2, hi⟩ (by show qs.length - (i' + 1) < qs.length - i'; omega))
            exact ⟨rfl, rfl, rfl, rfl, rfl, rfl, rfl, congrArg (fun x => some (Value.int .i64 x)) (wr64 (by omega) (by omega)), trivial⟩
      · skip
        rcases Bool.eq_false_or_eq_true z.rOver with hrv | hrv
        · skip
          by_cases hdn : z.down = []
          · have hde : z.down.isEmpty = true := by rw [hdn]; rfl
            have hdd : decide (ofInts B = ofInts (B ++ z.down)) = true := decide_eq_true ((ofInts_nil_iff B z.down).2 hdn)
            repeat (first | (refine st ?_) | (refine stx ?_) | (refine sb ?_) | (intro _))
            ((try (refine sg ?_)); (refine zx_call0 rfl fnc47 rfl rfl (fun w hm => QC.use (R := [(kb, Blk.c [.bool z.cOver, .bool z.rOver] 90 0 0)]) (EndRemote_any p z) q1 hm) ?_))
            refine zx_re 173 (.bool false) rfl (congrArg _ (hends.1.trans (by rw [hcv]; rfl))) ?_
            repeat (first | (refine st ?_) | (refine stx ?_) | (refine sb ?_) | (intro _))
            skip
            repeat (first | (refine st ?_) | (refine stx ?_) | (refine sb ?_) | (intro _))
            ((try (refine sg ?_)); (refine zx_call0 rfl fnc44 rfl rfl (fun w hm => QC.use (R := [(kb, Blk.c [.bool z.cOver, .bool z.rOver] 90 0 0)]) (EndClient_any p z) q1 hm) ?_))
            refine zx_re 184 (.bool true) rfl (congrArg _ (hends.2.trans (by rw [hrv, hde]; rfl))) ?_
            repeat (first | (refine st ?_) | (refine stx ?_) | (refine sb ?_) | (intro _))
            refine z_re 193 (.bool false) rfl (congrArg _ (by rw [hdd]; rfl)) ?_
            repeat (first | (refine st ?_) | (refine stx ?_) | (refine sb ?_) | (intro _))
            refine z_weaken _ _ ?_ (List.Sublist.refl _) (fun _ h => h) (ih ⟨z, y, G, B, i' + 1⟩ ⟨q1, q2, hi⟩ (by show qs.length - (i' + 1) < qs.length - i'; omega))
            exact ⟨rfl, rfl, rfl, rfl, rfl, rfl, rfl, congrArg (fun x => some (Value.int .i64 x)) (wr64 (by omega) (by omega)), trivial⟩
          · have hde : z.down.isEmpty = false := by cases hx : z.down with | nil => exact absurd hx hdn | cons a l => rfl
            have hdd : decide (ofInts B = ofInts (B ++ z.down)) = false := decide_eq_false (fun hh => hdn ((ofInts_nil_iff B z.down).1 hh))
            repeat (first | (refine st ?_) | (refine stx ?_) | (refine sb ?_) | (intro _))
            ((try (refine sg ?_)); (refine zx_call0 rfl fnc47 rfl rfl (fun w hm => QC.use (R := [(kb, Blk.c [.bool z.cOver, .bool z.rOver] 90 0 0)]) (EndRemote_any p z) q1 hm) ?_))
            refine zx_re 173 (.bool false) rfl (congrArg _ (hends.1.trans (by rw [hcv]; rfl))) ?_
            repeat (first | (refine st ?_) | (refine stx ?_) | (refine sb ?_) | (intro _))
            skip
            repeat (first | (refine st ?_) | (refine stx ?_) | (refine sb ?_) | (intro _))
            ((try (refine sg ?_)); (refine zx_call0 rfl fnc44 rfl rfl (fun w hm => QC.use (R := [(kb, Blk.c [.bool z.cOver, .bool z.rOver] 90 0 0)]) (EndClient_any p z) q1 hm) ?_))
            refine zx_re 184 (.bool false) rfl (congrArg _ (hends.2.trans (by rw [hrv, hde]; rfl))) ?_
            repeat (first | (refine st ?_) | (refine stx ?_) | (refine sb ?_) | (intro _))
            skip
            repeat (first | (refine st ?_) | (refine stx ?_) | (refine sb ?_) | (intro _))
            refine z_weaken _ _ ?_ (List.Sublist.refl _) (fun _ h => h) (ih ⟨z, y, G, B, i' + 1⟩ ⟨q1, q2, hi⟩ (by show qs.length - (i' + 1) < qs.length - i'; omega))
            exact ⟨rfl, rfl, rfl, rfl, rfl, rfl, rfl, congrArg (fun x => some (Value.int .i64 x)) (wr64 (by omega) (by omega)), trivial⟩
        · skip
          repeat (first | (refine st ?_) | (refine stx ?_) | (refine sb ?_) | (intro _))
          ((try (refine sg ?_)); (refine zx_call0 rfl fnc47 rfl rfl (fun w hm => QC.use (R := [(kb, Blk.c [.bool z.cOver, .bool z.rOver] 90 0 0)]) (EndRemote_any p z) q1 hm) ?_))
          refine zx_re 173 (.bool false) rfl (congrArg _ (hends.1.trans (by rw [hcv]; rfl))) ?_
          repeat (first | (refine st ?_) | (refine stx ?_) | (refine sb ?_) | (intro _))
          skip
          repeat (first | (refine st ?_) | (refine stx ?_) | (refine sb ?_) | (intro _))
          ((try (refine sg ?_)); (refine zx_call0 rfl fnc44 rfl rfl (fun w hm => QC.use (R := [(kb, Blk.c [.bool z.cOver, .bool z.rOver] 90 0 0)]) (EndClient_any p z) q1 hm) ?_))
          refine zx_re 184 (.bool false) rfl (congrArg _ (hends.2.trans (by rw [hrv]; rfl))) ?_
          repeat (first | (refine st ?_) | (refine stx ?_) | (refine sb ?_) | (intro _))
          skip
          repeat (first | (refine st ?_) | (refine stx ?_) | (refine sb ?_) | (intro _))
          refine z_weaken _ _ ?_ (List.Sublist.refl _) (fun _ h => h) (ih ⟨z, y, G, B, i' + 1⟩ ⟨q1, q2, hi⟩ (by show qs.length - (i' + 1) < qs.length - i'; omega))
          exact ⟨rfl, rfl, rfl, rfl, rfl, rfl, rfl, congrArg (fun x => some (Value.int .i64 x)) (wr64 (by omega) (by omega)), trivial⟩

    have hpk := pk_range q.kind 7 (by decide)
    generalize pk q.kind 7 = r at hpk
    by_cases h0 : r = 0
    · subst h0
      repeat (first | (refine st ?_) | (refine stx ?_) | (refine sb ?_) | (intro _))
      obtain ⟨z', k, hp9, hk9, hk0, hc9, hr8, hu9, hd9, hr9⟩ := q2.client q.data
      have hP := FromClient_any p z q.data q2.good hk3
      rw [hp9] at hP
      refine zx_call (Y := Own × Own) (v := fun _ => .int .i64 (k : Int)) (Φ := fun y => okX z' y) (L' := fun y => [(kq, Blk.c [.int .i64 q.kind, .int .i64 q.n, .string q.data, .bool q.ad.v6, .int .u8 (q.ad.b 0), .int .u8 (q.ad.b 1), .int .u8 (q.ad.b 2), .int .u8 (q.ad.b 3), .int .u8 (q.ad.b 4), .int .u8 (q.ad.b 5), .int .u8 (q.ad.b 6), .int .u8 (q.ad.b 7), .int .u8 (q.ad.b 8), .int .u8 (q.ad.b 9), .int .u8 (q.ad.b 10), .int .u8 (q.ad.b 11), .int .u8 (q.ad.b 12), .int .u8 (q.ad.b 13), .int .u8 (q.ad.b 14), .int .u8 (q.ad.b 15), .int .i64 q.port] 86 0 0), (kb, Blk.c [.bool z.cOver, .bool z.rOver] 90 0 0)] ++ pX p z' y) rfl fnc38 rfl rfl (fun w1 hm1 => PC.use (R := [(kq, Blk.c [.int .i64 q.kind, .int .i64 q.n, .string q.data, .bool q.ad.v6, .int .u8 (q.ad.b 0), .int .u8 (q.ad.b 1), .int .u8 (q.ad.b 2), .int .u8 (q.ad.b 3), .int .u8 (q.ad.b 4), .int .u8 (q.ad.b 5), .int .u8 (q.ad.b 6), .int .u8 (q.ad.b 7), .int .u8 (q.ad.b 8), .int .u8 (q.ad.b 9), .int .u8 (q.ad.b 10), .int .u8 (q.ad.b 11), .int .u8 (q.ad.b 12), .int .u8 (q.ad.b 13), .int .u8 (q.ad.b 14), .int .u8 (q.ad.b 15), .int .i64 q.port] 86 0 0), (kb, Blk.c [.bool z.cOver, .bool z.rOver] 90 0 0)]) hP q1 hm1) (fun y1 hy1 => ?_)
      rcases Bool.eq_false_or_eq_true z.cOver with hov | hov
      · have hkz := hk0 hov
        subst hkz
        repeat (first | (refine st ?_) | (refine stx ?_) | (refine sb ?_) | (intro _))
        ((try (refine sg ?_)); (refine zx_sliceN (0 ) ( 0 ) tab_ok rfl rfl rfl rfl rfl rfl rfl (by first | rfl | omega | (simp only [IntKind.wrap_i64]; omega)) (by first | rfl | omega | (simp only [IntKind.wrap_i64]; omega)) (by omega) (by omega) ?_))
        refine zx_re 93 (.string (ofInts ((bL q.data).take 0))) rfl (congrArg _ (ext_bL q.data _ (by omega))) ?_
        have z9 : (ofInts ((bL q.data).take 0)).size ≤ q.data.size := by rw [ofInts_size, List.length_take, bL_length]; omega
        refine zx_cat rfl rfl rfl (by omega) rfl ?_
        repeat (first | (refine st ?_) | (refine stx ?_) | (refine sb ?_) | (intro _))
        refine z_weaken _ _ ?_ ?_ (fun _ h => h) (J ⟨z', y1, G, B, i⟩ ⟨hy1, hr9, rfl⟩)
        · exact ⟨rfl, rfl, congrArg (fun x => some (Value.string x)) (by show ofInts (G ++ z.up) ++ ofInts ((bL q.data).take _) = ofInts (G ++ z'.up); rw [ofInts_app, hu9, List.append_assoc]), rfl, rfl, congrArg (fun x => some (Value.string (ofInts (B ++ x)))) hd9.symm, rfl, rfl, trivial⟩
        · show ((kb, Blk.c [.bool z'.cOver, .bool z'.rOver] 90 0 0) :: pX p z' y1).Sublist _
          rw [hc9, hr8]
          exact List.Sublist.cons _ (List.Sublist.refl _)
      · repeat (first | (refine st ?_) | (refine stx ?_) | (refine sb ?_) | (intro _))
        ((try (refine sg ?_)); (refine zx_sliceN (0 ) ( k ) tab_ok rfl rfl rfl rfl rfl rfl rfl (by first | rfl | omega | (simp only [IntKind.wrap_i64]; omega)) (by first | rfl | omega | (simp only [IntKind.wrap_i64]; omega)) (by omega) (by omega) ?_))
        refine zx_re 93 (.string (ofInts ((bL q.data).take k))) rfl (congrArg _ (ext_bL q.data _ (by omega))) ?_
        have z9 : (ofInts ((bL q.data).take k)).size ≤ q.data.size := by rw [ofInts_size, List.length_take, bL_length]; omega
        refine zx_cat rfl rfl rfl (by omega) rfl ?_
        repeat (first | (refine st ?_) | (refine stx ?_) | (refine sb ?_) | (intro _))
        refine z_weaken _ _ ?_ ?_ (fun _ h => h) (J ⟨z', y1, G, B, i⟩ ⟨hy1, hr9, rfl⟩)
        · exact ⟨rfl, rfl, congrArg (fun x => some (Value.string x)) (by show ofInts (G ++ z.up) ++ ofInts ((bL q.data).take _) = ofInts (G ++ z'.up); rw [ofInts_app, hu9, List.append_assoc]), rfl, rfl, congrArg (fun x => some (Value.string (ofInts (B ++ x)))) hd9.symm, rfl, rfl, trivial⟩
        · show ((kb, Blk.c [.bool z'.cOver, .bool z'.rOver] 90 0 0) :: pX p z' y1).Sublist _
          rw [hc9, hr8]
          exact List.Sublist.cons _ (List.Sublist.refl _)
    by_cases h1 : r = 1
    · subst h1
      repeat (first | (refine st ?_) | (refine stx ?_) | (refine sb ?_) | (intro _))
      obtain ⟨z', k, hp9, hk9, hk0, hc9, hr8, hu9, hd9, hr9⟩ := q2.remote q.data
      have hP := FromRemote_any p z q.data hk3 (by omega)
      rw [hp9] at hP
      refine zx_call (Y := Own × Own) (v := fun _ => .int .i64 (k : Int)) (Φ := fun y => okX z' y) (L' := fun y => [(kq, Blk.c [.int .i64 q.kind, .int .i64 q.n, .string q.data, .bool q.ad.v6, .int .u8 (q.ad.b 0), .int .u8 (q.ad.b 1), .int .u8 (q.ad.b 2), .int .u8 (q.ad.b 3), .int .u8 (q.ad.b 4), .int .u8 (q.ad.b 5), .int .u8 (q.ad.b 6), .int .u8 (q.ad.b 7), .int .u8 (q.ad.b 8), .int .u8 (q.ad.b 9), .int .u8 (q.ad.b 10), .int .u8 (q.ad.b 11), .int .u8 (q.ad.b 12), .int .u8 (q.ad.b 13), .int .u8 (q.ad.b 14), .int .u8 (q.ad.b 15), .int .i64 q.port] 86 0 0), (kb, Blk.c [.bool z.cOver, .bool z.rOver] 90 0 0)] ++ pX p z' y) rfl fnc46 rfl rfl (fun w1 hm1 => PC.use (R := [(kq, Blk.c [.int .i64 q.kind, .int .i64 q.n, .string q.data, .bool q.ad.v6, .int .u8 (q.ad.b 0), .int .u8 (q.ad.b 1), .int .u8 (q.ad.b 2), .int .u8 (q.ad.b 3), .int .u8 (q.ad.b 4), .int .u8 (q.ad.b 5), .int .u8 (q.ad.b 6), .int .u8 (q.ad.b 7), .int .u8 (q.ad.b 8), .int .u8 (q.ad.b 9), .int .u8 (q.ad.b 10), .int .u8 (q.ad.b 11), .int .u8 (q.ad.b 12), .int .u8 (q.ad.b 13), .int .u8 (q.ad.b 14), .int .u8 (q.ad.b 15), .int .i64 q.port] 86 0 0), (kb, Blk.c [.bool z.cOver, .bool z.rOver] 90 0 0)]) hP q1 hm1) (fun y1 hy1 => ?_)
      rcases Bool.eq_false_or_eq_true z.rOver with hov | hov
      · have hkz := hk0 hov
        subst hkz
        repeat (first | (refine st ?_) | (refine stx ?_) | (refine sb ?_) | (intro _))
        ((try (refine sg ?_)); (refine zx_sliceN (0 ) ( 0 ) tab_ok rfl rfl rfl rfl rfl rfl rfl (by first | rfl | omega | (simp only [IntKind.wrap_i64]; omega)) (by first | rfl | omega | (simp only [IntKind.wrap_i64]; omega)) (by omega) (by omega) ?_))
        refine zx_re 122 (.string (ofInts ((bL q.data).take 0))) rfl (congrArg _ (ext_bL q.data _ (by omega))) ?_
        have z9 : (ofInts ((bL q.data).take 0)).size ≤ q.data.size := by rw [ofInts_size, List.length_take, bL_length]; omega
        refine zx_cat rfl rfl rfl (by omega) rfl ?_
        repeat (first | (refine st ?_) | (refine stx ?_) | (refine sb ?_) | (intro _))
        refine z_weaken _ _ ?_ ?_ (fun _ h => h) (J ⟨z', y1, G, B, i⟩ ⟨hy1, hr9, rfl⟩)
        · exact ⟨rfl, rfl, congrArg (fun x => some (Value.string (ofInts (G ++ x)))) hu9.symm, rfl, rfl, congrArg (fun x => some (Value.string x)) (by show ofInts (B ++ z.down) ++ ofInts ((bL q.data).take _) = ofInts (B ++ z'.down); rw [ofInts_app, hd9, List.append_assoc]), rfl, rfl, trivial⟩
        · show ((kb, Blk.c [.bool z'.cOver, .bool z'.rOver] 90 0 0) :: pX p z' y1).Sublist _
          rw [hc9, hr8]
          exact List.Sublist.cons _ (List.Sublist.refl _)
      · repeat (first | (refine st ?_) | (refine stx ?_) | (refine sb ?_) | (intro _))
        ((try (refine sg ?_)); (refine zx_sliceN (0 ) ( k ) tab_ok rfl rfl rfl rfl rfl rfl rfl (by first | rfl | omega | (simp only [IntKind.wrap_i64]; omega)) (by first | rfl | omega | (simp only [IntKind.wrap_i64]; omega)) (by omega) (by omega) ?_))
        refine zx_re 122 (.string (ofInts ((bL q.data).take k))) rfl (congrArg _ (ext_bL q.data _ (by omega))) ?_
        have z9 : (ofInts ((bL q.data).take k)).size ≤ q.data.size := by rw [ofInts_size, List.length_take, bL_length]; omega
        refine zx_cat rfl rfl rfl (by omega) rfl ?_
        repeat (first | (refine st ?_) | (refine stx ?_) | (refine sb ?_) | (intro _))
        refine z_weaken _ _ ?_ ?_ (fun _ h => h) (J ⟨z', y1, G, B, i⟩ ⟨hy1, hr9, rfl⟩)
        · exact ⟨rfl, rfl, congrArg (fun x => some (Value.string (ofInts (G ++ x)))) hu9.symm, rfl, rfl, congrArg (fun x => some (Value.string x)) (by show ofInts (B ++ z.down) ++ ofInts ((bL q.data).take _) = ofInts (B ++ z'.down); rw [ofInts_app, hd9, List.append_assoc]), rfl, rfl, trivial⟩
        · show ((kb, Blk.c [.bool z'.cOver, .bool z'.rOver] 90 0 0) :: pX p z' y1).Sublist _
          rw [hc9, hr8]
          exact List.Sublist.cons _ (List.Sublist.refl _)
    by_cases h2 : r = 2
    · subst h2
      repeat (first | (refine st ?_) | (refine stx ?_) | (refine sb ?_) | (intro _))
      obtain ⟨z', l, hP, hu9, hd9, hc9, hr8, hr9⟩ := q2.toR p (pk q.n 5000) (pk_range q.n 5000 (by decide)).1
      ((try (refine sg ?_)); (refine zx_call0 rfl fnc52 rfl rfl (fun w hm => pick5000_any q.n hk2 w) ?_))
      refine zx_call (Y := Own × Own) (v := fun _ => .string (ofInts l)) (Φ := fun y => okX z' y) (L' := fun y => [(kq, Blk.c [.int .i64 q.kind, .int .i64 q.n, .string q.data, .bool q.ad.v6, .int .u8 (q.ad.b 0), .int .u8 (q.ad.b 1), .int .u8 (q.ad.b 2), .int .u8 (q.ad.b 3), .int .u8 (q.ad.b 4), .int .u8 (q.ad.b 5), .int .u8 (q.ad.b 6), .int .u8 (q.ad.b 7), .int .u8 (q.ad.b 8), .int .u8 (q.ad.b 9), .int .u8 (q.ad.b 10), .int .u8 (q.ad.b 11), .int .u8 (q.ad.b 12), .int .u8 (q.ad.b 13), .int .u8 (q.ad.b 14), .int .u8 (q.ad.b 15), .int .i64 q.port] 86 0 0), (kb, Blk.c [.bool z.cOver, .bool z.rOver] 90 0 0)] ++ pX p z' y) rfl fnc45 rfl rfl (fun w1 hm1 => PC.use (R := [(kq, Blk.c [.int .i64 q.kind, .int .i64 q.n, .string q.data, .bool q.ad.v6, .int .u8 (q.ad.b 0), .int .u8 (q.ad.b 1), .int .u8 (q.ad.b 2), .int .u8 (q.ad.b 3), .int .u8 (q.ad.b 4), .int .u8 (q.ad.b 5), .int .u8 (q.ad.b 6), .int .u8 (q.ad.b 7), .int .u8 (q.ad.b 8), .int .u8 (q.ad.b 9), .int .u8 (q.ad.b 10), .int .u8 (q.ad.b 11), .int .u8 (q.ad.b 12), .int .u8 (q.ad.b 13), .int .u8 (q.ad.b 14), .int .u8 (q.ad.b 15), .int .i64 q.port] 86 0 0), (kb, Blk.c [.bool z.cOver, .bool z.rOver] 90 0 0)]) hP q1 hm1) (fun y1 hy1 => ?_)
      have z9 : (ofInts l).size ≤ 4096 := by
        have := congrArg List.length hu9
        rw [List.length_append] at this
        rw [ofInts_size]; omega
      refine zx_cat rfl rfl rfl (by omega) rfl ?_
      repeat (first | (refine st ?_) | (refine stx ?_) | (refine sb ?_) | (intro _))
      refine z_weaken _ _ ?_ ?_ (fun _ h => h) (J ⟨z', y1, G ++ l, B, i⟩ ⟨hy1, hr9, rfl⟩)
      · exact ⟨rfl, rfl, congrArg (fun x => some (Value.string (ofInts x))) (by show G ++ z.up = G ++ l ++ z'.up; rw [List.append_assoc, hu9]), congrArg (fun x => some (Value.string x)) (ofInts_app G l), rfl, congrArg (fun x => some (Value.string (ofInts (B ++ x)))) hd9.symm, rfl, rfl, trivial⟩
      · show ((kb, Blk.c [.bool z'.cOver, .bool z'.rOver] 90 0 0) :: pX p z' y1).Sublist _
        rw [hc9, hr8]
        exact List.Sublist.cons _ (List.Sublist.refl _)
    by_cases h3 : r = 3
    · subst h3
      repeat (first | (refine st ?_) | (refine stx ?_) | (refine sb ?_) | (intro _))
      obtain ⟨z', l, hP, hu9, hd9, hc9, hr8, hr9⟩ := q2.toR p (pk q.n 5000) (pk_range q.n 5000 (by decide)).1
      ((try (refine sg ?_)); (refine zx_call0 rfl fnc52 rfl rfl (fun w hm => pick5000_any q.n hk2 w) ?_))
      refine zx_call (Y := Own × Own) (v := fun _ => .string (ofInts l)) (Φ := fun y => okX z' y) (L' := fun y => [(kq, Blk.c [.int .i64 q.kind, .int .i64 q.n, .string q.data, .bool q.ad.v6, .int .u8 (q.ad.b 0), .int .u8 (q.ad.b 1), .int .u8 (q.ad.b 2), .int .u8 (q.ad.b 3), .int .u8 (q.ad.b 4), .int .u8 (q.ad.b 5), .int .u8 (q.ad.b 6), .int .u8 (q.ad.b 7), .int .u8 (q.ad.b 8), .int .u8 (q.ad.b 9), .int .u8 (q.ad.b 10), .int .u8 (q.ad.b 11), .int .u8 (q.ad.b 12), .int .u8 (q.ad.b 13), .int .u8 (q.ad.b 14), .int .u8 (q.ad.b 15), .int .i64 q.port] 86 0 0), (kb, Blk.c [.bool z.cOver, .bool z.rOver] 90 0 0)] ++ pX p z' y) rfl fnc45 rfl rfl (fun w1 hm1 => PC.use (R := [(kq, Blk.c [.int .i64 q.kind, .int .i64 q.n, .string q.data, .bool q.ad.v6, .int .u8 (q.ad.b 0), .int .u8 (q.ad.b 1), .int .u8 (q.ad.b 2), .int .u8 (q.ad.b 3), .int .u8 (q.ad.b 4), .int .u8 (q.ad.b 5), .int .u8 (q.ad.b 6), .int .u8 (q.ad.b 7), .int .u8 (q.ad.b 8), .int .u8 (q.ad.b 9), .int .u8 (q.ad.b 10), .int .u8 (q.ad.b 11), .int .u8 (q.ad.b 12), .int .u8 (q.ad.b 13), .int .u8 (q.ad.b 14), .int .u8 (q.ad.b 15), .int .i64 q.port] 86 0 0), (kb, Blk.c [.bool z.cOver, .bool z.rOver] 90 0 0)]) hP q1 hm1) (fun y1 hy1 => ?_)
      have z9 : (ofInts l).size ≤ 4096 := by
        have := congrArg List.length hu9
        rw [List.length_append] at this
        rw [ofInts_size]; omega
      refine zx_cat rfl rfl rfl (by omega) rfl ?_
      repeat (first | (refine st ?_) | (refine stx ?_) | (refine sb ?_) | (intro _))
      refine z_weaken _ _ ?_ ?_ (fun _ h => h) (J ⟨z', y1, G ++ l, B, i⟩ ⟨hy1, hr9, rfl⟩)
      · exact ⟨rfl, rfl, congrArg (fun x => some (Value.string (ofInts x))) (by show G ++ z.up = G ++ l ++ z'.up; rw [List.append_assoc, hu9]), congrArg (fun x => some (Value.string x)) (ofInts_app G l), rfl, congrArg (fun x => some (Value.string (ofInts (B ++ x)))) hd9.symm, rfl, rfl, trivial⟩
      · show ((kb, Blk.c [.bool z'.cOver, .bool z'.rOver] 90 0 0) :: pX p z' y1).Sublist _
        rw [hc9, hr8]
        exact List.Sublist.cons _ (List.Sublist.refl _)
    by_cases h4 : r = 4
    · subst h4
      repeat (first | (refine st ?_) | (refine stx ?_) | (refine sb ?_) | (intro _))
      obtain ⟨z', l, hP, hu9, hd9, hc9, hr8, hr9⟩ := q2.toC p (pk q.n 5000) (pk_range q.n 5000 (by decide)).1
      ((try (refine sg ?_)); (refine zx_call0 rfl fnc52 rfl rfl (fun w hm => pick5000_any q.n hk2 w) ?_))
      refine zx_call (Y := Own × Own) (v := fun _ => .string (ofInts l)) (Φ := fun y => okX z' y) (L' := fun y => [(kq, Blk.c [.int .i64 q.kind, .int .i64 q.n, .string q.data, .bool q.ad.v6, .int .u8 (q.ad.b 0), .int .u8 (q.ad.b 1), .int .u8 (q.ad.b 2), .int .u8 (q.ad.b 3), .int .u8 (q.ad.b 4), .int .u8 (q.ad.b 5), .int .u8 (q.ad.b 6), .int .u8 (q.ad.b 7), .int .u8 (q.ad.b 8), .int .u8 (q.ad.b 9), .int .u8 (q.ad.b 10), .int .u8 (q.ad.b 11), .int .u8 (q.ad.b 12), .int .u8 (q.ad.b 13), .int .u8 (q.ad.b 14), .int .u8 (q.ad.b 15), .int .i64 q.port] 86 0 0), (kb, Blk.c [.bool z.cOver, .bool z.rOver] 90 0 0)] ++ pX p z' y) rfl fnc39 rfl rfl (fun w1 hm1 => PC.use (R := [(kq, Blk.c [.int .i64 q.kind, .int .i64 q.n, .string q.data, .bool q.ad.v6, .int .u8 (q.ad.b 0), .int .u8 (q.ad.b 1), .int .u8 (q.ad.b 2), .int .u8 (q.ad.b 3), .int .u8 (q.ad.b 4), .int .u8 (q.ad.b 5), .int .u8 (q.ad.b 6), .int .u8 (q.ad.b 7), .int .u8 (q.ad.b 8), .int .u8 (q.ad.b 9), .int .u8 (q.ad.b 10), .int .u8 (q.ad.b 11), .int .u8 (q.ad.b 12), .int .u8 (q.ad.b 13), .int .u8 (q.ad.b 14), .int .u8 (q.ad.b 15), .int .i64 q.port] 86 0 0), (kb, Blk.c [.bool z.cOver, .bool z.rOver] 90 0 0)]) hP q1 hm1) (fun y1 hy1 => ?_)
      have z9 : (ofInts l).size ≤ 4096 := by
        have := congrArg List.length hu9
        rw [List.length_append] at this
        rw [ofInts_size]; omega
      refine zx_cat rfl rfl rfl (by omega) rfl ?_
      repeat (first | (refine st ?_) | (refine stx ?_) | (refine sb ?_) | (intro _))
      refine z_weaken _ _ ?_ ?_ (fun _ h => h) (J ⟨z', y1, G, B ++ l, i⟩ ⟨hy1, hr9, rfl⟩)
      · exact ⟨rfl, rfl, congrArg (fun x => some (Value.string (ofInts (G ++ x)))) hd9.symm, rfl, congrArg (fun x => some (Value.string x)) (ofInts_app B l), congrArg (fun x => some (Value.string (ofInts x))) (by show B ++ z.down = B ++ l ++ z'.down; rw [List.append_assoc, hu9]), rfl, rfl, trivial⟩
      · show ((kb, Blk.c [.bool z'.cOver, .bool z'.rOver] 90 0 0) :: pX p z' y1).Sublist _
        rw [hc9, hr8]
        exact List.Sublist.cons _ (List.Sublist.refl _)
    by_cases h5 : r = 5
    · subst h5
      repeat (first | (refine st ?_) | (refine stx ?_) | (refine sb ?_) | (intro _))
      obtain ⟨z', l, hP, hu9, hd9, hc9, hr8, hr9⟩ := q2.toC p (pk q.n 5000) (pk_range q.n 5000 (by decide)).1
      ((try (refine sg ?_)); (refine zx_call0 rfl fnc52 rfl rfl (fun w hm => pick5000_any q.n hk2 w) ?_))
      refine zx_call (Y := Own × Own) (v := fun _ => .string (ofInts l)) (Φ := fun y => okX z' y) (L' := fun y => [(kq, Blk.c [.int .i64 q.kind, .int .i64 q.n, .string q.data, .bool q.ad.v6, .int .u8 (q.ad.b 0), .int .u8 (q.ad.b 1), .int .u8 (q.ad.b 2), .int .u8 (q.ad.b 3), .int .u8 (q.ad.b 4), .int .u8 (q.ad.b 5), .int .u8 (q.ad.b 6), .int .u8 (q.ad.b 7), .int .u8 (q.ad.b 8), .int .u8 (q.ad.b 9), .int .u8 (q.ad.b 10), .int .u8 (q.ad.b 11), .int .u8 (q.ad.b 12), .int .u8 (q.ad.b 13), .int .u8 (q.ad.b 14), .int .u8 (q.ad.b 15), .int .i64 q.port] 86 0 0), (kb, Blk.c [.bool z.cOver, .bool z.rOver] 90 0 0)] ++ pX p z' y) rfl fnc39 rfl rfl (fun w1 hm1 => PC.use (R := [(kq, Blk.c [.int .i64 q.kind, .int .i64 q.n, .string q.data, .bool q.ad.v6, .int .u8 (q.ad.b 0), .int .u8 (q.ad.b 1), .int .u8 (q.ad.b 2), .int .u8 (q.ad.b 3), .int .u8 (q.ad.b 4), .int .u8 (q.ad.b 5), .int .u8 (q.ad.b 6), .int .u8 (q.ad.b 7), .int .u8 (q.ad.b 8), .int .u8 (q.ad.b 9), .int .u8 (q.ad.b 10), .int .u8 (q.ad.b 11), .int .u8 (q.ad.b 12), .int .u8 (q.ad.b 13), .int .u8 (q.ad.b 14), .int .u8 (q.ad.b 15), .int .i64 q.port] 86 0 0), (kb, Blk.c [.bool z.cOver, .bool z.rOver] 90 0 0)]) hP q1 hm1) (fun y1 hy1 => ?_)
      have z9 : (ofInts l).size ≤ 4096 := by
        have := congrArg List.length hu9
        rw [List.length_append] at this
        rw [ofInts_size]; omega
      refine zx_cat rfl rfl rfl (by omega) rfl ?_
      repeat (first | (refine st ?_) | (refine stx ?_) | (refine sb ?_) | (intro _))
      refine z_weaken _ _ ?_ ?_ (fun _ h => h) (J ⟨z', y1, G, B ++ l, i⟩ ⟨hy1, hr9, rfl⟩)
      · exact ⟨rfl, rfl, congrArg (fun x => some (Value.string (ofInts (G ++ x)))) hd9.symm, rfl, congrArg (fun x => some (Value.string x)) (ofInts_app B l), congrArg (fun x => some (Value.string (ofInts x))) (by show B ++ z.down = B ++ l ++ z'.down; rw [List.append_assoc, hu9]), rfl, rfl, trivial⟩
      · show ((kb, Blk.c [.bool z'.cOver, .bool z'.rOver] 90 0 0) :: pX p z' y1).Sublist _
        rw [hc9, hr8]
        exact List.Sublist.cons _ (List.Sublist.refl _)
    have h6 : r = 6 := by omega
    subst h6
    repeat (first | (refine st ?_) | (refine stx ?_) | (refine sb ?_) | (intro _))
    by_cases hn2 : q.n.tmod 2 = 0
    · skip
      obtain ⟨z', hP, hu9, hd9, hc9, hr8, hr9⟩ := q2.endC p
      repeat (first | (refine st ?_) | (refine stx ?_) | (refine sb ?_) | (intro _))
      refine zx_call (Y := Own × Own) (v := fun _ => .tuple #[]) (Φ := fun y => okX z' y) (L' := fun y => [(kq, Blk.c [.int .i64 q.kind, .int .i64 q.n, .string q.data, .bool q.ad.v6, .int .u8 (q.ad.b 0), .int .u8 (q.ad.b 1), .int .u8 (q.ad.b 2), .int .u8 (q.ad.b 3), .int .u8 (q.ad.b 4), .int .u8 (q.ad.b 5), .int .u8 (q.ad.b 6), .int .u8 (q.ad.b 7), .int .u8 (q.ad.b 8), .int .u8 (q.ad.b 9), .int .u8 (q.ad.b 10), .int .u8 (q.ad.b 11), .int .u8 (q.ad.b 12), .int .u8 (q.ad.b 13), .int .u8 (q.ad.b 14), .int .u8 (q.ad.b 15), .int .i64 q.port] 86 0 0), (kb, Blk.c [.bool z.cOver, .bool z.rOver] 90 0 0)] ++ pX p z' y) rfl fnc53 rfl rfl (fun w1 hm1 => PC.use (R := [(kq, Blk.c [.int .i64 q.kind, .int .i64 q.n, .string q.data, .bool q.ad.v6, .int .u8 (q.ad.b 0), .int .u8 (q.ad.b 1), .int .u8 (q.ad.b 2), .int .u8 (q.ad.b 3), .int .u8 (q.ad.b 4), .int .u8 (q.ad.b 5), .int .u8 (q.ad.b 6), .int .u8 (q.ad.b 7), .int .u8 (q.ad.b 8), .int .u8 (q.ad.b 9), .int .u8 (q.ad.b 10), .int .u8 (q.ad.b 11), .int .u8 (q.ad.b 12), .int .u8 (q.ad.b 13), .int .u8 (q.ad.b 14), .int .u8 (q.ad.b 15), .int .i64 q.port] 86 0 0), (kb, Blk.c [.bool z.cOver, .bool z.rOver] 90 0 0)]) hP q1 hm1) (fun y1 hy1 => ?_)
      repeat (first | (refine st ?_) | (refine stx ?_) | (refine sb ?_) | (intro _))
      refine z_weaken _ _ ?_ ?_ (fun _ h => h) (J ⟨z', y1, G, B, i⟩ ⟨hy1, hr9, rfl⟩)
      · exact ⟨rfl, rfl, congrArg (fun x => some (Value.string (ofInts (G ++ x)))) hu9.symm, rfl, rfl, congrArg (fun x => some (Value.string (ofInts (B ++ x)))) hd9.symm, rfl, rfl, trivial⟩
      · show ((kb, Blk.c [.bool z'.cOver, .bool z'.rOver] 90 0 0) :: pX p z' y1).Sublist _
        rw [hc9, hr8]
        exact List.Sublist.cons _ (List.Sublist.refl _)
    · skip
      obtain ⟨z', hP, hu9, hd9, hc9, hr8, hr9⟩ := q2.endR p
      repeat (first | (refine st ?_) | (refine stx ?_) | (refine sb ?_) | (intro _))
      refine zx_call (Y := Own × Own) (v := fun _ => .tuple #[]) (Φ := fun y => okX z' y) (L' := fun y => [(kq, Blk.c [.int .i64 q.kind, .int .i64 q.n, .string q.data, .bool q.ad.v6, .int .u8 (q.ad.b 0), .int .u8 (q.ad.b 1), .int .u8 (q.ad.b 2), .int .u8 (q.ad.b 3), .int .u8 (q.ad.b 4), .int .u8 (q.ad.b 5), .int .u8 (q.ad.b 6), .int .u8 (q.ad.b 7), .int .u8 (q.ad.b 8), .int .u8 (q.ad.b 9), .int .u8 (q.ad.b 10), .int .u8 (q.ad.b 11), .int .u8 (q.ad.b 12), .int .u8 (q.ad.b 13), .int .u8 (q.ad.b 14), .int .u8 (q.ad.b 15), .int .i64 q.port] 86 0 0), (kb, Blk.c [.bool z.cOver, .bool z.rOver] 90 0 0)] ++ pX p z' y) rfl fnc54 rfl rfl (fun w1 hm1 => PC.use (R := [(kq, Blk.c [.int .i64 q.kind, .int .i64 q.n, .string q.data, .bool q.ad.v6, .int .u8 (q.ad.b 0), .int .u8 (q.ad.b 1), .int .u8 (q.ad.b 2), .int .u8 (q.ad.b 3), .int .u8 (q.ad.b 4), .int .u8 (q.ad.b 5), .int .u8 (q.ad.b 6), .int .u8 (q.ad.b 7), .int .u8 (q.ad.b 8), .int .u8 (q.ad.b 9), .int .u8 (q.ad.b 10), .int .u8 (q.ad.b 11), .int .u8 (q.ad.b 12), .int .u8 (q.ad.b 13), .int .u8 (q.ad.b 14), .int .u8 (q.ad.b 15), .int .i64 q.port] 86 0 0), (kb, Blk.c [.bool z.cOver, .bool z.rOver] 90 0 0)]) hP q1 hm1) (fun y1 hy1 => ?_)
      repeat (first | (refine st ?_) | (refine stx ?_) | (refine sb ?_) | (intro _))
      refine z_weaken _ _ ?_ ?_ (fun _ h => h) (J ⟨z', y1, G, B, i⟩ ⟨hy1, hr9, rfl⟩)
      · exact ⟨rfl, rfl, congrArg (fun x => some (Value.string (ofInts (G ++ x)))) hu9.symm, rfl, rfl, congrArg (fun x => some (Value.string (ofInts (B ++ x)))) hd9.symm, rfl, rfl, trivial⟩
      · show ((kb, Blk.c [.bool z'.cOver, .bool z'.rOver] 90 0 0) :: pX p z' y1).Sublist _
        rw [hc9, hr8]
        exact List.Sublist.cons _ (List.Sublist.refl _)
  · have e2 : decide (IntKind.i64.wrap (((ofInts (B ++ z.down)).size : Int) - ((ofInts B).size : Int)) ≤ 4096) = true := by
      rw [wr64 (by omega) (by omega)]
      exact decide_eq_true (by omega)
    repeat (first | (refine st ?_) | (refine stx ?_) | (refine sb ?_) | (intro _))
    refine z_ret1 tab_ok Try.func12 hb hk Try.results12 (.tmp rfl) (fun w hm => ?_)
    exact ⟨by rw [e2], hm.bare⟩
end Go.Proofs.Ytabcaiecoiejkaa
