/- Walk of the law UdpApart: it answers true. -/
import Derived.Test.YtabcaiecoiejkaaW2
import Derived.Test.YtabcaiecoiejkaaD2
set_option maxRecDepth 100000
set_option linter.unusedSimpArgs false
set_option linter.unusedVariables false
set_option maxHeartbeats 4000000
namespace Go.Proofs.Ytabcaiecoiejkaa
open Go K

/-- an operation of a script -/
structure Oq where
  kind : Int
  port : Int
  n : Int
  la : Option Addr
  l : List ByteArray
  lcap : Nat
def Oq.cells (o : Oq) : List Value := [.int .i64 o.kind, .int .i64 o.port, .int .i64 o.n, .slice o.la o.l.length o.lcap]
def okW (x : Int) : Prop := -9223372036854775808 ≤ x ∧ x ≤ 9223372036854775807
theorem wrW {x : Int} (h1 : -9223372036854775808 ≤ x) (h2 : x ≤ 9223372036854775807) : IntKind.i64.wrap x = x := by
  simp only [IntKind.wrap_i64]
  omega
def M3 (x y z : Pq) : Mm := mQ x ++ (mQ y ++ mQ z)
theorem NewPortsQ (w : World) : Calls Try.prog 61 [].toArray w fun e w' => ∃ x : Pq, x.st = none ∧ e = .returned (ptr x.p) ∧ Mem w [] (mQ x) w' := (NewPorts_any w).mono fun e w' ⟨p, _, he, hm⟩ => ⟨⟨p, none⟩, rfl, he, hm⟩
theorem apt0 {x y z : Pq} (hx : x.st = none) (hy : y.st = none) (hz : z.st = none) : Apt x y z := by
  obtain ⟨px, sx⟩ := x
  obtain ⟨py, sy⟩ := y
  obtain ⟨pz, sz⟩ := z
  subst hx hy hz
  have h : ∀ p, WQ ⟨p, none⟩ := fun p => ⟨List.nodup_nil, (fun c hc => by cases hc), trivial⟩
  exact ⟨h _, h _, h _, rfl, rfl, fun _ _ _ => rfl, fun _ _ => rfl, fun _ _ => rfl⟩
theorem ListLen (x : Pq) (hx : WQ x) (hl : x.cs.length ≤ 16) (hr : inRange x.cs) (w : World) (hw : Mem w ((mQ x).map (·.1)) (mQ x) w) :
    Calls Try.prog 63 [ptr x.p].toArray w fun e w' => ∃ u : Option Addr × Nat, True ∧ e = .returned (.slice u.1 x.cs.length u.2) ∧ Mem w [] [] w' := (ListV x hx hl hr w hw).mono fun e w' ⟨v, ⟨w0, hv⟩, he, hm⟩ => by
  obtain ⟨a, cap, h⟩ := hv.form
  rw [List.length_map] at h
  exact ⟨(a, cap), trivial, by rw [he, h], hm⟩
theorem UdpApart_any (a : Option Addr) (qs : List Oq) (cap bs off : Nat) (hqa : qs = [] ∨ a = some ⟨bs, off, none⟩) (hql : qs.length ≤ 1000000000000000) (w : World)
    (hqc : ∀ (i : Nat) q, qs[i]? = some q → okW q.kind ∧ okW q.port ∧ okW q.n ∧ StrsAt w [] q.la q.l ∧ ∀ j v, q.cells[j]? = some v → w.cell? ⟨bs, off + i * 4 + j, none⟩ = some v) :
    Calls Try.prog 16 [.slice a qs.length cap].toArray w fun e w' => e = .returned (.bool true) ∧ Mem w [] [] w' := by
  refine calls_of_z Try.func16 rfl Try.ntmps16 rfl (Mem.refl w) ?_; intro cs b hb hk
  repeat (first | (refine st ?_) | (refine stx ?_) | (refine sb ?_) | (intro _))
  ((try (refine sg ?_)); (refine zx_call0 rfl fnc17 rfl rfl (fun w hm => awake16_any w) ?_))
  repeat (first | (refine st ?_) | (refine stx ?_) | (refine sb ?_) | (intro _))
  refine zx_call (Y := Pq) (v := fun x => ptr x.p) (Φ := fun x => x.st = none) (L' := fun x => mQ x) rfl fnc61 rfl rfl (fun w1 hm1 => (NewPortsQ w1).mono fun e w' ⟨x, hx, he, hm'⟩ => ⟨x, hx, he, by have := hm1.trans0 hm'; rwa [List.append_nil] at this⟩) (fun x hx => ?_)
  repeat (first | (refine st ?_) | (refine stx ?_) | (refine sb ?_) | (intro _))
  refine zx_call (Y := Pq) (v := fun y => ptr y.p) (Φ := fun y => y.st = none) (L' := fun y => mQ y ++ mQ x) rfl fnc61 rfl rfl (fun w1 hm1 => (NewPortsQ w1).mono fun e w' ⟨y, hy, he, hm'⟩ => ⟨y, hy, he, hm1.trans0 hm'⟩) (fun y hy => ?_)
  repeat (first | (refine st ?_) | (refine stx ?_) | (refine sb ?_) | (intro _))
  refine zx_call (Y := Pq) (v := fun z => ptr z.p) (Φ := fun z => z.st = none) (L' := fun z => M3 x y z) rfl fnc61 rfl rfl (fun w1 hm1 => (NewPortsQ w1).mono fun e w' ⟨z, hz, he, hm'⟩ => ⟨z, hz, he, (hm1.trans0 hm').perm (by
    unfold M3
    rw [← List.append_assoc]
    exact (List.perm_append_comm.append_right _).trans List.perm_append_comm)⟩) (fun z hz => ?_)
  repeat (first | (refine st ?_) | (refine stx ?_) | (refine sb ?_) | (intro _))
  refine z_loop (fun g : Nat × Pq × Pq × Pq => g.1 ≤ qs.length ∧ Apt g.2.1 g.2.2.1 g.2.2.2) (fun g => [(0, .slice a qs.length cap), (3, .bool true), (4, ptr g.2.1.p), (5, ptr g.2.2.1.p), (6, ptr g.2.2.2.p), (7, .int .i64 (g.1 : Int))]) (fun g => M3 g.2.1 g.2.2.1 g.2.2.2) (fun g => qs.length - g.1) (0, x, y, z) ⟨Nat.zero_le _, apt0 hx hy hz⟩ ⟨rfl, rfl, rfl, rfl, rfl, rfl, trivial⟩ (List.Sublist.refl _) ?_
  intro g hg ih
  clear hx hy hz x y z
  obtain ⟨i, x, y, z⟩ := g
  obtain ⟨hi0, ha⟩ := hg
  simp only at hi0 ha
  refine z_weaken [(0, .slice a qs.length cap), (3, .bool true), (4, ptr x.p), (5, ptr y.p), (6, ptr z.p), (7, .int .i64 (i : Int))] (M3 x y z) ⟨rfl, rfl, rfl, rfl, rfl, rfl, trivial⟩ (List.Sublist.refl _) (fun _ h => h) ?_
  by_cases hi : i < qs.length
  · obtain ⟨q, hq0⟩ : ∃ q, qs[i]? = some q := ⟨_, List.getElem?_eq_getElem hi⟩
    obtain ⟨hk1, hk2, hk3, hstr, hqc⟩ := hqc i q hq0
    obtain ⟨kind, port, n, la, l, lcap⟩ := q
    have hll : l.length ≤ 1000000000000000 := by obtain ⟨_, _, _, h, _⟩ := hstr; exact h
    obtain ⟨hk1a, hk1b⟩ := hk1
    have hae : a = some ⟨bs, off, none⟩ := by
      rcases hqa with h | h
      · subst h; exact absurd hi (Nat.not_lt_zero _)
      · exact h
    subst hae
    repeat (first | (refine st ?_) | (refine stx ?_) | (refine sb ?_) | (intro _))
    refine zx_idxA (sz := i * 4) tab_ok rfl rfl rfl rfl rfl rfl (by omega) (by omega) (by simp) ?_
    refine zx_loadBB tab_ok [.int .i64 kind, .int .i64 port, .int .i64 n, .slice la l.length lcap] rfl rfl rfl rfl hqc (by simp) rfl rfl ?_
    repeat (first | (refine st ?_) | (refine stx ?_) | (intro _))
    rename_i ob
    refine z_mem ((ob, .c [.int .i64 kind, .int .i64 1001, .int .i64 n, .slice la l.length lcap] 119 0 0) :: M3 x y z) rfl ?_
    simp only at hk1a hk1b hstr hk2 hk3
    by_cases he : n.tmod 2 = 0
    · refine z_re 46 (.bool true) rfl (congrArg _ (beq_iff_eq.2 he)) ?_
      repeat (first | (refine st ?_) | (refine stx ?_) | (refine sb ?_) | (intro _))
      refine z_re 10 (.int .i64 ((1 + l.length : Nat) : Int)) rfl (congrArg _ (by rw [wrW (by omega) (by omega)]; omega)) ?_
      have hK1 := Int.tmod_lt_of_pos kind (b := 4) (by decide)
      have hK2 := Int.lt_tmod_of_pos kind (b := 4) (by decide)
      rcases (show kind.tmod 4 = 0 ∨ kind.tmod 4 = 1 ∨ kind.tmod 4 = -1 ∨ kind.tmod 4 = 2 ∨ kind.tmod 4 = -2 ∨ kind.tmod 4 = 3 ∨ kind.tmod 4 = -3 by omega) with hK | hK | hK | hK | hK | hK | hK
      · refine z_re 55 (.int .i64 (0)) rfl (congrArg _ hK) ?_
        refine z_re 70 (.bool true) rfl (by show Value.bool (kind.tmod 4 == 0) = _; rw [hK]; rfl) ?_
        refine z_weaken [(0, .slice (some ⟨bs, off, none⟩) qs.length cap), (3, .bool true), (4, ptr x.p), (5, ptr y.p), (6, ptr z.p), (7, .int .i64 (i : Int)), (8, ptr ob), (9, ptr z.p), (10, .int .i64 ((1 + l.length : Nat) : Int)), (11, .int .i64 0), (12, .int .i64 0), (13, .int .i64 0), (14, .int .i64 0), (15, .string ⟨#[]⟩), (16, .string ⟨#[]⟩), (55, .int .i64 (0)), (70, .bool true)] ((ob, .c [.int .i64 kind, .int .i64 2002, .int .i64 n, .slice la l.length lcap] 119 0 0) :: M3 x y z) ⟨rfl, rfl, rfl, rfl, rfl, rfl, rfl, rfl, rfl, rfl, rfl, rfl, rfl, rfl, rfl, rfl, rfl, trivial⟩ (List.Sublist.refl _) (fun _ h => h) ?_
        have hvx := OpenV x 2002 (1 + l.length) ha.wx (by decide) (by omega) (by have := ha.count; omega)
        have hvc := OpenV z 2002 (1 + l.length) ha.wz (by decide) (by omega) (by have := ha.count; omega)
        rw [ha.two] at hvc
        generalize rOpen (vw x.cs 2002) 2002 (1 + l.length) = o at hvx hvc
        obtain ⟨o1, o2⟩ := o
        generalize nOpen (vw x.cs 2002) (1 + l.length) = r at hvx hvc
        simp only at hvx hvc
        repeat (first | (refine st ?_) | (refine stx ?_) | (refine sb ?_) | (intro _))
        refine zx_call (Y := Pq) (v := fun _ => .tuple #[.int .i64 o1, .int .i64 o2]) (Φ := fun x' => Stp x x' 2002 r) (L' := fun x' => (ob, .c [.int .i64 kind, .int .i64 2002, .int .i64 n, .slice la l.length lcap] 119 0 0) :: M3 x' y z) rfl fnc66 rfl rfl (fun w1 hm1 => at3 hm1 (px3 [_] (mQ x) (mQ y ++ mQ z)) (fun S => [_] ++ (S ++ (mQ y ++ mQ z))) (fun S => px1 [_] S _) (fun hw => hvx w1 hw)) (fun x' hx' => ?_)
        repeat (first | (refine st ?_) | (refine stx ?_) | (refine sb ?_) | (intro _))
        refine zx_call (Y := Pq) (v := fun _ => .tuple #[.int .i64 o1, .int .i64 o2]) (Φ := fun z' => Stp z z' 2002 r) (L' := fun z' => (ob, .c [.int .i64 kind, .int .i64 2002, .int .i64 n, .slice la l.length lcap] 119 0 0) :: M3 x' y z') rfl fnc66 rfl rfl (fun w1 hm1 => at3 hm1 (px0 [_] (mQ x') (mQ y) (mQ z)).symm (fun S => [_] ++ (mQ x' ++ (mQ y ++ S))) (fun S => px0 [_] (mQ x') (mQ y) S) (fun hw => hvc w1 hw)) (fun z' hz' => ?_)
        have ha' := ha.stepTwo hx' hz'
        repeat (first | (refine st ?_) | (refine stx ?_) | (intro _))
        refine zx_re 4 (ptr x'.p) rfl (by rw [hx'.p]) ?_
        refine zx_re 5 (ptr y.p) rfl (rfl) ?_
        refine zx_re 6 (ptr z'.p) rfl (by rw [hz'.p]) ?_
        refine zx_re 123 (.bool false) rfl (by first | rfl | simp) ?_
        repeat (first | (refine st ?_) | (refine stx ?_) | (intro _))
        refine zx_re 128 (.bool false) rfl (by first | rfl | simp) ?_
        repeat (first | (refine st ?_) | (refine stx ?_) | (intro _))
        refine zx_re 133 (.bool false) rfl (by first | rfl | simp) ?_
        repeat (first | (refine st ?_) | (refine stx ?_) | (intro _))
        ((try (refine sg ?_)); (refine zx_call0 rfl fnc64 rfl rfl (fun w hm => at3q hm (px3 [_] (mQ x') (mQ y ++ mQ z')) (WaitV x' 1001)) ?_))
        repeat (first | (refine st ?_) | (refine stx ?_) | (intro _))
        ((try (refine sg ?_)); (refine zx_call0 rfl fnc64 rfl rfl (fun w hm => at3q hm (px2 [_] (mQ x') (mQ y) (mQ z')).symm (WaitV y 1001)) ?_))
        repeat (first | (refine st ?_) | (refine stx ?_) | (intro _))
        refine zx_re 140 (.bool false) rfl (by rw [ha'.one]; first | rfl | simp) ?_
        repeat (first | (refine st ?_) | (refine stx ?_) | (intro _))
        ((try (refine sg ?_)); (refine zx_call0 rfl fnc64 rfl rfl (fun w hm => at3q hm (px3 [_] (mQ x') (mQ y ++ mQ z')) (WaitV x' 2002)) ?_))
        repeat (first | (refine st ?_) | (refine stx ?_) | (intro _))
        ((try (refine sg ?_)); (refine zx_call0 rfl fnc64 rfl rfl (fun w hm => at3q hm (px0 [_] (mQ x') (mQ y) (mQ z')).symm (WaitV z' 2002)) ?_))
        repeat (first | (refine st ?_) | (refine stx ?_) | (intro _))
        refine z_re 146 (.bool false) rfl (by rw [ha'.two]; first | rfl | simp) ?_
        repeat (first | (refine st ?_) | (refine stx ?_) | (intro _))
        refine z_re 7 (.int .i64 ((i + 1 : Nat) : Int)) rfl (congrArg _ (wrW (by omega) (by omega))) ?_
        refine z_weaken _ _ ?_ ?_ (fun _ h => h) (ih (i + 1, x', y, z') ⟨hi, ha'⟩ (by show qs.length - (i + 1) < qs.length - i; omega))
        · exact ⟨rfl, rfl, rfl, rfl, rfl, rfl, trivial⟩
        · exact List.Sublist.cons _ (List.Sublist.refl _)
      · refine z_re 55 (.int .i64 (1)) rfl (congrArg _ hK) ?_
        refine z_re 70 (.bool false) rfl (by show Value.bool (kind.tmod 4 == 0) = _; rw [hK]; rfl) ?_
        refine z_weaken [(0, .slice (some ⟨bs, off, none⟩) qs.length cap), (3, .bool true), (4, ptr x.p), (5, ptr y.p), (6, ptr z.p), (7, .int .i64 (i : Int)), (8, ptr ob), (9, ptr z.p), (10, .int .i64 ((1 + l.length : Nat) : Int)), (11, .int .i64 0), (12, .int .i64 0), (13, .int .i64 0), (14, .int .i64 0), (15, .string ⟨#[]⟩), (16, .string ⟨#[]⟩), (55, .int .i64 (1)), (70, .bool false)] ((ob, .c [.int .i64 kind, .int .i64 2002, .int .i64 n, .slice la l.length lcap] 119 0 0) :: M3 x y z) ⟨rfl, rfl, rfl, rfl, rfl, rfl, rfl, rfl, rfl, rfl, rfl, rfl, rfl, rfl, rfl, rfl, rfl, trivial⟩ (List.Sublist.refl _) (fun _ h => h) ?_
        have hvx := ShutV x 2002 ha.wx
        have hvc := ShutV z 2002 ha.wz
        rw [ha.two] at hvc
        generalize rShut (vw x.cs 2002) = o1 at hvx hvc
        obtain ⟨r, hr⟩ : ∃ r : Vw, r = none := ⟨_, rfl⟩
        rw [← hr] at hvx hvc
        repeat (first | (refine st ?_) | (refine stx ?_) | (refine sb ?_) | (intro _))
        refine zx_call (Y := Pq) (v := fun _ => .int .i64 o1) (Φ := fun x' => Stp x x' 2002 r) (L' := fun x' => (ob, .c [.int .i64 kind, .int .i64 2002, .int .i64 n, .slice la l.length lcap] 119 0 0) :: M3 x' y z) rfl fnc67 rfl rfl (fun w1 hm1 => at3 hm1 (px3 [_] (mQ x) (mQ y ++ mQ z)) (fun S => [_] ++ (S ++ (mQ y ++ mQ z))) (fun S => px1 [_] S _) (fun hw => hvx w1 hw)) (fun x' hx' => ?_)
        repeat (first | (refine st ?_) | (refine stx ?_) | (refine sb ?_) | (intro _))
        refine zx_call (Y := Pq) (v := fun _ => .int .i64 o1) (Φ := fun z' => Stp z z' 2002 r) (L' := fun z' => (ob, .c [.int .i64 kind, .int .i64 2002, .int .i64 n, .slice la l.length lcap] 119 0 0) :: M3 x' y z') rfl fnc67 rfl rfl (fun w1 hm1 => at3 hm1 (px0 [_] (mQ x') (mQ y) (mQ z)).symm (fun S => [_] ++ (mQ x' ++ (mQ y ++ S))) (fun S => px0 [_] (mQ x') (mQ y) S) (fun hw => hvc w1 hw)) (fun z' hz' => ?_)
        have ha' := ha.stepTwo hx' hz'
        repeat (first | (refine st ?_) | (refine stx ?_) | (intro _))
        refine zx_re 4 (ptr x'.p) rfl (by rw [hx'.p]) ?_
        refine zx_re 5 (ptr y.p) rfl (rfl) ?_
        refine zx_re 6 (ptr z'.p) rfl (by rw [hz'.p]) ?_
        refine zx_re 123 (.bool false) rfl (by first | rfl | simp) ?_
        repeat (first | (refine st ?_) | (refine stx ?_) | (intro _))
        refine zx_re 128 (.bool false) rfl (by first | rfl | simp) ?_
        repeat (first | (refine st ?_) | (refine stx ?_) | (intro _))
        refine zx_re 133 (.bool false) rfl (by first | rfl | simp) ?_
        repeat (first | (refine st ?_) | (refine stx ?_) | (intro _))
        ((try (refine sg ?_)); (refine zx_call0 rfl fnc64 rfl rfl (fun w hm => at3q hm (px3 [_] (mQ x') (mQ y ++ mQ z')) (WaitV x' 1001)) ?_))
        repeat (first | (refine st ?_) | (refine stx ?_) | (intro _))
        ((try (refine sg ?_)); (refine zx_call0 rfl fnc64 rfl rfl (fun w hm => at3q hm (px2 [_] (mQ x') (mQ y) (mQ z')).symm (WaitV y 1001)) ?_))
        repeat (first | (refine st ?_) | (refine stx ?_) | (intro _))
        refine zx_re 140 (.bool false) rfl (by rw [ha'.one]; first | rfl | simp) ?_
        repeat (first | (refine st ?_) | (refine stx ?_) | (intro _))
        ((try (refine sg ?_)); (refine zx_call0 rfl fnc64 rfl rfl (fun w hm => at3q hm (px3 [_] (mQ x') (mQ y ++ mQ z')) (WaitV x' 2002)) ?_))
        repeat (first | (refine st ?_) | (refine stx ?_) | (intro _))
        ((try (refine sg ?_)); (refine zx_call0 rfl fnc64 rfl rfl (fun w hm => at3q hm (px0 [_] (mQ x') (mQ y) (mQ z')).symm (WaitV z' 2002)) ?_))
        repeat (first | (refine st ?_) | (refine stx ?_) | (intro _))
        refine z_re 146 (.bool false) rfl (by rw [ha'.two]; first | rfl | simp) ?_
        repeat (first | (refine st ?_) | (refine stx ?_) | (intro _))
        refine z_re 7 (.int .i64 ((i + 1 : Nat) : Int)) rfl (congrArg _ (wrW (by omega) (by omega))) ?_
        refine z_weaken _ _ ?_ ?_ (fun _ h => h) (ih (i + 1, x', y, z') ⟨hi, ha'⟩ (by show qs.length - (i + 1) < qs.length - i; omega))
        · exact ⟨rfl, rfl, rfl, rfl, rfl, rfl, trivial⟩
        · exact List.Sublist.cons _ (List.Sublist.refl _)
      · refine z_re 55 (.int .i64 (-1)) rfl (congrArg _ hK) ?_
        refine z_re 70 (.bool false) rfl (by show Value.bool (kind.tmod 4 == 0) = _; rw [hK]; rfl) ?_
        refine z_weaken [(0, .slice (some ⟨bs, off, none⟩) qs.length cap), (3, .bool true), (4, ptr x.p), (5, ptr y.p), (6, ptr z.p), (7, .int .i64 (i : Int)), (8, ptr ob), (9, ptr z.p), (10, .int .i64 ((1 + l.length : Nat) : Int)), (11, .int .i64 0), (12, .int .i64 0), (13, .int .i64 0), (14, .int .i64 0), (15, .string ⟨#[]⟩), (16, .string ⟨#[]⟩), (55, .int .i64 (-1)), (70, .bool false)] ((ob, .c [.int .i64 kind, .int .i64 2002, .int .i64 n, .slice la l.length lcap] 119 0 0) :: M3 x y z) ⟨rfl, rfl, rfl, rfl, rfl, rfl, rfl, rfl, rfl, rfl, rfl, rfl, rfl, rfl, rfl, rfl, rfl, trivial⟩ (List.Sublist.refl _) (fun _ h => h) ?_
        have hvx := ShutV x 2002 ha.wx
        have hvc := ShutV z 2002 ha.wz
        rw [ha.two] at hvc
        generalize rShut (vw x.cs 2002) = o1 at hvx hvc
        obtain ⟨r, hr⟩ : ∃ r : Vw, r = none := ⟨_, rfl⟩
        rw [← hr] at hvx hvc
        repeat (first | (refine st ?_) | (refine stx ?_) | (refine sb ?_) | (intro _))
        refine zx_call (Y := Pq) (v := fun _ => .int .i64 o1) (Φ := fun x' => Stp x x' 2002 r) (L' := fun x' => (ob, .c [.int .i64 kind, .int .i64 2002, .int .i64 n, .slice la l.length lcap] 119 0 0) :: M3 x' y z) rfl fnc67 rfl rfl (fun w1 hm1 => at3 hm1 (px3 [_] (mQ x) (mQ y ++ mQ z)) (fun S => [_] ++ (S ++ (mQ y ++ mQ z))) (fun S => px1 [_] S _) (fun hw => hvx w1 hw)) (fun x' hx' => ?_)
        repeat (first | (refine st ?_) | (refine stx ?_) | (refine sb ?_) | (intro _))
        refine zx_call (Y := Pq) (v := fun _ => .int .i64 o1) (Φ := fun z' => Stp z z' 2002 r) (L' := fun z' => (ob, .c [.int .i64 kind, .int .i64 2002, .int .i64 n, .slice la l.length lcap] 119 0 0) :: M3 x' y z') rfl fnc67 rfl rfl (fun w1 hm1 => at3 hm1 (px0 [_] (mQ x') (mQ y) (mQ z)).symm (fun S => [_] ++ (mQ x' ++ (mQ y ++ S))) (fun S => px0 [_] (mQ x') (mQ y) S) (fun hw => hvc w1 hw)) (fun z' hz' => ?_)
        have ha' := ha.stepTwo hx' hz'
        repeat (first | (refine st ?_) | (refine stx ?_) | (intro _))
        refine zx_re 4 (ptr x'.p) rfl (by rw [hx'.p]) ?_
        refine zx_re 5 (ptr y.p) rfl (rfl) ?_
        refine zx_re 6 (ptr z'.p) rfl (by rw [hz'.p]) ?_
        refine zx_re 123 (.bool false) rfl (by first | rfl | simp) ?_
        repeat (first | (refine st ?_) | (refine stx ?_) | (intro _))
        refine zx_re 128 (.bool false) rfl (by first | rfl | simp) ?_
        repeat (first | (refine st ?_) | (refine stx ?_) | (intro _))
        refine zx_re 133 (.bool false) rfl (by first | rfl | simp) ?_
        repeat (first | (refine st ?_) | (refine stx ?_) | (intro _))
        ((try (refine sg ?_)); (refine zx_call0 rfl fnc64 rfl rfl (fun w hm => at3q hm (px3 [_] (mQ x') (mQ y ++ mQ z')) (WaitV x' 1001)) ?_))
        repeat (first | (refine st ?_) | (refine stx ?_) | (intro _))
        ((try (refine sg ?_)); (refine zx_call0 rfl fnc64 rfl rfl (fun w hm => at3q hm (px2 [_] (mQ x') (mQ y) (mQ z')).symm (WaitV y 1001)) ?_))
        repeat (first | (refine st ?_) | (refine stx ?_) | (intro _))
        refine zx_re 140 (.bool false) rfl (by rw [ha'.one]; first | rfl | simp) ?_
        repeat (first | (refine st ?_) | (refine stx ?_) | (intro _))
        ((try (refine sg ?_)); (refine zx_call0 rfl fnc64 rfl rfl (fun w hm => at3q hm (px3 [_] (mQ x') (mQ y ++ mQ z')) (WaitV x' 2002)) ?_))
        repeat (first | (refine st ?_) | (refine stx ?_) | (intro _))
        ((try (refine sg ?_)); (refine zx_call0 rfl fnc64 rfl rfl (fun w hm => at3q hm (px0 [_] (mQ x') (mQ y) (mQ z')).symm (WaitV z' 2002)) ?_))
        repeat (first | (refine st ?_) | (refine stx ?_) | (intro _))
        refine z_re 146 (.bool false) rfl (by rw [ha'.two]; first | rfl | simp) ?_
        repeat (first | (refine st ?_) | (refine stx ?_) | (intro _))
        refine z_re 7 (.int .i64 ((i + 1 : Nat) : Int)) rfl (congrArg _ (wrW (by omega) (by omega))) ?_
        refine z_weaken _ _ ?_ ?_ (fun _ h => h) (ih (i + 1, x', y, z') ⟨hi, ha'⟩ (by show qs.length - (i + 1) < qs.length - i; omega))
        · exact ⟨rfl, rfl, rfl, rfl, rfl, rfl, trivial⟩
        · exact List.Sublist.cons _ (List.Sublist.refl _)
      · refine z_re 55 (.int .i64 (2)) rfl (congrArg _ hK) ?_
        refine z_re 70 (.bool false) rfl (by show Value.bool (kind.tmod 4 == 0) = _; rw [hK]; rfl) ?_
        refine z_weaken [(0, .slice (some ⟨bs, off, none⟩) qs.length cap), (3, .bool true), (4, ptr x.p), (5, ptr y.p), (6, ptr z.p), (7, .int .i64 (i : Int)), (8, ptr ob), (9, ptr z.p), (10, .int .i64 ((1 + l.length : Nat) : Int)), (11, .int .i64 0), (12, .int .i64 0), (13, .int .i64 0), (14, .int .i64 0), (15, .string ⟨#[]⟩), (16, .string ⟨#[]⟩), (55, .int .i64 (2)), (70, .bool false)] ((ob, .c [.int .i64 kind, .int .i64 2002, .int .i64 n, .slice la l.length lcap] 119 0 0) :: M3 x y z) ⟨rfl, rfl, rfl, rfl, rfl, rfl, rfl, rfl, rfl, rfl, rfl, rfl, rfl, rfl, rfl, rfl, rfl, trivial⟩ (List.Sublist.refl _) (fun _ h => h) ?_
        have hvx := OfferV x 2002 la l lcap ha.wx
        have hvc := OfferV z 2002 la l lcap ha.wz
        rw [ha.two] at hvc
        generalize rOffer (vw x.cs 2002) l = o at hvx hvc
        obtain ⟨o1, o2⟩ := o
        generalize nOffer (vw x.cs 2002) l = r at hvx hvc
        simp only at hvx hvc
        repeat (first | (refine st ?_) | (refine stx ?_) | (refine sb ?_) | (intro _))
        refine zx_call (Y := Pq) (v := fun _ => .tuple #[.int .i64 o1, .int .i64 o2]) (Φ := fun x' => Stp x x' 2002 r) (L' := fun x' => (ob, .c [.int .i64 kind, .int .i64 2002, .int .i64 n, .slice la l.length lcap] 119 0 0) :: M3 x' y z) rfl fnc68 rfl rfl (fun w1 hm1 => at3 hm1 (px3 [_] (mQ x) (mQ y ++ mQ z)) (fun S => [_] ++ (S ++ (mQ y ++ mQ z))) (fun S => px1 [_] S _) (fun hw => hvx w1 hw (hstr.now hm1 (fun p hp => List.mem_cons_of_mem _ (List.mem_append_left _ hp))))) (fun x' hx' => ?_)
        repeat (first | (refine st ?_) | (refine stx ?_) | (refine sb ?_) | (intro _))
        refine zx_call (Y := Pq) (v := fun _ => .tuple #[.int .i64 o1, .int .i64 o2]) (Φ := fun z' => Stp z z' 2002 r) (L' := fun z' => (ob, .c [.int .i64 kind, .int .i64 2002, .int .i64 n, .slice la l.length lcap] 119 0 0) :: M3 x' y z') rfl fnc68 rfl rfl (fun w1 hm1 => at3 hm1 (px0 [_] (mQ x') (mQ y) (mQ z)).symm (fun S => [_] ++ (mQ x' ++ (mQ y ++ S))) (fun S => px0 [_] (mQ x') (mQ y) S) (fun hw => hvc w1 hw (hstr.now hm1 (fun p hp => List.mem_cons_of_mem _ (List.mem_append_right _ (List.mem_append_right _ hp)))))) (fun z' hz' => ?_)
        have ha' := ha.stepTwo hx' hz'
        repeat (first | (refine st ?_) | (refine stx ?_) | (intro _))
        refine zx_re 4 (ptr x'.p) rfl (by rw [hx'.p]) ?_
        refine zx_re 5 (ptr y.p) rfl (rfl) ?_
        refine zx_re 6 (ptr z'.p) rfl (by rw [hz'.p]) ?_
        refine zx_re 123 (.bool false) rfl (by first | rfl | simp) ?_
        repeat (first | (refine st ?_) | (refine stx ?_) | (intro _))
        refine zx_re 128 (.bool false) rfl (by first | rfl | simp) ?_
        repeat (first | (refine st ?_) | (refine stx ?_) | (intro _))
        refine zx_re 133 (.bool false) rfl (by first | rfl | simp) ?_
        repeat (first | (refine st ?_) | (refine stx ?_) | (intro _))
        ((try (refine sg ?_)); (refine zx_call0 rfl fnc64 rfl rfl (fun w hm => at3q hm (px3 [_] (mQ x') (mQ y ++ mQ z')) (WaitV x' 1001)) ?_))
        repeat (first | (refine st ?_) | (refine stx ?_) | (intro _))
        ((try (refine sg ?_)); (refine zx_call0 rfl fnc64 rfl rfl (fun w hm => at3q hm (px2 [_] (mQ x') (mQ y) (mQ z')).symm (WaitV y 1001)) ?_))
        repeat (first | (refine st ?_) | (refine stx ?_) | (intro _))
        refine zx_re 140 (.bool false) rfl (by rw [ha'.one]; first | rfl | simp) ?_
        repeat (first | (refine st ?_) | (refine stx ?_) | (intro _))
        ((try (refine sg ?_)); (refine zx_call0 rfl fnc64 rfl rfl (fun w hm => at3q hm (px3 [_] (mQ x') (mQ y ++ mQ z')) (WaitV x' 2002)) ?_))
        repeat (first | (refine st ?_) | (refine stx ?_) | (intro _))
        ((try (refine sg ?_)); (refine zx_call0 rfl fnc64 rfl rfl (fun w hm => at3q hm (px0 [_] (mQ x') (mQ y) (mQ z')).symm (WaitV z' 2002)) ?_))
        repeat (first | (refine st ?_) | (refine stx ?_) | (intro _))
        refine z_re 146 (.bool false) rfl (by rw [ha'.two]; first | rfl | simp) ?_
        repeat (first | (refine st ?_) | (refine stx ?_) | (intro _))
        refine z_re 7 (.int .i64 ((i + 1 : Nat) : Int)) rfl (congrArg _ (wrW (by omega) (by omega))) ?_
        refine z_weaken _ _ ?_ ?_ (fun _ h => h) (ih (i + 1, x', y, z') ⟨hi, ha'⟩ (by show qs.length - (i + 1) < qs.length - i; omega))
        · exact ⟨rfl, rfl, rfl, rfl, rfl, rfl, trivial⟩
        · exact List.Sublist.cons _ (List.Sublist.refl _)
      · refine z_re 55 (.int .i64 (-2)) rfl (congrArg _ hK) ?_
        refine z_re 70 (.bool false) rfl (by show Value.bool (kind.tmod 4 == 0) = _; rw [hK]; rfl) ?_
        refine z_weaken [(0, .slice (some ⟨bs, off, none⟩) qs.length cap), (3, .bool true), (4, ptr x.p), (5, ptr y.p), (6, ptr z.p), (7, .int .i64 (i : Int)), (8, ptr ob), (9, ptr z.p), (10, .int .i64 ((1 + l.length : Nat) : Int)), (11, .int .i64 0), (12, .int .i64 0), (13, .int .i64 0), (14, .int .i64 0), (15, .string ⟨#[]⟩), (16, .string ⟨#[]⟩), (55, .int .i64 (-2)), (70, .bool false)] ((ob, .c [.int .i64 kind, .int .i64 2002, .int .i64 n, .slice la l.length lcap] 119 0 0) :: M3 x y z) ⟨rfl, rfl, rfl, rfl, rfl, rfl, rfl, rfl, rfl, rfl, rfl, rfl, rfl, rfl, rfl, rfl, rfl, trivial⟩ (List.Sublist.refl _) (fun _ h => h) ?_
        have hvx := OfferV x 2002 la l lcap ha.wx
        have hvc := OfferV z 2002 la l lcap ha.wz
        rw [ha.two] at hvc
        generalize rOffer (vw x.cs 2002) l = o at hvx hvc
        obtain ⟨o1, o2⟩ := o
        generalize nOffer (vw x.cs 2002) l = r at hvx hvc
        simp only at hvx hvc
        repeat (first | (refine st ?_) | (refine stx ?_) | (refine sb ?_) | (intro _))
        refine zx_call (Y := Pq) (v := fun _ => .tuple #[.int .i64 o1, .int .i64 o2]) (Φ := fun x' => Stp x x' 2002 r) (L' := fun x' => (ob, .c [.int .i64 kind, .int .i64 2002, .int .i64 n, .slice la l.length lcap] 119 0 0) :: M3 x' y z) rfl fnc68 rfl rfl (fun w1 hm1 => at3 hm1 (px3 [_] (mQ x) (mQ y ++ mQ z)) (fun S => [_] ++ (S ++ (mQ y ++ mQ z))) (fun S => px1 [_] S _) (fun hw => hvx w1 hw (hstr.now hm1 (fun p hp => List.mem_cons_of_mem _ (List.mem_append_left _ hp))))) (fun x' hx' => ?_)
        repeat (first | (refine st ?_) | (refine stx ?_) | (refine sb ?_) | (intro _))
        refine zx_call (Y := Pq) (v := fun _ => .tuple #[.int .i64 o1, .int .i64 o2]) (Φ := fun z' => Stp z z' 2002 r) (L' := fun z' => (ob, .c [.int .i64 kind, .int .i64 2002, .int .i64 n, .slice la l.length lcap] 119 0 0) :: M3 x' y z') rfl fnc68 rfl rfl (fun w1 hm1 => at3 hm1 (px0 [_] (mQ x') (mQ y) (mQ z)).symm (fun S => [_] ++ (mQ x' ++ (mQ y ++ S))) (fun S => px0 [_] (mQ x') (mQ y) S) (fun hw => hvc w1 hw (hstr.now hm1 (fun p hp => List.mem_cons_of_mem _ (List.mem_append_right _ (List.mem_append_right _ hp)))))) (fun z' hz' => ?_)
        have ha' := ha.stepTwo hx' hz'
        repeat (first | (refine st ?_) | (refine stx ?_) | (intro _))
        refine zx_re 4 (ptr x'.p) rfl (by rw [hx'.p]) ?_
        refine zx_re 5 (ptr y.p) rfl (rfl) ?_
        refine zx_re 6 (ptr z'.p) rfl (by rw [hz'.p]) ?_
        refine zx_re 123 (.bool false) rfl (by first | rfl | simp) ?_
        repeat (first | (refine st ?_) | (refine stx ?_) | (intro _))
        refine zx_re 128 (.bool false) rfl (by first | rfl | simp) ?_
        repeat (first | (refine st ?_) | (refine stx ?_) | (intro _))
        refine zx_re 133 (.bool false) rfl (by first | rfl | simp) ?_
        repeat (first | (refine st ?_) | (refine stx ?_) | (intro _))
        ((try (refine sg ?_)); (refine zx_call0 rfl fnc64 rfl rfl (fun w hm => at3q hm (px3 [_] (mQ x') (mQ y ++ mQ z')) (WaitV x' 1001)) ?_))
        repeat (first | (refine st ?_) | (refine stx ?_) | (intro _))
        ((try (refine sg ?_)); (refine zx_call0 rfl fnc64 rfl rfl (fun w hm => at3q hm (px2 [_] (mQ x') (mQ y) (mQ z')).symm (WaitV y 1001)) ?_))
        repeat (first | (refine st ?_) | (refine stx ?_) | (intro _))
        refine zx_re 140 (.bool false) rfl (by rw [ha'.one]; first | rfl | simp) ?_
        repeat (first | (refine st ?_) | (refine stx ?_) | (intro _))
        ((try (refine sg ?_)); (refine zx_call0 rfl fnc64 rfl rfl (fun w hm => at3q hm (px3 [_] (mQ x') (mQ y ++ mQ z')) (WaitV x' 2002)) ?_))
        repeat (first | (refine st ?_) | (refine stx ?_) | (intro _))
        ((try (refine sg ?_)); (refine zx_call0 rfl fnc64 rfl rfl (fun w hm => at3q hm (px0 [_] (mQ x') (mQ y) (mQ z')).symm (WaitV z' 2002)) ?_))
        repeat (first | (refine st ?_) | (refine stx ?_) | (intro _))
        refine z_re 146 (.bool false) rfl (by rw [ha'.two]; first | rfl | simp) ?_
        repeat (first | (refine st ?_) | (refine stx ?_) | (intro _))
        refine z_re 7 (.int .i64 ((i + 1 : Nat) : Int)) rfl (congrArg _ (wrW (by omega) (by omega))) ?_
        refine z_weaken _ _ ?_ ?_ (fun _ h => h) (ih (i + 1, x', y, z') ⟨hi, ha'⟩ (by show qs.length - (i + 1) < qs.length - i; omega))
        · exact ⟨rfl, rfl, rfl, rfl, rfl, rfl, trivial⟩
        · exact List.Sublist.cons _ (List.Sublist.refl _)
      · refine z_re 55 (.int .i64 (3)) rfl (congrArg _ hK) ?_
        refine z_re 70 (.bool false) rfl (by show Value.bool (kind.tmod 4 == 0) = _; rw [hK]; rfl) ?_
        refine z_weaken [(0, .slice (some ⟨bs, off, none⟩) qs.length cap), (3, .bool true), (4, ptr x.p), (5, ptr y.p), (6, ptr z.p), (7, .int .i64 (i : Int)), (8, ptr ob), (9, ptr z.p), (10, .int .i64 ((1 + l.length : Nat) : Int)), (11, .int .i64 0), (12, .int .i64 0), (13, .int .i64 0), (14, .int .i64 0), (15, .string ⟨#[]⟩), (16, .string ⟨#[]⟩), (55, .int .i64 (3)), (70, .bool false)] ((ob, .c [.int .i64 kind, .int .i64 2002, .int .i64 n, .slice la l.length lcap] 119 0 0) :: M3 x y z) ⟨rfl, rfl, rfl, rfl, rfl, rfl, rfl, rfl, rfl, rfl, rfl, rfl, rfl, rfl, rfl, rfl, rfl, trivial⟩ (List.Sublist.refl _) (fun _ h => h) ?_
        have hvx := TakeV x 2002 ha.wx
        have hvc := TakeV z 2002 ha.wz
        rw [ha.two] at hvc
        generalize rTake (vw x.cs 2002) = o at hvx hvc
        obtain ⟨o1, o2⟩ := o
        generalize nTake (vw x.cs 2002) = r at hvx hvc
        simp only at hvx hvc
        repeat (first | (refine st ?_) | (refine stx ?_) | (refine sb ?_) | (intro _))
        refine zx_call (Y := Pq) (v := fun _ => .tuple #[.string o1, .int .i64 o2]) (Φ := fun x' => Stp x x' 2002 r) (L' := fun x' => (ob, .c [.int .i64 kind, .int .i64 2002, .int .i64 n, .slice la l.length lcap] 119 0 0) :: M3 x' y z) rfl fnc69 rfl rfl (fun w1 hm1 => at3 hm1 (px3 [_] (mQ x) (mQ y ++ mQ z)) (fun S => [_] ++ (S ++ (mQ y ++ mQ z))) (fun S => px1 [_] S _) (fun hw => hvx w1 hw)) (fun x' hx' => ?_)
        repeat (first | (refine st ?_) | (refine stx ?_) | (refine sb ?_) | (intro _))
        refine zx_call (Y := Pq) (v := fun _ => .tuple #[.string o1, .int .i64 o2]) (Φ := fun z' => Stp z z' 2002 r) (L' := fun z' => (ob, .c [.int .i64 kind, .int .i64 2002, .int .i64 n, .slice la l.length lcap] 119 0 0) :: M3 x' y z') rfl fnc69 rfl rfl (fun w1 hm1 => at3 hm1 (px0 [_] (mQ x') (mQ y) (mQ z)).symm (fun S => [_] ++ (mQ x' ++ (mQ y ++ S))) (fun S => px0 [_] (mQ x') (mQ y) S) (fun hw => hvc w1 hw)) (fun z' hz' => ?_)
        have ha' := ha.stepTwo hx' hz'
        repeat (first | (refine st ?_) | (refine stx ?_) | (intro _))
        refine zx_re 4 (ptr x'.p) rfl (by rw [hx'.p]) ?_
        refine zx_re 5 (ptr y.p) rfl (rfl) ?_
        refine zx_re 6 (ptr z'.p) rfl (by rw [hz'.p]) ?_
        refine zx_re 123 (.bool false) rfl (by first | rfl | simp) ?_
        repeat (first | (refine st ?_) | (refine stx ?_) | (intro _))
        refine zx_re 128 (.bool false) rfl (by first | rfl | simp) ?_
        repeat (first | (refine st ?_) | (refine stx ?_) | (intro _))
        refine zx_re 133 (.bool false) rfl (by first | rfl | simp) ?_
        repeat (first | (refine st ?_) | (refine stx ?_) | (intro _))
        ((try (refine sg ?_)); (refine zx_call0 rfl fnc64 rfl rfl (fun w hm => at3q hm (px3 [_] (mQ x') (mQ y ++ mQ z')) (WaitV x' 1001)) ?_))
        repeat (first | (refine st ?_) | (refine stx ?_) | (intro _))
        ((try (refine sg ?_)); (refine zx_call0 rfl fnc64 rfl rfl (fun w hm => at3q hm (px2 [_] (mQ x') (mQ y) (mQ z')).symm (WaitV y 1001)) ?_))
        repeat (first | (refine st ?_) | (refine stx ?_) | (intro _))
        refine zx_re 140 (.bool false) rfl (by rw [ha'.one]; first | rfl | simp) ?_
        repeat (first | (refine st ?_) | (refine stx ?_) | (intro _))
        ((try (refine sg ?_)); (refine zx_call0 rfl fnc64 rfl rfl (fun w hm => at3q hm (px3 [_] (mQ x') (mQ y ++ mQ z')) (WaitV x' 2002)) ?_))
        repeat (first | (refine st ?_) | (refine stx ?_) | (intro _))
        ((try (refine sg ?_)); (refine zx_call0 rfl fnc64 rfl rfl (fun w hm => at3q hm (px0 [_] (mQ x') (mQ y) (mQ z')).symm (WaitV z' 2002)) ?_))
        repeat (first | (refine st ?_) | (refine stx ?_) | (intro _))
        refine z_re 146 (.bool false) rfl (by rw [ha'.two]; first | rfl | simp) ?_
        repeat (first | (refine st ?_) | (refine stx ?_) | (intro _))
        refine z_re 7 (.int .i64 ((i + 1 : Nat) : Int)) rfl (congrArg _ (wrW (by omega) (by omega))) ?_
        refine z_weaken _ _ ?_ ?_ (fun _ h => h) (ih (i + 1, x', y, z') ⟨hi, ha'⟩ (by show qs.length - (i + 1) < qs.length - i; omega))
        · exact ⟨rfl, rfl, rfl, rfl, rfl, rfl, trivial⟩
        · exact List.Sublist.cons _ (List.Sublist.refl _)
      · refine z_re 55 (.int .i64 (-3)) rfl (congrArg _ hK) ?_
        refine z_re 70 (.bool false) rfl (by show Value.bool (kind.tmod 4 == 0) = _; rw [hK]; rfl) ?_
        refine z_weaken [(0, .slice (some ⟨bs, off, none⟩) qs.length cap), (3, .bool true), (4, ptr x.p), (5, ptr y.p), (6, ptr z.p), (7, .int .i64 (i : Int)), (8, ptr ob), (9, ptr z.p), (10, .int .i64 ((1 + l.length : Nat) : Int)), (11, .int .i64 0), (12, .int .i64 0), (13, .int .i64 0), (14, .int .i64 0), (15, .string ⟨#[]⟩), (16, .string ⟨#[]⟩), (55, .int .i64 (-3)), (70, .bool false)] ((ob, .c [.int .i64 kind, .int .i64 2002, .int .i64 n, .slice la l.length lcap] 119 0 0) :: M3 x y z) ⟨rfl, rfl, rfl, rfl, rfl, rfl, rfl, rfl, rfl, rfl, rfl, rfl, rfl, rfl, rfl, rfl, rfl, trivial⟩ (List.Sublist.refl _) (fun _ h => h) ?_
        have hvx := TakeV x 2002 ha.wx
        have hvc := TakeV z 2002 ha.wz
        rw [ha.two] at hvc
        generalize rTake (vw x.cs 2002) = o at hvx hvc
        obtain ⟨o1, o2⟩ := o
        generalize nTake (vw x.cs 2002) = r at hvx hvc
        simp only at hvx hvc
        repeat (first | (refine st ?_) | (refine stx ?_) | (refine sb ?_) | (intro _))
        refine zx_call (Y := Pq) (v := fun _ => .tuple #[.string o1, .int .i64 o2]) (Φ := fun x' => Stp x x' 2002 r) (L' := fun x' => (ob, .c [.int .i64 kind, .int .i64 2002, .int .i64 n, .slice la l.length lcap] 119 0 0) :: M3 x' y z) rfl fnc69 rfl rfl (fun w1 hm1 => at3 hm1 (px3 [_] (mQ x) (mQ y ++ mQ z)) (fun S => [_] ++ (S ++ (mQ y ++ mQ z))) (fun S => px1 [_] S _) (fun hw => hvx w1 hw)) (fun x' hx' => ?_)
        repeat (first | (refine st ?_) | (refine stx ?_) | (refine sb ?_) | (intro _))
        refine zx_call (Y := Pq) (v := fun _ => .tuple #[.string o1, .int .i64 o2]) (Φ := fun z' => Stp z z' 2002 r) (L' := fun z' => (ob, .c [.int .i64 kind, .int .i64 2002, .int .i64 n, .slice la l.length lcap] 119 0 0) :: M3 x' y z') rfl fnc69 rfl rfl (fun w1 hm1 => at3 hm1 (px0 [_] (mQ x') (mQ y) (mQ z)).symm (fun S => [_] ++ (mQ x' ++ (mQ y ++ S))) (fun S => px0 [_] (mQ x') (mQ y) S) (fun hw => hvc w1 hw)) (fun z' hz' => ?_)
        have ha' := ha.stepTwo hx' hz'
        repeat (first | (refine st ?_) | (refine stx ?_) | (intro _))
        refine zx_re 4 (ptr x'.p) rfl (by rw [hx'.p]) ?_
        refine zx_re 5 (ptr y.p) rfl (rfl) ?_
        refine zx_re 6 (ptr z'.p) rfl (by rw [hz'.p]) ?_
        refine zx_re 123 (.bool false) rfl (by first | rfl | simp) ?_
        repeat (first | (refine st ?_) | (refine stx ?_) | (intro _))
        refine zx_re 128 (.bool false) rfl (by first | rfl | simp) ?_
        repeat (first | (refine st ?_) | (refine stx ?_) | (intro _))
        refine zx_re 133 (.bool false) rfl (by first | rfl | simp) ?_
        repeat (first | (refine st ?_) | (refine stx ?_) | (intro _))
        ((try (refine sg ?_)); (refine zx_call0 rfl fnc64 rfl rfl (fun w hm => at3q hm (px3 [_] (mQ x') (mQ y ++ mQ z')) (WaitV x' 1001)) ?_))
        repeat (first | (refine st ?_) | (refine stx ?_) | (intro _))
        ((try (refine sg ?_)); (refine zx_call0 rfl fnc64 rfl rfl (fun w hm => at3q hm (px2 [_] (mQ x') (mQ y) (mQ z')).symm (WaitV y 1001)) ?_))
        repeat (first | (refine st ?_) | (refine stx ?_) | (intro _))
        refine zx_re 140 (.bool false) rfl (by rw [ha'.one]; first | rfl | simp) ?_
        repeat (first | (refine st ?_) | (refine stx ?_) | (intro _))
        ((try (refine sg ?_)); (refine zx_call0 rfl fnc64 rfl rfl (fun w hm => at3q hm (px3 [_] (mQ x') (mQ y ++ mQ z')) (WaitV x' 2002)) ?_))
        repeat (first | (refine st ?_) | (refine stx ?_) | (intro _))
        ((try (refine sg ?_)); (refine zx_call0 rfl fnc64 rfl rfl (fun w hm => at3q hm (px0 [_] (mQ x') (mQ y) (mQ z')).symm (WaitV z' 2002)) ?_))
        repeat (first | (refine st ?_) | (refine stx ?_) | (intro _))
        refine z_re 146 (.bool false) rfl (by rw [ha'.two]; first | rfl | simp) ?_
        repeat (first | (refine st ?_) | (refine stx ?_) | (intro _))
        refine z_re 7 (.int .i64 ((i + 1 : Nat) : Int)) rfl (congrArg _ (wrW (by omega) (by omega))) ?_
        refine z_weaken _ _ ?_ ?_ (fun _ h => h) (ih (i + 1, x', y, z') ⟨hi, ha'⟩ (by show qs.length - (i + 1) < qs.length - i; omega))
        · exact ⟨rfl, rfl, rfl, rfl, rfl, rfl, trivial⟩
        · exact List.Sublist.cons _ (List.Sublist.refl _)
    · refine z_re 46 (.bool false) rfl (congrArg _ (beq_eq_false_iff_ne.2 he)) ?_
      repeat (first | (refine st ?_) | (refine stx ?_) | (refine sb ?_) | (intro _))
      refine z_re 10 (.int .i64 ((1 + l.length : Nat) : Int)) rfl (congrArg _ (by rw [wrW (by omega) (by omega)]; omega)) ?_
      have hK1 := Int.tmod_lt_of_pos kind (b := 4) (by decide)
      have hK2 := Int.lt_tmod_of_pos kind (b := 4) (by decide)
      rcases (show kind.tmod 4 = 0 ∨ kind.tmod 4 = 1 ∨ kind.tmod 4 = -1 ∨ kind.tmod 4 = 2 ∨ kind.tmod 4 = -2 ∨ kind.tmod 4 = 3 ∨ kind.tmod 4 = -3 by omega) with hK | hK | hK | hK | hK | hK | hK
      · refine z_re 55 (.int .i64 (0)) rfl (congrArg _ hK) ?_
        refine z_re 70 (.bool true) rfl (by show Value.bool (kind.tmod 4 == 0) = _; rw [hK]; rfl) ?_
        refine z_weaken [(0, .slice (some ⟨bs, off, none⟩) qs.length cap), (3, .bool true), (4, ptr x.p), (5, ptr y.p), (6, ptr z.p), (7, .int .i64 (i : Int)), (8, ptr ob), (9, ptr y.p), (10, .int .i64 ((1 + l.length : Nat) : Int)), (11, .int .i64 0), (12, .int .i64 0), (13, .int .i64 0), (14, .int .i64 0), (15, .string ⟨#[]⟩), (16, .string ⟨#[]⟩), (55, .int .i64 (0)), (70, .bool true)] ((ob, .c [.int .i64 kind, .int .i64 1001, .int .i64 n, .slice la l.length lcap] 119 0 0) :: M3 x y z) ⟨rfl, rfl, rfl, rfl, rfl, rfl, rfl, rfl, rfl, rfl, rfl, rfl, rfl, rfl, rfl, rfl, rfl, trivial⟩ (List.Sublist.refl _) (fun _ h => h) ?_
        have hvx := OpenV x 1001 (1 + l.length) ha.wx (by decide) (by omega) (by have := ha.count; omega)
        have hvc := OpenV y 1001 (1 + l.length) ha.wy (by decide) (by omega) (by have := ha.count; omega)
        rw [ha.one] at hvc
        generalize rOpen (vw x.cs 1001) 1001 (1 + l.length) = o at hvx hvc
        obtain ⟨o1, o2⟩ := o
        generalize nOpen (vw x.cs 1001) (1 + l.length) = r at hvx hvc
        simp only at hvx hvc
        repeat (first | (refine st ?_) | (refine stx ?_) | (refine sb ?_) | (intro _))
        refine zx_call (Y := Pq) (v := fun _ => .tuple #[.int .i64 o1, .int .i64 o2]) (Φ := fun x' => Stp x x' 1001 r) (L' := fun x' => (ob, .c [.int .i64 kind, .int .i64 1001, .int .i64 n, .slice la l.length lcap] 119 0 0) :: M3 x' y z) rfl fnc66 rfl rfl (fun w1 hm1 => at3 hm1 (px3 [_] (mQ x) (mQ y ++ mQ z)) (fun S => [_] ++ (S ++ (mQ y ++ mQ z))) (fun S => px1 [_] S _) (fun hw => hvx w1 hw)) (fun x' hx' => ?_)
        repeat (first | (refine st ?_) | (refine stx ?_) | (refine sb ?_) | (intro _))
        refine zx_call (Y := Pq) (v := fun _ => .tuple #[.int .i64 o1, .int .i64 o2]) (Φ := fun y' => Stp y y' 1001 r) (L' := fun y' => (ob, .c [.int .i64 kind, .int .i64 1001, .int .i64 n, .slice la l.length lcap] 119 0 0) :: M3 x' y' z) rfl fnc66 rfl rfl (fun w1 hm1 => at3 hm1 (px2 [_] (mQ x') (mQ y) (mQ z)).symm (fun S => [_] ++ (mQ x' ++ (S ++ mQ z))) (fun S => px2 [_] (mQ x') S (mQ z)) (fun hw => hvc w1 hw)) (fun y' hy' => ?_)
        have ha' := ha.stepOne hx' hy'
        repeat (first | (refine st ?_) | (refine stx ?_) | (intro _))
        refine zx_re 4 (ptr x'.p) rfl (by rw [hx'.p]) ?_
        refine zx_re 5 (ptr y'.p) rfl (by rw [hy'.p]) ?_
        refine zx_re 6 (ptr z.p) rfl (rfl) ?_
        refine zx_re 123 (.bool false) rfl (by first | rfl | simp) ?_
        repeat (first | (refine st ?_) | (refine stx ?_) | (intro _))
        refine zx_re 128 (.bool false) rfl (by first | rfl | simp) ?_
        repeat (first | (refine st ?_) | (refine stx ?_) | (intro _))
        refine zx_re 133 (.bool false) rfl (by first | rfl | simp) ?_
        repeat (first | (refine st ?_) | (refine stx ?_) | (intro _))
        ((try (refine sg ?_)); (refine zx_call0 rfl fnc64 rfl rfl (fun w hm => at3q hm (px3 [_] (mQ x') (mQ y' ++ mQ z)) (WaitV x' 1001)) ?_))
        repeat (first | (refine st ?_) | (refine stx ?_) | (intro _))
        ((try (refine sg ?_)); (refine zx_call0 rfl fnc64 rfl rfl (fun w hm => at3q hm (px2 [_] (mQ x') (mQ y') (mQ z)).symm (WaitV y' 1001)) ?_))
        repeat (first | (refine st ?_) | (refine stx ?_) | (intro _))
        refine zx_re 140 (.bool false) rfl (by rw [ha'.one]; first | rfl | simp) ?_
        repeat (first | (refine st ?_) | (refine stx ?_) | (intro _))
        ((try (refine sg ?_)); (refine zx_call0 rfl fnc64 rfl rfl (fun w hm => at3q hm (px3 [_] (mQ x') (mQ y' ++ mQ z)) (WaitV x' 2002)) ?_))
        repeat (first | (refine st ?_) | (refine stx ?_) | (intro _))
        ((try (refine sg ?_)); (refine zx_call0 rfl fnc64 rfl rfl (fun w hm => at3q hm (px0 [_] (mQ x') (mQ y') (mQ z)).symm (WaitV z 2002)) ?_))
        repeat (first | (refine st ?_) | (refine stx ?_) | (intro _))
        refine z_re 146 (.bool false) rfl (by rw [ha'.two]; first | rfl | simp) ?_
        repeat (first | (refine st ?_) | (refine stx ?_) | (intro _))
        refine z_re 7 (.int .i64 ((i + 1 : Nat) : Int)) rfl (congrArg _ (wrW (by omega) (by omega))) ?_
        refine z_weaken _ _ ?_ ?_ (fun _ h => h) (ih (i + 1, x', y', z) ⟨hi, ha'⟩ (by show qs.length - (i + 1) < qs.length - i; omega))
        · exact ⟨rfl, rfl, rfl, rfl, rfl, rfl, trivial⟩
        · exact List.Sublist.cons _ (List.Sublist.refl _)
      · refine z_re 55 (.int .i64 (1)) rfl (congrArg _ hK) ?_
        refine z_re 70 (.bool false) rfl (by show Value.bool (kind.tmod 4 == 0) = _; rw [hK]; rfl) ?_
        refine z_weaken [(0, .slice (some ⟨bs, off, none⟩) qs.length cap), (3, .bool true), (4, ptr x.p), (5, ptr y.p), (6, ptr z.p), (7, .int .i64 (i : Int)), (8, ptr ob), (9, ptr y.p), (10, .int .i64 ((1 + l.length : Nat) : Int)), (11, .int .i64 0), (12, .int .i64 0), (13, .int .i64 0), (14, .int .i64 0), (15, .string ⟨#[]⟩), (16, .string ⟨#[]⟩), (55, .int .i64 (1)), (70, .bool false)] ((ob, .c [.int .i64 kind, .int .i64 1001, .int .i64 n, .slice la l.length lcap] 119 0 0) :: M3 x y z) ⟨rfl, rfl, rfl, rfl, rfl, rfl, rfl, rfl, rfl, rfl, rfl, rfl, rfl, rfl, rfl, rfl, rfl, trivial⟩ (List.Sublist.refl _) (fun _ h => h) ?_
        have hvx := ShutV x 1001 ha.wx
        have hvc := ShutV y 1001 ha.wy
        rw [ha.one] at hvc
        generalize rShut (vw x.cs 1001) = o1 at hvx hvc
        obtain ⟨r, hr⟩ : ∃ r : Vw, r = none := ⟨_, rfl⟩
        rw [← hr] at hvx hvc
        repeat (first | (refine st ?_) | (refine stx ?_) | (refine sb ?_) | (intro _))
        refine zx_call (Y := Pq) (v := fun _ => .int .i64 o1) (Φ := fun x' => Stp x x' 1001 r) (L' := fun x' => (ob, .c [.int .i64 kind, .int .i64 1001, .int .i64 n, .slice la l.length lcap] 119 0 0) :: M3 x' y z) rfl fnc67 rfl rfl (fun w1 hm1 => at3 hm1 (px3 [_] (mQ x) (mQ y ++ mQ z)) (fun S => [_] ++ (S ++ (mQ y ++ mQ z))) (fun S => px1 [_] S _) (fun hw => hvx w1 hw)) (fun x' hx' => ?_)
        repeat (first | (refine st ?_) | (refine stx ?_) | (refine sb ?_) | (intro _))
        refine zx_call (Y := Pq) (v := fun _ => .int .i64 o1) (Φ := fun y' => Stp y y' 1001 r) (L' := fun y' => (ob, .c [.int .i64 kind, .int .i64 1001, .int .i64 n, .slice la l.length lcap] 119 0 0) :: M3 x' y' z) rfl fnc67 rfl rfl (fun w1 hm1 => at3 hm1 (px2 [_] (mQ x') (mQ y) (mQ z)).symm (fun S => [_] ++ (mQ x' ++ (S ++ mQ z))) (fun S => px2 [_] (mQ x') S (mQ z)) (fun hw => hvc w1 hw)) (fun y' hy' => ?_)
        have ha' := ha.stepOne hx' hy'
        repeat (first | (refine st ?_) | (refine stx ?_) | (intro _))
        refine zx_re 4 (ptr x'.p) rfl (by rw [hx'.p]) ?_
        refine zx_re 5 (ptr y'.p) rfl (by rw [hy'.p]) ?_
        refine zx_re 6 (ptr z.p) rfl (rfl) ?_
        refine zx_re 123 (.bool false) rfl (by first | rfl | simp) ?_
        repeat (first | (refine st ?_) | (refine stx ?_) | (intro _))
        refine zx_re 128 (.bool false) rfl (by first | rfl | simp) ?_
        repeat (first | (refine st ?_) | (refine stx ?_) | (intro _))
        refine zx_re 133 (.bool false) rfl (by first | rfl | simp) ?_
        repeat (first | (refine st ?_) | (refine stx ?_) | (intro _))
        ((try (refine sg ?_)); (refine zx_call0 rfl fnc64 rfl rfl (fun w hm => at3q hm (px3 [_] (mQ x') (mQ y' ++ mQ z)) (WaitV x' 1001)) ?_))
        repeat (first | (refine st ?_) | (refine stx ?_) | (intro _))
        ((try (refine sg ?_)); (refine zx_call0 rfl fnc64 rfl rfl (fun w hm => at3q hm (px2 [_] (mQ x') (mQ y') (mQ z)).symm (WaitV y' 1001)) ?_))
        repeat (first | (refine st ?_) | (refine stx ?_) | (intro _))
        refine zx_re 140 (.bool false) rfl (by rw [ha'.one]; first | rfl | simp) ?_
        repeat (first | (refine st ?_) | (refine stx ?_) | (intro _))
        ((try (refine sg ?_)); (refine zx_call0 rfl fnc64 rfl rfl (fun w hm => at3q hm (px3 [_] (mQ x') (mQ y' ++ mQ z)) (WaitV x' 2002)) ?_))
        repeat (first | (refine st ?_) | (refine stx ?_) | (intro _))
        ((try (refine sg ?_)); (refine zx_call0 rfl fnc64 rfl rfl (fun w hm => at3q hm (px0 [_] (mQ x') (mQ y') (mQ z)).symm (WaitV z 2002)) ?_))
        repeat (first | (refine st ?_) | (refine stx ?_) | (intro _))
        refine z_re 146 (.bool false) rfl (by rw [ha'.two]; first | rfl | simp) ?_
        repeat (first | (refine st ?_) | (refine stx ?_) | (intro _))
        refine z_re 7 (.int .i64 ((i + 1 : Nat) : Int)) rfl (congrArg _ (wrW (by omega) (by omega))) ?_
        refine z_weaken _ _ ?_ ?_ (fun _ h => h) (ih (i + 1, x', y', z) ⟨hi, ha'⟩ (by show qs.length - (i + 1) < qs.length - i; omega))
        · exact ⟨rfl, rfl, rfl, rfl, rfl, rfl, trivial⟩
        · exact List.Sublist.cons _ (List.Sublist.refl _)
      · refine z_re 55 (.int .i64 (-1)) rfl (congrArg _ hK) ?_
        refine z_re 70 (.bool false) rfl (by show Value.bool (kind.tmod 4 == 0) = _; rw [hK]; rfl) ?_
        refine z_weaken [(0, .slice (some ⟨bs, off, none⟩) qs.length cap), (3, .bool true), (4, ptr x.p), (5, ptr y.p), (6, ptr z.p), (7, .int .i64 (i : Int)), (8, ptr ob), (9, ptr y.p), (10, .int .i64 ((1 + l.length : Nat) : Int)), (11, .int .i64 0), (12, .int .i64 0), (13, .int .i64 0), (14, .int .i64 0), (15, .string ⟨#[]⟩), (16, .string ⟨#[]⟩), (55, .int .i64 (-1)), (70, .bool false)] ((ob, .c [.int .i64 kind, .int .i64 1001, .int .i64 n, .slice la l.length lcap] 119 0 0) :: M3 x y z) ⟨rfl, rfl, rfl, rfl, rfl, rfl, rfl, rfl, rfl, rfl, rfl, rfl, rfl, rfl, rfl, rfl, rfl, trivial⟩ (List.Sublist.refl _) (fun _ h => h) ?_
        have hvx := ShutV x 1001 ha.wx
        have hvc := ShutV y 1001 ha.wy
        rw [ha.one] at hvc
        generalize rShut (vw x.cs 1001) = o1 at hvx hvc
        obtain ⟨r, hr⟩ : ∃ r : Vw, r = none := ⟨_, rfl⟩
        rw [← hr] at hvx hvc
        repeat (first | (refine st ?_) | (refine stx ?_) | (refine sb ?_) | (intro _))
        refine zx_call (Y := Pq) (v := fun _ => .int .i64 o1) (Φ := fun x' => Stp x x' 1001 r) (L' := fun x' => (ob, .c [.int .i64 kind, .int .i64 1001, .int .i64 n, .slice la l.length lcap] 119 0 0) :: M3 x' y z) rfl fnc67 rfl rfl (fun w1 hm1 => at3 hm1 (px3 [_] (mQ x) (mQ y ++ mQ z)) (fun S => [_] ++ (S ++ (mQ y ++ mQ z))) (fun S => px1 [_] S _) (fun hw => hvx w1 hw)) (fun x' hx' => ?_)
        repeat (first | (refine st ?_) | (refine stx ?_) | (refine sb ?_) | (intro _))
        refine zx_call (Y := Pq) (v := fun _ => .int .i64 o1) (Φ := fun y' => Stp y y' 1001 r) (L' := fun y' => (ob, .c [.int .i64 kind, .int .i64 1001, .int .i64 n, .slice la l.length lcap] 119 0 0) :: M3 x' y' z) rfl fnc67 rfl rfl (fun w1 hm1 => at3 hm1 (px2 [_] (mQ x') (mQ y) (mQ z)).symm (fun S => [_] ++ (mQ x' ++ (S ++ mQ z))) (fun S => px2 [_] (mQ x') S (mQ z)) (fun hw => hvc w1 hw)) (fun y' hy' => ?_)
        have ha' := ha.stepOne hx' hy'
        repeat (first | (refine st ?_) | (refine stx ?_) | (intro _))
        refine zx_re 4 (ptr x'.p) rfl (by rw [hx'.p]) ?_
        refine zx_re 5 (ptr y'.p) rfl (by rw [hy'.p]) ?_
        refine zx_re 6 (ptr z.p) rfl (rfl) ?_
        refine zx_re 123 (.bool false) rfl (by first | rfl | simp) ?_
        repeat (first | (refine st ?_) | (refine stx ?_) | (intro _))
        refine zx_re 128 (.bool false) rfl (by first | rfl | simp) ?_
        repeat (first | (refine st ?_) | (refine stx ?_) | (intro _))
        refine zx_re 133 (.bool false) rfl (by first | rfl | simp) ?_
        repeat (first | (refine st ?_) | (refine stx ?_) | (intro _))
        ((try (refine sg ?_)); (refine zx_call0 rfl fnc64 rfl rfl (fun w hm => at3q hm (px3 [_] (mQ x') (mQ y' ++ mQ z)) (WaitV x' 1001)) ?_))
        repeat (first | (refine st ?_) | (refine stx ?_) | (intro _))
        ((try (refine sg ?_)); (refine zx_call0 rfl fnc64 rfl rfl (fun w hm => at3q hm (px2 [_] (mQ x') (mQ y') (mQ z)).symm (WaitV y' 1001)) ?_))
        repeat (first | (refine st ?_) | (refine stx ?_) | (intro _))
        refine zx_re 140 (.bool false) rfl (by rw [ha'.one]; first | rfl | simp) ?_
        repeat (first | (refine st ?_) | (refine stx ?_) | (intro _))
        ((try (refine sg ?_)); (refine zx_call0 rfl fnc64 rfl rfl (fun w hm => at3q hm (px3 [_] (mQ x') (mQ y' ++ mQ z)) (WaitV x' 2002)) ?_))
        repeat (first | (refine st ?_) | (refine stx ?_) | (intro _))
        ((try (refine sg ?_)); (refine zx_call0 rfl fnc64 rfl rfl (fun w hm => at3q hm (px0 [_] (mQ x') (mQ y') (mQ z)).symm (WaitV z 2002)) ?_))
        repeat (first | (refine st ?_) | (refine stx ?_) | (intro _))
        refine z_re 146 (.bool false) rfl (by rw [ha'.two]; first | rfl | simp) ?_
        repeat (first | (refine st ?_) | (refine stx ?_) | (intro _))
        refine z_re 7 (.int .i64 ((i + 1 : Nat) : Int)) rfl (congrArg _ (wrW (by omega) (by omega))) ?_
        refine z_weaken _ _ ?_ ?_ (fun _ h => h) (ih (i + 1, x', y', z) ⟨hi, ha'⟩ (by show qs.length - (i + 1) < qs.length - i; omega))
        · exact ⟨rfl, rfl, rfl, rfl, rfl, rfl, trivial⟩
        · exact List.Sublist.cons _ (List.Sublist.refl _)
      · refine z_re 55 (.int .i64 (2)) rfl (congrArg _ hK) ?_
        refine z_re 70 (.bool false) rfl (by show Value.bool (kind.tmod 4 == 0) = _; rw [hK]; rfl) ?_
        refine z_weaken [(0, .slice (some ⟨bs, off, none⟩) qs.length cap), (3, .bool true), (4, ptr x.p), (5, ptr y.p), (6, ptr z.p), (7, .int .i64 (i : Int)), (8, ptr ob), (9, ptr y.p), (10, .int .i64 ((1 + l.length : Nat) : Int)), (11, .int .i64 0), (12, .int .i64 0), (13, .int .i64 0), (14, .int .i64 0), (15, .string ⟨#[]⟩), (16, .string ⟨#[]⟩), (55, .int .i64 (2)), (70, .bool false)] ((ob, .c [.int .i64 kind, .int .i64 1001, .int .i64 n, .slice la l.length lcap] 119 0 0) :: M3 x y z) ⟨rfl, rfl, rfl, rfl, rfl, rfl, rfl, rfl, rfl, rfl, rfl, rfl, rfl, rfl, rfl, rfl, rfl, trivial⟩ (List.Sublist.refl _) (fun _ h => h) ?_
        have hvx := OfferV x 1001 la l lcap ha.wx
        have hvc := OfferV y 1001 la l lcap ha.wy
        rw [ha.one] at hvc
        generalize rOffer (vw x.cs 1001) l = o at hvx hvc
        obtain ⟨o1, o2⟩ := o
        generalize nOffer (vw x.cs 1001) l = r at hvx hvc
        simp only at hvx hvc
        repeat (first | (refine st ?_) | (refine stx ?_) | (refine sb ?_) | (intro _))
        refine zx_call (Y := Pq) (v := fun _ => .tuple #[.int .i64 o1, .int .i64 o2]) (Φ := fun x' => Stp x x' 1001 r) (L' := fun x' => (ob, .c [.int .i64 kind, .int .i64 1001, .int .i64 n, .slice la l.length lcap] 119 0 0) :: M3 x' y z) rfl fnc68 rfl rfl (fun w1 hm1 => at3 hm1 (px3 [_] (mQ x) (mQ y ++ mQ z)) (fun S => [_] ++ (S ++ (mQ y ++ mQ z))) (fun S => px1 [_] S _) (fun hw => hvx w1 hw (hstr.now hm1 (fun p hp => List.mem_cons_of_mem _ (List.mem_append_left _ hp))))) (fun x' hx' => ?_)
        repeat (first | (refine st ?_) | (refine stx ?_) | (refine sb ?_) | (intro _))
        refine zx_call (Y := Pq) (v := fun _ => .tuple #[.int .i64 o1, .int .i64 o2]) (Φ := fun y' => Stp y y' 1001 r) (L' := fun y' => (ob, .c [.int .i64 kind, .int .i64 1001, .int .i64 n, .slice la l.length lcap] 119 0 0) :: M3 x' y' z) rfl fnc68 rfl rfl (fun w1 hm1 => at3 hm1 (px2 [_] (mQ x') (mQ y) (mQ z)).symm (fun S => [_] ++ (mQ x' ++ (S ++ mQ z))) (fun S => px2 [_] (mQ x') S (mQ z)) (fun hw => hvc w1 hw (hstr.now hm1 (fun p hp => List.mem_cons_of_mem _ (List.mem_append_right _ (List.mem_append_left _ hp)))))) (fun y' hy' => ?_)
        have ha' := ha.stepOne hx' hy'
        repeat (first | (refine st ?_) | (refine stx ?_) | (intro _))
        refine zx_re 4 (ptr x'.p) rfl (by rw [hx'.p]) ?_
        refine zx_re 5 (ptr y'.p) rfl (by rw [hy'.p]) ?_
        refine zx_re 6 (ptr z.p) rfl (rfl) ?_
        refine zx_re 123 (.bool false) rfl (by first | rfl | simp) ?_
        repeat (first | (refine st ?_) | (refine stx ?_) | (intro _))
        refine zx_re 128 (.bool false) rfl (by first | rfl | simp) ?_
        repeat (first | (refine st ?_) | (refine stx ?_) | (intro _))
        refine zx_re 133 (.bool false) rfl (by first | rfl | simp) ?_
        repeat (first | (refine st ?_) | (refine stx ?_) | (intro _))
        ((try (refine sg ?_)); (refine zx_call0 rfl fnc64 rfl rfl (fun w hm => at3q hm (px3 [_] (mQ x') (mQ y' ++ mQ z)) (WaitV x' 1001)) ?_))
        repeat (first | (refine st ?_) | (refine stx ?_) | (intro _))
        ((try (refine sg ?_)); (refine zx_call0 rfl fnc64 rfl rfl (fun w hm => at3q hm (px2 [_] (mQ x') (mQ y') (mQ z)).symm (WaitV y' 1001)) ?_))
        repeat (first | (refine st ?_) | (refine stx ?_) | (intro _))
        refine zx_re 140 (.bool false) rfl (by rw [ha'.one]; first | rfl | simp) ?_
        repeat (first | (refine st ?_) | (refine stx ?_) | (intro _))
        ((try (refine sg ?_)); (refine zx_call0 rfl fnc64 rfl rfl (fun w hm => at3q hm (px3 [_] (mQ x') (mQ y' ++ mQ z)) (WaitV x' 2002)) ?_))
        repeat (first | (refine st ?_) | (refine stx ?_) | (intro _))
        ((try (refine sg ?_)); (refine zx_call0 rfl fnc64 rfl rfl (fun w hm => at3q hm (px0 [_] (mQ x') (mQ y') (mQ z)).symm (WaitV z 2002)) ?_))
        repeat (first | (refine st ?_) | (refine stx ?_) | (intro _))
        refine z_re 146 (.bool false) rfl (by rw [ha'.two]; first | rfl | simp) ?_
        repeat (first | (refine st ?_) | (refine stx ?_) | (intro _))
        refine z_re 7 (.int .i64 ((i + 1 : Nat) : Int)) rfl (congrArg _ (wrW (by omega) (by omega))) ?_
        refine z_weaken _ _ ?_ ?_ (fun _ h => h) (ih (i + 1, x', y', z) ⟨hi, ha'⟩ (by show qs.length - (i + 1) < qs.length - i; omega))
        · exact ⟨rfl, rfl, rfl, rfl, rfl, rfl, trivial⟩
        · exact List.Sublist.cons _ (List.Sublist.refl _)
      · refine z_re 55 (.int .i64 (-2)) rfl (congrArg _ hK) ?_
        refine z_re 70 (.bool false) rfl (by show Value.bool (kind.tmod 4 == 0) = _; rw [hK]; rfl) ?_
        refine z_weaken [(0, .slice (some ⟨bs, off, none⟩) qs.length cap), (3, .bool true), (4, ptr x.p), (5, ptr y.p), (6, ptr z.p), (7, .int .i64 (i : Int)), (8, ptr ob), (9, ptr y.p), (10, .int .i64 ((1 + l.length : Nat) : Int)), (11, .int .i64 0), (12, .int .i64 0), (13, .int .i64 0), (14, .int .i64 0), (15, .string ⟨#[]⟩), (16, .string ⟨#[]⟩), (55, .int .i64 (-2)), (70, .bool false)] ((ob, .c [.int .i64 kind, .int .i64 1001, .int .i64 n, .slice la l.length lcap] 119 0 0) :: M3 x y z) ⟨rfl, rfl, rfl, rfl, rfl, rfl, rfl, rfl, rfl, rfl, rfl, rfl, rfl, rfl, rfl, rfl, rfl, trivial⟩ (List.Sublist.refl _) (fun _ h => h) ?_
        have hvx := OfferV x 1001 la l lcap ha.wx
        have hvc := OfferV y 1001 la l lcap ha.wy
        rw [ha.one] at hvc
        generalize rOffer (vw x.cs 1001) l = o at hvx hvc
        obtain ⟨o1, o2⟩ := o
        generalize nOffer (vw x.cs 1001) l = r at hvx hvc
        simp only at hvx hvc
        repeat (first | (refine st ?_) | (refine stx ?_) | (refine sb ?_) | (intro _))
        refine zx_call (Y := Pq) (v := fun _ => .tuple #[.int .i64 o1, .int .i64 o2]) (Φ := fun x' => Stp x x' 1001 r) (L' := fun x' => (ob, .c [.int .i64 kind, .int .i64 1001, .int .i64 n, .slice la l.length lcap] 119 0 0) :: M3 x' y z) rfl fnc68 rfl rfl (fun w1 hm1 => at3 hm1 (px3 [_] (mQ x) (mQ y ++ mQ z)) (fun S => [_] ++ (S ++ (mQ y ++ mQ z))) (fun S => px1 [_] S _) (fun hw => hvx w1 hw (hstr.now hm1 (fun p hp => List.mem_cons_of_mem _ (List.mem_append_left _ hp))))) (fun x' hx' => ?_)
        repeat (first | (refine st ?_) | (refine stx ?_) | (refine sb ?_) | (intro _))
        refine zx_call (Y := Pq) (v := fun _ => .tuple #[.int .i64 o1, .int .i64 o2]) (Φ := fun y' => Stp y y' 1001 r) (L' := fun y' => (ob, .c [.int .i64 kind, .int .i64 1001, .int .i64 n, .slice la l.length lcap] 119 0 0) :: M3 x' y' z) rfl fnc68 rfl rfl (fun w1 hm1 => at3 hm1 (px2 [_] (mQ x') (mQ y) (mQ z)).symm (fun S => [_] ++ (mQ x' ++ (S ++ mQ z))) (fun S => px2 [_] (mQ x') S (mQ z)) (fun hw => hvc w1 hw (hstr.now hm1 (fun p hp => List.mem_cons_of_mem _ (List.mem_append_right _ (List.mem_append_left _ hp)))))) (fun y' hy' => ?_)
        have ha' := ha.stepOne hx' hy'
        repeat (first | (refine st ?_) | (refine stx ?_) | (intro _))
        refine zx_re 4 (ptr x'.p) rfl (by rw [hx'.p]) ?_
        refine zx_re 5 (ptr y'.p) rfl (by rw [hy'.p]) ?_
        refine zx_re 6 (ptr z.p) rfl (rfl) ?_
        refine zx_re 123 (.bool false) rfl (by first | rfl | simp) ?_
        repeat (first | (refine st ?_) | (refine stx ?_) | (intro _))
        refine zx_re 128 (.bool false) rfl (by first | rfl | simp) ?_
        repeat (first | (refine st ?_) | (refine stx ?_) | (intro _))
        refine zx_re 133 (.bool false) rfl (by first | rfl | simp) ?_
        repeat (first | (refine st ?_) | (refine stx ?_) | (intro _))
        ((try (refine sg ?_)); (refine zx_call0 rfl fnc64 rfl rfl (fun w hm => at3q hm (px3 [_] (mQ x') (mQ y' ++ mQ z)) (WaitV x' 1001)) ?_))
        repeat (first | (refine st ?_) | (refine stx ?_) | (intro _))
        ((try (refine sg ?_)); (refine zx_call0 rfl fnc64 rfl rfl (fun w hm => at3q hm (px2 [_] (mQ x') (mQ y') (mQ z)).symm (WaitV y' 1001)) ?_))
        repeat (first | (refine st ?_) | (refine stx ?_) | (intro _))
        refine zx_re 140 (.bool false) rfl (by rw [ha'.one]; first | rfl | simp) ?_
        repeat (first | (refine st ?_) | (refine stx ?_) | (intro _))
        ((try (refine sg ?_)); (refine zx_call0 rfl fnc64 rfl rfl (fun w hm => at3q hm (px3 [_] (mQ x') (mQ y' ++ mQ z)) (WaitV x' 2002)) ?_))
        repeat (first | (refine st ?_) | (refine stx ?_) | (intro _))
        ((try (refine sg ?_)); (refine zx_call0 rfl fnc64 rfl rfl (fun w hm => at3q hm (px0 [_] (mQ x') (mQ y') (mQ z)).symm (WaitV z 2002)) ?_))
        repeat (first | (refine st ?_) | (refine stx ?_) | (intro _))
        refine z_re 146 (.bool false) rfl (by rw [ha'.two]; first | rfl | simp) ?_
        repeat (first | (refine st ?_) | (refine stx ?_) | (intro _))
        refine z_re 7 (.int .i64 ((i + 1 : Nat) : Int)) rfl (congrArg _ (wrW (by omega) (by omega))) ?_
        refine z_weaken _ _ ?_ ?_ (fun _ h => h) (ih (i + 1, x', y', z) ⟨hi, ha'⟩ (by show qs.length - (i + 1) < qs.length - i; omega))
        · exact ⟨rfl, rfl, rfl, rfl, rfl, rfl, trivial⟩
        · exact List.Sublist.cons _ (List.Sublist.refl _)
      · refine z_re 55 (.int .i64 (3)) rfl (congrArg _ hK) ?_
        refine z_re 70 (.bool false) rfl (by show Value.bool (kind.tmod 4 == 0) = _; rw [hK]; rfl) ?_
        refine z_weaken [(0, .slice (some ⟨bs, off, none⟩) qs.length cap), (3, .bool true), (4, ptr x.p), (5, ptr y.p), (6, ptr z.p), (7, .int .i64 (i : Int)), (8, ptr ob), (9, ptr y.p), (10, .int .i64 ((1 + l.length : Nat) : Int)), (11, .int .i64 0), (12, .int .i64 0), (13, .int .i64 0), (14, .int .i64 0), (15, .string ⟨#[]⟩), (16, .string ⟨#[]⟩), (55, .int .i64 (3)), (70, .bool false)] ((ob, .c [.int .i64 kind, .int .i64 1001, .int .i64 n, .slice la l.length lcap] 119 0 0) :: M3 x y z) ⟨rfl, rfl, rfl, rfl, rfl, rfl, rfl, rfl, rfl, rfl, rfl, rfl, rfl, rfl, rfl, rfl, rfl, trivial⟩ (List.Sublist.refl _) (fun _ h => h) ?_
        have hvx := TakeV x 1001 ha.wx
        have hvc := TakeV y 1001 ha.wy
        rw [ha.one] at hvc
        generalize rTake (vw x.cs 1001) = o at hvx hvc
        obtain ⟨o1, o2⟩ := o
        generalize nTake (vw x.cs 1001) = r at hvx hvc
        simp only at hvx hvc
        repeat (first | (refine st ?_) | (refine stx ?_) | (refine sb ?_) | (intro _))
        refine zx_call (Y := Pq) (v := fun _ => .tuple #[.string o1, .int .i64 o2]) (Φ := fun x' => Stp x x' 1001 r) (L' := fun x' => (ob, .c [.int .i64 kind, .int .i64 1001, .int .i64 n, .slice la l.length lcap] 119 0 0) :: M3 x' y z) rfl fnc69 rfl rfl (fun w1 hm1 => at3 hm1 (px3 [_] (mQ x) (mQ y ++ mQ z)) (fun S => [_] ++ (S ++ (mQ y ++ mQ z))) (fun S => px1 [_] S _) (fun hw => hvx w1 hw)) (fun x' hx' => ?_)
        repeat (first | (refine st ?_) | (refine stx ?_) | (refine sb ?_) | (intro _))
        refine zx_call (Y := Pq) (v := fun _ => .tuple #[.string o1, .int .i64 o2]) (Φ := fun y' => Stp y y' 1001 r) (L' := fun y' => (ob, .c [.int .i64 kind, .int .i64 1001, .int .i64 n, .slice la l.length lcap] 119 0 0) :: M3 x' y' z) rfl fnc69 rfl rfl (fun w1 hm1 => at3 hm1 (px2 [_] (mQ x') (mQ y) (mQ z)).symm (fun S => [_] ++ (mQ x' ++ (S ++ mQ z))) (fun S => px2 [_] (mQ x') S (mQ z)) (fun hw => hvc w1 hw)) (fun y' hy' => ?_)
        have ha' := ha.stepOne hx' hy'
        repeat (first | (refine st ?_) | (refine stx ?_) | (intro _))
        refine zx_re 4 (ptr x'.p) rfl (by rw [hx'.p]) ?_
        refine zx_re 5 (ptr y'.p) rfl (by rw [hy'.p]) ?_
        refine zx_re 6 (ptr z.p) rfl (rfl) ?_
        refine zx_re 123 (.bool false) rfl (by first | rfl | simp) ?_
        repeat (first | (refine st ?_) | (refine stx ?_) | (intro _))
        refine zx_re 128 (.bool false) rfl (by first | rfl | simp) ?_
        repeat (first | (refine st ?_) | (refine stx ?_) | (intro _))
        refine zx_re 133 (.bool false) rfl (by first | rfl | simp) ?_
        repeat (first | (refine st ?_) | (refine stx ?_) | (intro _))
        ((try (refine sg ?_)); (refine zx_call0 rfl fnc64 rfl rfl (fun w hm => at3q hm (px3 [_] (mQ x') (mQ y' ++ mQ z)) (WaitV x' 1001)) ?_))
        repeat (first | (refine st ?_) | (refine stx ?_) | (intro _))
        ((try (refine sg ?_)); (refine zx_call0 rfl fnc64 rfl rfl (fun w hm => at3q hm (px2 [_] (mQ x') (mQ y') (mQ z)).symm (WaitV y' 1001)) ?_))
        repeat (first | (refine st ?_) | (refine stx ?_) | (intro _))
        refine zx_re 140 (.bool false) rfl (by rw [ha'.one]; first | rfl | simp) ?_
        repeat (first | (refine st ?_) | (refine stx ?_) | (intro _))
        ((try (refine sg ?_)); (refine zx_call0 rfl fnc64 rfl rfl (fun w hm => at3q hm (px3 [_] (mQ x') (mQ y' ++ mQ z)) (WaitV x' 2002)) ?_))
        repeat (first | (refine st ?_) | (refine stx ?_) | (intro _))
        ((try (refine sg ?_)); (refine zx_call0 rfl fnc64 rfl rfl (fun w hm => at3q hm (px0 [_] (mQ x') (mQ y') (mQ z)).symm (WaitV z 2002)) ?_))
        repeat (first | (refine st ?_) | (refine stx ?_) | (intro _))
        refine z_re 146 (.bool false) rfl (by rw [ha'.two]; first | rfl | simp) ?_
        repeat (first | (refine st ?_) | (refine stx ?_) | (intro _))
        refine z_re 7 (.int .i64 ((i + 1 : Nat) : Int)) rfl (congrArg _ (wrW (by omega) (by omega))) ?_
        refine z_weaken _ _ ?_ ?_ (fun _ h => h) (ih (i + 1, x', y', z) ⟨hi, ha'⟩ (by show qs.length - (i + 1) < qs.length - i; omega))
        · exact ⟨rfl, rfl, rfl, rfl, rfl, rfl, trivial⟩
        · exact List.Sublist.cons _ (List.Sublist.refl _)
      · refine z_re 55 (.int .i64 (-3)) rfl (congrArg _ hK) ?_
        refine z_re 70 (.bool false) rfl (by show Value.bool (kind.tmod 4 == 0) = _; rw [hK]; rfl) ?_
        refine z_weaken [(0, .slice (some ⟨bs, off, none⟩) qs.length cap), (3, .bool true), (4, ptr x.p), (5, ptr y.p), (6, ptr z.p), (7, .int .i64 (i : Int)), (8, ptr ob), (9, ptr y.p), (10, .int .i64 ((1 + l.length : Nat) : Int)), (11, .int .i64 0), (12, .int .i64 0), (13, .int .i64 0), (14, .int .i64 0), (15, .string ⟨#[]⟩), (16, .string ⟨#[]⟩), (55, .int .i64 (-3)), (70, .bool false)] ((ob, .c [.int .i64 kind, .int .i64 1001, .int .i64 n, .slice la l.length lcap] 119 0 0) :: M3 x y z) ⟨rfl, rfl, rfl, rfl, rfl, rfl, rfl, rfl, rfl, rfl, rfl, rfl, rfl, rfl, rfl, rfl, rfl, trivial⟩ (List.Sublist.refl _) (fun _ h => h) ?_
        have hvx := TakeV x 1001 ha.wx
        have hvc := TakeV y 1001 ha.wy
        rw [ha.one] at hvc
        generalize rTake (vw x.cs 1001) = o at hvx hvc
        obtain ⟨o1, o2⟩ := o
        generalize nTake (vw x.cs 1001) = r at hvx hvc
        simp only at hvx hvc
        repeat (first | (refine st ?_) | (refine stx ?_) | (refine sb ?_) | (intro _))
        refine zx_call (Y := Pq) (v := fun _ => .tuple #[.string o1, .int .i64 o2]) (Φ := fun x' => Stp x x' 1001 r) (L' := fun x' => (ob, .c [.int .i64 kind, .int .i64 1001, .int .i64 n, .slice la l.length lcap] 119 0 0) :: M3 x' y z) rfl fnc69 rfl rfl (fun w1 hm1 => at3 hm1 (px3 [_] (mQ x) (mQ y ++ mQ z)) (fun S => [_] ++ (S ++ (mQ y ++ mQ z))) (fun S => px1 [_] S _) (fun hw => hvx w1 hw)) (fun x' hx' => ?_)
        repeat (first | (refine st ?_) | (refine stx ?_) | (refine sb ?_) | (intro _))
        refine zx_call (Y := Pq) (v := fun _ => .tuple #[.string o1, .int .i64 o2]) (Φ := fun y' => Stp y y' 1001 r) (L' := fun y' => (ob, .c [.int .i64 kind, .int .i64 1001, .int .i64 n, .slice la l.length lcap] 119 0 0) :: M3 x' y' z) rfl fnc69 rfl rfl (fun w1 hm1 => at3 hm1 (px2 [_] (mQ x') (mQ y) (mQ z)).symm (fun S => [_] ++ (mQ x' ++ (S ++ mQ z))) (fun S => px2 [_] (mQ x') S (mQ z)) (fun hw => hvc w1 hw)) (fun y' hy' => ?_)
        have ha' := ha.stepOne hx' hy'
        repeat (first | (refine st ?_) | (refine stx ?_) | (intro _))
        refine zx_re 4 (ptr x'.p) rfl (by rw [hx'.p]) ?_
        refine zx_re 5 (ptr y'.p) rfl (by rw [hy'.p]) ?_
        refine zx_re 6 (ptr z.p) rfl (rfl) ?_
        refine zx_re 123 (.bool false) rfl (by first | rfl | simp) ?_
        repeat (first | (refine st ?_) | (refine stx ?_) | (intro _))
        refine zx_re 128 (.bool false) rfl (by first | rfl | simp) ?_
        repeat (first | (refine st ?_) | (refine stx ?_) | (intro _))
        refine zx_re 133 (.bool false) rfl (by first | rfl | simp) ?_
        repeat (first | (refine st ?_) | (refine stx ?_) | (intro _))
        ((try (refine sg ?_)); (refine zx_call0 rfl fnc64 rfl rfl (fun w hm => at3q hm (px3 [_] (mQ x') (mQ y' ++ mQ z)) (WaitV x' 1001)) ?_))
        repeat (first | (refine st ?_) | (refine stx ?_) | (intro _))
        ((try (refine sg ?_)); (refine zx_call0 rfl fnc64 rfl rfl (fun w hm => at3q hm (px2 [_] (mQ x') (mQ y') (mQ z)).symm (WaitV y' 1001)) ?_))
        repeat (first | (refine st ?_) | (refine stx ?_) | (intro _))
        refine zx_re 140 (.bool false) rfl (by rw [ha'.one]; first | rfl | simp) ?_
        repeat (first | (refine st ?_) | (refine stx ?_) | (intro _))
        ((try (refine sg ?_)); (refine zx_call0 rfl fnc64 rfl rfl (fun w hm => at3q hm (px3 [_] (mQ x') (mQ y' ++ mQ z)) (WaitV x' 2002)) ?_))
        repeat (first | (refine st ?_) | (refine stx ?_) | (intro _))
        ((try (refine sg ?_)); (refine zx_call0 rfl fnc64 rfl rfl (fun w hm => at3q hm (px0 [_] (mQ x') (mQ y') (mQ z)).symm (WaitV z 2002)) ?_))
        repeat (first | (refine st ?_) | (refine stx ?_) | (intro _))
        refine z_re 146 (.bool false) rfl (by rw [ha'.two]; first | rfl | simp) ?_
        repeat (first | (refine st ?_) | (refine stx ?_) | (intro _))
        refine z_re 7 (.int .i64 ((i + 1 : Nat) : Int)) rfl (congrArg _ (wrW (by omega) (by omega))) ?_
        refine z_weaken _ _ ?_ ?_ (fun _ h => h) (ih (i + 1, x', y', z) ⟨hi, ha'⟩ (by show qs.length - (i + 1) < qs.length - i; omega))
        · exact ⟨rfl, rfl, rfl, rfl, rfl, rfl, trivial⟩
        · exact List.Sublist.cons _ (List.Sublist.refl _)
  · obtain ⟨hc, hc2⟩ := ha.count
    repeat (first | (refine st ?_) | (refine stx ?_) | (refine sb ?_) | (intro _))
    (try (refine sg ?_))
    refine zx_call (Y := Option Addr × Nat) (v := fun u => .slice u.1 x.cs.length u.2) (Φ := fun _ => True) (L' := fun _ => M3 x y z) rfl fnc63 rfl rfl (fun w1 hm1 => (ListLen x ha.wx (by omega) (Apt.range ha.wx ha.nx) w1 (Mem.now (S := mQ x) (R := mQ y ++ mQ z) hm1)).mono fun e w' ⟨u, _, he, hm'⟩ => ⟨u, trivial, he, by have := hm1.trans0 hm'; rwa [List.nil_append] at this⟩) (fun _ _ => ?_)
    repeat (first | (refine st ?_) | (refine stx ?_) | (refine sb ?_) | (intro _))
    (try (refine sg ?_))
    refine zx_call (Y := Option Addr × Nat) (v := fun u => .slice u.1 y.cs.length u.2) (Φ := fun _ => True) (L' := fun _ => M3 x y z) rfl fnc63 rfl rfl (fun w1 hm1 => (ListLen y ha.wy (by omega) (Apt.range ha.wy (fun m h _ => ha.ny m h)) w1 (Mem.now (S := mQ y) (R := mQ x ++ mQ z) (hm1.perm (px3 (mQ x) (mQ y) (mQ z))))).mono fun e w' ⟨u, _, he, hm'⟩ => ⟨u, trivial, he, by have := hm1.trans0 hm'; rwa [List.nil_append] at this⟩) (fun _ _ => ?_)
    repeat (first | (refine st ?_) | (refine stx ?_) | (refine sb ?_) | (intro _))
    (try (refine sg ?_))
    refine zx_call (Y := Option Addr × Nat) (v := fun u => .slice u.1 z.cs.length u.2) (Φ := fun _ => True) (L' := fun _ => M3 x y z) rfl fnc63 rfl rfl (fun w1 hm1 => (ListLen z ha.wz (by omega) (Apt.range ha.wz (fun m _ h => ha.nz m h)) w1 (Mem.now (S := mQ z) (R := mQ x ++ mQ y) (hm1.perm (by have h : (mQ z ++ (mQ x ++ mQ y)).Perm ((mQ x ++ mQ y) ++ mQ z) := List.perm_append_comm; rw [List.append_assoc] at h; exact h)))).mono fun e w' ⟨u, _, he, hm'⟩ => ⟨u, trivial, he, by have := hm1.trans0 hm'; rwa [List.nil_append] at this⟩) (fun _ _ => ?_)
    repeat (first | (refine st ?_) | (refine stx ?_) | (refine sb ?_) | (intro _))
    refine z_re 2 (.bool true) rfl (congrArg _ (beq_iff_eq.2 (by rw [wrW (by omega) (by omega)]; omega))) ?_
    refine z_ret1 tab_ok Try.func16 hb hk Try.results16 (.tmp rfl) (fun w hm => ?_)
    exact ⟨rfl, hm.bare⟩
end Go.Proofs.Ytabcaiecoiejkaa
