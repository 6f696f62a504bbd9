/- The engine's eighth part: a slice that the walk owns, appended to; its bytes as a string. Nothing here speaks of the program of this seat. -/
import Derived.Test.YtabcaiecoiejkaaK7
import Derived.Deep.AppendSrc
namespace Go.Proofs.Ytabcaiecoiejkaa.K
open Go

/-- an element type: its cells, its bytes, its zero value -/
structure Elt (P : Program) (e : TypeId) (sz nb : Nat) (zs : List Value) : Prop where
  info : (P.info? e).map (fun x => (x.size, x.bytes, x.zero.map (·.cells))) = some (sz, nb, some zs.toArray)
  zlen : zs.length = sz
  pos : 0 < sz

/-- a slice that is owned: nil, or 'n' elements behind 'pre' in a block of its own, with room for 'r' more -/
abbrev Own := Option (Nat × List Value × Nat × List Value)
def rowV : Own → Nat → Value
  | none, _ => .slice none 0 0
  | some (b, pre, r, _), n => .slice (some ⟨b, pre.length, none⟩) n (n + r)
def rowL (e : TypeId) : Own → List Value → Mm
  | none, _ => []
  | some (b, pre, _, rest), xs => [(b, .c (pre ++ xs ++ rest) e 0 0)]
structure RowOk (sz : Nat) (o : Own) (n : Nat) (xs : List Value) : Prop where
  len : xs.length = n * sz
  nil : o = none → n = 0
  rest : ∀ b pre r rest, o = some (b, pre, r, rest) → r * sz ≤ rest.length
theorem RowOk.nil0 (sz : Nat) : RowOk sz none 0 [] := ⟨by simp, fun _ => rfl, fun _ _ _ _ h => by cases h⟩

theorem Mem.perm {w0 w : World} {ks : List Nat} {L L' : Mm} (h : Mem w0 ks L w) (hp : L'.Perm L) : Mem w0 ks L' w :=
  ⟨h.size, h.tape, h.os, h.out, h.base, fun p hp' => h.known p (hp.subset hp'), fun p hp' => h.kept p (hp.subset hp'), (hp.map _).nodup_iff.2 h.nd⟩

theorem over_eq : ∀ (xs : List Value) (vs rest : List Value), vs.length ≤ rest.length → over (xs ++ rest) xs.length vs = xs ++ vs ++ rest.drop vs.length
  | [], vs, rest, h => by
    induction vs generalizing rest with
    | nil => simp [over_nil]
    | cons v vs ih =>
      cases rest with
      | nil => simp at h
      | cons r rest =>
        have := ih rest (by simpa using h)
        simp only [List.nil_append, List.length_nil] at this ⊢
        simp only [over, List.length_cons, List.drop_succ_cons, List.cons_append]
        rw [this]
  | x :: xs, vs, rest, h => by
    have := over_eq xs vs rest h
    cases vs with
    | nil => simp [over_nil]
    | cons v vs =>
      simp only [List.cons_append, List.length_cons] at this ⊢
      simp only [over]
      rw [this]

theorem over_len : ∀ (cs vs : List Value) (o : Nat), (over cs o vs).length = cs.length
  | [], vs, o => by cases vs <;> simp [over]
  | c :: cs, [], o => by simp [over]
  | c :: cs, v :: vs, 0 => by simp [over, over_len cs vs 0]
  | c :: cs, v :: vs, o + 1 => by simp [over, over_len cs (v :: vs) o]

theorem setCells_mem {w0 : World} {ks : List Nat} {j b : Nat} {t : TypeId} {lo hi : Nat} : ∀ (vs : List Value) (off : Nat) (L : Mm) (cs : List Value) (w : World), Mem w0 ks L w → L[j]? = some (b, .c cs t lo hi) → off + vs.length ≤ cs.length →
    Mem w0 ks (L.set j (b, .c (over cs off vs) t lo hi)) (w.setCells b off vs)
  | [], off, L, cs, w, hm, hL, _ => by
    have hj : j < L.length := (List.getElem?_eq_some_iff.1 hL).1
    rw [over_nil]
    have : L.set j (b, .c cs t lo hi) = L := by
      apply List.ext_getElem?
      intro m
      by_cases hjm : j = m
      · subst hjm; rw [List.getElem?_set_self hj, hL]
      · rw [List.getElem?_set_ne hjm]
    rw [this]; exact hm
  | v :: vs, off, L, cs, w, hm, hL, hlen => by
    simp only [List.length_cons] at hlen
    have hj : j < L.length := (List.getElem?_eq_some_iff.1 hL).1
    have h1 := setCells_mem (w0 := w0) (ks := ks) (j := j) (b := b) (t := t) (lo := lo) (hi := hi) vs (off + 1) (L.set j (b, .c (cs.set off v) t lo hi)) (cs.set off v) (w.setCell ⟨b, off, none⟩ v)
      (hm.setCell (j := off) hL v) (by rw [List.getElem?_set_self hj]) (by rw [List.length_set]; omega)
    rw [List.set_set, over_set cs off (by omega)] at h1
    exact h1

theorem run_append_mem {P : Program} {t tx ty e : TypeId} {sz nb : Nat} {zs : List Value} (he : Elt P e sz nb zs) (ht : P.underlying t = some (.slice e)) {w0 w : World} {ks : List Nat} {L1 : Mm} {o : Own} {n : Nat} {xs : List Value} (hok : RowOk sz o n xs)
    (hm : Mem w0 ks (L1 ++ rowL e o xs) w) {x : Value} {m : Nat} {news : List Value} (hs : Src P sz tx x m news w) (hb : (n + m) * nb ≤ 140737488355328) (h63 : n + m ≤ 140737488355328) :
    ∃ (o' : Own) (w' : World), (Builtin.append_ #[t, tx] ty #[rowV o n, x]).run P w = .ok (rowV o' (n + m)) w' ∧ RowOk sz o' (n + m) (xs ++ news) ∧ Mem w0 ks (L1 ++ rowL e o' (xs ++ news)) w' := by
  have hinfo := he.info
  cases hq : P.info? e with
  | none => rw [hq] at hinfo; simp at hinfo
  | some i =>
    rw [hq] at hinfo
    simp only [Option.map_some, Option.some.injEq, Prod.mk.injEq] at hinfo
    obtain ⟨hi1, hi2, hi3⟩ := hinfo
    cases hz : i.zero with
    | none => rw [hz] at hi3; simp at hi3
    | some z =>
      rw [hz] at hi3
      simp only [Option.map_some, Option.some.injEq] at hi3
      subst hi1
      subst hi2
      have hlen2 : (xs ++ news).length = (n + m) * i.size := by rw [List.length_append, hok.len, hs.newsLen, Nat.add_mul]
      have grow : ∀ (base : Option Addr) (sCap : Nat), rowV o n = .slice base n sCap → (Builtin.firstCells i.size n (.slice base n sCap)).run P w.drew = .ok xs.toArray w.drew → sCap < n + m →
          (∃ L2, Mem w0 ks (L1 ++ L2) w) →
          ∃ (o' : Own) (w' : World), (Builtin.append_ #[t, tx] ty #[rowV o n, x]).run P w = .ok (rowV o' (n + m)) w' ∧ RowOk i.size o' (n + m) (xs ++ news) ∧ Mem w0 ks (L1 ++ rowL e o' (xs ++ news)) w' := by
        intro base sCap hv hold hg hmm
        have hr := run_append_grow_src (P := P) w t tx ty e i z ht hq hz base n sCap xs hold x m news hs hg (by omega) (growslice_fits hg hb)
        have hge := grownCap_ge w (n + m) sCap e
        have hzc : z.cells.size = i.size := by rw [hi3]; simpa using he.zlen
        refine ⟨some (w.heap.size, [], grownCap w (n + m) sCap e - (n + m), (Builtin.zeroCells z.cells (grownCap w (n + m) sCap e - (n + m))).toList), w.drew.alloc (.cells ((xs ++ news).toArray ++ Builtin.zeroCells z.cells (grownCap w (n + m) sCap e - (n + m))) e), ?_, ⟨hlen2, fun h => (by cases h), ?_⟩, ?_⟩
        · rw [hv, hr]
          simp only [rowV, List.length_nil]
          rw [show n + m + (grownCap w (n + m) sCap e - (n + m)) = grownCap w (n + m) sCap e by omega]
        · intro b pre r rest h
          simp only [Option.some.injEq, Prod.mk.injEq] at h
          obtain ⟨rfl, rfl, rfl, rfl⟩ := h
          rw [Array.length_toList, size_zeroCells, hzc]
          exact Nat.le_refl _
        · obtain ⟨L2, hm2⟩ := hmm
          have hm3 : Mem w0 ks L1 w := hm2.weaken (fun _ h => h) (List.sublist_append_left L1 L2)
          have hm4 : Mem w0 ks L1 w.drew := hm3.drew
          have hm5 := hm4.alloc (.c ((xs ++ news) ++ (Builtin.zeroCells z.cells (grownCap w (n + m) sCap e - (n + m))).toList) e 0 0)
          have hobj : (Blk.c ((xs ++ news) ++ (Builtin.zeroCells z.cells (grownCap w (n + m) sCap e - (n + m))).toList) e 0 0).obj = .cells ((xs ++ news).toArray ++ Builtin.zeroCells z.cells (grownCap w (n + m) sCap e - (n + m))) e := by
            simp only [Blk.obj]
            congr 1
            apply Array.ext'
            simp
          rw [hobj] at hm5
          refine hm5.perm ?_
          simp only [rowL, List.nil_append]
          exact List.perm_append_singleton _ _
      cases o with
      | none =>
        have hn : n = 0 := hok.nil rfl
        subst hn
        have hx : xs = [] := List.eq_nil_of_length_eq_zero (by simpa using hok.len)
        subst hx
        by_cases hm0 : m = 0
        · subst hm0
          have hnews : news = [] := List.eq_nil_of_length_eq_zero (by simpa using hs.newsLen)
          subst hnews
          refine ⟨none, w, ?_, ⟨by simp, fun _ => rfl, fun _ _ _ _ h => by cases h⟩, by simpa [rowL] using hm⟩
          have hc := hs.cells
          have hk := hs.kind
          rcases hk with ⟨e', hk⟩ | hk <;> simp [rowV, Builtin.append_, run_underlying ht, run_underlying hk, sizeOf, typeInfo, hq, hs.len, hc]
        · exact grow none 0 rfl (run_firstCells_none w.drew i.size 0 0 0) (by omega) ⟨[], by simpa [rowL] using hm⟩
      | some q =>
        obtain ⟨b, pre, r, rest⟩ := q
        have hrl := hok.rest b pre r rest rfl
        have hL : (L1 ++ rowL e (some (b, pre, r, rest)) xs)[L1.length]? = some (b, .c (pre ++ xs ++ rest) e 0 0) := by simp [rowL]
        have hcell : ∀ j, w.cell? ⟨b, j, none⟩ = (pre ++ xs ++ rest)[j]? := fun j => hm.cell hL
        by_cases hroom : m ≤ r
        · have hnl : news.length ≤ rest.length := by rw [hs.newsLen]; exact Nat.le_trans (Nat.mul_le_mul_right _ hroom) hrl
          have hblk : w.heap[b]? = some (.cells (pre ++ xs ++ rest).toArray e (0, 0)) := hm.known _ (List.mem_of_getElem? hL)
          have hr := run_append_room_src (P := P) w t tx ty e i ht hq b pre.length n (n + r) x m news hs (by omega)
            (fun j hj => by rw [hcell, List.getElem?_eq_getElem (by simp only [List.length_append, hok.len]; omega)]; rfl)
            (fun j _ => by simp [World.frozen?, hblk])
          have hmm := setCells_mem news (pre.length + n * i.size) _ _ _ hm hL (by simp only [List.length_append, hok.len]; omega)
          have hov : over (pre ++ xs ++ rest) (pre.length + n * i.size) news = pre ++ xs ++ news ++ rest.drop news.length := by
            rw [show pre.length + n * i.size = (pre ++ xs).length by simp [hok.len], over_eq (pre ++ xs) news rest hnl]
          refine ⟨some (b, pre, r - m, rest.drop news.length), w.setCells b (pre.length + n * i.size) news, ?_, ⟨hlen2, fun h => (by cases h), ?_⟩, ?_⟩
          · show (Builtin.append_ #[t, tx] ty #[.slice (some ⟨b, pre.length, none⟩) n (n + r), x]).run P w = _
            rw [hr]
            simp only [rowV]
            rw [show n + m + (r - m) = n + r by omega]
          · intro b' pre' r' rest' h
            simp only [Option.some.injEq, Prod.mk.injEq] at h
            obtain ⟨rfl, rfl, rfl, rfl⟩ := h
            rw [List.length_drop, hs.newsLen, Nat.sub_mul]
            exact Nat.sub_le_sub_right hrl _
          · rw [hov] at hmm
            have : (L1 ++ rowL e (some (b, pre, r, rest)) xs).set L1.length (b, .c (pre ++ xs ++ news ++ rest.drop news.length) e 0 0) = L1 ++ rowL e (some (b, pre, r - m, rest.drop news.length)) (xs ++ news) := by
              rw [List.set_append_right _ _ (Nat.le_refl _)]
              simp [rowL]
            rw [this] at hmm
            exact hmm
        · exact grow (some ⟨b, pre.length, none⟩) (n + r) rfl (run_firstCells_some w.drew i.size n ⟨b, pre.length, none⟩ n (n + r) xs hok.len (fun j u hu => by
            have hj : j < xs.length := (List.getElem?_eq_some_iff.1 hu).1
            rw [addr_add]
            show w.cell? _ = _
            rw [hcell, List.append_assoc, List.getElem?_append_right (by omega), List.getElem?_append_left (by omega)]
            rw [show pre.length + j - pre.length = j by omega]; exact hu)) (by omega) ⟨_, hm⟩

section
variable {c : Cx} {n : Nat} {F : Fr} {w0 : World} {ks : List Nat} {L : Mm} {D : List Deferred} {k : List Item} {ops : Array Oper} {i : Nat} {rest : List Oper}
  {ty : TypeId} {pos : String} {af : Array Edge} {g : Option (Nat × Bool)} {tb : Tab} {d : Nat} {q : Bool}

theorem zx_append {e : TypeId} {sz nb : Nat} {zs : List Value} (he : Elt c.P e sz nb zs) (ht : TabOk c.P tb) (L1 : Mm) (o : Own) (m0 : Nat) (xs : List Value) {s x : Operand} {t tx : TypeId} {tz : Nat} {tzs : List Value} {xv : Value} {m : Nat} {news : List Value} (hw : wn ops F g = some true)
    (htt : lookT tb t = some ⟨.slice e, tz, tzs⟩) (hs : ev F s = some (rowV o m0)) (hx : ev F x = some xv) (hL : L = L1 ++ rowL e o xs) (hd : Nat.blt d n = true) (hok : RowOk sz o m0 xs)
    (hsrc : ∀ w, Mem w0 ks L w → Src c.P sz tx xv m news w) (hb : (m0 + m) * nb ≤ 140737488355328) (h63 : m0 + m ≤ 140737488355328)
    (h : ∀ o' : Own, RowOk sz o' (m0 + m) (xs ++ news) → ZX c false n ((d, rowV o' (m0 + m)) :: F) w0 ks (L1 ++ rowL e o' (xs ++ news)) D ops (i + 1) rest k) :
    ZX c false n F w0 ks L D ops i (⟨some d, .call ⟨.builtin .append, #[s, x], #[t, tx]⟩, ty, pos, af, g⟩ :: rest) k :=
  zx_mem (o := ⟨some d, .call ⟨.builtin .append, #[s, x], #[t, tx]⟩, ty, pos, af, g⟩) (Y := Own) (v := fun o' => rowV o' (m0 + m)) (L' := fun o' => L1 ++ rowL e o' (xs ++ news)) (Φ := fun o' => RowOk sz o' (m0 + m) (xs ++ news)) hw
    (fun a w _ h2 h3 K hK => by
      have hs' := hsrc w h3
      rw [hL] at h3
      have hund := (ht _ _ htt).und
      obtain ⟨o', w', hr, hok', hm'⟩ := run_append_mem (ty := ty) he hund hok h3 hs' hb h63
      refine upon_val (w' := w') ?_ (hK o' w' hok' hm')
      simp [execOp, resolve, invoke, builtin, ev_eval h2 hs, ev_eval h2 hx, hr])
    (fun o' => has_put_d hd _) h

/-- a slice of bytes that is owned, as a string -/
theorem zx_b2sO {s t e : TypeId} {x : Operand} {tz sz : Nat} {tzs zs : List Value} (ht : TabOk c.P tb) (L1 : Mm) (o : Own) (l : List Int) {m : Nat} (hw : wn ops F g = some true)
    (hts : lookT tb s = some ⟨.slice e, sz, zs⟩) (htt : lookT tb t = some ⟨.string, tz, tzs⟩) {esz : Nat} {ez : List Value} (hte : lookT tb e = some ⟨.int .u8, esz, ez⟩) (hx : ev F x = some (rowV o m)) (hL : L = L1 ++ rowL e o (l.map (Value.int .u8))) (hok : RowOk 1 o m (l.map (Value.int .u8))) (hd : Nat.blt d n = true)
    (h : ZX c q n ((d, .string (ofInts l)) :: F) w0 ks L D ops (i + 1) rest k) : ZX c q n F w0 ks L D ops i (⟨some d, .convert s t x, ty, pos, af, g⟩ :: rest) k :=
  zx_val hw hd (fun a w h2 h3 => by
    have h1 := (ht _ _ hts).run_und w
    have h4 := (ht _ _ htt).run_und w
    have h5 := (ht _ _ hte).run_und w
    simp only at h1 h4 h5
    have hlen := hok.len
    simp only [List.length_map, Nat.mul_one] at hlen
    cases o with
    | none =>
      have := hok.nil rfl
      have hl : l = [] := List.eq_nil_of_length_eq_zero (by omega)
      subst hl
      have hz : ofInts [] = ByteArray.empty := by apply ByteArray.ext; simp [ofInts]
      simp [execOp, ev_eval h2 hx, rowV, convert, h1, h4, h5, Conv.bytesToString, hz]
    | some p =>
      obtain ⟨b, pre, r, rst⟩ := p
      have hL' : L[L1.length]? = some (b, .c (pre ++ l.map (Value.int .u8) ++ rst) e 0 0) := by rw [hL]; simp [rowL]
      have h6 := run_loadCells_list (P := c.P) w ⟨b, pre.length, none⟩ (l.map (Value.int .u8)) (fun j u hu => by
        have hj : j < (l.map (Value.int .u8)).length := (List.getElem?_eq_some_iff.1 hu).1
        rw [addr_add, h3.cell hL', List.append_assoc, List.getElem?_append_right (by omega), List.getElem?_append_left (by omega)]
        rw [show pre.length + j - pre.length = j by omega]; exact hu)
      rw [List.length_map, hlen] at h6
      have h7 := run_bytesToString w ⟨b, pre.length, none⟩ m (m + r) l h6
      have h8 := foldl_ofInts l ByteArray.empty
      have h9 : ByteArray.empty ++ ofInts l = ofInts l := by apply ByteArray.ext; simp
      rw [h8, h9] at h7
      simp [execOp, ev_eval h2 hx, rowV, convert, h1, h4, h5, h7]) h
end
end Go.Proofs.Ytabcaiecoiejkaa.K
