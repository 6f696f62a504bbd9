/- The plain law of layer 18's bytes, whole: what is built is read again as it was; and so it is where the two bytes behind the checksum and the options' bytes are others, as long as the options say the same. -/
import Derived.Test.YtabcaiecoiejkaaH1
set_option maxRecDepth 100000
set_option linter.unusedSimpArgs false
set_option linter.unusedVariables false
set_option maxHeartbeats 800000
namespace Go.Proofs.Ytabcaiecoiejkaa
open Go K

theorem sparse_of (a a' : Adr) (x : ByteArray) (s : Sg) (he : ends a a' = true) (h20 : 20 ≤ shead x) (hlx : shead x ≤ x.size) (hb : x.size ≤ 65515) (hc : ssum a a' (x.extract 0 16) (x.extract 18 x.size) = getN x 16 2)
    (hr : sread (sopts x) (sopts x).size 0 (sfields x (shead x)) = (s, true)) : sparse a a' x = (s, 0) := by
  rw [sparse, if_pos he, if_neg (by omega), if_neg (by omega), if_neg (fun h => h.elim (by omega) (fun h => h hc)), hr, if_pos rfl]
def sfirstL (s : Sg) (l : Int) : ByteArray := putB s.src 2 ++ putB s.dst 2 ++ putB s.seq 4 ++ putB s.ack 4 ++ putB (l * 4) 1 ++ putB s.flags 1 ++ putB s.win 2
theorem sfirstL_size (s : Sg) (l : Int) : (sfirstL s l).size = 16 := by simp [sfirstL, ByteArray.size_append, putB_size]
theorem sparse_gen (a a' : Adr) (s : Sg) (l : Int) (q o : ByteArray) (he : ends a a' = true) (hg : SRight s) (hq0 : 0 ≤ s.seq) (hq1 : s.seq ≤ 4294967295) (ha0 : 0 ≤ s.ack) (ha1 : s.ack ≤ 4294967295)
    (hq : q.size = 2) (hl : l = 20 + o.size) (ho : o.size % 4 = 0) (ho4 : o.size ≤ 40) (hb : 20 + o.size + s.data.size ≤ 65515) (hr : sread o o.size 0 { s with mss := 0, scale := -1 } = (s, true)) :
    sparse a a' (sfirstL s l ++ putB (ssum a a' (sfirstL s l) (q ++ o ++ s.data)) 2 ++ (q ++ o ++ s.data)) = (s, 0) := by
  obtain ⟨h1, h2, h3, h4, h5, h6, h7, h8, h9, h10, h11, h12⟩ := hg
  have hu := ssum_range a a' (sfirstL s l) (q ++ o ++ s.data)
  have hf := sfirstL_size s l
  generalize hU : ssum a a' (sfirstL s l) (q ++ o ++ s.data) = u at hu
  generalize hXX : sfirstL s l ++ putB u 2 ++ (q ++ o ++ s.data) = X
  have hX : X = putB s.src 2 ++ (putB s.dst 2 ++ (putB s.seq 4 ++ (putB s.ack 4 ++ (putB (l * 4) 1 ++ (putB s.flags 1 ++ (putB s.win 2 ++ (putB u 2 ++ (q ++ (o ++ s.data))))))))) := by
    rw [← hXX]; simp only [sfirstL, ByteArray.append_assoc]
  have hXs : X.size = 20 + o.size + s.data.size := by
    rw [← hXX]; simp only [ByteArray.size_append, hf, putB_size, hq]; omega
  have f0 : getN X 0 2 = s.src := by rw [hX]; exact fld _ 2 _ (getN_put _ h1 h2)
  have f2 : getN X 2 2 = s.dst := by rw [hX]; exact (skp _ 2 _ 0 2).trans (fld _ 2 _ (getN_put _ h3 h4))
  have f4 : getN X 4 4 = s.seq := by rw [hX]; exact (skp _ 2 _ (2 + 0) 4).trans ((skp _ 2 _ 0 4).trans (fld _ 4 _ (getN_put4 _ hq0 hq1)))
  have f8 : getN X 8 4 = s.ack := by rw [hX]; exact (skp _ 2 _ (2 + (4 + 0)) 4).trans ((skp _ 2 _ (4 + 0) 4).trans ((skp _ 4 _ 0 4).trans (fld _ 4 _ (getN_put4 _ ha0 ha1))))
  have f12 : getN X 12 1 = l * 4 := by rw [hX]; exact (skp _ 2 _ (2 + (4 + (4 + 0))) 1).trans ((skp _ 2 _ (4 + (4 + 0)) 1).trans ((skp _ 4 _ (4 + 0) 1).trans ((skp _ 4 _ 0 1).trans (fld _ 1 _ (getN_put1 _ (by omega) (by omega))))))
  have f13 : getN X 13 1 = s.flags := by rw [hX]; exact (skp _ 2 _ (2 + (4 + (4 + (1 + 0)))) 1).trans ((skp _ 2 _ (4 + (4 + (1 + 0))) 1).trans ((skp _ 4 _ (4 + (1 + 0)) 1).trans ((skp _ 4 _ (1 + 0) 1).trans ((skp _ 1 _ 0 1).trans (fld _ 1 _ (getN_put1 _ h9 h10))))))
  have f14 : getN X 14 2 = s.win := by rw [hX]; exact (skp _ 2 _ (2 + (4 + (4 + (1 + (1 + 0))))) 2).trans ((skp _ 2 _ (4 + (4 + (1 + (1 + 0)))) 2).trans ((skp _ 4 _ (4 + (1 + (1 + 0))) 2).trans ((skp _ 4 _ (1 + (1 + 0)) 2).trans ((skp _ 1 _ (1 + 0) 2).trans ((skp _ 1 _ 0 2).trans (fld _ 2 _ (getN_put _ h5 h6)))))))
  have f16 : getN X 16 2 = u := by rw [hX]; exact (skp _ 2 _ (2 + (4 + (4 + (1 + (1 + (2 + 0)))))) 2).trans ((skp _ 2 _ (4 + (4 + (1 + (1 + (2 + 0))))) 2).trans ((skp _ 4 _ (4 + (1 + (1 + (2 + 0)))) 2).trans ((skp _ 4 _ (1 + (1 + (2 + 0))) 2).trans ((skp _ 1 _ (1 + (2 + 0)) 2).trans ((skp _ 1 _ (2 + 0) 2).trans ((skp _ 2 _ 0 2).trans (fld _ 2 _ (getN_put u hu.1 hu.2))))))))
  have b12 : bt X 12 = l * 4 := by rw [← getN_one]; exact f12
  have hh : shead X = 20 + o.size := by rw [shead, b12]; omega
  have E0 : X.extract 0 16 = sfirstL s l := by
    rw [← hXX, ByteArray.append_assoc, ← hf]; exact ext_left _ _
  have E18 : X.extract 18 X.size = q ++ o ++ s.data := by
    rw [← hXX]
    refine ext_tail _ _ _ _ ?_ ?_ <;> simp only [ByteArray.size_append, hf, putB_size]
  have E20 : X.extract 20 (20 + o.size) = o := by
    rw [← hXX, show sfirstL s l ++ putB u 2 ++ (q ++ o ++ s.data) = (sfirstL s l ++ putB u 2 ++ q) ++ (o ++ s.data) from by simp only [ByteArray.append_assoc]]
    refine ext_mid _ _ _ _ _ ?_ ?_ <;> simp only [ByteArray.size_append, hf, putB_size, hq]
  have Eh : X.extract (20 + o.size) X.size = s.data := by
    rw [hXs, ← hXX, show sfirstL s l ++ putB u 2 ++ (q ++ o ++ s.data) = (sfirstL s l ++ putB u 2 ++ q ++ o) ++ s.data from by simp only [ByteArray.append_assoc]]
    refine ext_tail _ _ _ _ ?_ ?_ <;> simp only [ByteArray.size_append, hf, putB_size, hq]
  refine sparse_of a a' X s he (by omega) (by omega) (by omega) (by rw [E0, E18, f16, hU]) ?_
  rw [sopts, hh, E20, sfields, f0, f2, f4, f8, f13, f14, Eh]
  exact hr
theorem roundS (a a' : Adr) (s : Sg) (he : ends a a' = true) (hg : SRight s) (hq0 : 0 ≤ s.seq) (hq1 : s.seq ≤ 4294967295) (ha0 : 0 ≤ s.ack) (ha1 : s.ack ≤ 4294967295) (hb : slong s + s.data.size ≤ 65515) :
    sparse a a' (sbytes a a' s) = (s, 0) := by
  have ho := sopt_size s
  have h := sparse_gen a a' s (slong s) ⟨#[0, 0]⟩ (sopt s) he hg hq0 hq1 ha0 ha1 rfl rfl (by omega) (by omega) (by unfold slong at hb; omega)
    (by
      rcases ho with e | e | e
      · have hd := sread_opt s 3 hg (by omega)
        rw [← sread_fuel (sopt s) 3 (sopt s).size 0 _ (by omega) (by omega)]; exact hd
      · rw [e]; exact sread_opt s 4 hg (by omega)
      · rw [e]; exact sread_opt s 8 hg (by omega))
  exact h
theorem sbytes_size (a a' : Adr) (s : Sg) : (sbytes a a' s).size = 20 + (sopt s).size + s.data.size := by
  rw [sbytes, ByteArray.size_append, ByteArray.size_append, sfirst_size, putB_size, srest_size]; omega
end Go.Proofs.Ytabcaiecoiejkaa
