/- Two digests change places; slices.reverseRange of digests: the walk. -/
import Derived.Test.YtedebapgmfnflaaM3
import Derived.Test.YtedebapgmfnflaaCP
namespace Go.Proofs.Ytedebapgmfnflaa
open Go
set_option maxRecDepth 100000

/-- The digests of an array, in a slice of one's own. -/
def rDs (v : Value) (d : Array Bytes) : Res := rO v 62 32 (fl d.toList) d.size
def all32 (d : Array Bytes) : Prop := ∀ x ∈ d.toList, x.length = 32
theorem swp_all {d : Array Bytes} (h : all32 d) {p q : Nat} (hp : p < d.size) (hq : q < d.size) : all32 (Sort.swp d p q) := by
  intro x hx
  rw [swp_list d p q hp hq] at hx
  rcases List.mem_or_eq_of_mem_set hx with hx | rfl
  · rcases List.mem_or_eq_of_mem_set hx with hx | rfl
    · exact h x hx
    · exact h _ (List.getElem_mem _)
  · exact h _ (List.getElem_mem _)

theorem Sep.dswap {S : List Nat} {w0 w : World} {L R : List Res} {v : Value} {d : Array Bytes} {p q : Nat} {K : Value → Value → Value → Value → Value → Value → World → Prop} (s : Sep S w0 w (rDs v d :: L) R) (hd : all32 d) (hp : p < d.size) (hq : q < d.size)
    (hK : ∀ t1 t2 t3 t4 t5 t6 w', Sep S w0 w' (rDs v (Sort.swp d p q) :: L) R → K t1 t2 t3 t4 t5 t6 w') :
    idxW (some (none, 32)) v (.int .i64 q) w fun t1 w1 => loadW (some (true, 32)) t1 w1 fun t2 w2 => idxW (some (none, 32)) v (.int .i64 p) w2 fun t3 w3 => loadW (some (true, 32)) t3 w3 fun t4 w4 =>
      idxW (some (none, 32)) v (.int .i64 p) w4 fun t5 w5 => storeW (some (true, 32)) t5 t2 w5 fun w6 => idxW (some (none, 32)) v (.int .i64 q) w6 fun t6 w7 => storeW (some (true, 32)) t6 t4 w7 fun w8 => K t1 t2 t3 t4 t5 t6 w8 := by
  have hll : d.toList.length = d.size := Array.length_toList
  have hpl : p < d.toList.length := by omega
  have hql : q < d.toList.length := by omega
  have l0 : (d.toList[q]).length = 32 := hd _ (List.getElem_mem hql)
  have l1 : (d.toList[p]).length = 32 := hd _ (List.getElem_mem hpl)
  obtain ⟨b3, o3, hix3, hld3, _⟩ := s.digAt 0 rfl hll hd hql .i64
  refine hix3 _ ?_
  refine hld3 _ ?_
  obtain ⟨b4, o4, hix4, hld4, hst4⟩ := s.digAt 0 rfl hll hd hpl .i64
  refine hix4 _ ?_
  refine hld4 _ ?_
  refine hix4 _ ?_
  refine hst4 _ _ _ l0 fun w3 s => ?_
  have he' : ∀ x ∈ d.toList.set p d.toList[q], x.length = 32 := by
    intro x hx
    rcases List.mem_or_eq_of_mem_set hx with h | rfl
    · exact hd x h
    · exact l0
  have s : Sep S w0 w3 (rO v 62 32 (fl (d.toList.set p d.toList[q])) d.size :: L) R := s
  obtain ⟨b5, o5, hix5, _, hst5⟩ := s.digAt (k := q) 0 rfl (by rw [List.length_set]; exact hll) he' (by rw [List.length_set]; exact hql) .i64
  refine hix5 _ ?_
  refine hst5 _ _ _ l1 fun w4 s => ?_
  have hsw := swp_list d p q hp hq
  have s : Sep S w0 w4 (rO v 62 32 (fl ((d.toList.set p d.toList[q]).set q d.toList[p])) d.size :: L) R := s
  rw [← hsw] at s
  have s : Sep S w0 w4 (rO v 62 32 (fl (Sort.swp d p q).toList) d.size :: L) R := s
  rw [← swp_size d p q] at s
  exact hK _ _ _ _ _ _ _ s

theorem reverse_c {S : List Nat} {w0 w : World} {L R : List Res} {K : VPost} {v : Value} {ds : Array Bytes} {a b : Nat} (s : Sep S w0 w (rDs v ds :: L) R) (hd : all32 ds) (hab : a < b) (hb : b ≤ ds.size) (hsz : ds.size ≤ 2 ^ 30)
    (hK : ∀ u w', Sep S w0 w' (rDs v (Sort.reverseRange ds a b) :: L) R → K u w') :
    Calls Try.prog 118 #[v, .int .i64 a, .int .i64 b, cmpV] w (retK K) := by
  refine c118_calls _ _ _ _ w K ?_
  unfold c118
  refine nsub (y := 1) (by omega) (by omega) ?_
  refine bindX_i fun J0 h0 => bindX_i fun J1 h1 => ?_
  refine loop_i (fun m fr wr => ∃ (i j : Nat) (d : Array Bytes), m = j - i ∧ i ≤ j + 1 ∧ j < d.size ∧ d.size = ds.size ∧ all32 d ∧ Sort.reverseLoop i j d = Sort.reverseRange ds a b ∧
    fr 0 = v ∧ fr 8 = .int .i64 i ∧ fr 9 = .int .i64 j ∧ Sep S w0 wr (rDs v d :: L) R) (b - 1 - a) ?_ ?_
  · exact ⟨a, b - 1, ds, rfl, by omega, by omega, rfl, hd, rfl, rfl, rfl, rfl, s⟩
  · rintro m fr wr J ⟨i, j, d, rfl, hij, hj, hds, hd, hst, f0, f8, f9, s⟩ hJ hX
    rw [f0, f8, f9]
    refine nlss (cond_d (fun hlt => ?_) (fun hlt => ?_))
    · rw [Sort.reverseLoop, if_pos hlt] at hst
      refine s.drew.dswap hd (p := i) (q := j) (by omega) hj fun t1 t2 t3 t4 t5 t6 w' s => ?_
      refine nadd (y := 1) (by omega) ?_
      refine nsub (y := 1) (by omega) (by omega) ?_
      exact hJ (j - 1 - (i + 1)) _ _ (by omega) ⟨i + 1, j - 1, _, rfl, by omega, by rw [swp_size]; omega, by rw [swp_size]; exact hds, swp_all hd (by omega) hj, hst, f0, rfl, rfl, s⟩
    · refine hX _ _ _ (by simp) (h1 _ _ _ (blk_x (h0 _ _ _ ?_)))
      rw [Sort.reverseLoop, if_neg hlt] at hst
      rw [hst] at s
      exact hK _ _ s
end Go.Proofs.Ytedebapgmfnflaa
