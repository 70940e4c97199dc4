/- The insertion sort of digests: the walk; what it computes is the kit's plain insertion sort. -/
import Derived.Test.YtedebapgmfnflaaM2
import Derived.Sort.AssemblyPlain
namespace Go.Proofs.Ytedebapgmfnflaa
open Go
set_option maxRecDepth 100000

def dlt (x y : Bytes) : Bool := decide (Lib.compareBytes x y < 0)
theorem arr_get (d : Array Bytes) (i : Nat) (h : i < d.size) : d[i]! = d.toList[i]'(by rw [Array.length_toList]; exact h) := by
  rw [getElem!_pos d i h]; rfl
theorem swp_list (d : Array Bytes) (i j : Nat) (hi : i < d.size) (hj : j < d.size) : (Sort.swp d i j).toList = (d.toList.set i (d.toList[j]'(by rw [Array.length_toList]; exact hj))).set j (d.toList[i]'(by rw [Array.length_toList]; exact hi)) := by
  unfold Sort.swp
  rw [Array.toList_setIfInBounds, Array.toList_setIfInBounds, arr_get d i hi, arr_get d j hj]
theorem swp_size (d : Array Bytes) (i j : Nat) : (Sort.swp d i j).size = d.size := by simp [Sort.swp]

def cmpV : Value := .func (.func 59) #[] #[]

set_option maxHeartbeats 2000000 in
theorem insertion_c {S : List Nat} {w0 w : World} {L R : List Res} {K : VPost} {v : Value} {ds : Array Bytes} {a b : Nat} (s : Sep S w0 w (rO v 62 32 (fl ds.toList) ds.size :: L) R) (hd : ∀ d ∈ ds.toList, d.length = 32)
    (hab : a ≤ b) (hb : b ≤ ds.size) (hsz : ds.size ≤ 2 ^ 30)
    (hK : ∀ u w', Sep S w0 w' (rO v 62 32 (fl (Sort.insertionSort dlt ds a b).toList) ds.size :: L) R → K u w') :
    Calls Try.prog 114 #[v, .int .i64 a, .int .i64 b, cmpV] w (retK K) := by
  refine c114_calls _ _ _ _ w K ?_
  unfold c114
  refine nadd (y := 1) (by omega) ?_
  refine bindX_i fun J0 h0 => bindX_i fun J1 h1 => ?_
  refine loop_i (fun m fr wr => ∃ (i : Nat) (d : Array Bytes), m = b + 1 - i ∧ a + 1 ≤ i ∧ i ≤ b + 1 ∧ d.size = ds.size ∧ (∀ x ∈ d.toList, x.length = 32) ∧ Sort.insOuter dlt a b i d = Sort.insertionSort dlt ds a b ∧
    fr 0 = v ∧ fr 1 = .int .i64 a ∧ fr 2 = .int .i64 b ∧ fr 3 = cmpV ∧ fr 8 = .int .i64 i ∧ Sep S w0 wr (rO v 62 32 (fl d.toList) ds.size :: L) R) (b - a) ?_ ?_
  · exact ⟨a + 1, ds, by omega, by omega, by omega, rfl, hd, rfl, rfl, rfl, rfl, rfl, rfl, s⟩
  · rintro m fr wr J ⟨i, d, rfl, hai, hib, hds, hd, hst, f0, f1, f2, f3, f8, s⟩ hJ hX
    rw [f2, f8]
    refine nlss (cond_d (fun hlt => ?_) (fun hlt => ?_))
    · rw [Sort.insOuter, if_pos hlt] at hst
      refine bindX_i fun J2 h2 => bindX_i fun J3 h3 => bindX_i fun J4 h4 => ?_
      refine loop_i (fun m fr wr => ∃ (e : Array Bytes), m < i + 1 ∧ e.size = ds.size ∧ (∀ x ∈ e.toList, x.length = 32) ∧ Sort.insInner dlt a m e = Sort.insInner dlt a i d ∧
        fr 0 = v ∧ fr 1 = .int .i64 a ∧ fr 2 = .int .i64 b ∧ fr 3 = cmpV ∧ fr 8 = .int .i64 i ∧ fr 9 = .int .i64 m ∧ Sep S w0 wr (rO v 62 32 (fl e.toList) ds.size :: L) R) i ?_ ?_
      · exact ⟨d, by omega, hds, hd, rfl, f0, f1, f2, f3, f8, rfl, s⟩
      · rintro j fr wr JJ ⟨e, hj, hes, he, hin, f0, f1, f2, f3, f8, f9, s⟩ hJJ hXX
        have fin : ∀ (fr : Fr) (w' : World), Sort.insInner dlt a i d = e → fr 0 = v → fr 1 = .int .i64 a → fr 2 = .int .i64 b → fr 3 = cmpV → fr 8 = .int .i64 i → Sep S w0 w' (rO v 62 32 (fl e.toList) ds.size :: L) R → JJ (.exit 2) fr w' := by
          intro fr w' hie f0 f1 f2 f3 f8 s
          refine hXX _ _ _ (by simp) (h4 _ _ _ (blk_x (h3 _ _ _ (show J2 .normal _ _ from seq_n h2 ?_))))
          rw [f8]
          refine nadd (y := 1) (by omega) ?_
          rw [hie] at hst
          exact hJ (b + 1 - (i + 1)) _ _ (by omega) ⟨i + 1, e, rfl, by omega, by omega, hes, he, hst, f0, f1, f2, f3, rfl, s⟩
        rw [f0, f1, f3, f9]
        refine ngtr ?_
        by_cases hja : a < j
        · obtain ⟨k, rfl⟩ : ∃ k, j = k + 1 := ⟨j - 1, by omega⟩
          rw [decide_eq_true hja]
          have s := s.drew
          have hll : e.toList.length = ds.size := by rw [Array.length_toList]; exact hes
          have hk1 : k + 1 < e.toList.length := by omega
          have hk0 : k < e.toList.length := by omega
          have l1 : (e.toList[k + 1]).length = 32 := he _ (List.getElem_mem hk1)
          have l0 : (e.toList[k]).length = 32 := he _ (List.getElem_mem hk0)
          refine gs_t ?_
          refine gs_t ?_
          refine gs_t ?_
          refine gs_t ?_
          obtain ⟨b1, o1, hix1, hld1, _⟩ := s.digAt 0 rfl hll he hk1 .i64
          refine hix1 _ ?_
          refine gs_t ?_
          refine hld1 _ ?_
          refine gs_t ?_
          refine gs_t ?_
          refine gs_t ?_
          refine nsub (y := 1) (by omega) (by omega) ?_
          refine gs_t ?_
          obtain ⟨b0, o0, hix0, hld0, _⟩ := s.digAt 0 rfl hll he hk0 .i64
          refine hix0 _ ?_
          refine gs_t ?_
          refine hld0 _ ?_
          refine gs_t ?_
          show fnW Try.prog 59 #[_, _] _ _
          refine fnW_of (by kernel_rfl) (compare_c l1 l0 fun w2 e2 => ?_)
          have s := s.ext0 e2
          refine gs_t ?_
          rw [ilss, pickW_t]
          have e1 : dlt e[k + 1]! e[k]! = decide (Lib.compareBytes e.toList[k + 1] e.toList[k] < 0) := by
            rw [arr_get e (k + 1) (by omega), arr_get e k (by omega)]; rfl
          rw [Sort.insInner, e1] at hin
          refine cond_d (fun hneg => ?_) (fun hneg => ?_)
          · rw [decide_eq_true hneg, if_pos (by simp; omega)] at hin
            have s := s.drew
            refine nsub (y := 1) (by omega) (by omega) ?_
            refine nsub (y := 1) (by omega) (by omega) ?_
            obtain ⟨b3, o3, hix3, hld3, _⟩ := s.digAt 0 rfl hll he hk0 .i64
            refine hix3 _ ?_
            refine hld3 _ ?_
            obtain ⟨b4, o4, hix4, hld4, hst4⟩ := s.digAt 0 rfl hll he hk1 .i64
            refine hix4 _ ?_
            refine hld4 _ ?_
            refine hix4 _ ?_
            refine hst4 _ _ _ l0 fun w3 s => ?_
            have he' : ∀ x ∈ e.toList.set (k + 1) e.toList[k], x.length = 32 := by
              intro x hx
              rcases List.mem_or_eq_of_mem_set hx with h | rfl
              · exact he x h
              · exact l0
            have s : Sep S w0 w3 (rO v 62 32 (fl (e.toList.set (k + 1) e.toList[k])) ds.size :: L) R := s
            obtain ⟨b5, o5, hix5, _, hst5⟩ := s.digAt (k := k) 0 rfl (by rw [List.length_set]; exact hll) he' (by rw [List.length_set]; exact hk0) .i64
            refine hix5 _ ?_
            refine hst5 _ _ _ l1 fun w4 s => ?_
            have hsw := swp_list e (k + 1) k (by omega) (by omega)
            have s : Sep S w0 w4 (rO v 62 32 (fl ((e.toList.set (k + 1) e.toList[k]).set k e.toList[k + 1])) ds.size :: L) R := s
            rw [← hsw] at s
            refine nsub (y := 1) (by omega) (by omega) ?_
            exact hJJ k _ _ (by omega) ⟨Sort.swp e (k + 1) k, by omega, by rw [swp_size]; exact hes, by
              rw [hsw]
              intro x hx
              rcases List.mem_or_eq_of_mem_set hx with h | rfl
              · exact he' x h
              · exact l1, hin, f0, f1, f2, f3, f8, rfl, s⟩
          · rw [decide_eq_false hneg, if_neg (by simp)] at hin
            exact fin _ _ hin.symm f0 f1 f2 f3 f8 s
        · rw [decide_eq_false hja]
          have hee : Sort.insInner dlt a j e = e := by
            cases j with
            | zero => rfl
            | succ j => rw [Sort.insInner, if_neg (by simp; omega)]
          have s := s.drew
          iterate 12 refine gs_ft ?_
          rw [pickW_f, condW_f]
          exact fin _ _ (hin.symm.trans hee) f0 f1 f2 f3 f8 s
    · refine hX _ _ _ (by simp) (h1 _ _ _ (blk_x (h0 _ _ _ ?_)))
      rw [Sort.insOuter, if_neg hlt] at hst
      rw [hst] at s
      exact hK _ _ s
end Go.Proofs.Ytedebapgmfnflaa
