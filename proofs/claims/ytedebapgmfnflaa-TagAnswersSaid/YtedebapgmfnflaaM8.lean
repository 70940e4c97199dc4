/- The heap's siftDown: the walk. -/
import Derived.Test.YtedebapgmfnflaaM7
namespace Go.Proofs.Ytedebapgmfnflaa
open Go
set_option maxRecDepth 100000

theorem sift_eq (hi first r : Nat) (d : Array Bytes) (h : ¬ 2 * r + 1 ≥ hi) (c : Nat) (hc : c = if 2 * r + 1 + 1 < hi ∧ dlt d[first + (2 * r + 1)]! d[first + (2 * r + 1) + 1]! = true then 2 * r + 2 else 2 * r + 1) :
    c < hi ∧ r < c ∧ Sort.siftDown dlt hi first r d = if dlt d[first + r]! d[first + c]! = true then Sort.siftDown dlt hi first c (Sort.swp d (first + r) (first + c)) else d := by
  by_cases hx : 2 * r + 1 + 1 < hi ∧ dlt d[first + (2 * r + 1)]! d[first + (2 * r + 1) + 1]! = true
  · rw [if_pos hx] at hc
    subst hc
    refine ⟨by omega, by omega, ?_⟩
    rw [Sort.siftDown, dif_neg h, if_pos (by simp [hx.1, hx.2])]
    cases hl : dlt d[first + r]! d[first + (2 * r + 2)]! with
    | true => rw [if_neg (by simp), if_pos rfl, dif_pos (by omega)]
    | false => rw [if_pos (by simp), if_neg (by simp)]
  · rw [if_neg hx] at hc
    subst hc
    refine ⟨by omega, by omega, ?_⟩
    rw [Sort.siftDown, dif_neg h, if_neg (by simpa using hx)]
    cases hl : dlt d[first + r]! d[first + (2 * r + 1)]! with
    | true => rw [if_neg (by simp), if_pos rfl]
    | false => rw [if_pos (by simp), if_neg (by simp)]

set_option maxHeartbeats 2000000 in
theorem siftDown_c {S : List Nat} {w0 w : World} {L R : List Res} {K : VPost} {v : Value} {ds : Array Bytes} {root hi first : Nat} (s : Sep S w0 w (rDs v ds :: L) R) (hd : all32 ds) (hhi : first + hi ≤ ds.size) (hrt : root ≤ 2 ^ 30) (hsz : ds.size ≤ 2 ^ 30)
    (hK : ∀ u w' d, d = Sort.siftDown dlt hi first root ds → d.size = ds.size → all32 d → Sep S w0 w' (rDs v d :: L) R → K u w') :
    Calls Try.prog 125 #[v, .int .i64 root, .int .i64 hi, .int .i64 first, cmpV] w (retK K) := by
  refine c125_calls _ _ _ _ _ w K ?_
  unfold c125
  refine bindX_i fun J0 h0 => bindX_i fun J1 h1 => ?_
  refine loop_i (fun m fr wr => ∃ (r : Nat) (d : Array Bytes), m = hi - r ∧ r ≤ 2 ^ 30 ∧ d.size = ds.size ∧ all32 d ∧ Sort.siftDown dlt hi first r d = Sort.siftDown dlt hi first root ds ∧
    fr 0 = v ∧ fr 2 = .int .i64 hi ∧ fr 3 = .int .i64 first ∧ fr 4 = cmpV ∧ fr 10 = .int .i64 r ∧ Sep S w0 wr (rDs v d :: L) R) (hi - root) ?_ ?_
  · exact ⟨root, ds, rfl, hrt, rfl, hd, rfl, rfl, rfl, rfl, rfl, rfl, s⟩
  · rintro m fr wr J ⟨r, d, rfl, hr, hds, hd, hst, f0, f2, f3, f4, f10, s⟩ hJ hX
    refine bindX_i fun J2 h2 => ?_
    rw [f10]
    refine nmul (x := 2) (by omega) ?_
    refine nadd (y := 1) (by omega) ?_
    rw [f2]
    refine ngeq (cond_d (fun hge => ?_) (fun hge => ?_))
    · refine hX _ _ _ (by simp) (h1 _ _ _ (blk_x (h0 _ _ _ ?_)))
      rw [Sort.siftDown, dif_pos hge] at hst
      exact hK _ _ d hst hds hd s
    · refine bindX_i fun J3 h3 => ?_
      have s := s.drew
      have fin : ∀ (c : Nat) (fr : Fr) (w' : World), (c = if 2 * r + 1 + 1 < hi ∧ dlt d[first + (2 * r + 1)]! d[first + (2 * r + 1) + 1]! = true then 2 * r + 2 else 2 * r + 1) →
          fr 0 = v → fr 2 = .int .i64 hi → fr 3 = .int .i64 first → fr 4 = cmpV → fr 10 = .int .i64 r → fr 11 = .int .i64 c → Sep S w0 w' (rDs v d :: L) R → J3 .normal fr w' := by
        intro c fr w' hc f0 f2 f3 f4 f10 f11 s
        obtain ⟨c1, c2, c3⟩ := sift_eq hi first r d hge c hc
        refine seq_n h3 ?_
        rw [f0, f3, f4, f10, f11]
        have s := s.drew
        have hp : first + r < d.size := by omega
        have hq : first + c < d.size := by omega
        refine nadd (by omega) ?_
        obtain ⟨b1, o1, hix1, hld1⟩ := s.dget hd hp
        refine hix1 _ ?_
        refine hld1 _ ?_
        refine nadd (by omega) ?_
        obtain ⟨b2, o2, hix2, hld2⟩ := s.dget hd hq
        refine hix2 _ ?_
        refine hld2 _ ?_
        refine s.dcmp (get32 hd hp) (get32 hd hq) fun w2 s => ?_
        rw [ilss, notN]
        have e : dlt d[first + r]! d[first + c]! = decide (Lib.compareBytes d[first + r]! d[first + c]! < 0) := rfl
        rw [← e]
        rw [c3] at hst
        cases hl : dlt d[first + r]! d[first + c]! with
        | false =>
          rw [hl, if_neg (by simp)] at hst
          rw [Bool.not_false, condW_t]
          refine hX _ _ _ (by simp) (h1 _ _ _ (h0 _ _ _ ?_))
          exact hK _ _ d hst hds hd s
        | true =>
          rw [hl, if_pos rfl] at hst
          rw [Bool.not_true, condW_f]
          refine nadd (by omega) ?_
          refine nadd (by omega) ?_
          refine nadd (by omega) ?_
          have s := s.drew
          have hll : d.toList.length = d.size := Array.length_toList
          have hpl : first + r < d.toList.length := by omega
          have hql : first + c < d.toList.length := by omega
          have l0 : (d.toList[first + c]).length = 32 := hd _ (List.getElem_mem hql)
          have l1 : (d.toList[first + r]).length = 32 := hd _ (List.getElem_mem hpl)
          obtain ⟨b3, o3, hix3, hld3, _⟩ := s.digAt 0 rfl hll hd hql .i64
          refine hix3 _ ?_
          refine hld3 _ ?_
          refine nadd (by omega) ?_
          obtain ⟨b4, o4, hix4, hld4, hst4⟩ := s.digAt 0 rfl hll hd hpl .i64
          refine hix4 _ ?_
          refine hld4 _ ?_
          refine hix4 _ ?_
          refine hst4 _ _ _ l0 fun w3 s => ?_
          have he' : ∀ x ∈ d.toList.set (first + r) d.toList[first + c], x.length = 32 := by
            intro x hx
            rcases List.mem_or_eq_of_mem_set hx with h | rfl
            · exact hd x h
            · exact l0
          have s : Sep S w0 w3 (rO v 62 32 (fl (d.toList.set (first + r) d.toList[first + c])) d.size :: L) R := s
          obtain ⟨b5, o5, hix5, _, hst5⟩ := s.digAt (k := first + c) 0 rfl (by rw [List.length_set]; exact hll) he' (by rw [List.length_set]; exact hql) .i64
          refine hix5 _ ?_
          refine hst5 _ _ _ l1 fun w4 s => ?_
          have hsw := swp_list d (first + r) (first + c) hp hq
          have s : Sep S w0 w4 (rO v 62 32 (fl ((d.toList.set (first + r) d.toList[first + c]).set (first + c) d.toList[first + r])) d.size :: L) R := s
          rw [← hsw] at s
          have s : Sep S w0 w4 (rO v 62 32 (fl (Sort.swp d (first + r) (first + c)).toList) d.size :: L) R := s
          rw [← swp_size d (first + r) (first + c)] at s
          exact hJ (hi - c) _ _ (by omega) ⟨c, _, rfl, by omega, by rw [swp_size]; exact hds, swp_all hd hp hq, hst, f0, f2, f3, f4, rfl, s⟩
      rw [f0, f3, f4]
      refine nadd (y := 1) (by omega) ?_
      refine nlss ?_
      by_cases hlt : 2 * r + 1 + 1 < hi
      · rw [decide_eq_true hlt]
        have hp : first + (2 * r + 1) < d.size := by omega
        have hq : first + (2 * r + 1) + 1 < d.size := by omega
        refine gs_t ?_
        refine gs_t ?_
        refine gs_t ?_
        refine gs_t ?_
        refine gs_t ?_
        refine nadd (by omega) ?_
        refine gs_t ?_
        obtain ⟨b1, o1, hix1, hld1⟩ := s.dget hd hp
        refine hix1 _ ?_
        refine gs_t ?_
        refine hld1 _ ?_
        refine gs_t ?_
        refine gs_t ?_
        refine gs_t ?_
        refine gs_t ?_
        refine nadd (by omega) ?_
        refine gs_t ?_
        refine nadd (y := 1) (by omega) ?_
        refine gs_t ?_
        obtain ⟨b2, o2, hix2, hld2⟩ := s.dget hd hq
        refine hix2 _ ?_
        refine gs_t ?_
        refine hld2 _ ?_
        refine gs_t ?_
        refine s.dcmp (get32 hd hp) (get32 hd hq) fun w2 s => ?_
        refine gs_t ?_
        rw [ilss, pickW_t]
        refine cond_d (fun h => ?_) (fun h => ?_)
        · refine nadd (y := 1) (by omega) ?_
          exact fin (2 * r + 1 + 1) _ _ (by rw [if_pos ⟨hlt, by simpa [dlt] using h⟩]) f0 f2 f3 f4 f10 rfl s
        · exact fin (2 * r + 1) _ _ (by rw [if_neg (by simpa [dlt] using fun _ => h)]) f0 f2 f3 f4 f10 rfl s
      · rw [decide_eq_false hlt]
        iterate 16 refine gs_ft ?_
        rw [pickW_f, condW_f]
        exact fin (2 * r + 1) _ _ (by rw [if_neg (fun h => hlt h.1)]) f0 f2 f3 f4 f10 rfl s
end Go.Proofs.Ytedebapgmfnflaa
