/- The partition of digests that equal the pivot: the walk. -/
import Derived.Test.YtedebapgmfnflaaM11
namespace Go.Proofs.Ytedebapgmfnflaa
open Go
set_option maxRecDepth 100000

set_option maxHeartbeats 4000000 in
theorem partitionEqual_c {S : List Nat} {w0 w : World} {L R : List Res} {K : VPost} {v : Value} {ds : Array Bytes} {a b pv : Nat} (s : Sep S w0 w (rDs v ds :: L) R) (hd : all32 ds) (hab : a < b) (hb : b ≤ ds.size) (hp1 : a ≤ pv) (hp2 : pv < b) (hsz : ds.size ≤ 2 ^ 29)
    (hK : ∀ w' r, r = Sort.partitionEqual dlt ds a b pv → r.2.size = ds.size → all32 r.2 → Sep S w0 w' (rDs v r.2 :: L) R → K (.int .i64 r.1) w') :
    Calls Try.prog 120 #[v, .int .i64 a, .int .i64 b, .int .i64 pv, cmpV] w (retK K) := by
  refine c120_calls _ _ _ _ _ w K ?_
  unfold c120
  refine s.drew.dswap hd (p := a) (q := pv) (by omega) (by omega) fun t1 t2 t3 t4 t5 t6 w1 s => ?_
  have hd := swp_all hd (p := a) (q := pv) (by omega) (by omega)
  have hs1 := swp_size ds a pv
  have hR : Sort.partitionEqual dlt ds a b pv = Sort.partEqLoop dlt a (a + 1) (b - 1) (Sort.swp ds a pv) := rfl
  generalize Sort.swp ds a pv = d0 at *
  refine nadd (y := 1) (by omega) ?_
  refine nsub (y := 1) (by omega) (by omega) ?_
  refine bindX_i fun J18 h18 => bindX_i fun J19 h19 => bindX_i fun J22 h22 => ?_
  refine loop_i (fun m fr wr => ∃ (i j : Nat) (d : Array Bytes), m = j + 1 - i ∧ a < i ∧ j < d.size ∧ d.size = d0.size ∧ all32 d ∧ Sort.partEqLoop dlt a i j d = Sort.partEqLoop dlt a (a + 1) (b - 1) d0 ∧ fr 0 = v ∧ fr 1 = .int .i64 a ∧ fr 4 = cmpV ∧ fr 11 = .int .i64 i ∧ fr 12 = .int .i64 j ∧ Sep S w0 wr (rDs v d :: L) R) (b - 1 + 1 - (a + 1)) ?_ ?_
  · exact ⟨a + 1, b - 1, d0, rfl, by omega, by omega, rfl, hd, rfl, rfl, rfl, rfl, rfl, rfl, s⟩
  · rintro m fr wr JK ⟨i, j, d, rfl, hai, hjd, hds, hd, hst, f0, f1, f4, f11, f12, s⟩ hJK hXK
    have hal : a < d.size := by omega
    refine bindX_i fun J80 h80 => bindX_i fun J81 h81 => ?_
    have fin4 : ∀ (fr : Fr) (w' : World), fr 0 = v → fr 1 = .int .i64 a → fr 4 = cmpV → fr 11 = .int .i64 (Sort.scanUp (fun x => !dlt d[a]! x) d j i) → fr 12 = .int .i64 j → Sep S w0 w' (rDs v d :: L) R → J81 .normal fr w' := by
      intro fr w' f0 f1 f4 f11 f12 s
      refine seq_n h81 ?_
      rw [Sort.partEqLoop] at hst
      obtain ⟨u1, u2⟩ := scanUp_ge (fun x => !dlt d[a]! x) d j i
      generalize Sort.scanUp (fun x => !dlt d[a]! x) d j i = i2 at *
      refine bindX_i fun J84 h84 => ?_
      have fin5 : ∀ (fr : Fr) (w' : World), fr 0 = v → fr 1 = .int .i64 a → fr 4 = cmpV → fr 11 = .int .i64 i2 → fr 12 = .int .i64 (Sort.scanDown (fun x => dlt d[a]! x) d i2 j) → Sep S w0 w' (rDs v d :: L) R → J84 .normal fr w' := by
        intro fr w' f0 f1 f4 f11 f12 s
        refine seq_n h84 ?_
        obtain ⟨v1, v2⟩ := scanDown_le (fun x => dlt d[a]! x) d i2 j
        generalize Sort.scanDown (fun x => dlt d[a]! x) d i2 j = j2 at *
        rw [f0, f11, f12]
        refine ngtr (cond_d (fun hgt => ?_) (fun hgt => ?_))
        · rw [if_pos hgt] at hst
          refine hXK _ _ _ (by simp) (h22 _ _ _ (blk_x (seq_n h19 ?_)))
          show K (fr 11) w'
          rw [f11]
          have h := hK w' (i2, d) (by rw [hR, ← hst])
          exact h (by show d.size = ds.size; omega) hd s
        · rw [if_neg hgt, dif_pos (by omega)] at hst
          refine s.drew.dswap hd (p := i2) (q := j2) (by omega) (by omega) fun t1 t2 t3 t4 t5 t6 w3 s => ?_
          have hd := swp_all hd (p := i2) (q := j2) (by omega) (by omega)
          have hs3 := swp_size d i2 j2
          refine nadd (y := 1) (by omega) ?_
          refine nsub (y := 1) (by omega) (by omega) ?_
          exact hJK (j2 - 1 + 1 - (i2 + 1)) _ _ (by omega) ⟨i2 + 1, j2 - 1, _, rfl, by omega, by omega, by omega, hd, hst, f0, f1, f4, rfl, rfl, s⟩
      refine bindX_i fun JB hB => ?_
      refine loop_i (fun m fr wr => ∃ (p : Nat), p = m ∧ p ≤ j ∧ Sort.scanDown (fun x => dlt d[a]! x) d i2 p = Sort.scanDown (fun x => dlt d[a]! x) d i2 j ∧ fr 0 = v ∧ fr 1 = .int .i64 a ∧ fr 4 = cmpV ∧ fr 11 = .int .i64 i2 ∧ fr 12 = .int .i64 p ∧ Sep S w0 wr (rDs v d :: L) R) (j) ?_ ?_
      · exact ⟨j, rfl, Nat.le_refl _, rfl, f0, f1, f4, f11, f12, s⟩
      · rintro m fr wr JJ ⟨p, rfl, hp1, hst, f0, f1, f4, f11, f12, s⟩ hJ hX
        rw [f0, f1, f4, f11, f12]
        have s := s.drew
        refine nleq ?_
        by_cases hle : i2 ≤ p
        · rw [decide_eq_true hle]
          have hpl : p < d.size := by omega
          obtain ⟨q, rfl⟩ : ∃ q, p = q + 1 := ⟨p - 1, by omega⟩
          repeat with_reducible refine gs_t ?_
          obtain ⟨b1, o1, hix1, hld1⟩ := s.dget hd (p := a) hal
          refine hix1 _ ?_
          repeat with_reducible refine gs_t ?_
          refine hld1 _ ?_
          repeat with_reducible refine gs_t ?_
          obtain ⟨b2, o2, hix2, hld2⟩ := s.dget hd (p := (q + 1)) hpl
          refine hix2 _ ?_
          repeat with_reducible refine gs_t ?_
          refine hld2 _ ?_
          repeat with_reducible refine gs_t ?_
          refine s.dcmp (get32 hd hal) (get32 hd hpl) fun w2 s => ?_
          repeat with_reducible refine gs_t ?_
          rw [ilss]
          rw [pickW_t]
          have e : dlt d[a]! d[(q + 1)]! = decide (Lib.compareBytes d[a]! d[(q + 1)]! < 0) := rfl
          rw [← e]
          cases hl : dlt d[a]! d[(q + 1)]! with
          | false =>
            rw [condW_f]
            rw [Sort.scanDown, if_neg (by simp [hl])] at hst
            exact hX _ _ _ (by simp) (hB _ _ _ (blk_x (fin5 _ _ f0 f1 f4 f11 (by rw [← hst]; exact f12) s)))
          | true =>
            rw [condW_t]
            refine nsub (y := 1) (by omega) (by omega) ?_
            rw [Sort.scanDown, if_pos (by simp [hle, hl])] at hst
            exact hJ q _ _ (by omega) ⟨q, rfl, by omega, hst, f0, f1, f4, f11, rfl, s⟩
        · rw [decide_eq_false hle]
          repeat with_reducible refine gs_ft ?_
          rw [pickW_f, condW_f]
          have hst : p = Sort.scanDown (fun x => dlt d[a]! x) d i2 j := by
            rw [← hst]
            cases p with
            | zero => rfl
            | succ q => rw [Sort.scanDown, if_neg (by simp [hle])]
          exact hX _ _ _ (by simp) (hB _ _ _ (blk_x (fin5 _ _ f0 f1 f4 f11 (by rw [← hst]; exact f12) s)))
    refine bindX_i fun JB hB => ?_
    refine loop_i (fun m fr wr => ∃ (p : Nat), m = j + 1 - p ∧ i ≤ p ∧ (p ≤ j + 1 ∨ p = i) ∧ Sort.scanUp (fun x => !dlt d[a]! x) d j p = Sort.scanUp (fun x => !dlt d[a]! x) d j i ∧ fr 0 = v ∧ fr 1 = .int .i64 a ∧ fr 4 = cmpV ∧ fr 11 = .int .i64 p ∧ fr 12 = .int .i64 j ∧ Sep S w0 wr (rDs v d :: L) R) (j + 1 - i) ?_ ?_
    · exact ⟨i, rfl, Nat.le_refl _, .inr rfl, rfl, f0, f1, f4, f11, f12, s⟩
    · rintro m fr wr JJ ⟨p, rfl, hp1, hp2, hst, f0, f1, f4, f11, f12, s⟩ hJ hX
      rw [f0, f1, f4, f11, f12]
      have s := s.drew
      refine nleq ?_
      by_cases hle : p ≤ j
      · rw [decide_eq_true hle]
        have hpl : p < d.size := by omega
        repeat with_reducible refine gs_t ?_
        obtain ⟨b1, o1, hix1, hld1⟩ := s.dget hd (p := a) hal
        refine hix1 _ ?_
        repeat with_reducible refine gs_t ?_
        refine hld1 _ ?_
        repeat with_reducible refine gs_t ?_
        obtain ⟨b2, o2, hix2, hld2⟩ := s.dget hd (p := p) hpl
        refine hix2 _ ?_
        repeat with_reducible refine gs_t ?_
        refine hld2 _ ?_
        repeat with_reducible refine gs_t ?_
        refine s.dcmp (get32 hd hal) (get32 hd hpl) fun w2 s => ?_
        repeat with_reducible refine gs_t ?_
        rw [ilss]
        repeat with_reducible refine gs_t ?_
        rw [notN]
        rw [pickW_t]
        have e : dlt d[a]! d[p]! = decide (Lib.compareBytes d[a]! d[p]! < 0) := rfl
        rw [← e]
        cases hl : dlt d[a]! d[p]! with
        | false =>
          rw [Bool.not_false, condW_t]
          refine nadd (y := 1) (by omega) ?_
          rw [Sort.scanUp, if_pos (by simp [hle, hl])] at hst
          exact hJ (j + 1 - (p + 1)) _ _ (by omega) ⟨p + 1, rfl, by omega, .inl (by omega), hst, f0, f1, f4, rfl, f12, s⟩
        | true =>
          rw [Bool.not_true, condW_f]
          rw [Sort.scanUp, if_neg (by simp [hl])] at hst
          exact hX _ _ _ (by simp) (hB _ _ _ (blk_x (fin4 _ _ f0 f1 f4 (by rw [← hst]; exact f11) f12 s)))
      · rw [decide_eq_false hle]
        repeat with_reducible refine gs_ft ?_
        rw [pickW_f, condW_f]
        rw [Sort.scanUp, if_neg (by simp [hle])] at hst
        exact hX _ _ _ (by simp) (hB _ _ _ (blk_x (fin4 _ _ f0 f1 f4 (by rw [← hst]; exact f11) f12 s)))
end Go.Proofs.Ytedebapgmfnflaa
