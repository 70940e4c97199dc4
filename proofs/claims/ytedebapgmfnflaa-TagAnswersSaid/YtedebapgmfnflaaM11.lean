/- The partition of digests: the walk. -/
import Derived.Test.YtedebapgmfnflaaM9
namespace Go.Proofs.Ytedebapgmfnflaa
open Go
set_option maxRecDepth 100000

theorem scanUp_ge (p : Bytes → Bool) (d : Array Bytes) (j i : Nat) : i ≤ Sort.scanUp p d j i ∧ (Sort.scanUp p d j i ≤ j + 1 ∨ Sort.scanUp p d j i = i) := by
  rw [Sort.scanUp]
  split
  · rename_i h
    have hij : i ≤ j := by simp only [Bool.and_eq_true, decide_eq_true_eq] at h; exact h.1
    have ih := scanUp_ge p d j (i + 1)
    omega
  · omega
termination_by j + 1 - i
theorem scanDown_le (p : Bytes → Bool) (d : Array Bytes) (i : Nat) : ∀ j, Sort.scanDown p d i j ≤ j ∧ (i - 1 ≤ Sort.scanDown p d i j ∨ Sort.scanDown p d i j = j)
  | 0 => by simp [Sort.scanDown]
  | j + 1 => by
    rw [Sort.scanDown]
    split
    · rename_i h
      have hij : i ≤ j + 1 := by simp only [Bool.and_eq_true, decide_eq_true_eq] at h; exact h.1
      have ih := scanDown_le p d i j
      omega
    · omega

set_option maxHeartbeats 4000000 in
theorem partition_c {S : List Nat} {w0 w : World} {L R : List Res} {K : VPost} {v : Value} {ds : Array Bytes} {a b pv : Nat} (s : Sep S w0 w (rDs v ds :: L) R) (hd : all32 ds) (hab : a < b) (hb : b ≤ ds.size) (hp1 : a ≤ pv) (hp2 : pv < b) (hsz : ds.size ≤ 2 ^ 29)
    (hK : ∀ w' r, r = Sort.partition dlt ds a b pv → r.2.2.size = ds.size → all32 r.2.2 → Sep S w0 w' (rDs v r.2.2 :: L) R → K (.tuple #[.int .i64 r.1, .bool r.2.1]) w') :
    Calls Try.prog 121 #[v, .int .i64 a, .int .i64 b, .int .i64 pv, cmpV] w (retK K) := by
  refine c121_calls _ _ _ _ _ w K ?_
  unfold c121
  refine s.drew.dswap hd (p := a) (q := pv) (by omega) (by omega) fun t1 t2 t3 t4 t5 t6 w1 s => ?_
  have hd := swp_all hd (p := a) (q := pv) (by omega) (by omega)
  have hs1 := swp_size ds a pv
  have hR : Sort.partition dlt ds a b pv = if Sort.scanUp (fun x => dlt x (Sort.swp ds a pv)[a]!) (Sort.swp ds a pv) (b - 1) (a + 1) > Sort.scanDown (fun x => !dlt x (Sort.swp ds a pv)[a]!) (Sort.swp ds a pv) (Sort.scanUp (fun x => dlt x (Sort.swp ds a pv)[a]!) (Sort.swp ds a pv) (b - 1) (a + 1)) (b - 1)
      then (Sort.scanDown (fun x => !dlt x (Sort.swp ds a pv)[a]!) (Sort.swp ds a pv) (Sort.scanUp (fun x => dlt x (Sort.swp ds a pv)[a]!) (Sort.swp ds a pv) (b - 1) (a + 1)) (b - 1), true, Sort.swp (Sort.swp ds a pv) (Sort.scanDown (fun x => !dlt x (Sort.swp ds a pv)[a]!) (Sort.swp ds a pv) (Sort.scanUp (fun x => dlt x (Sort.swp ds a pv)[a]!) (Sort.swp ds a pv) (b - 1) (a + 1)) (b - 1)) a)
      else ((Sort.partLoop dlt a (Sort.scanUp (fun x => dlt x (Sort.swp ds a pv)[a]!) (Sort.swp ds a pv) (b - 1) (a + 1) + 1) (Sort.scanDown (fun x => !dlt x (Sort.swp ds a pv)[a]!) (Sort.swp ds a pv) (Sort.scanUp (fun x => dlt x (Sort.swp ds a pv)[a]!) (Sort.swp ds a pv) (b - 1) (a + 1)) (b - 1) - 1) (Sort.swp (Sort.swp ds a pv) (Sort.scanUp (fun x => dlt x (Sort.swp ds a pv)[a]!) (Sort.swp ds a pv) (b - 1) (a + 1)) (Sort.scanDown (fun x => !dlt x (Sort.swp ds a pv)[a]!) (Sort.swp ds a pv) (Sort.scanUp (fun x => dlt x (Sort.swp ds a pv)[a]!) (Sort.swp ds a pv) (b - 1) (a + 1)) (b - 1)))).1, false,
        Sort.swp (Sort.partLoop dlt a (Sort.scanUp (fun x => dlt x (Sort.swp ds a pv)[a]!) (Sort.swp ds a pv) (b - 1) (a + 1) + 1) (Sort.scanDown (fun x => !dlt x (Sort.swp ds a pv)[a]!) (Sort.swp ds a pv) (Sort.scanUp (fun x => dlt x (Sort.swp ds a pv)[a]!) (Sort.swp ds a pv) (b - 1) (a + 1)) (b - 1) - 1) (Sort.swp (Sort.swp ds a pv) (Sort.scanUp (fun x => dlt x (Sort.swp ds a pv)[a]!) (Sort.swp ds a pv) (b - 1) (a + 1)) (Sort.scanDown (fun x => !dlt x (Sort.swp ds a pv)[a]!) (Sort.swp ds a pv) (Sort.scanUp (fun x => dlt x (Sort.swp ds a pv)[a]!) (Sort.swp ds a pv) (b - 1) (a + 1)) (b - 1)))).2
          (Sort.partLoop dlt a (Sort.scanUp (fun x => dlt x (Sort.swp ds a pv)[a]!) (Sort.swp ds a pv) (b - 1) (a + 1) + 1) (Sort.scanDown (fun x => !dlt x (Sort.swp ds a pv)[a]!) (Sort.swp ds a pv) (Sort.scanUp (fun x => dlt x (Sort.swp ds a pv)[a]!) (Sort.swp ds a pv) (b - 1) (a + 1)) (b - 1) - 1) (Sort.swp (Sort.swp ds a pv) (Sort.scanUp (fun x => dlt x (Sort.swp ds a pv)[a]!) (Sort.swp ds a pv) (b - 1) (a + 1)) (Sort.scanDown (fun x => !dlt x (Sort.swp ds a pv)[a]!) (Sort.swp ds a pv) (Sort.scanUp (fun x => dlt x (Sort.swp ds a pv)[a]!) (Sort.swp ds a pv) (b - 1) (a + 1)) (b - 1)))).1 a) := rfl
  generalize Sort.swp ds a pv = d0 at *
  have hal : a < d0.size := by omega
  refine nadd (y := 1) (by omega) ?_
  refine nsub (y := 1) (by omega) (by omega) ?_
  refine bindX_i fun J18 h18 => bindX_i fun J19 h19 => ?_
  have fin1 : ∀ (fr : Fr) (w' : World), fr 0 = v → fr 1 = .int .i64 a → fr 4 = cmpV → fr 12 = .int .i64 (Sort.scanUp (fun x => dlt x d0[a]!) d0 (b - 1) (a + 1)) → fr 13 = .int .i64 (b - 1 : Nat) → Sep S w0 w' (rDs v d0 :: L) R → J19 .normal fr w' := by
    intro fr w' f0 f1 f4 f12 f13 s
    refine seq_n h19 ?_
    obtain ⟨u1, u2⟩ := scanUp_ge (fun x => dlt x d0[a]!) d0 (b - 1) (a + 1)
    generalize Sort.scanUp (fun x => dlt x d0[a]!) d0 (b - 1) (a + 1) = i1 at *
    refine bindX_i fun J22 h22 => ?_
    have fin2 : ∀ (fr : Fr) (w' : World), fr 0 = v → fr 1 = .int .i64 a → fr 4 = cmpV → fr 12 = .int .i64 i1 → fr 13 = .int .i64 (Sort.scanDown (fun x => !dlt x d0[a]!) d0 i1 (b - 1)) → Sep S w0 w' (rDs v d0 :: L) R → J22 .normal fr w' := by
      intro fr w' f0 f1 f4 f12 f13 s
      refine seq_n h22 ?_
      obtain ⟨v1, v2⟩ := scanDown_le (fun x => !dlt x d0[a]!) d0 i1 (b - 1)
      generalize Sort.scanDown (fun x => !dlt x d0[a]!) d0 i1 (b - 1) = j1 at *
      rw [f0, f1, f12, f13]
      refine ngtr (cond_d (fun hgt => ?_) (fun hgt => ?_))
      · rw [if_pos hgt] at hR
        refine s.drew.dswap hd (p := j1) (q := a) (by omega) hal fun t1 t2 t3 t4 t5 t6 w3 s => ?_
        exact hK _ _ hR.symm (by rw [swp_size]; omega) (swp_all hd (by omega) hal) s
      · rw [if_neg hgt] at hR
        refine s.drew.dswap hd (p := i1) (q := j1) (by omega) (by omega) fun t1 t2 t3 t4 t5 t6 w3 s => ?_
        have hd := swp_all hd (p := i1) (q := j1) (by omega) (by omega)
        have hs2 := swp_size d0 i1 j1
        generalize Sort.swp d0 i1 j1 = d1 at *
        refine nadd (y := 1) (by omega) ?_
        refine nsub (y := 1) (by omega) (by omega) ?_
        refine bindX_i fun J59 h59 => ?_
        have fin3 : ∀ (fr : Fr) (w' : World) (d : Array Bytes) (j : Nat), Sort.partLoop dlt a (i1 + 1) (j1 - 1) d1 = (j, d) → fr 0 = v → fr 1 = .int .i64 a → fr 13 = .int .i64 j → all32 d → d.size = d0.size → j < d.size → Sep S w0 w' (rDs v d :: L) R → J59 .normal fr w' := by
          intro fr w' d j hst f0 f1 f13 hd hds hj s
          refine seq_n h59 ?_
          rw [hst] at hR
          simp only at hR
          rw [f0, f1, f13]
          refine s.drew.dswap hd (p := j) (q := a) hj (by omega) fun t1 t2 t3 t4 t5 t6 w3 s => ?_
          exact hK _ _ hR.symm (by rw [swp_size]; omega) (swp_all hd hj (by omega)) s
        refine bindX_i fun J76 h76 => ?_
        refine loop_i (fun m fr wr => ∃ (i j : Nat) (d : Array Bytes), m = j + 1 - i ∧ a < i ∧ j < d.size ∧ d.size = d0.size ∧ all32 d ∧ Sort.partLoop dlt a i j d = Sort.partLoop dlt a (i1 + 1) (j1 - 1) d1 ∧ fr 0 = v ∧ fr 1 = .int .i64 a ∧ fr 4 = cmpV ∧ fr 12 = .int .i64 i ∧ fr 13 = .int .i64 j ∧ Sep S w0 wr (rDs v d :: L) R) (j1 - 1 + 1 - (i1 + 1)) ?_ ?_
        · exact ⟨i1 + 1, j1 - 1, d1, rfl, by omega, by omega, by omega, hd, rfl, f0, f1, f4, rfl, rfl, s⟩
        · rintro m fr wr JK ⟨i, j, d, rfl, hai, hjd, hds, hd, hst, f0, f1, f4, f12, f13, s⟩ hJK hXK
          have hal : a < d.size := by omega
          refine bindX_i fun J80 h80 => bindX_i fun J81 h81 => ?_
          have fin4 : ∀ (fr : Fr) (w' : World), fr 0 = v → fr 1 = .int .i64 a → fr 4 = cmpV → fr 12 = .int .i64 (Sort.scanUp (fun x => dlt x d[a]!) d j i) → fr 13 = .int .i64 j → Sep S w0 w' (rDs v d :: L) R → J81 .normal fr w' := by
            intro fr w' f0 f1 f4 f12 f13 s
            refine seq_n h81 ?_
            rw [Sort.partLoop] at hst
            obtain ⟨u1, u2⟩ := scanUp_ge (fun x => dlt x d[a]!) d j i
            generalize Sort.scanUp (fun x => dlt x d[a]!) d j i = i2 at *
            refine bindX_i fun J84 h84 => ?_
            have fin5 : ∀ (fr : Fr) (w' : World), fr 0 = v → fr 1 = .int .i64 a → fr 4 = cmpV → fr 12 = .int .i64 i2 → fr 13 = .int .i64 (Sort.scanDown (fun x => !dlt x d[a]!) d i2 j) → Sep S w0 w' (rDs v d :: L) R → J84 .normal fr w' := by
              intro fr w' f0 f1 f4 f12 f13 s
              refine seq_n h84 ?_
              obtain ⟨v1, v2⟩ := scanDown_le (fun x => !dlt x d[a]!) d i2 j
              generalize Sort.scanDown (fun x => !dlt x d[a]!) d i2 j = j2 at *
              rw [f0, f12, f13]
              refine ngtr (cond_d (fun hgt => ?_) (fun hgt => ?_))
              · rw [if_pos hgt] at hst
                exact hXK _ _ _ (by simp) (h76 _ _ _ (blk_x (fin3 _ _ d j2 hst.symm f0 f1 f13 hd hds (by omega) s)))
              · rw [if_neg hgt, dif_pos (by omega)] at hst
                refine s.drew.dswap hd (p := i2) (q := j2) (by omega) (by omega) fun t1 t2 t3 t4 t5 t6 w3 s => ?_
                have hd := swp_all hd (p := i2) (q := j2) (by omega) (by omega)
                have hs3 := swp_size d i2 j2
                refine nadd (y := 1) (by omega) ?_
                refine nsub (y := 1) (by omega) (by omega) ?_
                exact hJK (j2 - 1 + 1 - (i2 + 1)) _ _ (by omega) ⟨i2 + 1, j2 - 1, _, rfl, by omega, by omega, by omega, hd, hst, f0, f1, f4, rfl, rfl, s⟩
            refine bindX_i fun JB hB => ?_
            refine loop_i (fun m fr wr => ∃ (p : Nat), p = m ∧ p ≤ j ∧ Sort.scanDown (fun x => !dlt x d[a]!) d i2 p = Sort.scanDown (fun x => !dlt x d[a]!) d i2 j ∧ fr 0 = v ∧ fr 1 = .int .i64 a ∧ fr 4 = cmpV ∧ fr 12 = .int .i64 i2 ∧ fr 13 = .int .i64 p ∧ Sep S w0 wr (rDs v d :: L) R) (j) ?_ ?_
            · exact ⟨j, rfl, Nat.le_refl _, rfl, f0, f1, f4, f12, f13, s⟩
            · rintro m fr wr JJ ⟨p, rfl, hp1, hst, f0, f1, f4, f12, f13, s⟩ hJ hX
              rw [f0, f1, f4, f12, f13]
              have s := s.drew
              refine nleq ?_
              by_cases hle : i2 ≤ p
              · rw [decide_eq_true hle]
                have hpl : p < d.size := by omega
                obtain ⟨q, rfl⟩ : ∃ q, p = q + 1 := ⟨p - 1, by omega⟩
                repeat with_reducible refine gs_t ?_
                obtain ⟨b1, o1, hix1, hld1⟩ := s.dget hd (p := (q + 1)) hpl
                refine hix1 _ ?_
                repeat with_reducible refine gs_t ?_
                refine hld1 _ ?_
                repeat with_reducible refine gs_t ?_
                obtain ⟨b2, o2, hix2, hld2⟩ := s.dget hd (p := a) hal
                refine hix2 _ ?_
                repeat with_reducible refine gs_t ?_
                refine hld2 _ ?_
                repeat with_reducible refine gs_t ?_
                refine s.dcmp (get32 hd hpl) (get32 hd hal) fun w2 s => ?_
                repeat with_reducible refine gs_t ?_
                rw [ilss]
                repeat with_reducible refine gs_t ?_
                rw [notN]
                rw [pickW_t]
                have e : dlt d[(q + 1)]! d[a]! = decide (Lib.compareBytes d[(q + 1)]! d[a]! < 0) := rfl
                rw [← e]
                cases hl : dlt d[(q + 1)]! d[a]! with
                | false =>
                  rw [Bool.not_false, condW_t]
                  refine nsub (y := 1) (by omega) (by omega) ?_
                  rw [Sort.scanDown, if_pos (by simp [hle, hl])] at hst
                  exact hJ q _ _ (by omega) ⟨q, rfl, by omega, hst, f0, f1, f4, f12, rfl, s⟩
                | true =>
                  rw [Bool.not_true, condW_f]
                  rw [Sort.scanDown, if_neg (by simp [hl])] at hst
                  exact hX _ _ _ (by simp) (hB _ _ _ (blk_x (fin5 _ _ f0 f1 f4 f12 (by rw [← hst]; exact f13) s)))
              · rw [decide_eq_false hle]
                repeat with_reducible refine gs_ft ?_
                rw [pickW_f, condW_f]
                have hst : p = Sort.scanDown (fun x => !dlt x d[a]!) d i2 j := by
                  rw [← hst]
                  cases p with
                  | zero => rfl
                  | succ q => rw [Sort.scanDown, if_neg (by simp [hle])]
                exact hX _ _ _ (by simp) (hB _ _ _ (blk_x (fin5 _ _ f0 f1 f4 f12 (by rw [← hst]; exact f13) s)))
          refine bindX_i fun JB hB => ?_
          refine loop_i (fun m fr wr => ∃ (p : Nat), m = j + 1 - p ∧ i ≤ p ∧ (p ≤ j + 1 ∨ p = i) ∧ Sort.scanUp (fun x => dlt x d[a]!) d j p = Sort.scanUp (fun x => dlt x d[a]!) d j i ∧ fr 0 = v ∧ fr 1 = .int .i64 a ∧ fr 4 = cmpV ∧ fr 12 = .int .i64 p ∧ fr 13 = .int .i64 j ∧ Sep S w0 wr (rDs v d :: L) R) (j + 1 - i) ?_ ?_
          · exact ⟨i, rfl, Nat.le_refl _, .inr rfl, rfl, f0, f1, f4, f12, f13, s⟩
          · rintro m fr wr JJ ⟨p, rfl, hp1, hp2, hst, f0, f1, f4, f12, f13, s⟩ hJ hX
            rw [f0, f1, f4, f12, f13]
            have s := s.drew
            refine nleq ?_
            by_cases hle : p ≤ j
            · rw [decide_eq_true hle]
              have hpl : p < d.size := by omega
              repeat with_reducible refine gs_t ?_
              obtain ⟨b1, o1, hix1, hld1⟩ := s.dget hd (p := p) hpl
              refine hix1 _ ?_
              repeat with_reducible refine gs_t ?_
              refine hld1 _ ?_
              repeat with_reducible refine gs_t ?_
              obtain ⟨b2, o2, hix2, hld2⟩ := s.dget hd (p := a) hal
              refine hix2 _ ?_
              repeat with_reducible refine gs_t ?_
              refine hld2 _ ?_
              repeat with_reducible refine gs_t ?_
              refine s.dcmp (get32 hd hpl) (get32 hd hal) fun w2 s => ?_
              repeat with_reducible refine gs_t ?_
              rw [ilss]
              rw [pickW_t]
              have e : dlt d[p]! d[a]! = decide (Lib.compareBytes d[p]! d[a]! < 0) := rfl
              rw [← e]
              cases hl : dlt d[p]! d[a]! with
              | false =>
                rw [condW_f]
                rw [Sort.scanUp, if_neg (by simp [hl])] at hst
                exact hX _ _ _ (by simp) (hB _ _ _ (blk_x (fin4 _ _ f0 f1 f4 (by rw [← hst]; exact f12) f13 s)))
              | true =>
                rw [condW_t]
                refine nadd (y := 1) (by omega) ?_
                rw [Sort.scanUp, if_pos (by simp [hle, hl])] at hst
                exact hJ (j + 1 - (p + 1)) _ _ (by omega) ⟨p + 1, rfl, by omega, .inl (by omega), hst, f0, f1, f4, rfl, f13, s⟩
            · rw [decide_eq_false hle]
              repeat with_reducible refine gs_ft ?_
              rw [pickW_f, condW_f]
              rw [Sort.scanUp, if_neg (by simp [hle])] at hst
              exact hX _ _ _ (by simp) (hB _ _ _ (blk_x (fin4 _ _ f0 f1 f4 (by rw [← hst]; exact f12) f13 s)))
    refine bindX_i fun JB hB => ?_
    refine loop_i (fun m fr wr => ∃ (p : Nat), p = m ∧ p ≤ (b - 1) ∧ Sort.scanDown (fun x => !dlt x d0[a]!) d0 i1 p = Sort.scanDown (fun x => !dlt x d0[a]!) d0 i1 (b - 1) ∧ fr 0 = v ∧ fr 1 = .int .i64 a ∧ fr 4 = cmpV ∧ fr 12 = .int .i64 i1 ∧ fr 13 = .int .i64 p ∧ Sep S w0 wr (rDs v d0 :: L) R) ((b - 1)) ?_ ?_
    · exact ⟨(b - 1), rfl, Nat.le_refl _, rfl, f0, f1, f4, f12, f13, s⟩
    · rintro m fr wr JJ ⟨p, rfl, hp1, hst, f0, f1, f4, f12, f13, s⟩ hJ hX
      rw [f0, f1, f4, f12, f13]
      have s := s.drew
      refine nleq ?_
      by_cases hle : i1 ≤ p
      · rw [decide_eq_true hle]
        have hpl : p < d0.size := by omega
        obtain ⟨q, rfl⟩ : ∃ q, p = q + 1 := ⟨p - 1, by omega⟩
        repeat with_reducible refine gs_t ?_
        obtain ⟨b1, o1, hix1, hld1⟩ := s.dget hd (p := (q + 1)) hpl
        refine hix1 _ ?_
        repeat with_reducible refine gs_t ?_
        refine hld1 _ ?_
        repeat with_reducible refine gs_t ?_
        obtain ⟨b2, o2, hix2, hld2⟩ := s.dget hd (p := a) hal
        refine hix2 _ ?_
        repeat with_reducible refine gs_t ?_
        refine hld2 _ ?_
        repeat with_reducible refine gs_t ?_
        refine s.dcmp (get32 hd hpl) (get32 hd hal) fun w2 s => ?_
        repeat with_reducible refine gs_t ?_
        rw [ilss]
        repeat with_reducible refine gs_t ?_
        rw [notN]
        rw [pickW_t]
        have e : dlt d0[(q + 1)]! d0[a]! = decide (Lib.compareBytes d0[(q + 1)]! d0[a]! < 0) := rfl
        rw [← e]
        cases hl : dlt d0[(q + 1)]! d0[a]! with
        | false =>
          rw [Bool.not_false, condW_t]
          refine nsub (y := 1) (by omega) (by omega) ?_
          rw [Sort.scanDown, if_pos (by simp [hle, hl])] at hst
          exact hJ q _ _ (by omega) ⟨q, rfl, by omega, hst, f0, f1, f4, f12, rfl, s⟩
        | true =>
          rw [Bool.not_true, condW_f]
          rw [Sort.scanDown, if_neg (by simp [hl])] at hst
          exact hX _ _ _ (by simp) (hB _ _ _ (blk_x (fin2 _ _ f0 f1 f4 f12 (by rw [← hst]; exact f13) s)))
      · rw [decide_eq_false hle]
        repeat with_reducible refine gs_ft ?_
        rw [pickW_f, condW_f]
        have hst : p = Sort.scanDown (fun x => !dlt x d0[a]!) d0 i1 (b - 1) := by
          rw [← hst]
          cases p with
          | zero => rfl
          | succ q => rw [Sort.scanDown, if_neg (by simp [hle])]
        exact hX _ _ _ (by simp) (hB _ _ _ (blk_x (fin2 _ _ f0 f1 f4 f12 (by rw [← hst]; exact f13) s)))
  have f0 : (argF [v, .int .i64 a, .int .i64 b, .int .i64 pv, cmpV]) 0 = v := rfl
  refine bindX_i fun JB hB => ?_
  refine loop_i (fun m fr wr => ∃ (p : Nat), m = (b - 1) + 1 - p ∧ (a + 1) ≤ p ∧ (p ≤ (b - 1) + 1 ∨ p = (a + 1)) ∧ Sort.scanUp (fun x => dlt x d0[a]!) d0 (b - 1) p = Sort.scanUp (fun x => dlt x d0[a]!) d0 (b - 1) (a + 1) ∧ fr 0 = v ∧ fr 1 = .int .i64 a ∧ fr 4 = cmpV ∧ fr 12 = .int .i64 p ∧ fr 13 = .int .i64 (b - 1 : Nat) ∧ Sep S w0 wr (rDs v d0 :: L) R) ((b - 1) + 1 - (a + 1)) ?_ ?_
  · exact ⟨a + 1, rfl, Nat.le_refl _, .inr rfl, rfl, rfl, rfl, rfl, rfl, rfl, s⟩
  · rintro m fr wr JJ ⟨p, rfl, hp1, hp2, hst, f0, f1, f4, f12, f13, s⟩ hJ hX
    rw [f0, f1, f4, f12, f13]
    have s := s.drew
    refine nleq ?_
    by_cases hle : p ≤ (b - 1)
    · rw [decide_eq_true hle]
      have hpl : p < d0.size := by omega
      repeat with_reducible refine gs_t ?_
      obtain ⟨b1, o1, hix1, hld1⟩ := s.dget hd (p := p) hpl
      refine hix1 _ ?_
      repeat with_reducible refine gs_t ?_
      refine hld1 _ ?_
      repeat with_reducible refine gs_t ?_
      obtain ⟨b2, o2, hix2, hld2⟩ := s.dget hd (p := a) hal
      refine hix2 _ ?_
      repeat with_reducible refine gs_t ?_
      refine hld2 _ ?_
      repeat with_reducible refine gs_t ?_
      refine s.dcmp (get32 hd hpl) (get32 hd hal) fun w2 s => ?_
      repeat with_reducible refine gs_t ?_
      rw [ilss]
      rw [pickW_t]
      have e : dlt d0[p]! d0[a]! = decide (Lib.compareBytes d0[p]! d0[a]! < 0) := rfl
      rw [← e]
      cases hl : dlt d0[p]! d0[a]! with
      | false =>
        rw [condW_f]
        rw [Sort.scanUp, if_neg (by simp [hl])] at hst
        exact hX _ _ _ (by simp) (hB _ _ _ (blk_x (fin1 _ _ f0 f1 f4 (by rw [← hst]; exact f12) f13 s)))
      | true =>
        rw [condW_t]
        refine nadd (y := 1) (by omega) ?_
        rw [Sort.scanUp, if_pos (by simp [hle, hl])] at hst
        exact hJ ((b - 1) + 1 - (p + 1)) _ _ (by omega) ⟨p + 1, rfl, by omega, .inl (by omega), hst, f0, f1, f4, rfl, f13, s⟩
    · rw [decide_eq_false hle]
      repeat with_reducible refine gs_ft ?_
      rw [pickW_f, condW_f]
      rw [Sort.scanUp, if_neg (by simp [hle])] at hst
      exact hX _ _ _ (by simp) (hB _ _ _ (blk_x (fin1 _ _ f0 f1 f4 (by rw [← hst]; exact f12) f13 s)))
end Go.Proofs.Ytedebapgmfnflaa
