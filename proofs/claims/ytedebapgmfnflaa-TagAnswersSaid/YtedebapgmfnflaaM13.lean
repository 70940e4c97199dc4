/- The partial insertion sort of fewer than 50 digests: the walk. -/
import Derived.Test.YtedebapgmfnflaaM12
import Derived.Test.YtedebapgmfnflaaM10
namespace Go.Proofs.Ytedebapgmfnflaa
open Go
set_option maxRecDepth 100000

set_option maxHeartbeats 2000000 in
theorem partialIns_c {S : List Nat} {w0 w : World} {L R : List Res} {K : VPost} {v : Value} {d : Array Bytes} {a b : Nat} (s : Sep S w0 w (rDs v d :: L) R) (hd : all32 d) (hab : a < b) (hb : b ≤ d.size) (h50 : b - a < 50) (hsz : d.size ≤ 2 ^ 29)
    (hr : (Sort.partialInsertionSort dlt d a b).1 = d → ∀ w', Sep S w0 w' (rDs v d :: L) R → K (.bool (Sort.partialInsertionSort dlt d a b).2) w') :
    Calls Try.prog 119 #[v, .int .i64 a, .int .i64 b, cmpV] w (retK K) := by
  refine c119_calls _ _ _ _ w K ?_
  unfold c119
  have hP : Sort.partialInsertionSort dlt d a b = if Sort.scanSorted dlt d b (a + 1) = b then (d, true) else (d, false) := by
    unfold Sort.partialInsertionSort
    rw [Sort.partialIns]
    simp only
    split
    · rfl
    · rfl
  refine nadd (y := 1) (by omega) ?_
  refine bindX_i fun J2 h2 => bindX_i fun J3 h3 => bindX_i fun J6 h6 => ?_
  refine loop_i (fun m fr wr => m = 1 ∧ fr 0 = v ∧ fr 1 = .int .i64 a ∧ fr 2 = .int .i64 b ∧ fr 3 = cmpV ∧ fr 8 = .bool false ∧ fr 9 = .int .i64 (a + 1 : Nat) ∧ fr 10 = .int .i64 (0 : Nat) ∧ Sep S w0 wr (rDs v d :: L) R) 1 ?_ ?_
  · exact ⟨rfl, rfl, rfl, rfl, rfl, rfl, rfl, rfl, s⟩
  · rintro m fr wr JJ ⟨rfl, f0, f1, f2, f3, f8, f9, f10, s⟩ hJ hX
    rw [f10]
    refine nlss (y := 5) ?_
    rw [decide_eq_true (by omega), condW_t]
    refine bindX_i fun J12 h12 => bindX_i fun J17 h17 => bindX_i fun J18 h18 => bindX_i fun JB hB => ?_
    have fin : ∀ (fr : Fr) (w' : World), fr 1 = .int .i64 a → fr 2 = .int .i64 b → fr 9 = .int .i64 (Sort.scanSorted dlt d b (a + 1)) → Sep S w0 w' (rDs v d :: L) R → J18 .normal fr w' := by
      intro fr w' f1 f2 f9 s
      refine seq_n h18 ?_
      rw [f1, f2, f9]
      refine neql (cond_d (fun h => ?_) (fun h => ?_))
      · rw [if_pos h] at hP
        refine hX _ _ _ (by simp) (h6 _ _ _ (h3 _ _ _ (h2 _ _ _ ?_)))
        have := hr (by rw [hP]) w' s
        rw [hP] at this
        exact this
      · rw [if_neg h] at hP
        refine nsub (by omega) (by omega) ?_
        refine nlss (y := 50) ?_
        rw [decide_eq_true h50, condW_t]
        refine hX _ _ _ (by simp) (h6 _ _ _ (h3 _ _ _ (h2 _ _ _ ?_)))
        have := hr (by rw [hP]) w' s
        rw [hP] at this
        exact this
    refine loop_i (fun m fr wr => ∃ (i : Nat), m = b - i ∧ a + 1 ≤ i ∧ i ≤ b ∧ Sort.scanSorted dlt d b i = Sort.scanSorted dlt d b (a + 1) ∧ fr 0 = v ∧ fr 1 = .int .i64 a ∧ fr 2 = .int .i64 b ∧ fr 3 = cmpV ∧ fr 9 = .int .i64 i ∧ Sep S w0 wr (rDs v d :: L) R) (b - (a + 1)) ?_ ?_
    · exact ⟨a + 1, rfl, Nat.le_refl _, by omega, rfl, f0, f1, f2, f3, f9, s⟩
    · rintro m fr wr JK ⟨i, rfl, hi1, hi2, hst, f0, f1, f2, f3, f9, s⟩ hJK hXK
      rw [f0, f2, f3, f9]
      have s := s.drew
      refine nlss ?_
      by_cases hlt : i < b
      · rw [decide_eq_true hlt]
        repeat with_reducible refine gs_t ?_
        obtain ⟨b1, o1, hix1, hld1⟩ := s.dget hd (p := i) (by omega)
        refine hix1 _ ?_
        repeat with_reducible refine gs_t ?_
        refine hld1 _ ?_
        repeat with_reducible refine gs_t ?_
        refine nsub (y := 1) (by omega) (by omega) ?_
        repeat with_reducible refine gs_t ?_
        obtain ⟨b2, o2, hix2, hld2⟩ := s.dget hd (p := i - 1) (by omega)
        refine hix2 _ ?_
        repeat with_reducible refine gs_t ?_
        refine hld2 _ ?_
        repeat with_reducible refine gs_t ?_
        refine s.dcmp (get32 hd (by omega)) (get32 hd (by omega)) fun w2 s => ?_
        repeat with_reducible refine gs_t ?_
        rw [ilss]
        repeat with_reducible refine gs_t ?_
        rw [notN, pickW_t]
        have e : dlt d[i]! d[i - 1]! = decide (Lib.compareBytes d[i]! d[i - 1]! < 0) := rfl
        rw [← e]
        cases hl : dlt d[i]! d[i - 1]! with
        | false =>
          rw [Bool.not_false, condW_t]
          refine nadd (y := 1) (by omega) ?_
          rw [Sort.scanSorted, if_pos (by simp [hlt, hl])] at hst
          exact hJK (b - (i + 1)) _ _ (by omega) ⟨i + 1, rfl, by omega, by omega, hst, f0, f1, f2, f3, rfl, s⟩
        | true =>
          rw [Bool.not_true, condW_f]
          rw [Sort.scanSorted, if_neg (by simp [hl])] at hst
          exact hXK _ _ _ (by simp) (hB _ _ _ (blk_x (fin _ _ f1 f2 (by rw [← hst]; exact f9) s)))
      · rw [decide_eq_false hlt]
        repeat with_reducible refine gs_ft ?_
        rw [pickW_f, condW_f]
        rw [Sort.scanSorted, if_neg (by simp [hlt])] at hst
        exact hXK _ _ _ (by simp) (hB _ _ _ (blk_x (fin _ _ f1 f2 (by rw [← hst]; exact f9) s)))
theorem partialIns_same {d : Array Bytes} {a b : Nat} (h50 : b - a < 50) : (Sort.partialInsertionSort dlt d a b).1 = d := by
  unfold Sort.partialInsertionSort
  rw [Sort.partialIns]
  simp only
  split
  · rfl
  · rfl

theorem partEqLoop_range (a b : Nat) : ∀ (n i j : Nat) (d : Array Bytes), j + 1 - i ≤ n → a < i → i ≤ b → j < b → a < (Sort.partEqLoop dlt a i j d).1 ∧ (Sort.partEqLoop dlt a i j d).1 ≤ b := by
  intro n
  induction n with
  | zero =>
    intro i j d hn hai hib hjb
    obtain ⟨u1, u2⟩ := scanUp_ge (fun x => !dlt d[a]! x) d j i
    rw [Sort.partEqLoop]
    generalize Sort.scanUp (fun x => !dlt d[a]! x) d j i = i2 at *
    obtain ⟨v1, v2⟩ := scanDown_le (fun x => dlt d[a]! x) d i2 j
    generalize Sort.scanDown (fun x => dlt d[a]! x) d i2 j = j2 at *
    rw [if_pos (by omega)]
    show a < i2 ∧ i2 ≤ b
    omega
  | succ n ih =>
    intro i j d hn hai hib hjb
    obtain ⟨u1, u2⟩ := scanUp_ge (fun x => !dlt d[a]! x) d j i
    rw [Sort.partEqLoop]
    generalize Sort.scanUp (fun x => !dlt d[a]! x) d j i = i2 at *
    obtain ⟨v1, v2⟩ := scanDown_le (fun x => dlt d[a]! x) d i2 j
    generalize Sort.scanDown (fun x => dlt d[a]! x) d i2 j = j2 at *
    by_cases hgt : i2 > j2
    · rw [if_pos hgt]
      show a < i2 ∧ i2 ≤ b
      omega
    · rw [if_neg hgt, dif_pos (by omega)]
      exact ih _ _ _ (by omega) (by omega) (by omega) (by omega)
end Go.Proofs.Ytedebapgmfnflaa
