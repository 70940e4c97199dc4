/- The sort of fewer than 50 digests (pdqsort): the walk. -/
import Derived.Test.YtedebapgmfnflaaM13
import Derived.Test.YtedebapgmfnflaaQ2
namespace Go.Proofs.Ytedebapgmfnflaa
open Go
set_option maxRecDepth 100000

def pdqC (d3 : Array Bytes) (a b limit : Nat) (wb wp : Bool) (pivot : Nat) : Array Bytes :=
  if a > 0 && !dlt d3[a - 1]! d3[pivot]! then
    match Sort.partitionEqual dlt d3 a b pivot with
    | (mid, d4) => if _h : a < mid ∧ mid ≤ b then Sort.pdq dlt d4 mid b limit wb wp else d4
  else
    match Sort.partition dlt d3 a b pivot with
    | (mid, al, d4) =>
      if _h : a ≤ mid ∧ mid < b then
        if mid - a < b - mid then Sort.pdq dlt (Sort.pdq dlt d4 a mid limit true true) (mid + 1) b limit (decide (mid - a ≥ (b - a) / 8)) al
        else Sort.pdq dlt (Sort.pdq dlt d4 (mid + 1) b limit true true) a mid limit (decide (b - mid ≥ (b - a) / 8)) al
      else d4
def pdqB (d2 : Array Bytes) (a b limit : Nat) (wb wp : Bool) (pivot : Nat) (hint : Sort.Hint) : Array Bytes :=
  let pi := if wb && wp && hint = .increasing then Sort.partialInsertionSort dlt d2 a b else (d2, false)
  if pi.2 then pi.1 else pdqC pi.1 a b limit wb wp pivot
def pdqA (d1 : Array Bytes) (a b limit : Nat) (wb wp : Bool) : Array Bytes :=
  let c := Sort.choosePivot dlt d1 a b
  pdqB (if c.2 = .decreasing then Sort.reverseRange d1 a b else d1) a b limit wb wp (if c.2 = .decreasing then (b - 1) - (c.1 - a) else c.1) (if c.2 = .decreasing then .increasing else c.2)
theorem pdq_step {d : Array Bytes} {a b limit : Nat} {wb wp : Bool} (h12 : ¬ b - a ≤ 12) (h0 : limit ≠ 0) :
    Sort.pdq dlt d a b limit wb wp = pdqA (if !wb then Sort.breakPatterns d a b else d) a b (if !wb then limit - 1 else limit) wb wp := by
  rw [Sort.pdq, if_neg h12, if_neg h0]
  rfl
theorem insertion_size (d : Array Bytes) (a b : Nat) (hab : a ≤ b) (hb : b ≤ d.size) (hd : all32 d) : (Sort.insertionSort dlt d a b).size = d.size ∧ all32 (Sort.insertionSort dlt d a b) := by
  have hstep : ∀ (j : Nat) (e : Array Bytes), j < e.size → all32 e → (Sort.insInner dlt a j e).size = e.size ∧ all32 (Sort.insInner dlt a j e) := by
    intro j
    induction j with
    | zero => intro e _ he; exact ⟨rfl, he⟩
    | succ j ih =>
      intro e hj he
      rw [Sort.insInner]
      split
      · have h1 := swp_size e (j + 1) j
        have h2 := swp_all he (p := j + 1) (q := j) hj (by omega)
        obtain ⟨h3, h4⟩ := ih (Sort.swp e (j + 1) j) (by omega) h2
        exact ⟨by omega, h4⟩
      · exact ⟨rfl, he⟩
  have hout : ∀ (n i : Nat) (e : Array Bytes), b - i ≤ n → e.size = d.size → all32 e → (Sort.insOuter dlt a b i e).size = d.size ∧ all32 (Sort.insOuter dlt a b i e) := by
    intro n
    induction n with
    | zero =>
      intro i e hn hs he
      rw [Sort.insOuter, if_neg (by omega)]
      exact ⟨hs, he⟩
    | succ n ih =>
      intro i e hn hs he
      rw [Sort.insOuter]
      split
      · obtain ⟨h1, h2⟩ := hstep i e (by omega) he
        exact ih _ _ (by omega) (by omega) h2
      · exact ⟨hs, he⟩
  exact hout (b - (a + 1)) (a + 1) d (Nat.le_refl _) rfl hd
theorem reverse_size (d : Array Bytes) (a b : Nat) (hb : b ≤ d.size) (hab : a < b) (hd : all32 d) : (Sort.reverseRange d a b).size = d.size ∧ all32 (Sort.reverseRange d a b) := by
  have h : ∀ (n i j : Nat) (e : Array Bytes), j - i ≤ n → j < e.size → e.size = d.size → all32 e → (Sort.reverseLoop i j e).size = d.size ∧ all32 (Sort.reverseLoop i j e) := by
    intro n
    induction n with
    | zero =>
      intro i j e hn hj hs he
      rw [Sort.reverseLoop, if_neg (by omega)]
      exact ⟨hs, he⟩
    | succ n ih =>
      intro i j e hn hj hs he
      rw [Sort.reverseLoop]
      split
      · have h1 := swp_size e i j
        exact ih _ _ _ (by omega) (by omega) (by omega) (swp_all he (by omega) hj)
      · exact ⟨hs, he⟩
  exact h (b - 1 - a) a (b - 1) d (Nat.le_refl _) (by omega) rfl hd

set_option maxHeartbeats 4000000 in
theorem pdq_c : ∀ (n : Nat) {S : List Nat} {w0 w : World} {L R : List Res} {K : VPost} {v : Value} {ds : Array Bytes} {a b limit : Nat}, b - a ≤ n → Sep S w0 w (rDs v ds :: L) R → all32 ds → a ≤ b → b ≤ ds.size → b - a < 50 → ds.size ≤ 2 ^ 29 → limit ≤ 2 ^ 29 →
    (∀ u w' d, d = Sort.pdq dlt ds a b limit true true → d.size = ds.size → all32 d → Sep S w0 w' (rDs v d :: L) R → K u w') →
    Calls Try.prog 109 #[v, .int .i64 a, .int .i64 b, .int .i64 limit, cmpV] w (retK K) := by
  intro n
  induction n with
  | zero =>
    intro S w0 w L R K v ds a b limit hn s hd hab hb h50 hsz hlim hK
    refine c109_calls _ _ _ _ _ w K ?_
    unfold c109
    refine bindX_i fun J0 h0 => bindX_i fun J1 h1 => ?_
    refine loop_i (fun m fr wr => m = 1 ∧ fr 0 = v ∧ fr 1 = .int .i64 a ∧ fr 2 = .int .i64 b ∧ fr 4 = cmpV ∧ Sep S w0 wr (rDs v ds :: L) R) 1 ⟨rfl, rfl, rfl, rfl, rfl, s⟩ ?_
    rintro m fr wr JJ ⟨rfl, f0, f1, f2, f4, s⟩ hJ hX
    refine bindX_i fun J5 h5 => ?_
    rw [f0, f1, f2, f4]
    refine nsub hab (by omega) ?_
    refine nleq (y := 12) ?_
    rw [decide_eq_true (by omega), condW_t]
    have hP : Sort.pdq dlt ds a b limit true true = Sort.insertionSort dlt ds a b := by rw [Sort.pdq, if_pos (by omega)]
    refine fnW_of (by kernel_rfl) (insertion_c s hd hab hb (by omega) fun u w2 s => ?_)
    obtain ⟨z1, z2⟩ := insertion_size ds a b hab hb hd
    rw [← hP] at s z1 z2
    refine hX _ _ _ (by simp) (h1 _ _ _ (h0 _ _ _ ?_))
    refine hK _ _ _ rfl z1 z2 ?_
    unfold rDs
    rw [z1]; exact s
  | succ n ih =>
    intro S w0 w L R K v ds a b limit hn s hd hab hb h50 hsz hlim hK
    refine c109_calls _ _ _ _ _ w K ?_
    unfold c109
    refine bindX_i fun J0 h0 => bindX_i fun J1 h1 => ?_
    refine loop_i (fun m fr wr => ∃ (a' b' lim : Nat) (wb wp : Bool) (d : Array Bytes), m = b' - a' ∧ a' ≤ b' ∧ b' ≤ d.size ∧ b' - a' ≤ b - a ∧ lim ≤ 2 ^ 29 ∧ d.size = ds.size ∧ all32 d ∧ Sort.pdq dlt d a' b' lim wb wp = Sort.pdq dlt ds a b limit true true ∧
      fr 0 = v ∧ fr 1 = .int .i64 a' ∧ fr 2 = .int .i64 b' ∧ fr 3 = .int .i64 lim ∧ fr 4 = cmpV ∧ fr 10 = .bool wb ∧ fr 11 = .bool wp ∧ Sep S w0 wr (rDs v d :: L) R) (b - a) ?_ ?_
    · exact ⟨a, b, limit, true, true, ds, rfl, hab, hb, Nat.le_refl _, hlim, rfl, hd, rfl, rfl, rfl, rfl, rfl, rfl, rfl, rfl, s⟩
    · rintro m fr wr JJ ⟨a', b', lim, wb, wp, d, rfl, hab', hb', hle, hlim', hds, hd, hst, f0, f1, f2, f3, f4, f10, f11, s⟩ hJ hX
      have done : ∀ (fr : Fr) (w' : World) (e : Array Bytes), e = Sort.pdq dlt ds a b limit true true → e.size = ds.size → all32 e → Sep S w0 w' (rDs v e :: L) R → JJ .ret fr w' := by
        intro fr w' e he hes h32 s
        exact hX _ _ _ (by simp) (h1 _ _ _ (h0 _ _ _ (hK _ _ _ he hes h32 s)))
      refine bindX_i fun J5 h5 => ?_
      rw [f1, f2]
      refine nsub hab' (by omega) ?_
      refine nleq (y := 12) (cond_d (fun h12 => ?_) (fun h12 => ?_))
      · have hP : Sort.pdq dlt d a' b' lim wb wp = Sort.insertionSort dlt d a' b' := by rw [Sort.pdq, if_pos h12]
        rw [f0, f4]
        refine fnW_of (by kernel_rfl) (insertion_c s hd hab' hb' (by omega) fun u w2 s => ?_)
        obtain ⟨z1, z2⟩ := insertion_size d a' b' hab' hb' hd
        rw [← hP, hst] at s z1 z2
        refine done _ _ _ rfl (by omega) z2 ?_
        unfold rDs
        rw [z1]; exact s
      · rw [f3]
        refine neql (y := 0) (cond_d (fun hl0 => ?_) (fun hl0 => ?_))
        · have hP : Sort.pdq dlt d a' b' lim wb wp = Sort.heapSort dlt d a' b' := by rw [Sort.pdq, if_neg h12, if_pos hl0]
          rw [f0, f4]
          refine fnW_of (by kernel_rfl) (heapSort_c s hd (by omega) hb' (by omega) fun u w2 e he hes h32 s => ?_)
          exact done _ _ e (by rw [he, ← hP, hst]) (by omega) h32 s
        · rw [pdq_step h12 hl0] at hst
          refine bindX_i fun J16 h16 => ?_
          have fin16 : ∀ (fr : Fr) (w' : World) (d1 : Array Bytes) (lim : Nat), lim ≤ 2 ^ 29 → d1.size = ds.size → all32 d1 → pdqA d1 a' b' lim wb wp = Sort.pdq dlt ds a b limit true true →
              fr 0 = v → fr 1 = .int .i64 a' → fr 2 = .int .i64 b' → fr 3 = .int .i64 lim → fr 4 = cmpV → fr 10 = .bool wb → fr 11 = .bool wp → fr 12 = .int .i64 (b' - a' : Nat) → Sep S w0 w' (rDs v d1 :: L) R → J16 .normal fr w' := by
            intro fr w' d1 lim hlim' hds hd hst f0 f1 f2 f3 f4 f10 f11 f12 s
            refine seq_n h16 ?_
            rw [f0, f1, f2, f4]
            refine fnW_of (by kernel_rfl) (choosePivot_c s hd hab' (by omega) (by omega) (by omega) (by omega) fun w2 s => ?_)
            obtain ⟨c1, c2⟩ := Sort.choosePivot_holds dlt d1 a' b' (by omega)
            have hst : pdqB (if (Sort.choosePivot dlt d1 a' b').2 = .decreasing then Sort.reverseRange d1 a' b' else d1) a' b' lim wb wp (if (Sort.choosePivot dlt d1 a' b').2 = .decreasing then (b' - 1) - ((Sort.choosePivot dlt d1 a' b').1 - a') else (Sort.choosePivot dlt d1 a' b').1) (if (Sort.choosePivot dlt d1 a' b').2 = .decreasing then .increasing else (Sort.choosePivot dlt d1 a' b').2) = Sort.pdq dlt ds a b limit true true := hst
            generalize Sort.choosePivot dlt d1 a' b' = cp at *
            obtain ⟨pv, hint⟩ := cp
            simp only at hst c1 c2
            rw [extr0, extr1]
            refine bindX_i fun J25 h25 => ?_
            have fin25 : ∀ (fr : Fr) (w' : World) (d2 : Array Bytes) (pv : Nat) (hint : Sort.Hint), a' ≤ pv → pv < b' → d2.size = ds.size → all32 d2 → pdqB d2 a' b' lim wb wp pv hint = Sort.pdq dlt ds a b limit true true →
                fr 0 = v → fr 1 = .int .i64 a' → fr 2 = .int .i64 b' → fr 3 = .int .i64 lim → fr 4 = cmpV → fr 10 = .bool wb → fr 11 = .bool wp → fr 12 = .int .i64 (b' - a' : Nat) → fr 13 = .int .i64 pv → fr 14 = .int .i64 (hintN hint) → Sep S w0 w' (rDs v d2 :: L) R → J25 .normal fr w' := by
              intro fr w' d2 pv hint c1 c2 hds hd hst f0 f1 f2 f3 f4 f10 f11 f12 f13 f14 s
              refine seq_n h25 ?_
              refine bindX_i fun J28 h28 => ?_
              have fin28 : ∀ (fr : Fr) (w' : World), pdqC d2 a' b' lim wb wp pv = Sort.pdq dlt ds a b limit true true →
                  fr 0 = v → fr 1 = .int .i64 a' → fr 2 = .int .i64 b' → fr 3 = .int .i64 lim → fr 4 = cmpV → fr 10 = .bool wb → fr 11 = .bool wp → fr 12 = .int .i64 (b' - a' : Nat) → fr 13 = .int .i64 pv → Sep S w0 w' (rDs v d2 :: L) R → J28 .normal fr w' := by
                intro fr w' hst f0 f1 f2 f3 f4 f10 f11 f12 f13 s
                refine seq_n h28 ?_
                have s := s.drew
                rw [f0, f1, f2, f3, f4, f12, f13]
                refine ngtr (y := 0) ?_
                by_cases hp : 0 < a'
                · rw [decide_eq_true hp]
                  repeat with_reducible refine gs_t ?_
                  refine nsub (y := 1) (by omega) (by omega) ?_
                  repeat with_reducible refine gs_t ?_
                  obtain ⟨b1, o1, hix1, hld1⟩ := s.dget hd (p := a' - 1) (by omega)
                  refine hix1 _ ?_
                  repeat with_reducible refine gs_t ?_
                  refine hld1 _ ?_
                  repeat with_reducible refine gs_t ?_
                  obtain ⟨b2, o2, hix2, hld2⟩ := s.dget hd (p := pv) (by omega)
                  refine hix2 _ ?_
                  repeat with_reducible refine gs_t ?_
                  refine hld2 _ ?_
                  repeat with_reducible refine gs_t ?_
                  refine s.dcmp (get32 hd (by omega)) (get32 hd (by omega)) fun w2 s => ?_
                  repeat with_reducible refine gs_t ?_
                  rw [ilss]
                  repeat with_reducible refine gs_t ?_
                  rw [notN, pickW_t]
                  have e : dlt d2[a' - 1]! d2[pv]! = decide (Lib.compareBytes d2[a' - 1]! d2[pv]! < 0) := rfl
                  rw [← e]
                  cases hl : dlt d2[a' - 1]! d2[pv]! with
                  | false =>
                    rw [Bool.not_false, condW_t]
                    have hC : pdqC d2 a' b' lim wb wp pv = (match Sort.partitionEqual dlt d2 a' b' pv with
                        | (mid, d4) => if _h : a' < mid ∧ mid ≤ b' then Sort.pdq dlt d4 mid b' lim wb wp else d4) := by
                      unfold pdqC
                      rw [if_pos (by simp [hp, hl])]
                    refine fnW_of (by kernel_rfl) (partitionEqual_c s hd (by omega) (by omega) c1 c2 (by omega) fun w3 r hr hrs hr32 s => ?_)
                    have hrg := partEqLoop_range a' b' (b' - 1 + 1 - (a' + 1)) (a' + 1) (b' - 1) (Sort.swp d2 a' pv) (Nat.le_refl _) (by omega) (by omega) (by omega)
                    have hr' : Sort.partEqLoop dlt a' (a' + 1) (b' - 1) (Sort.swp d2 a' pv) = r := hr.symm
                    rw [hr'] at hrg
                    rw [← hr] at hC
                    obtain ⟨mid, d4⟩ := r
                    simp only at hrg hC hrs hr32 s
                    rw [dif_pos hrg] at hC
                    rw [hC] at hst
                    exact hJ (b' - mid) _ _ (by omega) ⟨mid, b', lim, wb, wp, d4, rfl, by omega, by omega, by omega, hlim', by omega, hr32, hst, f0, rfl, f2, f3, f4, f10, f11, s⟩
                  | true =>
                    rw [Bool.not_true, condW_f]
                    have hC : pdqC d2 a' b' lim wb wp pv = (match Sort.partition dlt d2 a' b' pv with
                        | (mid, al, d4) => if _h : a' ≤ mid ∧ mid < b' then
                            if mid - a' < b' - mid then Sort.pdq dlt (Sort.pdq dlt d4 a' mid lim true true) (mid + 1) b' lim (decide (mid - a' ≥ (b' - a') / 8)) al
                            else Sort.pdq dlt (Sort.pdq dlt d4 (mid + 1) b' lim true true) a' mid lim (decide (b' - mid ≥ (b' - a') / 8)) al
                          else d4) := by
                      unfold pdqC
                      rw [if_neg (by simp [hl])]
                    refine fnW_of (by kernel_rfl) (partition_c s hd (by omega) (by omega) c1 c2 (by omega) fun w3 r hr hrs hr32 s => ?_)
                    obtain ⟨g1, g2, _⟩ := Sort.partition_holds dlt swo_dlt d2 a' b' pv c1 c2 (by omega)
                    rw [← hr] at g1 g2 hC
                    obtain ⟨mid, al, d4⟩ := r
                    simp only at g1 g2 hC hrs hr32 s
                    rw [dif_pos ⟨g1, g2⟩] at hC
                    rw [extr0, extr1]
                    refine nsub g1 (by omega) ?_
                    refine nsub (by omega) (by omega) ?_
                    refine nquo (y := 8) (by decide) (by omega) ?_
                    refine nlss (cond_d (fun hll => ?_) (fun hll => ?_))
                    · rw [if_pos hll] at hC
                      refine ngeq ?_
                      refine fnW_of (by kernel_rfl) (ih (by omega) s hr32 (by omega) (by omega) (by omega) (by omega) hlim' fun u w4 e he hes h32 s => ?_)
                      refine nadd (y := 1) (by omega) ?_
                      rw [← he] at hC
                      rw [hC] at hst
                      exact hJ (b' - (mid + 1)) _ _ (by omega) ⟨mid + 1, b', lim, _, al, e, rfl, by omega, by omega, by omega, hlim', by omega, h32, hst, f0, rfl, f2, f3, f4, rfl, rfl, s⟩
                    · rw [if_neg hll] at hC
                      refine ngeq ?_
                      refine nadd (y := 1) (by omega) ?_
                      refine fnW_of (by kernel_rfl) (ih (by omega) s hr32 (by omega) (by omega) (by omega) (by omega) hlim' fun u w4 e he hes h32 s => ?_)
                      rw [← he] at hC
                      rw [hC] at hst
                      exact hJ (mid - a') _ _ (by omega) ⟨a', mid, lim, _, al, e, rfl, by omega, by omega, by omega, hlim', by omega, h32, hst, f0, f1, rfl, f3, f4, rfl, rfl, s⟩
                · rw [decide_eq_false hp]
                  repeat with_reducible refine gs_ft ?_
                  rw [pickW_f, condW_f]
                  have hC : pdqC d2 a' b' lim wb wp pv = (match Sort.partition dlt d2 a' b' pv with
                      | (mid, al, d4) => if _h : a' ≤ mid ∧ mid < b' then
                          if mid - a' < b' - mid then Sort.pdq dlt (Sort.pdq dlt d4 a' mid lim true true) (mid + 1) b' lim (decide (mid - a' ≥ (b' - a') / 8)) al
                          else Sort.pdq dlt (Sort.pdq dlt d4 (mid + 1) b' lim true true) a' mid lim (decide (b' - mid ≥ (b' - a') / 8)) al
                        else d4) := by
                    unfold pdqC
                    rw [if_neg (by simp [hp])]
                  refine fnW_of (by kernel_rfl) (partition_c s hd (by omega) (by omega) c1 c2 (by omega) fun w3 r hr hrs hr32 s => ?_)
                  obtain ⟨g1, g2, _⟩ := Sort.partition_holds dlt swo_dlt d2 a' b' pv c1 c2 (by omega)
                  rw [← hr] at g1 g2 hC
                  obtain ⟨mid, al, d4⟩ := r
                  simp only at g1 g2 hC hrs hr32 s
                  rw [dif_pos ⟨g1, g2⟩] at hC
                  rw [extr0, extr1]
                  refine nsub g1 (by omega) ?_
                  refine nsub (by omega) (by omega) ?_
                  refine nquo (y := 8) (by decide) (by omega) ?_
                  refine nlss (cond_d (fun hll => ?_) (fun hll => ?_))
                  · rw [if_pos hll] at hC
                    refine ngeq ?_
                    refine fnW_of (by kernel_rfl) (ih (by omega) s hr32 (by omega) (by omega) (by omega) (by omega) hlim' fun u w4 e he hes h32 s => ?_)
                    refine nadd (y := 1) (by omega) ?_
                    rw [← he] at hC
                    rw [hC] at hst
                    exact hJ (b' - (mid + 1)) _ _ (by omega) ⟨mid + 1, b', lim, _, al, e, rfl, by omega, by omega, by omega, hlim', by omega, h32, hst, f0, rfl, f2, f3, f4, rfl, rfl, s⟩
                  · rw [if_neg hll] at hC
                    refine ngeq ?_
                    refine nadd (y := 1) (by omega) ?_
                    refine fnW_of (by kernel_rfl) (ih (by omega) s hr32 (by omega) (by omega) (by omega) (by omega) hlim' fun u w4 e he hes h32 s => ?_)
                    rw [← he] at hC
                    rw [hC] at hst
                    exact hJ (mid - a') _ _ (by omega) ⟨a', mid, lim, _, al, e, rfl, by omega, by omega, by omega, hlim', by omega, h32, hst, f0, f1, rfl, f3, f4, rfl, rfl, s⟩
              rw [f10, f11, f14]
              have hB : (wb && wp && decide (hint = .increasing)) = false → pdqC d2 a' b' lim wb wp pv = Sort.pdq dlt ds a b limit true true := by
                intro hf
                rw [← hst]
                unfold pdqB
                simp only [hf, Bool.false_eq_true, if_false]
              have hh : hintN hint = 1 ↔ hint = .increasing := by cases hint <;> simp [hintN]
              cases wb with
              | false =>
                repeat with_reducible refine gs_ft ?_
                rw [pickW_f]
                repeat with_reducible refine gs_ft ?_
                rw [pickW_f, condW_f]
                exact fin28 _ _ (hB rfl) f0 f1 f2 f3 f4 f10 f11 f12 f13 s
              | true =>
                repeat with_reducible refine gs_t ?_
                show pickW _ _ _ _ _
                rw [pickW_t]
                cases wp with
                | false =>
                  repeat with_reducible refine gs_ft ?_
                  rw [pickW_f, condW_f]
                  exact fin28 _ _ (hB rfl) f0 f1 f2 f3 f4 f10 f11 f12 f13 s
                | true =>
                  repeat with_reducible refine gs_t ?_
                  refine neql (y := 1) ?_
                  rw [pickW_t]
                  refine cond_d (fun h1' => ?_) (fun h1' => ?_)
                  · rw [f0, f1, f2, f4]
                    have hi := hh.1 h1'
                    have hp1 := partialIns_same (d := d2) (a := a') (b := b') (by omega)
                    refine fnW_of (by kernel_rfl) (partialIns_c s hd (by omega) (by omega) (by omega) (by omega) fun _ w3 s => ?_)
                    unfold pdqB at hst
                    simp only [hi, Bool.and_self, decide_true, if_true, hp1] at hst
                    cases hps : (Sort.partialInsertionSort dlt d2 a' b').2 with
                    | true =>
                      rw [hps] at hst
                      simp only [if_true] at hst
                      rw [condW_t]
                      exact done _ _ d2 hst hds hd s
                    | false =>
                      rw [hps] at hst
                      simp only [Bool.false_eq_true, if_false] at hst
                      rw [condW_f]
                      exact fin28 _ _ hst f0 f1 f2 f3 f4 f10 f11 f12 f13 s
                  · have hi : ¬ hint = .increasing := fun h => h1' (hh.2 h)
                    exact fin28 _ _ (hB (by simp [hi])) f0 f1 f2 f3 f4 f10 f11 f12 f13 s
            refine neql (y := 2) (cond_d (fun h2' => ?_) (fun h2' => ?_))
            · have hi : hint = .decreasing := by cases hint <;> simp [hintN] at h2' ⊢
              rw [if_pos hi, if_pos hi, if_pos hi] at hst
              obtain ⟨z1, z2⟩ := reverse_size d1 a' b' (by omega) (by omega) hd
              refine fnW_of (by kernel_rfl) (reverse_c s hd (by omega) (by omega) (by omega) fun u w3 s => ?_)
              refine nsub (y := 1) (by omega) (by omega) ?_
              refine nsub c1 (by omega) ?_
              refine nsub (by omega) (by omega) ?_
              exact fin25 _ _ _ (b' - 1 - (pv - a')) .increasing (by omega) (by omega) (by omega) z2 hst f0 f1 f2 f3 f4 f10 f11 f12 rfl rfl s
            · have hi : ¬ hint = .decreasing := by intro h; subst h; exact h2' rfl
              rw [if_neg hi, if_neg hi, if_neg hi] at hst
              exact fin25 _ _ d1 pv hint c1 c2 hds hd hst f0 f1 f2 f3 f4 f10 f11 f12 rfl rfl s
          rw [f10, notN]
          cases wb with
          | false =>
            rw [Bool.not_false, condW_t, f0, f4]
            refine fnW_of (by kernel_rfl) (breakPatterns_c s hd hab' hb' (by omega) (by omega) (by omega) fun u w3 e he hes h32 s => ?_)
            refine nsub (y := 1) (by omega) (by omega) ?_
            exact fin16 _ _ e (lim - 1) (by omega) (by omega) h32 (by rw [he]; exact hst) f0 f1 f2 rfl f4 f10 f11 rfl s
          | true =>
            rw [Bool.not_true, condW_f]
            exact fin16 _ _ d lim hlim' hds hd hst f0 f1 f2 f3 f4 f10 f11 rfl s
end Go.Proofs.Ytedebapgmfnflaa
