/- The laws of sha: what stands behind; its walk. -/
import Derived.Test.YtedebapgmfnflaaT1
import Derived.Test.YtedebapgmfnflaaN1
namespace Go.Proofs.Ytedebapgmfnflaa
open Go
set_option maxRecDepth 100000

theorem padM_get (n i : Nat) (h : i < (padM n).length) : (padM n).getD i 0 = if i = 0 then 128 else if i < 1 + zeros n then 0 else (be8 (n * 8)).getD (i - (1 + zeros n)) 0 := by
  unfold padM
  rw [List.getD_eq_getElem?_getD]
  by_cases h0 : i = 0
  · subst h0; simp
  · rw [if_neg h0]
    obtain ⟨j, rfl⟩ : ∃ j, i = j + 1 := ⟨i - 1, by omega⟩
    rw [List.cons_append, List.getElem?_cons_succ]
    by_cases h1 : j < zeros n
    · rw [if_pos (by omega), List.getElem?_append_left (by simpa using h1)]
      simp [h1]
    · rw [if_neg (by omega), List.getElem?_append_right (by simp; omega), List.length_replicate, List.getD_eq_getElem?_getD, show j + 1 - (1 + zeros n) = j - zeros n by omega]
theorem be8_get (x j : Nat) (h : j < 8) : (be8 x).getD j 0 = UInt8.ofNat (x >>> (56 - 8 * j)) := by
  rw [List.getD_eq_getElem?_getD, List.getElem?_eq_getElem (by rw [be8_length]; exact h)]
  simp [be8_range]
theorem acc_step (x j : Nat) (h : j < 8) : (x >>> (64 - 8 * j)) * 256 + (UInt8.ofNat (x >>> (56 - 8 * j))).toNat = x >>> (64 - 8 * (j + 1)) := by
  have e : 64 - 8 * j = (56 - 8 * j) + 8 := by omega
  rw [e, Nat.shiftRight_add, UInt8.toNat_ofNat', show 64 - 8 * (j + 1) = 56 - 8 * j by omega]
  generalize x >>> (56 - 8 * j) = y
  rw [Nat.shiftRight_eq_div_pow]
  omega

set_option maxHeartbeats 1000000 in
theorem pads_walk {w : World} {K : VPost} {n : Int} (hK : ∀ w', Ext [] w w' → K (.bool true) w') : Calls Try.prog 10 #[.int .i64 n] w (retK K) := by
  refine c10_calls _ w K ?_
  unfold c10
  refine fnW_of (by kernel_rfl) (alive1_c fun w1 e1 => ?_)
  rw [notN, Bool.not_true, condW_f]
  refine fnW_of (by kernel_rfl) (pad_c n (fun hno => ?_) (fun hyes v w2 hv e2 hf => ?_))
  · rw [ilss]
    by_cases h0 : n < 0
    · rw [decide_eq_true h0]
      refine gs_tf ?_
      refine gs_tf ?_
      rw [pickW_t, condW_t, len_s]
      refine neql (x := 0) (y := 0) ?_
      rw [decide_eq_true rfl]
      exact hK _ e1
    · rw [decide_eq_false h0]
      refine gs_f ?_
      refine gs_f ?_
      rw [igtr, pickW_f, decide_eq_true (by omega), condW_t, len_s]
      refine neql (x := 0) (y := 0) ?_
      rw [decide_eq_true rfl]
      exact hK _ e1
  · have h0 : ¬ n < 0 := by omega
    rw [ilss, decide_eq_false h0]
    refine gs_f ?_
    refine gs_f ?_
    rw [igtr, pickW_f, decide_eq_false (by omega), condW_f]
    obtain ⟨n, rfl⟩ : ∃ k : Nat, n = k := ⟨n.toNat, by omega⟩
    rw [Int.toNat_natCast] at hv
    have hpl := padM_length n
    have hzl : zeros n < 64 := Nat.mod_lt _ (by decide)
    have hpm := pad_mod n
    obtain ⟨pa, pc, hpa⟩ := (OwnAt.rd hv).len
    have hlen : ∀ (w : World) (K : VPost), lenW Try.prog (some true) #[34] 3 #[v] w K = K (.int .i64 (padM n).length) w := fun w K => by rw [hpa, len_s]
    have hget := fun (i : Nat) (h : i < (padM n).length) => RdSl.at1 (OwnAt.rd hv) (i := i) h .i64
    rw [hlen]
    refine nlss (y := 9) ?_
    rw [decide_eq_false (by omega)]
    refine gs_f ?_
    refine gs_f ?_
    rw [hlen]
    refine gs_f ?_
    refine ngtr (y := 72) ?_
    rw [decide_eq_false (by omega), pickW_f]
    refine gs_f ?_
    refine gs_f ?_
    refine gs_f ?_
    rw [hlen]
    refine gs_f ?_
    refine nadd (by omega) ?_
    refine gs_f ?_
    refine nrem (y := 64) (by decide) ?_
    refine gs_f ?_
    refine nneq (y := 0) ?_
    rw [hpm, decide_eq_false (by simp), pickW_f]
    refine gs_f ?_
    refine gs_f ?_
    obtain ⟨b0, o0, hix, hld⟩ := hget 0 (by omega)
    refine hix _ ?_
    refine gs_f ?_
    refine hld _ ?_
    have hg0 : (padM n).getD 0 0 = 128 := by rw [padM_get n 0 (by omega), if_pos rfl]
    rw [hg0]
    refine gs_f ?_
    unfold bv
    refine nneq (y := 128) ?_
    rw [decide_eq_false (by decide), pickW_f, condW_f]
    refine bindX_i fun J0 h0' => bindX_i fun J1 h1 => bindX_i fun J2 h2 => ?_
    have e12 := e1.new e2
    refine loop_i (fun m fr wr => ∃ (i : Nat), m = (padM n).length - i ∧ i ≤ (padM n).length ∧ fr 0 = .int .i64 n ∧ fr 3 = v ∧ fr 4 = .int .i64 ((n * 8) >>> (64 - 8 * (i - (1 + zeros n))) : Nat) ∧ fr 5 = .int .i64 i ∧ w2 = wr) (padM n).length ?_ ?_
    · refine ⟨0, rfl, by omega, rfl, rfl, ?_, rfl, rfl⟩
      have : (n * 8) >>> (64 - 8 * (0 - (1 + zeros n))) = 0 := by
        rw [Nat.zero_sub, Nat.mul_zero, Nat.sub_zero, Nat.shiftRight_eq_div_pow]
        exact Nat.div_eq_of_lt (by omega)
      rw [this]; rfl
    · rintro m fr wr J ⟨i, rfl, hi, f0, f3, f4, f5, rfl⟩ hJ hX
      rw [f3, f5, hlen]
      refine nlss (cond_d (fun hlt => ?_) (fun hlt => ?_))
      · refine bindX_i fun J3 h3 => bindX_i fun J4 h4 => ?_
        have fin : ∀ (fr : Fr), fr 0 = .int .i64 n → fr 3 = v → fr 4 = .int .i64 ((n * 8) >>> (64 - 8 * (i + 1 - (1 + zeros n))) : Nat) → fr 5 = .int .i64 i → J3 .normal fr w2 := by
          intro fr f0 f3 f4 f5
          refine seq_n h3 ?_
          rw [f5]
          refine nadd (y := 1) (by omega) ?_
          exact hJ ((padM n).length - (i + 1)) _ _ (by omega) ⟨i + 1, rfl, by omega, f0, f3, f4, rfl, rfl⟩
        rw [hlen]
        refine nsub (y := 8) (by omega) (by omega) ?_
        obtain ⟨b1, o1, hix, hld⟩ := hget i hlt
        refine ngeq (cond_d (fun hge => ?_) (fun hge => ?_))
        · rw [f4]
          have hj : i - (1 + zeros n) < 8 := by omega
          have hst := acc_step (n * 8) _ hj
          have hgi : (padM n).getD i 0 = UInt8.ofNat ((n * 8) >>> (56 - 8 * (i - (1 + zeros n)))) := by
            rw [padM_get n i hlt, if_neg (by omega), if_neg (by omega), be8_get _ _ hj]
          have hle : (n * 8) >>> (64 - 8 * (i - (1 + zeros n) + 1)) ≤ n * 8 := by rw [Nat.shiftRight_eq_div_pow]; exact Nat.div_le_self _ _
          have hby : (UInt8.ofNat ((n * 8) >>> (56 - 8 * (i - (1 + zeros n))))).toNat < 256 := UInt8.toNat_lt _
          have hor := or_byte ((n * 8) >>> (64 - 8 * (i - (1 + zeros n)))) _ hby
          refine nshl (k' := .u64) (s := 8) (by decide) (by omega) ?_
          refine hix _ ?_
          refine hld _ ?_
          rw [hgi, conv_b64 (k := .u8) und_u8 und_int]
          refine nor (by omega) (by omega) ?_
          rw [hor, hst]
          refine fin _ f0 f3 ?_ f5
          rw [show i + 1 - (1 + zeros n) = i - (1 + zeros n) + 1 by omega]; rfl
        · have hz : (64 - 8 * (i + 1 - (1 + zeros n))) = 64 - 8 * (i - (1 + zeros n)) := by omega
          rw [← hz] at f4
          refine ngtr (y := 0) ?_
          by_cases hp : 0 < i
          · rw [decide_eq_true hp]
            refine gs_t ?_
            refine gs_t ?_
            refine gs_t ?_
            refine hix _ ?_
            refine gs_t ?_
            refine hld _ ?_
            have hgi : (padM n).getD i 0 = 0 := by rw [padM_get n i hlt, if_neg (by omega), if_pos (by omega)]
            rw [hgi]
            refine gs_t ?_
            unfold bv
            refine nneq (y := 0) ?_
            rw [decide_eq_false (by decide), pickW_t, condW_f]
            exact fin _ f0 f3 f4 f5
          · rw [decide_eq_false hp]
            refine gs_ft ?_
            refine gs_ft ?_
            refine gs_ft ?_
            refine gs_ft ?_
            refine gs_ft ?_
            rw [pickW_f, condW_f]
            exact fin _ f0 f3 f4 f5
      · obtain rfl : i = (padM n).length := by omega
        have tail : ∀ (fr : Fr), fr 0 = .int .i64 n → fr 4 = .int .i64 (n * 8 : Nat) → J1 .normal fr w2 := by
          intro fr f0 f4
          refine seq_n h1 ?_
          rw [f0, f4]
          refine nmul (x := 8) (by omega) ?_
          refine neql ?_
          rw [decide_eq_true (by omega)]
          exact hK _ e12
        refine hX _ _ _ (by simp) (h2 _ _ _ (blk_x (tail _ f0 ?_)))
        have e : (n * 8) >>> (64 - 8 * ((padM n).length - (1 + zeros n))) = n * 8 := by
          rw [show 64 - 8 * ((padM n).length - (1 + zeros n)) = 0 by omega]; rfl
        rw [e] at f4
        exact f4
end Go.Proofs.Ytedebapgmfnflaa
