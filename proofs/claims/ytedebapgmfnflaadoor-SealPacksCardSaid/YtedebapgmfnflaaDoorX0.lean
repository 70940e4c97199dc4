/- The document's marks, data and highest generation of sectors: walks. Conditions: sectors have 64 bytes; numbers are of at most 4 bytes. -/
import Derived.Test.YtedebapgmfnflaaDoorW1
import Derived.Test.YtedebapgmfnflaaDoorCM
namespace Go.Proofs.YtedebapgmfnflaaDoor
open Go
set_option maxRecDepth 100000

theorem rneed_c {w : World} {K : VPost} {n : Int} (hK : K (.int .i64 (needI n)) w) : Calls Tryd.prog 22 #[.int .i64 n] w (retK K) := by
  refine c22_calls _ w K ?_
  unfold c22
  rw [ilss]
  unfold needI needN at hK
  by_cases h : n < 0
  · rw [decide_eq_true h]
    repeat with_reducible refine gs_tf ?_
    refine pick_ti ?_
    rw [condW_t]
    rw [if_pos h] at hK
    exact hK
  · rw [decide_eq_false h]
    rw [if_neg h] at hK
    refine gs_f ?_
    refine gs_f ?_
    rw [igtr]
    refine pick_fi ?_
    refine cond_d (fun h2 => ?_) (fun h2 => ?_)
    · rw [if_pos (by omega)] at hK
      exact hK
    · rw [if_neg (by omega)] at hK
      refine iadd (by omega) ?_
      refine iadd (by omega) ?_
      rw [show n + 34 + 45 = ((n.toNat + 79 : Nat) : Int) by omega]
      exact nquo (by decide) (by omega) hK

theorem number_c {w : World} {K : VPost} {x : Value} {b : Bytes} (h : RdSl w x 1 (bc b) b.length) (hl : b.length ≤ 4) (hK : K (.int .i64 (beN b)) w) : Calls Tryd.prog 79 #[x] w (retK K) := by
  refine c79_calls _ w K ?_
  unfold c79
  refine bindX_i fun J0 h0 => bindX_i fun J1 h1 => bindX_i fun J2 h2 => ?_
  refine loop_i (fun m fr wr => ∃ i : Nat, m = b.length - i ∧ i ≤ b.length ∧ fr 0 = x ∧ fr 3 = .int .i64 (beN (b.take i)) ∧ fr 4 = .int .i64 i ∧ w = wr) b.length ?_ ?_
  · exact ⟨0, rfl, by omega, rfl, rfl, rfl, rfl⟩
  · rintro m fr wr J ⟨i, rfl, hi, f0, f3, f4, rfl⟩ hJ hX
    rw [f0, h.lenw, f4]
    refine nlss (cond_d (fun hlt => ?_) (fun hlt => ?_))
    · rw [f3]
      have hb := beN_lt (b.take i)
      have hlen : (b.take i).length = i := by rw [List.length_take]; omega
      rw [hlen] at hb
      have hp : 256 ^ i ≤ 256 ^ 3 := Nat.pow_le_pow_right (by decide) (by omega)
      have h3 : (256 : Nat) ^ 3 = 16777216 := by decide
      refine nmul (x := 256) (by omega) ?_
      obtain ⟨b1, o1, i1, l1⟩ := RdSl.elAt (f := bv) 0 h (k := i) hlt .i64
      refine i1 _ ?_
      refine l1 _ ?_
      have hg : b.getD i 0 = b[i] := by rw [List.getD_eq_getElem?_getD, List.getElem?_eq_getElem hlt]; rfl
      have hc := (b[i]).toNat_lt
      rw [hg, show bv b[i] = .int .u8 b[i].toNat from rfl, convN_i und_u8 und_int, i64_fit (by omega)]
      refine nadd (by omega) ?_
      refine nadd (y := 1) (by omega) ?_
      refine hJ (b.length - (i + 1)) _ _ (by omega) ⟨i + 1, rfl, by omega, f0, ?_, rfl, rfl⟩
      show Value.int .i64 _ = _
      rw [List.take_succ_eq_append_getElem hlt, beN_snoc, Nat.mul_comm]
    · obtain rfl : i = b.length := by omega
      refine hX _ _ _ (by simp) (h2 _ _ _ (h1 _ _ _ ?_))
      show K (fr 3) _
      rw [f3, List.take_length]
      exact hK

theorem four_c {w : World} {K : VPost} {n : Nat} (hn : n < 9223372036854775808) (hK : ∀ v w', OwnAt w' v 5 1 (bc (beP 4 n)) (beP 4 n).length → Ext [] w w' → (∀ b ∈ slB v, w.heap.size ≤ b) → K v w') :
    Calls Tryd.prog 135 #[.int .i64 n] w (retK K) := by
  refine c135_calls _ w K ?_
  unfold c135
  refine nquo (y := 16777216) (by decide) hn ?_
  rw [conv_byte und_int und_u8]
  refine nquo (y := 65536) (by decide) hn ?_
  rw [conv_byte und_int und_u8]
  refine nquo (y := 256) (by decide) hn ?_
  rw [conv_byte und_int und_u8, conv_byte und_int und_u8]
  have e : beP 4 n = [UInt8.ofNat (n / 16777216), UInt8.ofNat (n / 65536), UInt8.ofNat (n / 256), UInt8.ofNat n] := by
    simp only [beP, Nat.shiftRight_eq_div_pow]
    simp
  refine (Sep.nil w).litB [UInt8.ofNat (n / 16777216), UInt8.ofNat (n / 65536), UInt8.ofNat (n / 256), UInt8.ofNat n] rfl (by simp) fun v w1 s _ _ => ?_
  rw [← e] at s
  exact hK v w1 (s.at 0 rfl) s.ext (s.fresh 0 rfl)

set_option maxHeartbeats 1000000 in
theorem rmark_c {w : World} {K : VPost} {b : Bytes} (hb : b.length = 64) (hK : ∀ w', Ext [] w w' → K (.tuple #[.int .i64 (markB b).1, .int .i64 (markB b).2.1, .bool (markB b).2.2]) w') : Calls Tryd.prog 25 #[.agg (bc b).toArray] w (retK K) := by
  refine c25_calls _ w K ?_
  unfold c25
  refine (Sep.nil w).box fun p w1 s _ => ?_
  have s : Sep [] w w1 [rB p (bc b) 37] [] := by simpa [Value.cells] using s
  have hp : Blk w1 p (bc b) 37 := s.at 0 rfl
  refine slA_cut (l := 8) (h := 10) (by decide) (by decide) (by decide) ?_
  have h8 := hp.part (l := 8) (k := 2) (c := 56) (by omega) (by decide) (by omega)
  have hcl : ((b.drop 8).take 2).length = 2 := by rw [List.length_take, List.length_drop]; omega
  refine fnW_of (by kernel_rfl) (number_c h8 (by omega) ?_)
  have hlt := beN_lt ((b.drop 8).take 2)
  rw [hcl] at hlt
  have h65 : (256 : Nat) ^ 2 = 65536 := by decide
  have s := s.drew
  generalize w1.drew = w2 at *
  have hp : Blk w2 p (bc b) 37 := s.at 0 rfl
  have hwh : wholeB b = (decide (cntB b ≤ 46) && (decide (b.take 8 = b.drop 56) && ((b.take 56).drop (10 + cntB b)).all (· == 0))) := rfl
  have hcb : cntB b = beN ((b.drop 8).take 2) := rfl
  rw [hcb] at hwh
  generalize beN ((b.drop 8).take 2) = n at *
  refine slA_to (k := 8) (by decide) ?_
  refine slA_from (l := 56) (by decide) ?_
  rw [if_neg (by decide : ¬ 64 = 56)]
  have h0 := hp.part (l := 0) (k := 8) (c := 64) (by omega) (by decide) (by omega)
  rw [List.drop_zero] at h0
  have h56 := hp.part (l := 56) (k := 8) (c := 8) (by omega) (by decide) (by omega)
  rw [List.take_of_length_le (by rw [List.length_drop]; omega)] at h56
  refine fnW_of (by kernel_rfl) (sameBytes_c h0 h56 (by rw [List.length_take]; omega) fun w3 e3 => ?_)
  have s := s.ext0 e3
  refine not_ti ?_
  have hno : wholeB b = false → ∀ w', Ext [] w w' → K (.tuple #[.int .i64 0, .int .i64 0, .bool false]) w' := by
    intro h w' e
    have := hK w' e
    unfold markB at this
    rw [h] at this
    exact this
  by_cases h2 : b.take 8 = b.drop 56

  · rw [decide_eq_true h2, Bool.not_true]
    rw [decide_eq_true h2, Bool.true_and] at hwh
    refine gs_f ?_
    refine gs_f ?_
    refine ngtr (y := 46) ?_
    refine pick_fi ?_
    refine cond_d (fun h1 => hno (by rw [hwh, decide_eq_false (by omega), Bool.false_and]) _ s.ext) (fun h1 => ?_)
    rw [decide_eq_true (show n ≤ 46 by omega), Bool.true_and] at hwh
    refine bindX_i fun J0 g0 => bindX_i fun J1 g1 => ?_
    refine nadd (x := 10) (by omega) ?_
    refine bindX_i fun J2 g2 => ?_
    have hB : (b.take 56).length = 56 := by rw [List.length_take]; omega
    refine loop_i (fun m fr wr => ∃ i : Nat, m = 56 - i ∧ i ≤ 56 ∧ wholeB b = zrB ((b.take 56).drop i) ∧ fr 1 = .pointer (some ⟨p, 0, none⟩) ∧ fr 6 = .int .i64 i ∧ w3 = wr) (56 - (10 + n)) ?_ ?_
    · exact ⟨10 + n, rfl, by omega, hwh, rfl, rfl, rfl⟩
    · rintro m fr wr J ⟨i, rfl, hi, hz, f1, f6, rfl⟩ hJ hX
      rw [f6]
      refine nlss (y := 56) (cond_d (fun hlt => ?_) (fun hlt => ?_))
      · rw [f1]
        refine idxA1 (i := i) (by omega) ?_
        refine s.load1 (v := bv (b.getD i 0)) 0 rfl (getD_lt (by omega)) ?_
        refine nneq (y := 0) ?_
        have hzd := zr_drop (b := b.take 56) (k := i) (by omega)
        have hg : (b.take 56).getD i 0 = b.getD i 0 := by rw [List.getD_eq_getElem?_getD, List.getD_eq_getElem?_getD, List.getElem?_take, if_pos (by omega)]
        rw [hg] at hzd
        have hu := u8_zero (b.getD i 0)
        cases he : (b.getD i 0 == 0) with
        | true =>
          rw [he] at hu hzd
          rw [decide_eq_false (by simpa using hu)]
          refine cndF ?_
          refine nadd (y := 1) (by omega) ?_
          exact hJ (56 - (i + 1)) _ _ (by omega) ⟨i + 1, rfl, by omega, by rw [hz, hzd, Bool.true_and], f1, rfl, rfl⟩
        | false =>
          rw [he] at hu hzd
          rw [decide_eq_true (by simpa using hu)]
          refine cndT ?_
          refine hX _ _ _ (by simp) (g2 _ _ _ (g1 _ _ _ (g0 _ _ _ ?_)))
          exact hno (by rw [hz, hzd, Bool.false_and]) _ s.ext
      · obtain rfl : i = 56 := by omega
        have hw : wholeB b = true := by rw [hz, List.drop_of_length_le (by omega)]; rfl
        refine hX _ _ _ (by simp) (g2 _ _ _ (g1 _ _ _ (seqX_n ?_)))
        show sliceW _ (fr 1) _ _ _ _ _
        rw [f1]
        have s := s.drew
        generalize w3.drew = w4 at *
        have hp : Blk w4 p (bc b) 37 := s.at 0 rfl
        refine slA_to (k := 4) (by decide) ?_
        show sliceW _ (fr 1) _ _ _ _ _
        rw [f1]
        refine slA_cut (l := 4) (h := 8) (by decide) (by decide) (by decide) ?_
        have h0 := hp.part (l := 0) (k := 4) (c := 64) (by omega) (by decide) (by omega)
        rw [List.drop_zero] at h0
        have h4 := hp.part (l := 4) (k := 4) (c := 60) (by omega) (by decide) (by omega)
        refine fnW_of (by kernel_rfl) (number_c h0 (by rw [List.length_take]; omega) ?_)
        refine fnW_of (by kernel_rfl) (number_c h4 (by rw [List.length_take, List.length_drop]; omega) ?_)
        have := hK _ s.ext
        unfold markB at this
        rw [hw] at this
        exact this
  · rw [decide_eq_false h2, Bool.not_false]
    repeat with_reducible refine gs_tf ?_
    refine pick_ti ?_
    exact cndT (hno (by rw [hwh, decide_eq_false h2, Bool.false_and, Bool.and_false]) _ s.ext)

theorem rdata_c {w : World} {K : VPost} {b : Bytes} (hb : b.length = 64) (hK : ∀ v w', OwnAt w' v 5 1 (bc (dataB b)) (dataB b).length → Ext [] w w' → (∀ c ∈ slB v, w.heap.size ≤ c) → K v w') : Calls Tryd.prog 28 #[.agg (bc b).toArray] w (retK K) := by
  refine c28_calls _ w K ?_
  unfold c28
  refine (Sep.nil w).box fun p w1 s _ => ?_
  have s : Sep [] w w1 [rB p (bc b) 37] [] := by simpa [Value.cells] using s
  refine s.loadAll 0 rfl (by rw [bc_length, hb]) ?_
  refine fnW_of (by kernel_rfl) (rmark_c hb fun w2 e => ?_)
  have s := s.ext0 e
  refine extr_i rfl ?_
  refine extr_i rfl ?_
  refine extr_i rfl ?_
  have hm3 : (markB b).2.2 = wholeB b := by unfold markB; cases wholeB b <;> rfl
  rw [hm3]
  unfold dataB at hK
  refine not_ti ?_
  cases hw : wholeB b with
  | false =>
    rw [hw] at hK
    refine cndT ?_
    exact hK _ _ (.inl ⟨rfl, rfl, rfl⟩) s.ext (by simp [slB])
  | true =>
    have hc := whole_cnt hw
    rw [hw, if_pos rfl] at hK
    refine cndF ?_
    have hp : Blk w2 p (bc b) 37 := s.at 0 rfl
    refine slA_cut (l := 8) (h := 10) (by decide) (by decide) (by decide) ?_
    have h8 := hp.part (l := 8) (k := 2) (c := 56) (by omega) (by decide) (by omega)
    refine fnW_of (by kernel_rfl) (number_c h8 (by rw [List.length_take, List.length_drop]; omega) ?_)
    unfold cntB at hK hc
    generalize beN ((b.drop 8).take 2) = n at *
    refine nadd (x := 10) (by omega) ?_
    refine slA_cut (l := 10) (h := 10 + n) (by omega) (by omega) (by decide) ?_
    have h10 := hp.part (l := 10) (k := n) (c := 54) (by omega) (by omega) (by omega)
    rw [show 10 + n - 10 = n by omega]
    refine fnW_of (by kernel_rfl) (copyBytes_c h10 (by rw [List.length_take, List.length_drop]; omega) fun v w3 hv e3 hf => ?_)
    exact hK v w3 hv.at (s.ext0 e3).ext (fun c hc => Nat.le_trans s.ext.size (hf c hc))
end Go.Proofs.YtedebapgmfnflaaDoor
