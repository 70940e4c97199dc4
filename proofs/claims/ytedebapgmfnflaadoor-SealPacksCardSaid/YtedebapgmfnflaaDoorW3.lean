/- The law of torn sectors: its walk. -/
import Derived.Test.YtedebapgmfnflaaDoorW1
namespace Go.Proofs.YtedebapgmfnflaaDoor
open Go
set_option maxRecDepth 100000

theorem blk_eql {w : World} {K : VPost} {c : Bool} {a b : Bytes} (ha : a.length = 64) (hb : b.length = 64) (h : K (.bool (decide (a = b))) w) : binW Tryd.prog .eql 37 c (.agg (bc a).toArray) (.agg (bc b).toArray) w K := by
  obtain ⟨ui, hui, huz, husz, huby⟩ := tyI_spec ty_u8
  rw [bc_ints a, bc_ints b, bin_ints_eql (by kernel_rfl : Tryd.prog.underlying 37 = some (.array 64 5)) hui (by kernel_rfl) (by kernel_rfl) (by kernel_rfl) (by kernel_rfl) _ _ (by simpa using ha) (by simpa using hb)]
  simpa only [ints_inj] using h

/-- What is written of a sector, torn: so many bytes at its beginning, or at its end. -/
def tornB (old b : Bytes) (k : Nat) (e : Bool) : Bytes := if e then old.take (64 - k) ++ b.drop (64 - k) else b.take k ++ old.drop k
theorem tornB_zero {old b : Bytes} (ho : old.length = 64) (hb : b.length = 64) (e : Bool) : tornB old b 0 e = old := by
  cases e
  · simp [tornB]
  · simp only [tornB, if_true, Nat.sub_zero]
    rw [List.take_of_length_le (by omega), List.drop_of_length_le (by omega), List.append_nil]
theorem tornB_length {old b : Bytes} (ho : old.length = 64) (hb : b.length = 64) {k : Nat} (hk : k ≤ 64) (e : Bool) : (tornB old b k e).length = 64 := by
  cases e <;> simp only [tornB, if_true, Bool.false_eq_true, if_false, List.length_append, List.length_take, List.length_drop] <;> omega
theorem tornB_end {old b : Bytes} (ho : old.length = 64) (hb : b.length = 64) {k : Nat} (hk : k < 64) : (tornB old b k true).set (63 - k) (b.getD (63 - k) 0) = tornB old b (k + 1) true := by
  simp only [tornB, if_true]
  apply List.ext_getElem?
  intro i
  have hg : b[63 - k]? = some (b.getD (63 - k) 0) := by rw [List.getD_eq_getElem?_getD, List.getElem?_eq_getElem (by omega)]; rfl
  rw [List.getElem?_set, List.getElem?_append, List.getElem?_append]
  have l1 : (old.take (64 - k)).length = 64 - k := by rw [List.length_take]; omega
  have l2 : (old.take (64 - (k + 1))).length = 63 - k := by rw [List.length_take]; omega
  have l3 : (old.take (64 - k) ++ b.drop (64 - k)).length = 64 := by rw [List.length_append, l1, List.length_drop]; omega
  rw [l1, l2, l3, List.getElem?_take, List.getElem?_take, List.getElem?_drop, List.getElem?_drop]
  by_cases h1 : 63 - k = i
  · subst h1
    rw [if_pos rfl, if_pos (by omega), if_neg (by omega), ← hg]
    congr 1
    omega
  · rw [if_neg h1]
    by_cases h2 : i < 63 - k
    · rw [if_pos (by omega), if_pos (by omega), if_pos h2, if_pos (by omega)]
    · rw [if_neg (by omega), if_neg h2]
      congr 1
      omega
theorem tornB_begin {old b : Bytes} (ho : old.length = 64) (hb : b.length = 64) {k : Nat} (hk : k < 64) : (tornB old b k false).set k (b.getD k 0) = tornB old b (k + 1) false := by
  simp only [tornB, Bool.false_eq_true, if_false]
  rw [List.drop_eq_getElem_cons (show k < old.length by omega), List.set_append_right _ _ (by rw [List.length_take]; omega)]
  have l1 : (b.take k).length = k := by rw [List.length_take]; omega
  rw [l1, Nat.sub_self, List.set_cons_zero, List.take_succ_eq_append_getElem (show k < b.length by omega)]
  have hg : b.getD k 0 = b[k] := by rw [List.getD_eq_getElem?_getD, List.getElem?_eq_getElem (by omega)]; rfl
  rw [hg, List.append_assoc]
  rfl

/-- What is torn isn't whole with the generation, or it is as it was to be. -/
theorem torn_law {old : Bytes} {g n : Nat} {d : Bytes} (ho : old.length = 64) (hd : d.length ≤ 46) (hg : g < 2 ^ 32) (hn : n < 2 ^ 32) (h1 : old.take 4 ≠ (secB g n d).take 4) (h2 : (old.drop 56).take 4 ≠ (secB g n d).take 4) {k : Nat} (hk : k ≤ 63) (e : Bool)
    (hw : wholeB (tornB old (secB g n d) k e) = true) (hm : (markB (tornB old (secB g n d) k e)).1 = g) : tornB old (secB g n d) k e = secB g n d := by
  have hb := secB_length g n hd
  have hbw := sec_whole g n hd
  have hl := tornB_length ho hb (show k ≤ 64 by omega) e
  have hgx := mark_gen hl hw
  have hgb := mark_gen hb hbw
  rw [sec_mark hd hg hn] at hgb
  cases e with
  | false => exact torn_whole ho hb hbw h1 h2 (k := k) (by omega) (.inl (by simp [tornB])) hw (by rw [hgx, hm, hgb])
  | true => exact torn_whole ho hb hbw h1 h2 (k := 64 - k) (by omega) (.inr (by simp [tornB])) hw (by rw [hgx, hm, hgb])

set_option maxHeartbeats 2000000 in
theorem tornLaw_walk {w : World} {K : VPost} {x : Value} {old r : Bytes} {g n a q : Int} {e : Bool} (ho : old.length = 64) (h : RdSl w x 1 (bc r) r.length) (hK : ∀ w', Ext [] w w' → K (.bool true) w') :
    Calls Tryd.prog 5 #[.agg (bc old).toArray, .int .i64 g, .int .i64 n, x, .int .i64 a, .int .i64 q, .bool e] w (retK K) := by
  refine c5_calls _ _ _ _ _ _ _ w K ?_
  unfold c5
  refine (Sep.zero1 (U := rR x 1 (bc r) r.length) h).box fun p7 w1 s _ => ?_
  have s : Sep [] w w1 [rB p7 (bc old) 37] [rR x 1 (bc r) r.length] := by simpa [Value.cells] using s
  refine fnW_of (by kernel_rfl) (alive4_c fun w2 e2 => ?_)
  have s := s.ext0 e2
  refine not_ti ?_
  refine cndF ?_
  refine fnW_of (by kernel_rfl) (pack_c (g := g) (n := n) (r := r) (s.rat 0 rfl) (fun _ w3 e3 => ?_) fun hok v w3 hv e3 hf => ?_)
  · rw [extr0, extr1]
    refine not_ti (b := false) ?_
    rw [Bool.not_false]
    repeat with_reducible refine gs_tf ?_
    refine pick_ti ?_
    repeat with_reducible refine gs_tf ?_
    refine pick_ti ?_
    exact cndT (hK _ (s.ext0 e3).ext)
  obtain ⟨h1, h2, h3, h4, h5⟩ := hok
  have s := s.add (T := rK v (packB g.toNat n.toNat r)) hv e3 hf
  rw [extr0, extr1]
  refine not_ti (b := true) ?_
  refine gs_f ?_
  refine gs_f ?_
  rw [ilss]
  refine pick_fi ?_
  by_cases hq0 : q < 0
  · rw [decide_eq_true hq0]
    repeat with_reducible refine gs_tf ?_
    refine pick_ti ?_
    exact cndT (hK _ s.ext)
  rw [decide_eq_false hq0]
  refine gs_f ?_
  refine gs_f ?_
  rw [igtr]
  refine pick_fi ?_
  refine cond_d (fun _ => hK _ s.ext) (fun hq1 => ?_)
  have hk : needN r.length ≤ 45 := by unfold needN at h1 ⊢; split at h1 <;> first | exact absurd rfl h1 | (split <;> omega)
  obtain ⟨g, rfl⟩ : ∃ k : Nat, g = k := ⟨g.toNat, by omega⟩
  obtain ⟨n, rfl⟩ : ∃ k : Nat, n = k := ⟨n.toNat, by omega⟩
  obtain ⟨q, rfl⟩ : ∃ k : Nat, q = k := ⟨q.toNat, by omega⟩
  rw [Int.toNat_natCast, Int.toNat_natCast] at s
  have h64 := packB_64 g n r
  have hpl := packB_length g n r
  refine iand 10 (by decide) ?_
  rw [(OwnAt.rd (s.at 0 rfl)).lenw, hpl]
  obtain ⟨a', ha⟩ : ∃ k : Nat, a % 2 ^ 10 = k := ⟨(a % 2 ^ 10).toNat, by omega⟩
  rw [ha]
  refine nrem (by omega) ?_
  have hj : a' % needN r.length < (packB g n r).length := by rw [hpl]; exact Nat.mod_lt _ (by omega)
  generalize a' % needN r.length = j at *
  obtain ⟨b1, o1, i1, l1⟩ := RdSl.secAt (OwnAt.rd (s.at 0 rfl)) h64 hj .i64
  refine i1 _ ?_
  refine l1 _ ?_
  have hsec : (packB g n r)[j] = secB g (n + j) (partB (sealB r) j) := by simp [packB]
  have hpd := partB_le (sealB r) j
  have hlaw := @torn_law old g (n + j) (partB (sealB r) j) ho hpd (by omega) (by omega)
  rw [hsec]
  have hbl := secB_length g (n + j) hpd
  generalize secB g (n + j) (partB (sealB r) j) = b at *
  refine s.alloc zero_blk cellsK fun p17 w4 s _ => ?_
  refine s.storeAll 0 rfl (by rw [bc_length, hbl]) rfl (bc_one _) fun w5 s _ => ?_
  have s : Sep [] w w5 [rB p17 (bc b) 37, rK v (packB g n r), rB p7 (bc old) 37] [rR x 1 (bc r) r.length] := s
  have s := s.drop 1
  have s : Sep [] w w5 [rB p17 (bc b) 37, rB p7 (bc old) 37] [rR x 1 (bc r) r.length] := s
  have hb17 : Blk w5 p17 (bc b) 37 := s.at 0 rfl
  have hb7 : Blk w5 p7 (bc old) 37 := s.at 1 rfl
  refine slA_to (k := 4) (by decide) ?_
  refine slA_to (k := 4) (by decide) ?_
  have r1 := hb17.part (l := 0) (k := 4) (c := 64) (by omega) (by decide) (by omega)
  have r2 := hb7.part (l := 0) (k := 4) (c := 64) (by omega) (by decide) (by omega)
  rw [List.drop_zero] at r1 r2
  refine fnW_of (by kernel_rfl) (sameBytes_c r2 r1 (by rw [List.length_take]; omega) fun w6 e6 => ?_)
  have s := s.ext0 e6
  by_cases hs1 : old.take 4 = b.take 4
  · rw [decide_eq_true hs1]
    repeat with_reducible refine gs_tf ?_
    refine pick_ti ?_
    exact cndT (hK _ s.ext)
  rw [decide_eq_false hs1]
  refine gs_f ?_
  refine slA_cut (l := 56) (h := 60) (by decide) (by decide) (by decide) ?_
  refine gs_f ?_
  refine gs_f ?_
  have hb17 : Blk w6 p17 (bc b) 37 := s.at 0 rfl
  have hb7 : Blk w6 p7 (bc old) 37 := s.at 1 rfl
  have r1 := hb17.part (l := 0) (k := 4) (c := 64) (by omega) (by decide) (by omega)
  have r2 := hb7.part (l := 56) (k := 4) (c := 8) (by omega) (by decide) (by omega)
  rw [List.drop_zero] at r1
  refine fnW_of (by kernel_rfl) (sameBytes_c r2 r1 (by rw [List.length_take, List.length_drop]; omega) fun w7 e7 => ?_)
  have s := s.ext0 e7
  refine pick_fi ?_
  refine cond_d (fun _ => hK _ s.ext) (fun hs2 => ?_)
  refine s.loadAll 1 rfl (by rw [bc_length, ho]) ?_
  refine s.alloc zero_blk cellsK fun p19 w8 s _ => ?_
  refine s.storeAll 0 rfl (by rw [bc_length, ho]) rfl (bc_one _) fun w9 s _ => ?_
  have s : Sep [] w w9 [rB p19 (bc old) 37, rB p17 (bc b) 37, rB p7 (bc old) 37] [rR x 1 (bc r) r.length] := s
  refine bindX_i fun J0 g0 => bindX_i fun J1 g1 => bindX_i fun J2 g2 => ?_
  refine loop_i (fun m fr wr => ∃ i : Nat, m = q - i ∧ i ≤ q ∧ fr 1 = .int .i64 g ∧ fr 5 = .int .i64 q ∧ fr 6 = .bool e ∧ fr 17 = .pointer (some ⟨p17, 0, none⟩) ∧ fr 19 = .pointer (some ⟨p19, 0, none⟩) ∧ fr 20 = .int .i64 i ∧
    Sep [] w wr [rB p19 (bc (tornB old b i e)) 37, rB p17 (bc b) 37, rB p7 (bc old) 37] [rR x 1 (bc r) r.length]) q ?_ ?_
  · exact ⟨0, rfl, by omega, rfl, rfl, rfl, rfl, rfl, rfl, by rw [tornB_zero ho hbl]; exact s⟩
  · rintro m fr wr J ⟨i, rfl, hi, f1, f5, f6, f17, f19, f20, s⟩ hJ hX
    have htl := tornB_length ho hbl (show i ≤ 64 by omega) e
    rw [f20, f5]
    refine nlss (cond_d (fun hlt => ?_) (fun hlt => ?_))
    · refine bindX_i fun J3 g3 => bindX_i fun J4 g4 => ?_
      rw [f6, f17, f19]
      have hnext : ∀ (fr' : Fr) (wr' : World), fr' 1 = .int .i64 g → fr' 5 = .int .i64 q → fr' 6 = .bool e → fr' 17 = .pointer (some ⟨p17, 0, none⟩) → fr' 19 = .pointer (some ⟨p19, 0, none⟩) → fr' 20 = .int .i64 i →
          Sep [] w wr' [rB p19 (bc (tornB old b (i + 1) e)) 37, rB p17 (bc b) 37, rB p7 (bc old) 37] [rR x 1 (bc r) r.length] → J3 .normal fr' wr' := by
        intro fr' wr' k1 k5 k6 k17 k19 k20 s'
        refine g3 _ _ _ (seqX_n ?_)
        show binN _ _ _ _ (fr' 20) _ _ _
        rw [k20]
        refine nadd (y := 1) (by omega) ?_
        exact hJ (q - (i + 1)) _ _ (by omega) ⟨i + 1, rfl, by omega, k1, k5, k6, k17, k19, rfl, s'⟩
      cases e with
      | true =>
        refine cndT ?_
        refine nsub (x := 63) (by omega) (by omega) ?_
        refine nsub (x := 63) (by omega) (by omega) ?_
        refine idxA1 (i := 63 - i) (by omega) ?_
        refine s.load1 (v := bv (b.getD (63 - i) 0)) 1 rfl (getD_lt (by omega)) ?_
        refine idxA1 (i := 63 - i) (by omega) ?_
        refine s.store1 0 rfl rfl (by rw [bc_length]; omega) rfl fun w10 s _ => ?_
        rw [bc_set, tornB_end ho hbl (by omega)] at s
        exact hnext _ _ f1 f5 f6 f17 f19 f20 s
      | false =>
        refine cndF ?_
        refine idxA1 (i := i) (by omega) ?_
        refine s.load1 (v := bv (b.getD i 0)) 1 rfl (getD_lt (by omega)) ?_
        refine idxA1 (i := i) (by omega) ?_
        refine s.store1 0 rfl rfl (by rw [bc_length]; omega) rfl fun w10 s _ => ?_
        rw [bc_set, tornB_begin ho hbl (by omega)] at s
        exact hnext _ _ f1 f5 f6 f17 f19 f20 s
    · obtain rfl : i = q := by omega
      refine hX _ _ _ (by simp) (g2 _ _ _ (g1 _ _ _ (seqX_n ?_)))
      have hlaw := hlaw hs1 hs2 (show i ≤ 63 by omega) e
      generalize tornB old b i e = y at *
      show loadW _ (fr 19) _ _
      rw [f19]
      refine s.loadAll 0 rfl (by rw [bc_length, htl]) ?_
      refine fnW_of (by kernel_rfl) (mark_c htl fun w11 e11 => ?_)
      have s := s.ext0 e11
      refine extr_i rfl ?_
      refine extr_i rfl ?_
      refine extr_i rfl ?_
      refine not_ti ?_
      have hm3 : (markB y).2.2 = wholeB y := by unfold markB; cases wholeB y <;> rfl
      rw [hm3]
      cases hw : wholeB y with
      | false =>
        rw [Bool.not_false]
        iterate 2 ((repeat with_reducible refine gs_tf ?_); refine pick_ti ?_)
        exact hK _ s.ext
      | true =>
        rw [Bool.not_true]
        refine gs_f ?_
        refine gs_f ?_
        refine gs_f ?_
        show binN _ _ _ _ _ (fr 1) _ _
        rw [f1]
        refine nneq ?_
        refine pick_fi ?_
        by_cases hge : (markB y).1 = g
        · rw [decide_eq_false (by simpa using hge)]
          refine gs_f ?_
          show loadW _ (fr 19) _ _
          rw [f19]
          refine s.loadAll 0 rfl (by rw [bc_length, htl]) ?_
          refine gs_f ?_
          show loadW _ (fr 17) _ _
          rw [f17]
          refine s.loadAll 1 rfl (by rw [bc_length, hbl]) ?_
          refine gs_f ?_
          refine blk_eql htl hbl ?_
          rw [decide_eq_true (hlaw hw hge)]
          refine pick_fi ?_
          exact hK _ s.ext
        · rw [decide_eq_true (by simpa using hge)]
          iterate 1 ((repeat with_reducible refine gs_tf ?_); refine pick_ti ?_)
          exact hK _ s.ext
end Go.Proofs.YtedebapgmfnflaaDoor
