/- Frames by the document: the walks; rows compared and measured. -/
import Derived.Test.YtedebapgmfnflaaT8
import Derived.Test.YtedebapgmfnflaaCB
namespace Go.Proofs.Ytedebapgmfnflaa
open Go
set_option maxRecDepth 100000

theorem flat_take (ls : List Bytes) (i : Nat) (h : i < ls.length) : (ls.take (i + 1)).flatten = (ls.take i).flatten ++ ls[i] := by
  rw [List.take_succ_eq_append_getElem h, List.flatten_append]; simp

theorem rows_c {w : World} {K : VPost} {v : Value} {hs : List Value} {ls : List Bytes} (hv : RowsR w v hs ls) (hls : ls.length ≤ 2 ^ 44) (hb : ∀ l ∈ ls, l.length ≤ 140737488351232) (most : Nat) (hm : most ≤ 2 ^ 40)
    (hK : ∀ r : Int, (r ≤ most → ls.flatten.length + ls.length ≤ most) → K (.int .i64 r) w) : Calls Try.prog 41 #[v, .int .i64 most] w (retK K) := by
  refine c41_calls _ _ w K ?_
  unfold c41
  obtain ⟨va, vc, hva⟩ := hv.len
  have hlen : ∀ (w : World) (K : VPost), lenW Try.prog (some true) #[56] 3 #[v] w K = K (.int .i64 ls.length) w := fun w K => by rw [hva, len_s]
  rw [hlen]
  refine ngtr (cond_d (fun hgt => ?_) (fun hgt => ?_))
  · refine nadd (y := 1) (by omega) ?_
    exact hK _ (fun h => by omega)
  · refine bindX_i fun J0 h0 => bindX_i fun J1 h1 => bindX_i fun J2 h2 => ?_
    refine loop_i (fun m fr wr => ∃ (i n : Nat), m = ls.length - i ∧ i ≤ ls.length ∧ n = (ls.take i).flatten.length + i ∧ n ≤ most + 140737488351233 ∧ fr 0 = v ∧ fr 1 = .int .i64 most ∧ fr 5 = .int .i64 n ∧ fr 6 = .int .i64 i ∧ w = wr) ls.length ?_ ?_
    · exact ⟨0, 0, rfl, by omega, rfl, by omega, rfl, rfl, rfl, rfl, rfl⟩
    · rintro m fr wr J ⟨i, n, rfl, hi, hn, hnm, f0, f1, f5, f6, rfl⟩ hJ hX
      rw [f0, f1, f5, f6, hlen]
      have tail : ∀ fr : Fr, fr 5 = .int .i64 n → ((n : Int) ≤ most → ls.flatten.length + ls.length ≤ most) → J1 .normal fr w := by
        intro fr f5 h
        refine seq_n h1 ?_
        rw [f5]
        exact hK _ h
      refine nlss ?_
      by_cases hlt : i < ls.length
      · rw [decide_eq_true hlt]
        refine gs_t ?_
        refine gs_t ?_
        refine gs_t ?_
        refine nleq ?_
        rw [pickW_t]
        refine cond_d (fun hle => ?_) (fun hle => ?_)
        · obtain ⟨b, o, r, hix, hld, hr, hc, hf⟩ := hv.elem hlt .i64
          refine hix _ ?_
          refine hld _ ?_
          obtain ⟨ra, rc, hra⟩ := hr.len
          rw [hra, len_s]
          have hbl := hb ls[i] (List.getElem_mem hlt)
          refine nadd (x := 1) (by omega) ?_
          refine nadd (by omega) ?_
          refine nadd (y := 1) (by omega) ?_
          refine hJ (ls.length - (i + 1)) _ _ (by omega) ⟨i + 1, n + (1 + ls[i].length), rfl, by omega, ?_, by omega, f0, f1, rfl, rfl, rfl⟩
          rw [flat_take _ _ hlt, List.length_append]; omega
        · exact hX _ _ _ (by simp) (h2 _ _ _ (blk_x (tail _ f5 (fun h => by omega))))
      · rw [decide_eq_false hlt]
        refine gs_ft ?_
        refine gs_ft ?_
        refine gs_ft ?_
        rw [pickW_f, condW_f]
        obtain rfl : i = ls.length := by omega
        refine hX _ _ _ (by simp) (h2 _ _ _ (blk_x (tail _ f5 (fun h => ?_))))
        rw [List.take_length] at hn
        omega


theorem frameL_flat (ls : List Bytes) : (frameL ls).length = 4 * ls.length + ls.flatten.length := frameL_length ls

theorem same_c {w : World} {K : VPost} {v v' : Value} {hs hs' : List Value} {ls ls' : List Bytes} (hv : RowsR w v hs ls) (hv' : RowsR w v' hs' ls') (hl : ls.length < 2 ^ 62) (hb : ∀ l ∈ ls, l.length < 2 ^ 62)
    (hK : ∀ w', Ext [] w w' → K (.bool (decide (ls = ls'))) w') : Calls Try.prog 68 #[v, v'] w (retK K) := by
  refine c68_calls _ _ w K ?_
  unfold c68
  obtain ⟨a, c, hva⟩ := hv.len
  obtain ⟨a', c', hva'⟩ := hv'.len
  have hl1 : ∀ (w : World) (K : VPost), lenW Try.prog (some true) #[56] 3 #[v] w K = K (.int .i64 ls.length) w := fun w K => by rw [hva, len_s]
  have hl2 : ∀ (w : World) (K : VPost), lenW Try.prog (some true) #[56] 3 #[v'] w K = K (.int .i64 ls'.length) w := fun w K => by rw [hva', len_s]
  rw [hl1, hl2]
  refine nneq (cond_d (fun hne => ?_) (fun heq => ?_))
  · have := hK w (Ext.refl _ _)
    rw [decide_eq_false (fun e => hne (by rw [e]))] at this
    exact this
  have heq : ls.length = ls'.length := by simpa using heq
  refine bindX_i fun J0 h0 => bindX_i fun J1 h1 => bindX_i fun J2 h2 => ?_
  refine loop_i (fun m fr wr => ∃ k : Nat, m = ls.length - k ∧ k ≤ ls.length ∧ fr 0 = v ∧ fr 1 = v' ∧ fr 5 = .int .i64 k ∧ ls.take k = ls'.take k ∧ Ext [] w wr) ls.length ?_ ?_
  · exact ⟨0, rfl, Nat.zero_le _, rfl, rfl, rfl, rfl, Ext.refl _ _⟩
  · rintro m fr wr J ⟨k, rfl, hk, f0, f1, f5, hq, e1⟩ hJ hX
    rw [f0, f1, f5, hl1]
    refine nlss (cond_d (fun hlt => ?_) (fun hlt => ?_))
    · have e2 : Ext [] w wr.drew := e1.new (Ext.drew _ _)
      generalize wr.drew = w2 at *
      obtain ⟨b, o, r, hix, hld, hr, hc, hf⟩ := RowsR.elem ((rW v hs ls).keep hv e2 (by simp)) hlt .i64
      refine hix _ ?_
      refine hld _ ?_
      obtain ⟨b', o', r', hix', hld', hr', hc', hf'⟩ := RowsR.elem ((rW v' hs' ls').keep hv' e2 (by simp)) (show k < ls'.length by omega) .i64
      refine hix' _ ?_
      refine hld' _ ?_
      refine fnW_of (by kernel_rfl) (sameBytes_c hr hr' (hb _ (List.getElem_mem hlt)) fun w3 e3 => ?_)
      have e3 := e2.new e3
      rw [notN]
      cases hc2 : decide (ls[k] = ls'[k]'(by omega)) with
      | false =>
        rw [Bool.not_false, condW_t]
        have hne := of_decide_eq_false hc2
        refine hX _ _ _ (by simp) (h2 _ _ _ (h1 _ _ _ (h0 _ _ _ ?_)))
        have := hK w3 e3
        rw [decide_eq_false (fun e => hne (by subst e; rfl))] at this
        exact this
      | true =>
        rw [Bool.not_true, condW_f]
        have he := of_decide_eq_true hc2
        refine nadd (y := 1) (by omega) ?_
        exact hJ (ls.length - (k + 1)) _ _ (by omega) ⟨k + 1, rfl, hlt, f0, f1, rfl, by rw [List.take_succ_eq_append_getElem hlt, List.take_succ_eq_append_getElem (by omega), hq, he], e3⟩
    · obtain rfl : k = ls.length := by omega
      refine hX _ _ _ (by simp) (h2 _ _ _ (blk_x (seq_n h1 ?_)))
      have := hK wr e1
      rw [List.take_length, heq, List.take_length] at hq
      rw [decide_eq_true hq] at this
      exact this

theorem four_c {w : World} {K : VPost} {n : Nat} (hn : n < 2 ^ 62) (hK : ∀ v w', OwnAt w' v 5 1 (bc (le4 n)) 4 → Ext [] w w' → (∀ b ∈ slB v, w.heap.size ≤ b) → K v w') : Calls Try.prog 96 #[.int .i64 n] w (retK K) := by
  refine c96_calls _ w K ?_
  unfold c96
  rw [conv_byte und_int und_u8]
  refine nquo (y := 256) (by decide) (by omega) ?_
  rw [conv_byte und_int und_u8]
  refine nquo (y := 65536) (by decide) (by omega) ?_
  rw [conv_byte und_int und_u8]
  refine nquo (y := 16777216) (by decide) (by omega) ?_
  rw [conv_byte und_int und_u8]
  have e : le4 n = [UInt8.ofNat n, UInt8.ofNat (n / 256), UInt8.ofNat (n / 65536), UInt8.ofNat (n / 16777216)] := by
    unfold le4
    simp only [Nat.shiftRight_eq_div_pow]
  rw [e] at hK
  exact (Sep.nil w).litB [UInt8.ofNat n, UInt8.ofNat (n / 256), UInt8.ofNat (n / 65536), UInt8.ofNat (n / 16777216)] rfl (by simp) fun t w1 s _ _ => hK t w1 (s.at 0 rfl) s.ext (s.fresh 0 rfl)

set_option maxHeartbeats 1000000 in
theorem rframe_c {w : World} {K : VPost} {v : Value} {hs : List Value} {ls : List Bytes} (hv : RowsR w v hs ls) (hn : (frameL ls).length ≤ 2 ^ 30)
    (hK : ∀ v' w', OwnAt w' v' 5 1 (bc (frameB ls)) (frameB ls).length → Ext [] w w' → (∀ b ∈ slB v', w.heap.size ≤ b) → K v' w') : Calls Try.prog 69 #[v] w (retK K) := by
  refine c69_calls _ w K ?_
  unfold c69
  obtain ⟨va, vc, hva⟩ := hv.len
  have hlen : ∀ (w : World) (K : VPost), lenW Try.prog (some true) #[56] 3 #[v] w K = K (.int .i64 ls.length) w := fun w K => by rw [hva, len_s]
  have hfl := frameL_length ls
  rw [hlen]
  refine fnW_of (by kernel_rfl) (four_c (by omega) fun v0 w1 hv0 e hf => ?_)
  have s := (Sep.zero1 (U := rW v hs ls) hv).add (T := rDb v0 (le4 ls.length)) hv0 e hf
  refine bindX_i fun J0 h0 => bindX_i fun J1 h1 => bindX_i fun J2 h2 => ?_
  refine loop_i (fun m fr wr => ∃ (i : Nat) (v1 : Value), m = ls.length - i ∧ i ≤ ls.length ∧ fr 0 = v ∧ fr 3 = v1 ∧ fr 4 = .int .i64 i ∧ Sep [] w wr [rDb v1 (le4 ls.length ++ frameL (ls.take i))] [rW v hs ls]) ls.length ?_ ?_
  · exact ⟨0, v0, rfl, by omega, rfl, rfl, rfl, by rw [List.take_zero, show frameL [] = [] from rfl, List.append_nil]; exact s⟩
  · rintro m fr wr J ⟨i, v1, rfl, hi, f0, f3, f4, s⟩ hJ hX
    rw [f0, f3, f4, hlen]
    refine nlss (cond_d (fun hlt => ?_) (fun hlt => ?_))
    · obtain ⟨b, o, r, hix, hld, hr1, hcr, hfr⟩ := RowsR.elem (s.rat 0 rfl) hlt .i64
      refine hix _ ?_
      refine hld _ ?_
      obtain ⟨ra, rc, hra⟩ := hr1.len
      rw [hra, len_s, ← hra]
      have htk := frameL_take ls (i + 1)
      have hsn : frameL (ls.take (i + 1)) = frameL (ls.take i) ++ le4 ls[i].length ++ ls[i] := by rw [List.take_succ_eq_append_getElem hlt, frameL_snoc]
      have hsl : (frameL (ls.take (i + 1))).length = (frameL (ls.take i)).length + 4 + ls[i].length := by rw [hsn, List.length_append, List.length_append, le4_length]
      refine fnW_of (by kernel_rfl) (four_c (by omega) fun v2 w2 hv2 e hf => ?_)
      have s := s.add (T := rDb v2 (le4 ls[i].length)) hv2 e hf
      refine s.apB (v := v1) (l := le4 ls.length ++ frameL (ls.take i)) (y := le4 ls[i].length) 1 rfl (OwnAt.rd (s.at 0 rfl)) (by rw [List.length_append, le4_length, le4_length]; omega) fun v3 w3 s => ?_
      have s := s.drop 0
      have s : Sep [] w w3 [rDb v3 (le4 ls.length ++ frameL (ls.take i) ++ le4 ls[i].length)] [rW v hs ls] := s
      obtain ⟨b, o, r, hix, hld, hr1, hcr, hfr⟩ := RowsR.elem (s.rat 0 rfl) hlt .i64
      refine hix _ ?_
      refine hld _ ?_
      refine s.apB (v := v3) (l := le4 ls.length ++ frameL (ls.take i) ++ le4 ls[i].length) (y := ls[i]) 0 rfl hr1 (by rw [List.length_append, List.length_append, le4_length, le4_length]; omega) fun v4 w4 s => ?_
      have e1 : le4 ls.length ++ frameL (ls.take i) ++ le4 ls[i].length ++ ls[i] = le4 ls.length ++ frameL (ls.take (i + 1)) := by rw [hsn]; simp
      rw [e1] at s
      refine nadd (y := 1) (by omega) ?_
      exact hJ (ls.length - (i + 1)) _ _ (by omega) ⟨i + 1, v4, rfl, by omega, f0, rfl, rfl, s⟩
    · obtain rfl : i = ls.length := by omega
      refine hX _ _ _ (by simp) (h2 _ _ _ (blk_x (seq_n h1 ?_)))
      rw [List.take_length] at s
      show K (fr 3) wr
      rw [f3]
      exact hK v1 wr (s.at 0 rfl) s.ext (s.fresh 0 rfl)

theorem rnode_c {w : World} {K : VPost} {kind : UInt8} {v : Value} {hs : List Value} {ls : List Bytes} (hv : RowsR w v hs ls) (hn : (frameL ls).length ≤ 2 ^ 30)
    (hK : ∀ w', Ext [] w w' → K (.agg (bc (digest (kind :: frameB ls))).toArray) w') : Calls Try.prog 71 #[bv kind, v] w (retK K) := by
  refine c71_calls _ _ w K ?_
  unfold c71
  refine (Sep.zero1 (U := rW v hs ls) hv).alloc zero_dig cells_dig fun b4 w1 s _ => ?_
  refine s.litB [kind] rfl (by simp) fun t w2 s _ _ => ?_
  refine fnW_of (by kernel_rfl) (rframe_c (s.rat 0 rfl) hn fun v2 w3 hv2 e hf => ?_)
  have s := s.add (T := rDb v2 (frameB ls)) hv2 e hf
  have hfb : (frameB ls).length = 4 + (frameL ls).length := by rw [frameB, List.length_append, le4_length]
  refine s.apB (v := t) (l := [kind]) (y := frameB ls) 1 rfl (OwnAt.rd (s.at 0 rfl)) (by simp; omega) fun v3 w4 s => ?_
  have h3 : OwnAt w4 v3 5 1 (bc (kind :: frameB ls)) (kind :: frameB ls).length := s.at 1 rfl
  refine fnW_of (by kernel_rfl) (rsum_c h3.rd (by simp; omega) fun w5 e => ?_)
  have s := s.ext0 e
  have hdl := digest_length (kind :: frameB ls)
  generalize digest (kind :: frameB ls) = dg at *
  refine s.storeAll 2 rfl (by rw [bc_length]; exact hdl) (by simp [bc]) (bc_one _) fun w7 s _ => ?_
  refine s.loadAll 2 rfl (by rw [bc_length]; exact hdl) ?_
  exact hK w7 s.ext
end Go.Proofs.Ytedebapgmfnflaa
