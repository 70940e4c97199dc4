/- The laws of sha: parts; its walk. -/
import Derived.Test.YtedebapgmfnflaaT2
import Derived.Test.YtedebapgmfnflaaH5
namespace Go.Proofs.Ytedebapgmfnflaa
open Go
set_option maxRecDepth 100000

set_option maxHeartbeats 2000000 in
theorem parts_walk1 {w : World} {K : VPost} {v : Value} {hs : List Value} {ls : List Bytes} (hv : RowsR w v hs ls) (hls : ls.length ≤ 2 ^ 44) (hb : ∀ l ∈ ls, l.length ≤ 140737488351232) (hK : ∀ w', Ext [] w w' → K (.bool true) w') :
    Calls Try.prog 8 #[v] w (retK K) := by
  refine c8_calls _ w K ?_
  unfold c8
  refine fnW_of (by kernel_rfl) (alive1_c fun w1 e => ?_)
  have s := (Sep.zero1 (U := rW v hs ls) hv).ext0 e
  rw [notN, Bool.not_true, condW_f]
  refine fnW_of (by kernel_rfl) (rows_c (s.rat 0 rfl) hls hb 4000 (by decide) fun r hr => ?_)
  rw [igtr]
  refine cond_d (fun _ => hK _ s.ext) (fun hle => ?_)
  replace hr := hr (by omega)
  obtain ⟨va, vc, hva⟩ := hv.len
  have hlen : ∀ (w : World) (K : VPost), lenW Try.prog (some true) #[56] 3 #[v] w K = K (.int .i64 ls.length) w := fun w K => by rw [hva, len_s]
  have hfl : ∀ i, (ls.take i).flatten.length ≤ ls.flatten.length := by
    intro i
    have : ls = ls.take i ++ ls.drop i := (List.take_append_drop _ _).symm
    conv => rhs; rw [this, List.flatten_append, List.length_append]
    omega
  refine s.hnew fun p F w2 s hF => ?_
  refine s.litB [] rfl (by decide) fun va0 w3 s _ _ => ?_
  rw [ptr_eql_nil und_phash, condW_f]
  have s : Sep [] w w3 [rO va0 5 1 (bc []) 0, rH p F (hm [])] [rW v hs ls] := s
  refine bindX_i fun J0 h0 => bindX_i fun J1 h1 => bindX_i fun J2 h2 => ?_
  -- behind the parts
  have tail : ∀ (fr : Fr) (wr : World) (F : List Nat) (va0 : Value), fr 0 = v → fr 3 = .pointer (some ⟨p, 0, none⟩) → Sep [] w wr [rO va0 5 1 (bc ls.flatten) ls.flatten.length, rH p F (hm ls.flatten)] [rW v hs ls] → J1 .normal fr wr := by
    intro fr wr F va0 f0 f3 s
    refine seq_n h1 ?_
    refine s.hnew fun q G w4 s hG => ?_
    rw [ptr_eql_nil und_phash, condW_f, f0, f3]
    refine fnW_of (by kernel_rfl) (writeH_c (s.at 0 rfl) (s.rat 0 rfl) (fun c hc => s.disR (rH q G (hm [])) (by simp) (rW v hs ls) (by simp) c hc) (by rw [List.length_nil]; omega) (by omega) fun G2 w5 h2 m2 => ?_)
    rw [List.nil_append] at h2
    have s := s.upd 0 rfl (T' := rH q G2 (hm ls.flatten)) h2 m2.ext m2.own
    refine s.hsum 0 rfl (by omega) fun w6 s => ?_
    refine s.hsum 2 rfl (by omega) fun w7 s => ?_
    refine dig_eql (digest_length _) (digest_length _) ?_
    rw [decide_eq_true rfl]
    exact hK _ s.ext
  refine loop_i (fun m fr wr => ∃ (i : Nat) (F : List Nat) (va0 : Value), m = ls.length - i ∧ i ≤ ls.length ∧ fr 0 = v ∧ fr 3 = .pointer (some ⟨p, 0, none⟩) ∧ fr 4 = va0 ∧ fr 5 = .int .i64 i ∧
    Sep [] w wr [rO va0 5 1 (bc (ls.take i).flatten) (ls.take i).flatten.length, rH p F (hm (ls.take i).flatten)] [rW v hs ls]) ls.length ?_ ?_
  · exact ⟨0, F, va0, rfl, by omega, rfl, rfl, rfl, rfl, s⟩
  · rintro m fr wr J ⟨i, F, va0, rfl, hi, f0, f3, f4, f5, s⟩ hJ hX
    rw [f0, f5, hlen]
    refine nlss (cond_d (fun hlt => ?_) (fun hlt => ?_))
    · have hlt2 : (ls.take (i + 1)).flatten.length = (ls.take i).flatten.length + ls[i].length := by rw [flat_take _ _ hlt, List.length_append]
      have hfi := hfl (i + 1)
      refine bindX_i fun J3 h3 => bindX_i fun J4 h4 => ?_
      have fin : ∀ (fr : Fr) (wr : World) (F : List Nat) (va0 : Value), fr 0 = v → fr 3 = .pointer (some ⟨p, 0, none⟩) → fr 4 = va0 → fr 5 = .int .i64 i → Sep [] w wr [rO va0 5 1 (bc (ls.take (i + 1)).flatten) (ls.take (i + 1)).flatten.length, rH p F (hm (ls.take (i + 1)).flatten)] [rW v hs ls] → J3 .normal fr wr := by
        intro fr wr F va0 f0 f3 f4 f5 s
        refine seq_n h3 ?_
        rw [f5]
        refine nadd (y := 1) (by omega) ?_
        exact hJ (ls.length - (i + 1)) _ _ (by omega) ⟨i + 1, F, va0, rfl, by omega, f0, f3, f4, rfl, s⟩
      obtain ⟨b, o, r, hix, hld, hr1, hc, hf⟩ := RowsR.elem (s.rat 0 rfl) hlt .i64
      refine hix _ ?_
      refine hld _ ?_
      refine fnW_of (by kernel_rfl) (copyBytes_c hr1 (by omega) fun v28 w4 hv28 e hf28 => ?_)
      have s := s.add (T := rO v28 5 1 (bc ls[i]) ls[i].length) hv28.at e hf28
      have hdis := (List.pairwise_cons.1 s.dis).1 (rH p F (hm (ls.take i).flatten)) (by simp)
      have e9 : ([ls[i]] : List Bytes).flatten = ls[i] := by simp
      rw [f3]
      refine s.hwrite (vs := [v28]) (ls := [ls[i]]) 2 rfl rfl ⟨⟨OwnAt.rd (s.at 0 rfl), OwnAt.cap (s.at 0 rfl)⟩, trivial⟩ (fun c hc hcm => ?_) (by simp) (by rw [e9]; omega) fun F2 t u w5 s => ?_
      · simp only [rowsF, List.append_nil] at hcm
        exact hdis c (rdB_slB hcm) hc
      have e1 : (ls.take i).flatten ++ [ls[i]].flatten = (ls.take (i + 1)).flatten := by rw [flat_take _ _ hlt]; simp
      rw [e1] at s
      refine bindX_i fun J5 h5 => bindX_i fun J6 h6 => ?_
      refine loop_i (fun m fr wr => ∃ (k : Nat) (l : Bytes), m = ls[i].length - k ∧ k ≤ ls[i].length ∧ fr 0 = v ∧ fr 3 = .pointer (some ⟨p, 0, none⟩) ∧ fr 4 = va0 ∧ fr 5 = .int .i64 i ∧ fr 6 = v28 ∧ fr 7 = .int .i64 k ∧
        Sep [] w wr [rO v28 5 1 (bc l) ls[i].length, rO va0 5 1 (bc (ls.take i).flatten) (ls.take i).flatten.length, rH p F2 (hm (ls.take (i + 1)).flatten)] [rW v hs ls]) ls[i].length ?_ ?_
      · exact ⟨0, ls[i], rfl, by omega, f0, f3, f4, f5, rfl, rfl, s⟩
      · rintro m fr wr I ⟨k, l, rfl, hk, g0, g3, g4, g5, g6, g7, s⟩ hI hY
        rw [g6, g7]
        obtain ⟨oa, oc, hoa⟩ := (OwnAt.rd (s.at 0 rfl)).len
        have hlen2 : ∀ (w : World) (K : VPost), lenW Try.prog (some true) #[34] 3 #[v28] w K = K (.int .i64 ls[i].length) w := fun w K => by rw [hoa, len_s]
        rw [hlen2]
        refine nlss (cond_d (fun hk1 => ?_) (fun hk1 => ?_))
        · obtain ⟨b2, o2, hix2, hld2, hst2⟩ := s.byteAt 0 rfl hk1 .i64
          refine hix2 _ ?_
          refine hld2 _ ?_
          rw [show (Value.int .u8 1) = bv 1 from rfl, u8_add]
          refine hix2 _ ?_
          refine hst2 _ _ _ fun w6 s => ?_
          refine nadd (y := 1) (by omega) ?_
          exact hI (ls[i].length - (k + 1)) _ _ (by omega) ⟨k + 1, _, rfl, by omega, g0, g3, g4, g5, g6, rfl, s⟩
        · have rest : ∀ (fr : Fr), fr 0 = v → fr 3 = .pointer (some ⟨p, 0, none⟩) → fr 4 = va0 → fr 5 = .int .i64 i → J5 .normal fr wr := by
            intro fr g0 g3 g4 g5
            refine seq_n h5 ?_
            rw [g0, g3, g4, g5]
            have s := s.drop 0
            have s : Sep [] w wr [rO va0 5 1 (bc (ls.take i).flatten) (ls.take i).flatten.length, rH p F2 (hm (ls.take (i + 1)).flatten)] [rW v hs ls] := s
            obtain ⟨b, o, r, hix, hld, hr1, hc, hf⟩ := RowsR.elem (s.rat 0 rfl) hlt .i64
            refine hix _ ?_
            refine hld _ ?_
            obtain ⟨ui, hui, huz, husz, huby⟩ := tyI_spec ty_u8
            refine s.appendO (v := va0) (n := (ls.take i).flatten.length) (m := ls[i].length) (ys := bc ls[i]) (xs := bc (ls.take i).flatten) 0 (by rw [husz]; rfl) und_u8s und_u8s hui huz (by rw [husz]; rfl) (by rw [huby]; decide) (by rw [husz]; exact hr1) (bc_one _) (by rw [huby]; omega) fun v2 w8 s => ?_
            rw [husz, ← bc_append, ← flat_take _ _ hlt, ← hlt2] at s
            have s : Sep [] w w8 [rO v2 5 1 (bc (ls.take (i + 1)).flatten) (ls.take (i + 1)).flatten.length, rH p F2 (hm (ls.take (i + 1)).flatten)] [rW v hs ls] := s
            obtain ⟨qa, qc, hqa⟩ := (OwnAt.rd (s.at 0 rfl)).len
            have hlen3 : ∀ (w : World) (K : VPost), lenW Try.prog (some true) #[34] 3 #[v2] w K = K (.int .i64 (ls.take (i + 1)).flatten.length) w := fun w K => by rw [hqa, len_s]
            have hn36 : (ls.take (i + 1)).flatten.length ≤ 2 ^ 36 := by omega
            refine s.hlen 1 rfl ?_
            rw [hlen3]
            refine nneq ?_
            rw [decide_eq_false (by simp)]
            refine gs_f ?_
            refine gs_f ?_
            refine s.hsum 1 rfl hn36 fun w9 s => ?_
            refine gs_f ?_
            refine gs_f ?_
            refine fnW_of (by kernel_rfl) (sum_c (OwnAt.rd (s.at 0 rfl)) (OwnAt.cap (s.at 0 rfl)) hn36 fun w10 e => ?_)
            have s := s.ext0 e
            refine gs_f ?_
            refine dig_neq (digest_length _) (digest_length _) ?_
            rw [decide_eq_true rfl, Bool.not_true, pickW_f]
            refine gs_f ?_
            refine gs_f ?_
            refine s.hsum 1 rfl hn36 fun w11 s => ?_
            refine gs_f ?_
            refine gs_f ?_
            refine s.hsum 1 rfl hn36 fun w12 s => ?_
            refine gs_f ?_
            refine dig_neq (digest_length _) (digest_length _) ?_
            rw [decide_eq_true rfl, Bool.not_true, pickW_f, condW_f]
            exact fin _ _ F2 v2 g0 g3 rfl g5 s
          exact hY _ _ _ (by simp) (h6 _ _ _ (blk_x (rest _ g0 g3 g4 g5)))
    · obtain rfl : i = ls.length := by omega
      rw [List.take_length] at s
      exact hX _ _ _ (by simp) (h2 _ _ _ (blk_x (tail _ _ F va0 f0 f3 s)))
end Go.Proofs.Ytedebapgmfnflaa
