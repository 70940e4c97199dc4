/- The document's sector and pack: walks. Conditions: a sector's bytes are at most 46; the record is a slice. -/
import Derived.Test.YtedebapgmfnflaaDoorX1
namespace Go.Proofs.YtedebapgmfnflaaDoor
open Go
set_option maxRecDepth 100000

theorem build0_blk {w : World} {K : VPost} (h : K (.agg (bc (List.replicate 64 0)).toArray) w) : insW Tryd.prog (Instr.build 37 #[]) w K := by
  refine insW_ok (v := .agg (bc (List.replicate 64 0)).toArray) (w' := w) ?_ h
  kernel_rfl

theorem rep_snoc (k : Nat) (x : UInt8) : List.replicate k x ++ [x] = List.replicate (k + 1) x := (List.replicate_succ' ..).symm

set_option maxHeartbeats 1000000 in
theorem rsector_c {w : World} {K : VPost} {x : Value} {g n : Nat} {d : Bytes} (hg : g < 9223372036854775808) (hn : n < 9223372036854775808) (h : RdSl w x 1 (bc d) d.length) (hd : d.length ≤ 46)
    (hK : ∀ w', Ext [] w w' → K (.agg (bc (secB g n d)).toArray) w') : Calls Tryd.prog 74 #[.int .i64 g, .int .i64 n, x] w (retK K) := by
  refine c74_calls _ _ _ w K ?_
  unfold c74
  refine (Sep.zero1 (U := rR x 1 (bc d) d.length) h).alloc zero_blk cellsK fun p6 w1 s _ => ?_
  have s : Sep [] w w1 [rB p6 (bc (List.replicate 64 0)) 37] [rR x 1 (bc d) d.length] := s
  refine fnW_of (by kernel_rfl) (four_c hg fun v1 w2 hv1 e1 hf1 => ?_)
  have s := s.add (T := rDb v1 (beP 4 g)) hv1 e1 hf1
  refine fnW_of (by kernel_rfl) (four_c hn fun v2 w3 hv2 e2 hf2 => ?_)
  have s := s.add (T := rDb v2 (beP 4 n)) hv2 e2 hf2
  refine s.apB 1 rfl (OwnAt.rd (s.at 0 rfl)) (by rw [beP_length, beP_length]; decide) fun v3 w4 s => ?_
  have s := s.drop 0
  have s : Sep [] w w4 [rDb v3 (mkB g n), rB p6 (bc (List.replicate 64 0)) 37] [rR x 1 (bc d) d.length] := s
  refine fnW_of (by kernel_rfl) (copyBytes_c (OwnAt.rd (s.at 0 rfl)) (by rw [mkB_length]; decide) fun v4 w5 hv4 e4 hf4 => ?_)
  have s := s.add (T := rDb v4 (mkB g n)) hv4.at e4 hf4
  rw [h.lenw, conv_byte und_int und_u8]
  refine s.litB [0, UInt8.ofNat d.length] rfl (by simp) fun v5 w6 s _ _ => ?_
  have e2b : ([0, UInt8.ofNat d.length] : Bytes) = beP 2 d.length := by
    have h0 : d.length >>> (8 * 1) = 0 := by rw [Nat.shiftRight_eq_div_pow]; omega
    simp only [beP, h0]
    simp
  rw [e2b] at s
  have s : Sep [] w w6 [rO v5 5 1 (bc (beP 2 d.length)) 2, rDb v4 (mkB g n), rDb v3 (mkB g n), rB p6 (bc (List.replicate 64 0)) 37] [rR x 1 (bc d) d.length] := s
  have hr5 : RdSl w6 v5 1 (bc (beP 2 d.length)) (beP 2 d.length).length := by rw [beP_length]; exact OwnAt.rd (s.at 0 rfl)
  refine s.apB 2 rfl hr5 (by rw [mkB_length, beP_length]; decide) fun v6 w7 s => ?_
  have s := s.drop 0
  have s : Sep [] w w7 [rDb v4 (mkB g n), rDb v6 (mkB g n ++ beP 2 d.length), rB p6 (bc (List.replicate 64 0)) 37] [rR x 1 (bc d) d.length] := s
  refine s.apB 1 rfl (s.rat 0 rfl) (by rw [List.length_append, mkB_length, beP_length]; omega) fun v7 w8 s => ?_
  have s : Sep [] w w8 [rDb v4 (mkB g n), rDb v7 (mkB g n ++ beP 2 d.length ++ d), rB p6 (bc (List.replicate 64 0)) 37] [rR x 1 (bc d) d.length] := s
  have hbl : (mkB g n ++ beP 2 d.length ++ d).length = 10 + d.length := by simp only [List.length_append, mkB_length, beP_length]
  have hsec : secB g n d = (mkB g n ++ beP 2 d.length ++ d) ++ List.replicate (46 - d.length) 0 ++ mkB g n := by simp [secB]
  generalize mkB g n ++ beP 2 d.length ++ d = base at *
  refine bindX_i fun J0 g0 => bindX_i fun J1 g1 => bindX_i fun J2 g2 => ?_
  refine loop_i (fun m fr wr => ∃ (k : Nat) (v : Value), m = 46 - d.length - k ∧ k ≤ 46 - d.length ∧ fr 6 = .pointer (some ⟨p6, 0, none⟩) ∧ fr 7 = v ∧ fr 8 = v4 ∧ Sep [] w wr [rDb v4 (mkB g n), rDb v (base ++ List.replicate k 0), rB p6 (bc (List.replicate 64 0)) 37] [rR x 1 (bc d) d.length]) (46 - d.length) ?_ ?_
  · exact ⟨0, v7, rfl, by omega, rfl, rfl, rfl, by simpa using s⟩
  · rintro m fr wr J ⟨k, v, rfl, hk, f6, f7, f8, s⟩ hJ hX
    have hl : (base ++ List.replicate k 0).length = 10 + d.length + k := by rw [List.length_append, hbl, List.length_replicate]
    rw [f7, (OwnAt.rd (s.at 1 rfl)).lenw, hl]
    refine nlss (y := 56) (cond_d (fun hlt => ?_) (fun hlt => ?_))
    · refine s.litB [0] rfl (by decide) fun v8 w9 s _ _ => ?_
      have s : Sep [] w w9 [rO v8 5 1 (bc [0]) 1, rDb v4 (mkB g n), rDb v (base ++ List.replicate k 0), rB p6 (bc (List.replicate 64 0)) 37] [rR x 1 (bc d) d.length] := s
      refine s.apB (y := [0]) 2 rfl (OwnAt.rd (s.at 0 rfl)) (by rw [hl]; simp; omega) fun v9 w10 s => ?_
      have s := s.drop 0
      rw [List.append_assoc, rep_snoc] at s
      exact hJ (46 - d.length - (k + 1)) _ _ (by omega) ⟨k + 1, v9, rfl, by omega, f6, rfl, f8, s⟩
    · obtain rfl : k = 46 - d.length := by omega
      refine hX _ _ _ (by simp) (g2 _ _ _ (g1 _ _ _ (seqX_n ?_)))
      show insW _ (Builtin.append_ _ _ #[fr 7, fr 8]) _ _
      rw [f7, f8]
      refine s.apB 1 rfl (OwnAt.rd (s.at 0 rfl)) (by rw [hl, mkB_length]; omega) fun va wa s => ?_
      have s : Sep [] w wa [rDb v4 (mkB g n), rDb va (base ++ List.replicate (46 - d.length) 0 ++ mkB g n), rB p6 (bc (List.replicate 64 0)) 37] [rR x 1 (bc d) d.length] := s
      rw [← hsec] at s
      have hsl := secB_length g n hd
      generalize secB g n d = sec at *
      refine build0_blk ?_
      refine s.alloc zero_blk cellsK fun p9 wb s _ => ?_
      refine s.storeAll (vs := bc (List.replicate 64 0)) 0 rfl rfl rfl (bc_one _) fun wc s _ => ?_
      have s : Sep [] w wc [rB p9 (bc (List.replicate 64 0)) 37, rDb v4 (mkB g n), rDb va sec, rB p6 (bc (List.replicate 64 0)) 37] [rR x 1 (bc d) d.length] := s
      refine bindX_i fun J3 g3 => bindX_i fun J4 g4 => ?_
      refine loop_i (fun m fr wr => ∃ (i : Nat), m = 64 - i ∧ i ≤ 64 ∧ fr 6 = .pointer (some ⟨p6, 0, none⟩) ∧ fr 7 = va ∧ fr 9 = .pointer (some ⟨p9, 0, none⟩) ∧ fr 10 = .int .i64 i ∧
        Sep [] w wr [rB p9 (bc (sec.take i ++ List.replicate (64 - i) 0)) 37, rDb v4 (mkB g n), rDb va sec, rB p6 (bc (List.replicate 64 0)) 37] [rR x 1 (bc d) d.length]) 64 ?_ ?_
      · exact ⟨0, rfl, by omega, f6, rfl, rfl, rfl, s⟩
      · rintro m fr wr I ⟨i, rfl, hi, k6, k7, k9, k10, s⟩ hI hY
        rw [k10]
        refine nlss (y := 64) (cond_d (fun hlt => ?_) (fun hlt => ?_))
        · rw [k7, k9]
          obtain ⟨b1, o1, i1, l1⟩ := RdSl.elAt (f := bv) 0 (OwnAt.rd (s.at 2 rfl)) (k := i) (by omega) .i64
          refine i1 _ ?_
          refine l1 _ ?_
          refine idxA1 (i := i) (by omega) ?_
          refine s.store1 0 rfl rfl (by rw [bc_length, List.length_append, List.length_take, List.length_replicate]; omega) rfl fun wd s _ => ?_
          refine nadd (y := 1) (by omega) ?_
          have es : (sec.take i ++ List.replicate (64 - i) 0).set i (sec.getD i 0) = sec.take (i + 1) ++ List.replicate (64 - (i + 1)) 0 := by
            have l1 : (sec.take i).length = i := by rw [List.length_take]; omega
            have hg : sec.getD i 0 = sec[i] := by rw [List.getD_eq_getElem?_getD, List.getElem?_eq_getElem (by omega)]; rfl
            rw [show 64 - i = (64 - (i + 1)) + 1 by omega, List.replicate_succ, List.set_append_right _ _ (by omega), l1, Nat.sub_self, List.set_cons_zero, List.take_succ_eq_append_getElem (show i < sec.length by omega), hg, List.append_assoc]
            rfl
          rw [bc_set, es] at s
          exact hI (64 - (i + 1)) _ _ (by omega) ⟨i + 1, rfl, by omega, k6, k7, k9, rfl, s⟩
        · obtain rfl : i = 64 := by omega
          rw [List.take_of_length_le (by omega), Nat.sub_self, List.replicate_zero, List.append_nil] at s
          refine hY _ _ _ (by simp) (g4 _ _ _ (g3 _ _ _ (seqX_n ?_)))
          show loadW _ (fr 9) _ _
          rw [k9]
          refine s.loadAll 0 rfl (by rw [bc_length, hsl]) ?_
          show storeW _ (fr 6) _ _ _
          rw [k6]
          refine s.storeAll (vs := bc sec) 3 rfl (by rw [bc_length, hsl]) (by rw [bc_length]; rfl) (bc_one _) fun we s _ => ?_
          show loadW _ (fr 6) _ _
          rw [k6]
          refine s.loadAll (cs := bc sec) 3 rfl (by rw [bc_length, hsl]) ?_
          exact hK we s.ext
end Go.Proofs.YtedebapgmfnflaaDoor
