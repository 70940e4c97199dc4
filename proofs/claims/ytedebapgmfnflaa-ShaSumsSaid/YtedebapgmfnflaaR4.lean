/- The document's SHA-256: Compress, Pad, Sum: the walks. Condition of Sum: at most 2^36 bytes. -/
import Derived.Test.YtedebapgmfnflaaR3
namespace Go.Proofs.Ytedebapgmfnflaa
open Go
set_option maxRecDepth 100000

theorem rCompress_c {w : World} {K : VPost} {blk : Bytes} {st : List UInt32} (hst : st.length = 8) (hb : blk.length = 64) (hK : ∀ w', Ext [] w w' → K (.agg (uc (compress st blk)).toArray) w') :
    Calls Try.prog 51 #[.agg (uc st).toArray, .agg (bc blk).toArray] w (retK K) := by
  refine c51_calls _ _ w K ?_
  unfold c51
  have h1 : (uc st).length = 8 := by rw [uc_length]; exact hst
  have h2 : (bc blk).length = 64 := by rw [bc_length]; exact hb
  refine (Sep.nil w).box fun b2 w1 s _ => s.box fun b3 w2 s _ => s.alloc zero_w8 cells_w8 fun b4 w3 s _ => ?_
  have s := s.drew
  have s : Sep [] w _ [rB b4 (uc (List.replicate 8 0)) 70, rB b3 (bc blk) 32, rB b2 (uc st) 70] [] := s
  refine s.loadAll 2 rfl h1 ?_
  refine s.loadAll 1 rfl h2 ?_
  refine fnW_of (by kernel_rfl) (rconstants_c fun vk w4 hvk e hf => ?_)
  have s := s.add (T := rO vk 69 1 (uc shaK) 64) hvk e hf
  refine ⟨s.loadAll 3 rfl h1 ⟨rfl, rfl⟩, s.loadAll 2 rfl h2 ⟨rfl, rfl⟩, ?_⟩
  refine fnW_of (by kernel_rfl) (taken_c hst hb (OwnAt.rd (s.at 0 rfl)) fun w5 e => ?_)
  have s := s.ext0 e
  have hc : (uc (compress st blk)).length = 8 := by rw [uc_length]; exact compress_length _ _ hst
  refine s.storeAll 1 rfl hc rfl (uc_one _) fun w6 s _ => ?_
  refine s.loadAll 1 rfl hc ?_
  exact hK _ s.ext

theorem rpad_c {w : World} {K : VPost} (n : Int) (hno : ¬ (0 ≤ n ∧ n ≤ 1125899906842624) → K (.slice none 0 0) w)
    (hK : 0 ≤ n ∧ n ≤ 1125899906842624 → ∀ v w', OwnAt w' v 5 1 (bc (padM n.toNat)) (padM n.toNat).length → Ext [] w w' → (∀ b ∈ slB v, w.heap.size ≤ b) → K v w') :
    Calls Try.prog 52 #[.int .i64 n] w (retK K) := by
  refine c52_calls _ w K ?_
  unfold c52
  rw [ilss]
  by_cases h0 : n < 0
  · rw [decide_eq_true h0]
    refine gs_tf ?_
    refine gs_tf ?_
    rw [pickW_t, condW_t]
    exact hno (by omega)
  · rw [decide_eq_false h0]
    refine gs_f ?_
    refine gs_f ?_
    rw [igtr, pickW_f]
    refine cond_d (fun h1 => hno (by omega)) (fun h1 => ?_)
    replace hK := hK (by omega)
    obtain ⟨n, rfl⟩ : ∃ k : Nat, n = k := ⟨n.toNat, by omega⟩
    simp only [Int.toNat_natCast] at hK
    have hzl : zeros n < 64 := Nat.mod_lt _ (by decide)
    have hz : zeros n = (119 - n % 64) % 64 := rfl
    refine (Sep.nil w).litB [128] rfl (by decide) fun v0 w1 s _ _ => ?_
    refine bindX_i fun J0 h0 => bindX_i fun J1 h1 => bindX_i fun J2 h2 => ?_
    have tail : ∀ (fr : Fr) (wr : World) (v : Value), fr 0 = .int .i64 n → fr 3 = v → Sep [] w wr [rO v 5 1 (bc (128 :: List.replicate (zeros n) 0)) (1 + zeros n)] [] → J1 .normal fr wr := by
      intro fr wr v f0 f3 s
      refine seq_n h1 ?_
      rw [f0]
      refine nmul (x := n) (y := 8) (by omega) ?_
      refine bindX_i fun J3 h3 => bindX_i fun J4 h4 => ?_
      refine loop_i (fun m fr wr => ∃ (j : Nat) (v : Value), m = 8 - j ∧ j ≤ 8 ∧ fr 3 = v ∧ fr 4 = .int .i64 (n * 8 : Nat) ∧ fr 5 = .int .i64 (7 - (j : Int)) ∧
        Sep [] w wr [rO v 5 1 (bc (128 :: List.replicate (zeros n) 0 ++ (be8 (n * 8)).take j)) (1 + zeros n + j)] []) 8 ?_ ?_
      · exact ⟨0, v, rfl, by omega, f3, rfl, rfl, by rw [List.take_zero, List.append_nil]; exact s⟩
      · rintro m fr wr J ⟨j, v, rfl, hj, g3, g4, g5, s⟩ hJ hX
        rw [g5, igeq]
        refine cond_d (fun hge => ?_) (fun hge => ?_)
        · have hj8 : j < 8 := by omega
          rw [g3, g4]
          have e7 : (7 - (j : Int)) = ((7 - j : Nat) : Int) := by omega
          rw [e7]
          refine nmul (x := 8) (by omega) ?_
          rw [convN_i und_int und_uint, wrap_u64n, Nat.mod_eq_of_lt (by omega)]
          refine nshr (by show 8 * (7 - j) ≤ 64; omega) ?_
          rw [conv_byte und_int und_u8, show 8 * (7 - j) = 56 - 8 * j by omega]
          refine s.addByte (K := _) 0 rfl _ (by omega) fun _ v' w3 s => ?_
          have s : Sep [] w w3 [rO v' 5 1 (bc (128 :: List.replicate (zeros n) 0 ++ (be8 (n * 8)).take j ++ [UInt8.ofNat ((n * 8) >>> (56 - 8 * j))])) (1 + zeros n + j + 1)] [] := s
          rw [List.append_assoc, ← be8_step _ _ hj8] at s
          refine isub (by omega) ?_
          exact hJ (8 - (j + 1)) _ _ (by omega) ⟨j + 1, v', rfl, by omega, rfl, g4, by show Value.int .i64 _ = _; congr 1; omega, s⟩
        · obtain rfl : j = 8 := by omega
          have fin : ∀ fr : Fr, fr 3 = v → J3 .normal fr wr := by
            intro fr g3
            refine seq_n h3 ?_
            rw [g3]
            have e : 128 :: List.replicate (zeros n) 0 ++ (be8 (n * 8)).take 8 = padM n := rfl
            have hl : 1 + zeros n + 8 = (padM n).length := by rw [padM_length]; omega
            rw [e, hl] at s
            exact hK v wr (s.at 0 rfl) s.ext (s.fresh 0 rfl)
          exact hX _ _ _ (by simp) (h4 _ _ _ (blk_x (fin _ g3)))
    refine loop_i (fun m fr wr => ∃ (j : Nat) (v : Value), m = zeros n - j ∧ j ≤ zeros n ∧ fr 0 = .int .i64 n ∧ fr 3 = v ∧ Sep [] w wr [rO v 5 1 (bc (128 :: List.replicate j 0)) (1 + j)] []) (zeros n) ?_ ?_
    · exact ⟨0, v0, rfl, by omega, rfl, rfl, s⟩
    · rintro m fr wr J ⟨j, v, rfl, hj, f0, f3, s⟩ hJ hX
      obtain ⟨qa, qc, hqa⟩ := (OwnAt.rd (s.at 0 rfl)).len
      have hlen : ∀ (w : World) (K : VPost), lenW Try.prog (some true) #[34] 3 #[v] w K = K (.int .i64 ((1 + j : Nat) : Int)) w := fun w K => by rw [hqa, len_s]
      rw [f0, f3, hlen]
      refine nadd (by omega) ?_
      refine nrem (y := 64) (by decide) ?_
      refine nneq (y := 56) (cond_d (fun hne => ?_) (fun hne => ?_))
      · have hlt : j < zeros n := by omega
        refine s.addByte (K := _) 0 rfl 0 (by omega) fun _ v' w3 s => ?_
        have e : 128 :: List.replicate j 0 ++ [0] = 128 :: List.replicate (j + 1) (0 : UInt8) := by rw [List.cons_append, ← List.replicate_succ']
        have s : Sep [] w w3 [rO v' 5 1 (bc (128 :: List.replicate j 0 ++ [0])) (1 + j + 1)] [] := s
        rw [e] at s
        exact hJ (zeros n - (j + 1)) _ _ (by omega) ⟨j + 1, v', rfl, by omega, f0, rfl, s⟩
      · have hj : j = zeros n := by omega
        subst hj
        exact hX _ _ _ (by simp) (h2 _ _ _ (blk_x (tail _ _ v f0 f3 s)))

set_option maxHeartbeats 2000000 in
theorem rsum_c {w : World} {K : VPost} {x : Value} {b : Bytes} (hx : RdSl w x 1 (bc b) b.length) (hn : b.length ≤ 2 ^ 36) (hK : ∀ w', Ext [] w w' → K (.agg (bc (digest b)).toArray) w') :
    Calls Try.prog 49 #[x] w (retK K) := by
  refine c49_calls _ w K ?_
  unfold c49
  refine (Sep.zero1 (U := rR x 1 (bc b) b.length) hx).alloc zero_dig cells_dig fun b2 w1 s _ => ?_
  refine s.litB [] rfl (by decide) fun v0 w2 s _ _ => ?_
  obtain ⟨ui, hui, huz, husz, huby⟩ := tyI_spec ty_u8
  refine s.appendO (v := v0) (n := 0) (m := b.length) (ys := bc b) (xs := bc []) 0 (by rw [husz]; rfl) und_u8s und_u8s hui huz (by rw [husz]; rfl) (by rw [huby]; decide) (by rw [husz]; exact s.rat 0 rfl) (bc_one _) (by rw [huby]; omega) fun v1 w3 s => ?_
  rw [husz, ← bc_append, List.nil_append, Nat.zero_add] at s
  have s : Sep [] w w3 [rO v1 5 1 (bc b) b.length, rB b2 (bc (List.replicate 32 0)) 62] [rR x 1 (bc b) b.length] := s
  obtain ⟨xa, xc, hxa⟩ := hx.len
  rw [hxa, len_s, ← hxa]
  refine fnW_of (by kernel_rfl) (rpad_c _ (fun hh => absurd ⟨by omega, by omega⟩ hh) fun _ vp w4 hvp e hf => ?_)
  rw [Int.toNat_natCast] at hvp
  have s := s.add (T := rO vp 5 1 (bc (padM b.length)) (padM b.length).length) hvp e hf
  have hpl : (padM b.length).length ≤ 73 := by rw [padM_length]; have : zeros b.length < 64 := Nat.mod_lt _ (by decide); omega
  have hpm := pad_mod b.length
  refine s.appendO (v := v1) (n := b.length) (m := (padM b.length).length) (ys := bc (padM b.length)) (xs := bc b) 1 (by rw [husz]; rfl) und_u8s und_u8s hui huz (by rw [husz]; rfl) (by rw [huby]; decide) (by rw [husz]; exact OwnAt.rd (s.at 0 rfl)) (bc_one _) (by rw [huby]; omega) fun v2 w5 s => ?_
  rw [husz, ← bc_append, ← List.length_append] at s
  have s := s.drop 0
  have s : Sep [] w w5 [rO v2 5 1 (bc (b ++ padM b.length)) (b ++ padM b.length).length, rB b2 (bc (List.replicate 32 0)) 62] [rR x 1 (bc b) b.length] := s
  have hdg : digest b = outM (absorb ((b ++ padM b.length).length / 64) shaH (b ++ padM b.length)) := rfl
  have hall : (b ++ padM b.length).length % 64 = 0 ∧ (b ++ padM b.length).length ≤ 2 ^ 37 := by rw [List.length_append]; omega
  generalize b ++ padM b.length = all at *
  refine fnW_of (by kernel_rfl) (rconstants_c fun vk w6 hvk e hf => ?_)
  have s := s.add (T := rO vk 69 1 (uc shaK) 64) hvk e hf
  refine fnW_of (by kernel_rfl) (rfirst_c fun w7 e => ?_)
  have s := s.ext0 e
  refine s.alloc zero_w8 cells_w8 fun b5 w8 s _ => ?_
  refine s.storeAll 0 rfl rfl rfl (uc_one _) fun w9 s _ => ?_
  have s : Sep [] w w9 [rB b5 (uc shaH) 70, rO vk 69 1 (uc shaK) 64, rO v2 5 1 (bc all) all.length, rB b2 (bc (List.replicate 32 0)) 62] [rR x 1 (bc b) b.length] := s
  refine bindX_i fun J0 h0 => bindX_i fun J1 h1 => bindX_i fun J2 h2 => ?_
  -- the digest's bytes
  have tail : ∀ (fr : Fr) (wr : World), fr 2 = .pointer (some ⟨b2, 0, none⟩) → fr 5 = .pointer (some ⟨b5, 0, none⟩) →
      Sep [] w wr [rB b5 (uc (absorb (all.length / 64) shaH all)) 70, rO vk 69 1 (uc shaK) 64, rO v2 5 1 (bc all) all.length, rB b2 (bc (List.replicate 32 0)) 62] [rR x 1 (bc b) b.length] → J1 .normal fr wr := by
    intro fr wr f2 f5 s
    refine seq_n h1 ?_
    have h8 : (absorb (all.length / 64) shaH all).length = 8 := absorb_length _ _ _ rfl
    generalize absorb (all.length / 64) shaH all = st at *
    refine build0_dig ?_
    refine s.alloc zero_dig cells_dig fun b9 w10 s _ => ?_
    refine s.storeAll 0 rfl rfl rfl (bc_one _) fun w11 s _ => ?_
    have s : Sep [] w w11 [rB b9 (bc (List.replicate 32 0)) 62, rB b5 (uc st) 70, rO vk 69 1 (uc shaK) 64, rO v2 5 1 (bc all) all.length, rB b2 (bc (List.replicate 32 0)) 62] [rR x 1 (bc b) b.length] := s
    refine bindX_i fun J3 h3 => bindX_i fun J4 h4 => ?_
    refine loop_i (fun m fr wr => ∃ i : Nat, m = 32 - i ∧ i ≤ 32 ∧ fr 2 = .pointer (some ⟨b2, 0, none⟩) ∧ fr 5 = .pointer (some ⟨b5, 0, none⟩) ∧ fr 9 = .pointer (some ⟨b9, 0, none⟩) ∧ fr 10 = .int .i64 i ∧
      Sep [] w wr [rB b9 (bc ((outM st).take i ++ List.replicate (32 - i) 0)) 62, rB b5 (uc st) 70, rO vk 69 1 (uc shaK) 64, rO v2 5 1 (bc all) all.length, rB b2 (bc (List.replicate 32 0)) 62] [rR x 1 (bc b) b.length]) 32 ?_ ?_
    · exact ⟨0, rfl, by omega, f2, f5, rfl, rfl, s⟩
    · rintro m fr wr J ⟨i, rfl, hi, g2, g5, g9, g10, s⟩ hJ hX
      rw [g10]
      refine nlss (y := 32) (cond_d (fun hlt => ?_) (fun hlt => ?_))
      · rw [g5, g9]
        refine nquo (y := 4) (by decide) (by omega) ?_
        refine idxA1 (i := i / 4) (by omega) ?_
        refine s.ldw 1 rfl (by omega) ?_
        refine nrem (y := 4) (by decide) ?_
        refine nmul (x := 8) (by omega) ?_
        refine nsub (x := 24) (by omega) (by decide) ?_
        rw [convN_i und_int und_uint, wrap_u64n, Nat.mod_eq_of_lt (by omega)]
        unfold uv
        refine nshr (by show 24 - 8 * (i % 4) ≤ 32; omega) ?_
        rw [conv_byte und_u32 und_u8]
        refine idxA1 hlt ?_
        refine s.store1 0 rfl rfl (by rw [bc_length, List.length_append, List.length_take, List.length_replicate, outM_length]; omega) rfl fun w6 s _ => ?_
        rw [bc_set, outM_step _ _ hlt] at s
        refine nadd (y := 1) (by omega) ?_
        exact hJ (32 - (i + 1)) _ _ (by omega) ⟨i + 1, rfl, by omega, g2, g5, g9, rfl, s⟩
      · obtain rfl : i = 32 := by omega
        have e : (outM st).take 32 ++ List.replicate (32 - 32) 0 = digest b := by rw [hdg]; simp [outM_length, List.take_of_length_le]
        rw [e] at s
        have fin : ∀ fr : Fr, fr 2 = .pointer (some ⟨b2, 0, none⟩) → fr 9 = .pointer (some ⟨b9, 0, none⟩) → J3 .normal fr wr := by
          intro fr g2 g9
          refine seq_n h3 ?_
          rw [g2, g9]
          have hl : (bc (digest b)).length = 32 := by rw [bc_length, digest_length]
          refine s.loadAll 0 rfl hl ?_
          refine s.storeAll 4 rfl hl rfl (bc_one _) fun w7 s _ => ?_
          refine s.loadAll 4 rfl hl ?_
          exact hK _ s.ext
        exact hX _ _ _ (by simp) (h4 _ _ _ (blk_x (fin _ g2 g9)))
  refine loop_i (fun m fr wr => ∃ k : Nat, m = all.length / 64 - k ∧ k ≤ all.length / 64 ∧ fr 2 = .pointer (some ⟨b2, 0, none⟩) ∧ fr 3 = v2 ∧ fr 4 = vk ∧ fr 5 = .pointer (some ⟨b5, 0, none⟩) ∧ fr 6 = .int .i64 (64 * k : Nat) ∧
    Sep [] w wr [rB b5 (uc (absorb k shaH all)) 70, rO vk 69 1 (uc shaK) 64, rO v2 5 1 (bc all) all.length, rB b2 (bc (List.replicate 32 0)) 62] [rR x 1 (bc b) b.length]) (all.length / 64) ?_ ?_
  · exact ⟨0, rfl, by omega, rfl, rfl, rfl, rfl, rfl, s⟩
  · rintro m fr wr J ⟨k, rfl, hk, f2, f3, f4, f5, f6, s⟩ hJ hX
    obtain ⟨qa, qc, hqa⟩ := (OwnAt.rd (s.at 2 rfl)).len
    have hlen : ∀ (w : World) (K : VPost), lenW Try.prog (some true) #[34] 3 #[v2] w K = K (.int .i64 all.length) w := fun w K => by rw [hqa, len_s]
    rw [f3, f6]
    refine nadd (y := 64) (by omega) ?_
    rw [hlen]
    refine nleq (cond_d (fun hle => ?_) (fun hle => ?_))
    · refine bindX_i fun J3 h3 => bindX_i fun J4 h4 => ?_
      have ha8 : (absorb k shaH all).length = 8 := absorb_length _ _ _ rfl
      refine build0_b64 ?_
      refine s.alloc zero_b64 cells_b64 fun b7 w10 s _ => ?_
      refine s.storeAll 0 rfl (by rw [bc_length]; simp) (by rw [bc_length]; simp) (bc_one _) fun w11 s _ => ?_
      have s : Sep [] w w11 [rB b7 (bc (List.replicate 64 0)) 32, rB b5 (uc (absorb k shaH all)) 70, rO vk 69 1 (uc shaK) 64, rO v2 5 1 (bc all) all.length, rB b2 (bc (List.replicate 32 0)) 62] [rR x 1 (bc b) b.length] := s
      have hbl : ((all.drop (64 * k)).take 64).length = 64 := by rw [List.length_take, List.length_drop]; omega
      refine bindX_i fun J5 h5 => bindX_i fun J6 h6 => ?_
      refine loop_i (fun m fr wr => ∃ i : Nat, m = 64 - i ∧ i ≤ 64 ∧ fr 2 = .pointer (some ⟨b2, 0, none⟩) ∧ fr 3 = v2 ∧ fr 4 = vk ∧ fr 5 = .pointer (some ⟨b5, 0, none⟩) ∧ fr 6 = .int .i64 (64 * k : Nat) ∧ fr 7 = .pointer (some ⟨b7, 0, none⟩) ∧ fr 8 = .int .i64 i ∧
        Sep [] w wr [rB b7 (bc (((all.drop (64 * k)).take 64).take i ++ List.replicate (64 - i) 0)) 32, rB b5 (uc (absorb k shaH all)) 70, rO vk 69 1 (uc shaK) 64, rO v2 5 1 (bc all) all.length, rB b2 (bc (List.replicate 32 0)) 62] [rR x 1 (bc b) b.length]) 64 ?_ ?_
      · exact ⟨0, rfl, by omega, f2, f3, f4, f5, f6, rfl, rfl, s⟩
      · rintro m fr wr I ⟨i, rfl, hi, g2, g3, g4, g5, g6, g7, g8, s⟩ hI hY
        rw [g8]
        refine nlss (y := 64) (cond_d (fun hlt => ?_) (fun hlt => ?_))
        · rw [g3, g6, g7]
          refine nadd (by omega) ?_
          obtain ⟨b1, o1, i1, l1, _⟩ := s.byteAt 3 rfl (k := 64 * k + i) (by omega) .i64
          refine i1 _ ?_
          refine l1 _ ?_
          refine idxA1 hlt ?_
          have hil : (((all.drop (64 * k)).take 64).take i).length = i := by rw [List.length_take]; omega
          refine s.store1 0 rfl rfl (by rw [bc_length, List.length_append, hil, List.length_replicate]; omega) rfl fun w12 s _ => ?_
          have e : (((all.drop (64 * k)).take 64).take i ++ List.replicate (64 - i) 0).set i (all.getD (64 * k + i) 0) = ((all.drop (64 * k)).take 64).take (i + 1) ++ List.replicate (64 - (i + 1)) 0 := by
            have hi64 : i < ((all.drop (64 * k)).take 64).length := by rw [hbl]; exact hlt
            rw [show 64 - i = (64 - (i + 1)) + 1 by omega, List.replicate_succ, set_mid _ _ _ _ i hil, List.take_succ_eq_append_getElem hi64, List.append_assoc]
            congr 2
            rw [List.getElem_take, List.getElem_drop, List.getD_eq_getElem?_getD, List.getElem?_eq_getElem (by omega)]
            rfl
          rw [bc_set, e] at s
          refine nadd (y := 1) (by omega) ?_
          exact hI (64 - (i + 1)) _ _ (by omega) ⟨i + 1, rfl, by omega, g2, g3, g4, g5, g6, g7, rfl, s⟩
        · obtain rfl : i = 64 := by omega
          have e : ((all.drop (64 * k)).take 64).take 64 ++ List.replicate (64 - 64) 0 = (all.drop (64 * k)).take 64 := by simp [List.take_of_length_le, hbl]
          rw [e] at s
          have rest : ∀ fr : Fr, fr 2 = .pointer (some ⟨b2, 0, none⟩) → fr 3 = v2 → fr 4 = vk → fr 5 = .pointer (some ⟨b5, 0, none⟩) → fr 6 = .int .i64 (64 * k : Nat) → fr 7 = .pointer (some ⟨b7, 0, none⟩) → J5 .normal fr wr := by
            intro fr g2 g3 g4 g5 g6 g7
            refine seq_n h5 ?_
            rw [g4, g5, g7]
            refine s.loadAll 1 rfl (by rw [uc_length, ha8]) ?_
            refine s.loadAll 0 rfl (by rw [bc_length, hbl]) ?_
            refine fnW_of (by kernel_rfl) (taken_c ha8 hbl (OwnAt.rd (s.at 2 rfl)) fun w12 e => ?_)
            have s := s.ext0 e
            rw [← absorb_snoc k _ _ (by omega)]
            have hn8 : (absorb (k + 1) shaH all).length = 8 := absorb_length _ _ _ rfl
            refine s.storeAll 1 rfl (by rw [uc_length, hn8]) (by rw [uc_length, ha8]) (uc_one _) fun w13 s _ => ?_
            have s := s.drop 0
            have s : Sep [] w w13 [rB b5 (uc (absorb (k + 1) shaH all)) 70, rO vk 69 1 (uc shaK) 64, rO v2 5 1 (bc all) all.length, rB b2 (bc (List.replicate 32 0)) 62] [rR x 1 (bc b) b.length] := s
            have fin : ∀ fr : Fr, fr 2 = .pointer (some ⟨b2, 0, none⟩) → fr 3 = v2 → fr 4 = vk → fr 5 = .pointer (some ⟨b5, 0, none⟩) → fr 6 = .int .i64 (64 * k : Nat) → J3 .normal fr w13 := by
              intro fr g2 g3 g4 g5 g6
              refine seq_n h3 ?_
              rw [g6]
              refine nadd (y := 64) (by omega) ?_
              exact hJ (all.length / 64 - (k + 1)) _ _ (by omega) ⟨k + 1, rfl, by omega, g2, g3, g4, g5, rfl, s⟩
            exact fin _ g2 g3 g4 g5 g6
          exact hY _ _ _ (by simp) (h6 _ _ _ (blk_x (rest _ g2 g3 g4 g5 g6 g7)))
    · have hkk : k = all.length / 64 := by omega
      subst hkk
      exact hX _ _ _ (by simp) (h2 _ _ _ (blk_x (tail _ _ f2 f5 s)))
end Go.Proofs.Ytedebapgmfnflaa
