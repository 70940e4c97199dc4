/- SHA-256: a block's state, by contracts. -/
import Derived.Test.YtedebapgmfnflaaS4
import Derived.Test.YtedebapgmfnflaaH3
namespace Go.Proofs.Ytedebapgmfnflaa
open Go
set_option maxRecDepth 100000

theorem rnds_8 (ws : List UInt32) (t : Nat) (s : St) : (rnds ws t s).list.length = 8 := rfl
theorem zip_step (st l : List UInt32) (i : Nat) (h : i < st.length) (h' : i < l.length) :
    (((List.zipWith (· + ·) st l).take i ++ st.drop i).set i (st.getD i 0 + l.getD i 0)) = (List.zipWith (· + ·) st l).take (i + 1) ++ st.drop (i + 1) := by
  have hz : i < (List.zipWith (· + ·) st l).length := by simp; omega
  have hl : ((List.zipWith (· + ·) st l).take i).length = i := by simp; omega
  rw [List.drop_eq_getElem_cons h, set_mid _ _ _ _ i hl, List.take_succ_eq_append_getElem hz]
  simp [List.getD_eq_getElem?_getD, h, h']
theorem zip_get (st l : List UInt32) (i : Nat) (h : i < st.length) (h' : i < l.length) : ((List.zipWith (· + ·) st l).take i ++ st.drop i).getD i 0 = st.getD i 0 := by
  have hl : ((List.zipWith (· + ·) st l).take i).length = i := by simp; omega
  rw [List.getD_eq_getElem?_getD, List.getElem?_append_right (by omega), hl, Nat.sub_self, List.getElem?_drop, List.getD_eq_getElem?_getD, Nat.add_zero]

theorem fill_w8 (a b c d e f g h : UInt32) : fillA 1 (List.replicate 8 (Value.int .u32 0)) [(0, uv a), (1, uv b), (2, uv c), (3, uv d), (4, uv e), (5, uv f), (6, uv g), (7, uv h)] = some (uc [a, b, c, d, e, f, g, h]) := by kernel_rfl

set_option maxHeartbeats 1000000 in
theorem compress_c {w : World} {K : VPost} {v : Value} {blk : Bytes} {st : List UInt32} (hst : st.length = 8) (hb : RdSl w v 1 (bc blk) 64) (hcap : capOk v) (hK : ∀ w', Ext [] w w' → K (.agg (uc (compress st blk)).toArray) w') :
    Calls Try.prog 84 #[.agg (uc st).toArray, v] w (retK K) := by
  refine c84_calls _ _ w K ?_
  unfold c84
  have hsl := sched_length blk 64
  have hus : (uc st).length = 8 := by rw [uc_length]; exact hst
  refine ((Sep.nil w).addR (T := rR v 1 (bc blk) 64) hb (by simp)).box fun b2 w1 s _ => ?_
  refine s.alloc zero_w8 cells_w8 fun b4 w2 s _ => ?_
  refine fnW_of (by kernel_rfl) (constants_c fun w3 e => ?_)
  have s := s.ext0 e
  refine fnW_of (by kernel_rfl) (schedule_c (s.rat 0 rfl) hcap fun w4 e => ?_)
  have s := s.ext0 e
  refine s.alloc zero_w64 cells_w64 fun b5 w5 s _ => s.alloc zero_w64 cells_w64 fun b6 w6 s _ => ?_
  have hus64 : (uc (sched blk 64)).length = 64 := by rw [uc_length, hsl]
  refine s.storeAll 1 rfl rfl rfl (uc_one _) fun w7 s _ => s.storeAll 0 rfl hus64 rfl (uc_one _) fun w8 s _ => ?_
  have s : Sep [] w w8 [rB b6 (uc (sched blk 64)) 138, rB b5 (uc shaK) 138, rB b4 (uc (List.replicate 8 0)) 70, rB b2 (uc st) 70] [rR v 1 (bc blk) 64] := s
  have s := s.drew
  generalize w8.drew = w9 at *
  refine idxA1 (i := 0) (by decide) ?_
  refine s.ldw 3 rfl (by omega) ?_
  refine idxA1 (i := 1) (by decide) ?_
  refine s.ldw 3 rfl (by omega) ?_
  refine idxA1 (i := 2) (by decide) ?_
  refine s.ldw 3 rfl (by omega) ?_
  refine idxA1 (i := 3) (by decide) ?_
  refine s.ldw 3 rfl (by omega) ?_
  refine idxA1 (i := 4) (by decide) ?_
  refine s.ldw 3 rfl (by omega) ?_
  refine idxA1 (i := 5) (by decide) ?_
  refine s.ldw 3 rfl (by omega) ?_
  refine idxA1 (i := 6) (by decide) ?_
  refine s.ldw 3 rfl (by omega) ?_
  refine idxA1 (i := 7) (by decide) ?_
  refine s.ldw 3 rfl (by omega) ?_
  refine bindX_i fun J0 h0 => bindX_i fun J1 h1 => bindX_i fun J2 h2 => ?_
  -- behind the rounds
  have tail : ∀ (fr : Fr) (wr : World) (q : St), q = rnds (sched blk 64) 64 (St.ofL st) → fr 2 = .pointer (some ⟨b2, 0, none⟩) → fr 4 = .pointer (some ⟨b4, 0, none⟩) → fr 7 = uv q.a → fr 8 = uv q.b → fr 9 = uv q.c → fr 10 = uv q.d → fr 11 = uv q.e → fr 12 = uv q.f → fr 13 = uv q.g → fr 14 = uv q.h →
      Sep [] w wr [rB b6 (uc (sched blk 64)) 138, rB b5 (uc shaK) 138, rB b4 (uc (List.replicate 8 0)) 70, rB b2 (uc st) 70] [rR v 1 (bc blk) 64] → J1 .normal fr wr := by
    intro fr wr q hq f2 f4 f7 f8 f9 f10 f11 f12 f13 f14 s
    refine seq_n h1 ?_
    refine bindX_i fun J3 h3 => ?_
    refine build_w8 (l := q.list) (by rw [f7, f8, f9, f10, f11, f12, f13, f14]; exact fill_w8 _ _ _ _ _ _ _ _) ?_
    refine bindX_i fun J4 h4 => ?_
    have hql : q.list.length = 8 := rfl
    have fin : ∀ (fr : Fr) (wr : World), fr 2 = .pointer (some ⟨b2, 0, none⟩) → fr 4 = .pointer (some ⟨b4, 0, none⟩) →
        Sep [] w wr [rB b6 (uc (sched blk 64)) 138, rB b5 (uc shaK) 138, rB b4 (uc (List.replicate 8 0)) 70, rB b2 (uc (compress st blk)) 70] [rR v 1 (bc blk) 64] → J3 .normal fr wr := by
      intro fr wr f2 f4 s
      refine seq_n h3 ?_
      rw [f2, f4]
      have hcl : (uc (compress st blk)).length = 8 := by rw [uc_length]; exact compress_length _ _ hst
      refine s.loadAll 3 rfl hcl (s.storeAll 2 rfl hcl rfl (uc_one _) fun w2 s _ => s.loadAll 2 rfl hcl ?_)
      exact hK w2 s.ext
    refine loop_i (fun m fr wr => ∃ i : Nat, m = 8 - i ∧ i ≤ 8 ∧ fr 2 = .pointer (some ⟨b2, 0, none⟩) ∧ fr 4 = .pointer (some ⟨b4, 0, none⟩) ∧ fr 102 = .agg (uc q.list).toArray ∧ fr 103 = .int .i64 i ∧
      Sep [] w wr [rB b6 (uc (sched blk 64)) 138, rB b5 (uc shaK) 138, rB b4 (uc (List.replicate 8 0)) 70, rB b2 (uc ((List.zipWith (· + ·) st q.list).take i ++ st.drop i)) 70] [rR v 1 (bc blk) 64]) 8 ?_ ?_
    · exact ⟨0, rfl, by omega, f2, f4, rfl, rfl, s⟩
    · rintro m fr wr J ⟨i, rfl, hi, g2, g4, g102, g103, s⟩ hJ hX
      rw [g103]
      refine nlss (x := i) (y := 8) (cond_d (fun hlt => ?_) (fun hlt => ?_))
      · rw [g102, g2]
        have hll : ((List.zipWith (· + ·) st q.list).take i ++ st.drop i).length = 8 := by simp [hst, hql]; omega
        refine ixv1 hlt (v := uv (q.list.getD i 0)) (by rw [List.getElem?_toArray]; exact uc_get (by omega)) ?_
        refine idxA1 hlt (s.ldw 3 rfl (by omega) ?_)
        rw [zip_get _ _ _ (by omega) (by omega), u32_add]
        refine idxA1 hlt (s.stw 3 rfl (by omega) fun w2 s => ?_)
        rw [zip_step _ _ _ (by omega) (by omega)] at s
        refine nadd (x := i) (y := 1) (by omega) ?_
        exact hJ (8 - (i + 1)) _ _ (by omega) ⟨i + 1, rfl, by omega, g2, g4, g102, rfl, s⟩
      · obtain rfl : i = 8 := by omega
        refine hX _ _ _ (by simp) (h4 _ _ _ (blk_x (fin _ _ g2 g4 ?_)))
        have e : (List.zipWith (· + ·) st q.list).take 8 ++ st.drop 8 = compress st blk := by
          rw [List.take_of_length_le (by simp; omega), List.drop_of_length_le (by omega), List.append_nil, hq]; rfl
        rw [e] at s
        exact s
  refine loop_i (fun m fr wr => ∃ (t : Nat) (q : St), m = 64 - t ∧ t ≤ 64 ∧ q = rnds (sched blk 64) t (St.ofL st) ∧ fr 2 = .pointer (some ⟨b2, 0, none⟩) ∧ fr 4 = .pointer (some ⟨b4, 0, none⟩) ∧ fr 5 = .pointer (some ⟨b5, 0, none⟩) ∧ fr 6 = .pointer (some ⟨b6, 0, none⟩) ∧ fr 39 = .int .i64 t ∧
    fr 7 = uv q.a ∧ fr 8 = uv q.b ∧ fr 9 = uv q.c ∧ fr 10 = uv q.d ∧ fr 11 = uv q.e ∧ fr 12 = uv q.f ∧ fr 13 = uv q.g ∧ fr 14 = uv q.h ∧
    Sep [] w wr [rB b6 (uc (sched blk 64)) 138, rB b5 (uc shaK) 138, rB b4 (uc (List.replicate 8 0)) 70, rB b2 (uc st) 70] [rR v 1 (bc blk) 64]) 64 ?_ ?_
  · exact ⟨0, St.ofL st, rfl, by omega, rfl, rfl, rfl, rfl, rfl, rfl, rfl, rfl, rfl, rfl, rfl, rfl, rfl, rfl, s⟩
  · rintro m fr wr J ⟨t, q, rfl, ht, hq, f2, f4, f5, f6, f39, f7, f8, f9, f10, f11, f12, f13, f14, s⟩ hJ hX
    rw [f39]
    refine nlss (x := t) (y := 64) (cond_d (fun hlt => ?_) (fun hlt => ?_))
    · rw [f5, f6, f7, f8, f9, f10, f11, f12, f13, f14]
      have s := s.drew
      generalize wr.drew = wr at *
      have hkl : shaK.length = 64 := rfl
      rw [u32_and, u32_not, u32_and, u32_xor]
      refine idxA1 hlt ?_
      refine s.ldw 1 rfl (by omega) ?_
      refine idxA1 hlt ?_
      refine s.ldw 0 rfl (by omega) ?_
      refine fnW_of (by kernel_rfl) (rot_c _ 25 (by decide) (by decide) ?_)
      refine ⟨s.ldw 1 rfl (by omega) ⟨rfl, rfl⟩, s.ldw 0 rfl (by omega) ⟨rfl, rfl⟩, ?_⟩
      refine fnW_of (by kernel_rfl) (mix_c _ _ 6 11 (by decide) (by decide) (by decide) (by decide) ?_)
      refine ⟨s.ldw 1 rfl (by omega) ⟨rfl, rfl⟩, s.ldw 0 rfl (by omega) ⟨rfl, rfl⟩, ?_⟩
      rw [u32_add, u32_add, u32_add, u32_add]
      refine fnW_of (by kernel_rfl) (rot_c _ 22 (by decide) (by decide) ?_)
      refine fnW_of (by kernel_rfl) (mix_c _ _ 2 13 (by decide) (by decide) (by decide) (by decide) ?_)
      rw [u32_and, u32_and, u32_xor, u32_and, u32_xor, u32_add, u32_add, u32_add]
      refine nadd (x := t) (y := 1) (by omega) ?_
      refine hJ (64 - (t + 1)) _ _ (by omega) ⟨t + 1, rnd q (shaK.getD t 0) ((sched blk 64).getD t 0), rfl, by omega, by rw [hq]; rfl, f2, f4, f5, f6, rfl, rfl, ?_, ?_, ?_, rfl, ?_, ?_, ?_, s⟩
      all_goals rfl
    · obtain rfl : t = 64 := by omega
      exact hX _ _ _ (by simp) (h2 _ _ _ (blk_x (tail _ _ q hq f2 f4 f7 f8 f9 f10 f11 f12 f13 f14 s)))
end Go.Proofs.Ytedebapgmfnflaa
