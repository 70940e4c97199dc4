/- The document's SHA-256: constants, a block's state, what stands behind, digests: the walks. -/
import Derived.Test.YtedebapgmfnflaaR2
import Derived.Test.YtedebapgmfnflaaS8
import Derived.Test.YtedebapgmfnflaaT5
namespace Go.Proofs.Ytedebapgmfnflaa
open Go
set_option maxRecDepth 100000

theorem uc_flat (l : List UInt32) : flatV (uc l) = uc l := by
  induction l with
  | nil => rfl
  | cons x r ih =>
    have e : flatV (uc (x :: r)) = (uv x).cells.toList ++ flatV (uc r) := by simp [flatV, uc]
    rw [e, ih]; rfl
theorem Sep.litV {S : List Nat} {w0 w : World} {L R : List Res} {K : VPost} (s : Sep S w0 w L R) (l : List UInt32) {parts : List (Nat × Value)} (hp : parts = enumV 0 (uc l)) (hl : l.length ≤ 1000)
    (h : ∀ v' w', Sep S w0 w' (rO v' 69 1 (uc l) l.length :: L) R → slB v' = [w.heap.size] → Ext [] w w' → K v' w') : insW Try.prog (Instr.buildSlice 114 l.length parts.toArray) w K := by
  obtain ⟨ui, hui, huz, husz, huby⟩ := tyI_spec ty_u32
  have hlen : (uc l).length = l.length := uc_length l
  have hc : ∀ v ∈ uc l, v.cells.size = ui.size := by
    intro v hv
    obtain ⟨b, _, rfl⟩ := List.mem_map.1 hv
    rw [husz]; rfl
  have := s.lit (K := K) (vs := uc l) und_u32s hui huz hp hc (by rw [hlen, husz]; omega) (fun t w' s' ht e => by
    rw [hlen, husz, uc_flat] at s'
    exact h t w' s' ht e)
  rw [hlen] at this
  exact this
theorem Sep.addV {S : List Nat} {w0 w : World} {L R : List Res} {K : Value → VPost} {v : Value} {l : List UInt32} {n : Nat} (s : Sep S w0 w L R) (i : Nat) (hL : L[i]? = some (rO v 69 1 (uc l) n)) (b : UInt32) (hn : n ≤ 2 ^ 30)
    (h : ∀ t v' w', Sep S w0 w' (L.set i (rO v' 69 1 (uc (l ++ [b])) (n + 1))) R → K t v' w') :
    insW Try.prog (Instr.buildSlice 114 1 #[(0, uv b)]) w fun t w' => insW Try.prog (Builtin.append_ #[114, 114] 114 #[v, t]) w' (K t) := by
  obtain ⟨ui, hui, huz, husz, huby⟩ := tyI_spec ty_u32
  refine s.litV [b] rfl (by simp) fun t w1 s1 ht _ => ?_
  refine s1.appendO (v := v) (n := n) (m := 1) (ys := uc [b]) (xs := uc l) (i + 1) (by rw [husz]; simpa using hL) und_u32s und_u32s hui huz (by rw [husz]; rfl) (by rw [huby]; decide) (by rw [husz]; exact OwnAt.rd (s1.at 0 rfl)) (uc_one _) (by rw [huby]; omega) fun v' w2 s2 => ?_
  rw [husz, ← uc_append] at s2
  exact h t v' w2 (s2.drop 0)
theorem build0_w8 {w : World} {K : VPost} (h : K (.agg (uc (List.replicate 8 0)).toArray) w) : insW Try.prog (Instr.build 70 #[]) w K :=
  build_w8 (parts := []) (l := List.replicate 8 0) (by kernel_rfl) h
theorem build0_dig {w : World} {K : VPost} (h : K (.agg (bc (List.replicate 32 0)).toArray) w) : insW Try.prog (Instr.build 62 #[]) w K := by
  obtain ⟨ti, hi, hz, hs, hb⟩ := tyI_spec (by kernel_rfl : tyI Try.prog 62 = some (.agg (Array.replicate 32 (.int .u8 0)), 32, 32))
  obtain ⟨ui, hui, huz, husz, huby⟩ := tyI_spec ty_u8
  refine buildA_i (parts := []) (by kernel_rfl : Try.prog.underlying 62 = some (.array 32 5)) hi hz hui ?_ h
  rw [← cells_dig]; rfl

theorem rconstants_c {w : World} {K : VPost} (hK : ∀ v w', OwnAt w' v 69 1 (uc shaK) 64 → Ext [] w w' → (∀ x ∈ slB v, w.heap.size ≤ x) → K v w') : Calls Try.prog 81 #[] w (retK K) := by
  refine c81_calls w K ?_
  unfold c81
  refine fnW_of (by kernel_rfl) (primes_c 64 (by decide) _ prs64 fun vp w1 hvp e hf => ?_)
  have s := (Sep.nil w).add (T := rO vp 136 1 (uqs primes64) primes64.length) hvp e hf
  refine s.litV [] rfl (by simp) fun v0 w2 s _ _ => ?_
  refine bindX_i fun J0 h0 => bindX_i fun J1 h1 => bindX_i fun J2 h2 => ?_
  have hpl : primes64.length = 64 := rfl
  refine loop_i (fun m fr wr => ∃ (i : Nat) (v : Value), m = 64 - i ∧ i ≤ 64 ∧ fr 1 = vp ∧ fr 2 = v ∧ fr 3 = .int .i64 i ∧ Sep [] w wr [rO v 69 1 (uc ((primes64.take i).map cube32)) i, rO vp 136 1 (uqs primes64) primes64.length] []) 64 ?_ ?_
  · exact ⟨0, v0, rfl, by omega, rfl, rfl, rfl, s⟩
  · rintro m fr wr J ⟨i, v, rfl, hi, f1, f2, f3, s⟩ hJ hX
    rw [f3]
    refine nlss (y := 64) (cond_d (fun hlt => ?_) (fun hlt => ?_))
    · rw [f1, f2]
      obtain ⟨b1, o1, i1, l1, _⟩ := s.elAt uq_f 0 1 rfl (k := i) (by omega) .i64
      refine i1 _ ?_
      refine l1 _ ?_
      refine fnW_of (by kernel_rfl) (cube_c _ fun w3 e => ?_)
      have s := s.ext0 e
      refine s.addV (K := _) 0 rfl _ (by omega) fun _ v' w4 s => ?_
      have hlt' : i < primes64.length := by omega
      have e2 : (primes64.take i).map cube32 ++ [cube32 (primes64.getD i 0)] = (primes64.take (i + 1)).map cube32 := by
        rw [List.take_succ_eq_append_getElem hlt', List.map_append, List.getD_eq_getElem?_getD, List.getElem?_eq_getElem hlt']; rfl
      rw [e2] at s
      refine nadd (y := 1) (by omega) ?_
      exact hJ (64 - (i + 1)) _ _ (by omega) ⟨i + 1, v', rfl, by omega, f1, rfl, rfl, s⟩
    · obtain rfl : i = 64 := by omega
      have e2 : (primes64.take 64).map cube32 = shaK := by rw [List.take_of_length_le (by rw [hpl]; exact Nat.le_refl _)]; exact cubes
      rw [e2] at s
      have tail : ∀ fr : Fr, fr 2 = v → J1 .normal fr wr := by
        intro fr f2
        refine seq_n h1 ?_
        rw [f2]
        exact hK v wr (s.at 0 rfl) s.ext (s.fresh 0 rfl)
      exact hX _ _ _ (by simp) (h2 _ _ _ (blk_x (tail _ f2)))

theorem rfirst_c {w : World} {K : VPost} (hK : ∀ w', Ext [] w w' → K (.agg (uc shaH).toArray) w') : Calls Try.prog 82 #[] w (retK K) := by
  refine c82_calls w K ?_
  unfold c82
  refine (Sep.nil w).alloc zero_w8 cells_w8 fun b0 w1 s _ => ?_
  refine fnW_of (by kernel_rfl) (primes_c 8 (by decide) _ prs8 fun vp w2 hvp e hf => ?_)
  have hpl : (primes64.take 8).length = 8 := rfl
  generalize hP : primes64.take 8 = P8 at *
  have s := s.add (T := rO vp 136 1 (uqs P8) P8.length) hvp e hf
  refine build0_w8 ?_
  refine s.alloc zero_w8 cells_w8 fun b2 w3 s _ => ?_
  refine s.storeAll 0 rfl rfl rfl (uc_one _) fun w4 s _ => ?_
  have s : Sep [] w w4 [rB b2 (uc (List.replicate 8 0)) 70, rO vp 136 1 (uqs P8) P8.length, rB b0 (uc (List.replicate 8 0)) 70] [] := s
  have hM : P8.map (fun p => (squareF p 36 0).toUInt32) = shaH := by rw [← hP]; exact square8
  refine bindX_i fun J0 h0 => bindX_i fun J1 h1 => bindX_i fun J2 h2 => ?_
  refine loop_i (fun m fr wr => ∃ (i : Nat), m = 8 - i ∧ i ≤ 8 ∧ fr 0 = .pointer (some ⟨b0, 0, none⟩) ∧ fr 1 = vp ∧ fr 2 = .pointer (some ⟨b2, 0, none⟩) ∧ fr 3 = .int .i64 i ∧
    Sep [] w wr [rB b2 (uc (shaH.take i ++ List.replicate (8 - i) 0)) 70, rO vp 136 1 (uqs P8) P8.length, rB b0 (uc (List.replicate 8 0)) 70] []) 8 ?_ ?_
  · exact ⟨0, rfl, by omega, rfl, rfl, rfl, rfl, s⟩
  · rintro m fr wr J ⟨i, rfl, hi, f0, f1, f2, f3, s⟩ hJ hX
    rw [f3]
    refine nlss (y := 8) (cond_d (fun hlt => ?_) (fun hlt => ?_))
    · rw [f1, f2]
      obtain ⟨b1, o1, i1, l1, _⟩ := s.elAt uq_f 0 1 rfl (k := i) (by omega) .i64
      refine i1 _ ?_
      refine l1 _ ?_
      refine fnW_of (by kernel_rfl) (square_c _ ?_)
      have hl : (shaH.take i).length = i := by rw [List.length_take]; show min i 8 = i; omega
      refine idxA1 hlt ?_
      refine s.stw 0 rfl (by rw [List.length_append, hl, List.length_replicate]; omega) fun w5 s => ?_
      have hlt' : i < P8.length := by omega
      have hlt8 : i < shaH.length := hlt
      have e : (shaH.take i ++ List.replicate (8 - i) 0).set i ((squareF (P8.getD i 0) 36 0).toUInt32) = shaH.take (i + 1) ++ List.replicate (8 - (i + 1)) 0 := by
        rw [show 8 - i = (8 - (i + 1)) + 1 by omega, List.replicate_succ, set_mid _ _ _ _ i hl, List.take_succ_eq_append_getElem hlt8, List.append_assoc]
        congr 2
        rw [List.getD_eq_getElem?_getD, List.getElem?_eq_getElem hlt']
        have h9 : shaH[i]? = (P8.map (fun p => (squareF p 36 0).toUInt32))[i]? := by rw [hM]
        rw [List.getElem?_eq_getElem hlt8, List.getElem?_map, List.getElem?_eq_getElem hlt'] at h9
        exact (Option.some.inj h9).symm
      rw [e] at s
      refine nadd (y := 1) (by omega) ?_
      exact hJ (8 - (i + 1)) _ _ (by omega) ⟨i + 1, rfl, by omega, f0, f1, f2, rfl, s⟩
    · obtain rfl : i = 8 := by omega
      have tail : ∀ fr : Fr, fr 0 = .pointer (some ⟨b0, 0, none⟩) → fr 2 = .pointer (some ⟨b2, 0, none⟩) → J1 .normal fr wr := by
        intro fr f0 f2
        refine seq_n h1 ?_
        rw [f0, f2]
        have s : Sep [] w wr [rB b2 (uc shaH) 70, rO vp 136 1 (uqs P8) P8.length, rB b0 (uc (List.replicate 8 0)) 70] [] := s
        refine s.loadAll 0 rfl rfl ?_
        refine s.storeAll 2 rfl rfl rfl (uc_one _) fun w6 s _ => ?_
        refine s.loadAll 2 rfl rfl ?_
        exact hK _ s.ext
      exact hX _ _ _ (by simp) (h2 _ _ _ (blk_x (tail _ f0 f2)))

theorem ofL_list (st : List UInt32) (h : st.length = 8) : (St.ofL st).list = st := by
  match st, h with
  | [a, b, c, d, e, f, g, h], _ => rfl
theorem zip_take (st l z : List UInt32) (hz : z = List.zipWith (· + ·) st l) (hs : st.length = 8) (hl : l.length = 8) (i : Nat) (hi : i < 8) :
    (z.take i ++ List.replicate (8 - i) 0).set i (st.getD i 0 + l.getD i 0) = z.take (i + 1) ++ List.replicate (8 - (i + 1)) 0 := by
  have hzl : z.length = 8 := by rw [hz]; simp [hs, hl]
  have hil : (z.take i).length = i := by rw [List.length_take]; omega
  have h1 : i < st.length := by omega
  have h2 : i < l.length := by omega
  have hx : z[i]'(by omega) = st.getD i 0 + l.getD i 0 := by subst hz; simp [List.getD_eq_getElem?_getD, h1, h2]
  rw [show 8 - i = (8 - (i + 1)) + 1 by omega, List.replicate_succ, set_mid _ _ _ _ i hil, List.take_succ_eq_append_getElem (by omega), List.append_assoc, hx]
  rfl

set_option maxHeartbeats 2000000 in
theorem taken_c {w : World} {K : VPost} {st : List UInt32} {blk : Bytes} {vk : Value} (hst : st.length = 8) (hb : blk.length = 64) (hk : RdSl w vk 1 (uc shaK) 64) (hK : ∀ w', Ext [] w w' → K (.agg (uc (compress st blk)).toArray) w') :
    Calls Try.prog 83 #[.agg (uc st).toArray, .agg (bc blk).toArray, vk] w (retK K) := by
  refine c83_calls _ _ _ w K ?_
  unfold c83
  have hus : (uc st).length = 8 := by rw [uc_length]; exact hst
  have hub : (bc blk).length = 64 := by rw [bc_length]; exact hb
  have hkl : shaK.length = 64 := rfl
  have hsl := sched_length blk 64
  refine (Sep.zero1 (U := rR vk 1 (uc shaK) 64) hk).box fun b3 w1 s _ => s.box fun b4 w2 s _ => s.alloc zero_w8 cells_w8 fun b6 w3 s _ => ?_
  obtain ⟨ui, hui, huz, husz, huby⟩ := tyI_spec ty_u32
  refine makeSlice_i (z0 := .int .u32 0) (n := 64) (c := 64) und_u32s hui huz (by rw [husz]; rfl) (Nat.le_refl _) (by rw [huby]; decide) (by decide) fun bb w4 hbb e hk' _ => ?_
  rw [husz] at hk'
  have hz : List.replicate (64 * 1) (Value.int .u32 0) = uc (List.replicate 64 0) := rfl
  rw [hz] at hk'
  have s := s.add (T := rO (.slice (some ⟨bb, 0, none⟩) 64 64) 69 1 (uc (List.replicate 64 0)) 64) (.inr ⟨bb, 0, 64, _, rfl, hk', by rw [uc_length]; rfl, by rw [List.drop_zero, List.take_of_length_le (by rw [uc_length]; decide)], by rw [uc_length]; decide, Nat.le_refl _⟩) e (by intro x hx; simp [rO, slB] at hx; omega)
  generalize (Value.slice (some ⟨bb, 0, none⟩) 64 64) = vw at *
  have s : Sep [] w w4 [rO vw 69 1 (uc (List.replicate 64 0)) 64, rB b6 (uc (List.replicate 8 0)) 70, rB b4 (bc blk) 32, rB b3 (uc st) 70] [rR vk 1 (uc shaK) 64] := s
  refine bindX_i fun J0 h0 => bindX_i fun J1 h1 => bindX_i fun J2 h2 => ?_
  -- the rounds, and what follows
  have rounds : ∀ (fr : Fr) (wr : World), fr 2 = vk → fr 3 = .pointer (some ⟨b3, 0, none⟩) → fr 6 = .pointer (some ⟨b6, 0, none⟩) → fr 7 = vw →
      Sep [] w wr [rO vw 69 1 (uc (sched blk 64)) 64, rB b6 (uc (List.replicate 8 0)) 70, rB b4 (bc blk) 32, rB b3 (uc st) 70] [rR vk 1 (uc shaK) 64] → J1 .normal fr wr := by
    intro fr wr f2 f3 f6 f7 s
    refine seq_n h1 ?_
    rw [f3]
    refine s.loadAll 3 rfl hus ?_
    refine s.alloc zero_w8 cells_w8 fun b13 w5 s _ => ?_
    refine s.storeAll 0 rfl hus rfl (uc_one _) fun w6 s _ => ?_
    have s : Sep [] w w6 [rB b13 (uc st) 70, rO vw 69 1 (uc (sched blk 64)) 64, rB b6 (uc (List.replicate 8 0)) 70, rB b4 (bc blk) 32, rB b3 (uc st) 70] [rR vk 1 (uc shaK) 64] := s
    refine bindX_i fun J3 h3 => bindX_i fun J4 h4 => ?_
    have ending : ∀ (fr : Fr) (wr : World) (q : St), q = rnds (sched blk 64) 64 (St.ofL st) → fr 3 = .pointer (some ⟨b3, 0, none⟩) → fr 6 = .pointer (some ⟨b6, 0, none⟩) → fr 13 = .pointer (some ⟨b13, 0, none⟩) →
        Sep [] w wr [rB b13 (uc q.list) 70, rO vw 69 1 (uc (sched blk 64)) 64, rB b6 (uc (List.replicate 8 0)) 70, rB b4 (bc blk) 32, rB b3 (uc st) 70] [rR vk 1 (uc shaK) 64] → J3 .normal fr wr := by
      intro fr wr q hq f3 f6 f13 s
      refine seq_n h3 ?_
      refine build0_w8 ?_
      refine s.alloc zero_w8 cells_w8 fun b21 w7 s _ => ?_
      refine s.storeAll 0 rfl rfl rfl (uc_one _) fun w8 s _ => ?_
      have s : Sep [] w w8 [rB b21 (uc (List.replicate 8 0)) 70, rB b13 (uc q.list) 70, rO vw 69 1 (uc (sched blk 64)) 64, rB b6 (uc (List.replicate 8 0)) 70, rB b4 (bc blk) 32, rB b3 (uc st) 70] [rR vk 1 (uc shaK) 64] := s
      have hql : q.list.length = 8 := rfl
      have hzl : (List.zipWith (· + ·) st q.list).length = 8 := by simp [hst, hql]
      have hcz : compress st blk = List.zipWith (· + ·) st q.list := by rw [hq]; rfl
      refine bindX_i fun J5 h5 => bindX_i fun J6 h6 => ?_
      refine loop_i (fun m fr wr => ∃ (i : Nat), m = 8 - i ∧ i ≤ 8 ∧ fr 3 = .pointer (some ⟨b3, 0, none⟩) ∧ fr 6 = .pointer (some ⟨b6, 0, none⟩) ∧ fr 13 = .pointer (some ⟨b13, 0, none⟩) ∧ fr 21 = .pointer (some ⟨b21, 0, none⟩) ∧ fr 22 = .int .i64 i ∧
        Sep [] w wr [rB b21 (uc ((compress st blk).take i ++ List.replicate (8 - i) 0)) 70, rB b13 (uc q.list) 70, rO vw 69 1 (uc (sched blk 64)) 64, rB b6 (uc (List.replicate 8 0)) 70, rB b4 (bc blk) 32, rB b3 (uc st) 70] [rR vk 1 (uc shaK) 64]) 8 ?_ ?_
      · exact ⟨0, rfl, by omega, f3, f6, f13, rfl, rfl, s⟩
      · rintro m fr wr J ⟨i, rfl, hi, g3, g6, g13, g21, g22, s⟩ hJ hX
        rw [g22]
        refine nlss (y := 8) (cond_d (fun hlt => ?_) (fun hlt => ?_))
        · rw [g3, g13, g21]
          have s := s.drew
          generalize wr.drew = wr at *
          refine idxA1 hlt ?_
          refine s.ldw 5 rfl (by omega) ?_
          refine idxA1 hlt ?_
          refine s.ldw 1 rfl (by omega) ?_
          rw [u32_add]
          have hcl : (compress st blk).length = 8 := compress_length _ _ hst
          have hl : ((compress st blk).take i).length = i := by rw [List.length_take]; omega
          refine idxA1 hlt ?_
          refine s.stw 0 rfl (by rw [List.length_append, hl, List.length_replicate]; omega) fun w9 s => ?_
          rw [zip_take _ _ _ hcz hst hql i hlt] at s
          refine nadd (y := 1) (by omega) ?_
          exact hJ (8 - (i + 1)) _ _ (by omega) ⟨i + 1, rfl, by omega, g3, g6, g13, g21, rfl, s⟩
        · obtain rfl : i = 8 := by omega
          have hcl : (compress st blk).length = 8 := compress_length _ _ hst
          have e : (compress st blk).take 8 ++ List.replicate (8 - 8) 0 = compress st blk := by simp [List.take_of_length_le, hcl]
          rw [e] at s
          have fin : ∀ fr : Fr, fr 6 = .pointer (some ⟨b6, 0, none⟩) → fr 21 = .pointer (some ⟨b21, 0, none⟩) → J5 .normal fr wr := by
            intro fr g6 g21
            refine seq_n h5 ?_
            rw [g6, g21]
            have hcu : (uc (compress st blk)).length = 8 := by rw [uc_length]; exact hcl
            refine s.loadAll 0 rfl hcu ?_
            refine s.storeAll 3 rfl hcu rfl (uc_one _) fun w10 s _ => ?_
            refine s.loadAll 3 rfl hcu ?_
            exact hK _ s.ext
          exact hX _ _ _ (by simp) (h6 _ _ _ (blk_x (fin _ g6 g21)))
    refine loop_i (fun m fr wr => ∃ (t : Nat) (q : St), m = 64 - t ∧ t ≤ 64 ∧ q = rnds (sched blk 64) t (St.ofL st) ∧ fr 2 = vk ∧ fr 3 = .pointer (some ⟨b3, 0, none⟩) ∧ fr 6 = .pointer (some ⟨b6, 0, none⟩) ∧ fr 7 = vw ∧ fr 13 = .pointer (some ⟨b13, 0, none⟩) ∧ fr 14 = .int .i64 t ∧
      Sep [] w wr [rB b13 (uc q.list) 70, rO vw 69 1 (uc (sched blk 64)) 64, rB b6 (uc (List.replicate 8 0)) 70, rB b4 (bc blk) 32, rB b3 (uc st) 70] [rR vk 1 (uc shaK) 64]) 64 ?_ ?_
    · refine ⟨0, St.ofL st, rfl, by omega, rfl, f2, f3, f6, f7, rfl, rfl, ?_⟩
      rw [ofL_list st hst]; exact s
    · rintro m fr wr J ⟨t, q, rfl, ht, hq, g2, g3, g6, g7, g13, g14, s⟩ hJ hX
      rw [g14]
      refine nlss (y := 64) (cond_d (fun hlt => ?_) (fun hlt => ?_))
      · rw [g2, g7, g13]
        have hql : q.list.length = 8 := rfl
        refine idxA1 (i := 0) (by decide) ?_
        refine s.ldw 0 rfl (by omega) ?_
        refine idxA1 (i := 4) (by decide) ?_
        refine s.ldw 0 rfl (by omega) ?_
        refine idxA1 (i := 5) (by decide) ?_
        refine s.ldw 0 rfl (by omega) ?_
        rw [u32_and, u32_not]
        refine idxA1 (i := 6) (by decide) ?_
        refine s.ldw 0 rfl (by omega) ?_
        rw [u32_and, u32_or]
        refine idxA1 (i := 1) (by decide) ?_
        refine s.ldw 0 rfl (by omega) ?_
        rw [u32_and]
        refine idxA1 (i := 2) (by decide) ?_
        refine s.ldw 0 rfl (by omega) ?_
        rw [u32_and, u32_or]
        refine idxA1 (i := 1) (by decide) ?_
        refine s.ldw 0 rfl (by omega) ?_
        refine idxA1 (i := 2) (by decide) ?_
        refine s.ldw 0 rfl (by omega) ?_
        rw [u32_and, u32_or]
        have s := s.drew
        generalize wr.drew = wr at *
        obtain ⟨kb, ko, kix, kld⟩ := RdSl.elAt (f := uv) 0 (s.rat 0 rfl) (k := t) (by omega) .i64
        obtain ⟨wb, wo, wix, wld, _⟩ := s.elAt uv_f 0 1 rfl (k := t) (by omega) .i64
        refine idxA1 (i := 7) (by decide) ?_
        refine s.ldw 0 rfl (by omega) ?_
        refine kix _ ?_
        refine kld _ ?_
        refine wix _ ?_
        refine wld _ ?_
        refine fnW_of (by kernel_rfl) (turn_c _ 6 (by decide) (by decide) ?_)
        refine ⟨s.ldw 0 rfl (by omega) ⟨rfl, rfl⟩, kld _ ⟨rfl, rfl⟩, wld _ ⟨rfl, rfl⟩, ?_⟩
        refine fnW_of (by kernel_rfl) (turn_c _ 11 (by decide) (by decide) ?_)
        refine ⟨s.ldw 0 rfl (by omega) ⟨rfl, rfl⟩, kld _ ⟨rfl, rfl⟩, wld _ ⟨rfl, rfl⟩, ?_⟩
        rw [u32_xor]
        refine fnW_of (by kernel_rfl) (turn_c _ 25 (by decide) (by decide) ?_)
        refine ⟨s.ldw 0 rfl (by omega) ⟨rfl, rfl⟩, kld _ ⟨rfl, rfl⟩, wld _ ⟨rfl, rfl⟩, ?_⟩
        rw [u32_xor, u32_add, u32_add, u32_add, u32_add]
        refine fnW_of (by kernel_rfl) (turn_c _ 2 (by decide) (by decide) ?_)
        refine fnW_of (by kernel_rfl) (turn_c _ 13 (by decide) (by decide) ?_)
        rw [u32_xor]
        refine fnW_of (by kernel_rfl) (turn_c _ 22 (by decide) (by decide) ?_)
        rw [u32_xor, u32_add, u32_add]
        refine idxA1 (i := 0) (by decide) ?_
        refine s.ldw 0 rfl (by omega) ?_
        refine idxA1 (i := 1) (by decide) ?_
        refine s.ldw 0 rfl (by omega) ?_
        refine idxA1 (i := 2) (by decide) ?_
        refine s.ldw 0 rfl (by omega) ?_
        refine idxA1 (i := 3) (by decide) ?_
        refine s.ldw 0 rfl (by omega) ?_
        rw [u32_add]
        refine idxA1 (i := 4) (by decide) ?_
        refine s.ldw 0 rfl (by omega) ?_
        refine idxA1 (i := 5) (by decide) ?_
        refine s.ldw 0 rfl (by omega) ?_
        refine idxA1 (i := 6) (by decide) ?_
        have hch := ch_or (q.list.getD 4 0) (q.list.getD 5 0) (q.list.getD 6 0)
        have hmaj := maj_or (q.list.getD 0 0) (q.list.getD 1 0) (q.list.getD 2 0)
        rw [hch, hmaj]
        generalize hx0 : uv (q.list.getD 7 0 + (rr (q.list.getD 4 0) 6 ^^^ rr (q.list.getD 4 0) 11 ^^^ rr (q.list.getD 4 0) 25) + (q.list.getD 4 0 &&& q.list.getD 5 0 ^^^ ~~~q.list.getD 4 0 &&& q.list.getD 6 0) + shaK.getD t 0 + (sched blk 64).getD t 0 + ((rr (q.list.getD 0 0) 2 ^^^ rr (q.list.getD 0 0) 13 ^^^ rr (q.list.getD 0 0) 22) + (q.list.getD 0 0 &&& q.list.getD 1 0 ^^^ q.list.getD 0 0 &&& q.list.getD 2 0 ^^^ q.list.getD 1 0 &&& q.list.getD 2 0))) = x0
        generalize hx4 : uv (q.list.getD 3 0 + (q.list.getD 7 0 + (rr (q.list.getD 4 0) 6 ^^^ rr (q.list.getD 4 0) 11 ^^^ rr (q.list.getD 4 0) 25) + (q.list.getD 4 0 &&& q.list.getD 5 0 ^^^ ~~~q.list.getD 4 0 &&& q.list.getD 6 0) + shaK.getD t 0 + (sched blk 64).getD t 0)) = x4
        generalize hx1 : uv (q.list.getD 0 0) = x1
        generalize hx2 : uv (q.list.getD 1 0) = x2
        generalize hx3 : uv (q.list.getD 2 0) = x3
        generalize hx5 : uv (q.list.getD 4 0) = x5
        generalize hx6 : uv (q.list.getD 5 0) = x6
        refine s.ldw 0 rfl (by omega) ?_
        generalize hx7 : uv (q.list.getD 6 0) = x7
        refine build_w8 (l := (rnd q (shaK.getD t 0) ((sched blk 64).getD t 0)).list) (by rw [← hx0, ← hx1, ← hx2, ← hx3, ← hx4, ← hx5, ← hx6, ← hx7]; exact fill_w8 _ _ _ _ _ _ _ _) ?_
        refine s.storeAll 0 rfl rfl rfl (uc_one _) fun w9 s _ => ?_
        refine nadd (y := 1) (by omega) ?_
        exact hJ (64 - (t + 1)) _ _ (by omega) ⟨t + 1, rnd q (shaK.getD t 0) ((sched blk 64).getD t 0), rfl, by omega, by rw [hq]; rfl, g2, g3, g6, g7, g13, rfl, s⟩
      · obtain rfl : t = 64 := by omega
        exact hX _ _ _ (by simp) (h4 _ _ _ (blk_x (ending _ _ q hq g3 g6 g13 s)))
  refine loop_i (fun m fr wr => ∃ (t : Nat), m = 64 - t ∧ t ≤ 64 ∧ fr 2 = vk ∧ fr 3 = .pointer (some ⟨b3, 0, none⟩) ∧ fr 4 = .pointer (some ⟨b4, 0, none⟩) ∧ fr 6 = .pointer (some ⟨b6, 0, none⟩) ∧ fr 7 = vw ∧ fr 8 = .int .i64 t ∧
    Sep [] w wr [rO vw 69 1 (uc (sched blk t ++ List.replicate (64 - t) 0)) 64, rB b6 (uc (List.replicate 8 0)) 70, rB b4 (bc blk) 32, rB b3 (uc st) 70] [rR vk 1 (uc shaK) 64]) 64 ?_ ?_
  · exact ⟨0, rfl, by omega, rfl, rfl, rfl, rfl, rfl, rfl, s⟩
  · rintro m fr wr J ⟨t, rfl, ht, f2, f3, f4, f6, f7, f8, s⟩ hJ hX
    rw [f8]
    refine nlss (y := 64) (cond_d (fun hlt => ?_) (fun hlt => ?_))
    · refine bindX_i fun J3 h3 => bindX_i fun J4 h4 => ?_
      have hslt := sched_length blk t
      have hset : ∀ x : UInt32, (sched blk t ++ List.replicate (64 - t) 0).set t x = sched blk t ++ x :: List.replicate (63 - t) 0 := by
        intro x
        rw [show 64 - t = (63 - t) + 1 by omega, List.replicate_succ, set_mid _ _ _ _ t hslt]
      have hg : ∀ k, k < t → (sched blk t ++ List.replicate (64 - t) 0).getD k 0 = (sched blk t).getD k 0 := by
        intro k hk
        rw [List.getD_eq_getElem?_getD, List.getElem?_append_left (by omega), List.getD_eq_getElem?_getD]
      have fin : ∀ (fr : Fr) (wr : World), fr 2 = vk → fr 3 = .pointer (some ⟨b3, 0, none⟩) → fr 4 = .pointer (some ⟨b4, 0, none⟩) → fr 6 = .pointer (some ⟨b6, 0, none⟩) → fr 7 = vw → fr 8 = .int .i64 t →
          Sep [] w wr [rO vw 69 1 (uc (sched blk t ++ wAt blk (sched blk t) t :: List.replicate (63 - t) 0)) 64, rB b6 (uc (List.replicate 8 0)) 70, rB b4 (bc blk) 32, rB b3 (uc st) 70] [rR vk 1 (uc shaK) 64] → J3 .normal fr wr := by
        intro fr wr f2 f3 f4 f6 f7 f8 s
        refine seq_n h3 ?_
        rw [f8]
        refine nadd (y := 1) (by omega) ?_
        have e : sched blk t ++ wAt blk (sched blk t) t :: List.replicate (63 - t) 0 = sched blk (t + 1) ++ List.replicate (64 - (t + 1)) 0 := by
          rw [show 64 - (t + 1) = 63 - t by omega]; simp [sched]
        rw [e] at s
        exact hJ (64 - (t + 1)) _ _ (by omega) ⟨t + 1, rfl, by omega, f2, f3, f4, f6, f7, rfl, s⟩
      refine nlss (y := 16) (cond_d (fun h16 => ?_) (fun h16 => ?_))
      · rw [f4, f7]
        have s := s.drew
        generalize wr.drew = wr at *
        have ldb : ∀ (k : Nat) (K : VPost), k < 64 → K (bv (blk.getD k 0)) wr → loadW (some (false, 1)) (.pointer (some ⟨b4, k, none⟩)) wr K := fun k K hk h => s.load1 2 rfl (bc_get (by omega)) h
        refine nmul (x := 4) (by omega) ?_
        refine idxA1 (by omega) ?_
        refine ldb _ _ (by omega) ?_
        rw [conv_u8w und_u8 und_u32, show ((24 : Int)) = ((24 : Nat) : Int) from rfl, u32_shl (show 24 < 32 by decide)]
        refine nmul (x := 4) (by omega) ?_
        refine nadd (y := 1) (by omega) ?_
        refine idxA1 (by omega) ?_
        refine ldb _ _ (by omega) ?_
        rw [conv_u8w und_u8 und_u32, show ((16 : Int)) = ((16 : Nat) : Int) from rfl, u32_shl (show 16 < 32 by decide), u32_or]
        refine nmul (x := 4) (by omega) ?_
        refine nadd (y := 2) (by omega) ?_
        refine idxA1 (by omega) ?_
        refine ldb _ _ (by omega) ?_
        rw [conv_u8w und_u8 und_u32, show ((8 : Int)) = ((8 : Nat) : Int) from rfl, u32_shl (show 8 < 32 by decide), u32_or]
        refine nmul (x := 4) (by omega) ?_
        refine nadd (y := 3) (by omega) ?_
        refine idxA1 (by omega) ?_
        refine ldb _ _ (by omega) ?_
        rw [conv_u8w und_u8 und_u32, u32_or]
        obtain ⟨wb, wo, wix, _, wst⟩ := s.elAt uv_f 0 0 rfl (k := t) hlt .i64
        refine wix _ ?_
        refine wst _ _ _ fun w5 s => ?_
        rw [hset] at s
        refine fin _ _ f2 f3 f4 f6 f7 f8 ?_
        have e : wAt blk (sched blk t) t = u8w (blk.getD (4 * t) 0) <<< UInt32.ofNat 24 ||| u8w (blk.getD (4 * t + 1) 0) <<< UInt32.ofNat 16 ||| u8w (blk.getD (4 * t + 2) 0) <<< UInt32.ofNat 8 ||| u8w (blk.getD (4 * t + 3) 0) := by
          unfold wAt
          rw [if_pos h16]
          exact word_or _ _ _ _
        rw [e]; exact s
      · rw [f7]
        obtain ⟨a1, a2, aix, ald, _⟩ := s.elAt uv_f 0 0 rfl (k := t - 15) (by omega) .i64
        obtain ⟨c1, c2, cix, cld, _⟩ := s.elAt uv_f 0 0 rfl (k := t - 2) (by omega) .i64
        refine nsub (y := 15) (by omega) (by omega) ?_
        refine aix _ ?_
        refine ald _ ?_
        refine nsub (y := 2) (by omega) (by omega) ?_
        refine cix _ ?_
        refine cld _ ?_
        rw [hg _ (by omega), hg _ (by omega)]
        refine fnW_of (by kernel_rfl) (turn_c _ 7 (by decide) (by decide) ?_)
        refine fnW_of (by kernel_rfl) (turn_c _ 18 (by decide) (by decide) ?_)
        rw [u32_xor, show ((3 : Int)) = ((3 : Nat) : Int) from rfl, u32_shr (show 3 < 32 by decide), u32_xor]
        refine fnW_of (by kernel_rfl) (turn_c _ 17 (by decide) (by decide) ?_)
        refine fnW_of (by kernel_rfl) (turn_c _ 19 (by decide) (by decide) ?_)
        rw [u32_xor, show ((10 : Int)) = ((10 : Nat) : Int) from rfl, u32_shr (show 10 < 32 by decide), u32_xor]
        have s := s.drew
        generalize wr.drew = wr at *
        obtain ⟨a1, a2, aix, ald, _⟩ := s.elAt uv_f 0 0 rfl (k := t - 16) (by omega) .i64
        obtain ⟨c1, c2, cix, cld, _⟩ := s.elAt uv_f 0 0 rfl (k := t - 7) (by omega) .i64
        refine nsub (y := 16) (by omega) (by omega) ?_
        refine aix _ ?_
        refine ald _ ?_
        rw [u32_add]
        refine nsub (y := 7) (by omega) (by omega) ?_
        refine cix _ ?_
        refine cld _ ?_
        rw [u32_add, u32_add, hg _ (by omega), hg _ (by omega)]
        obtain ⟨wb, wo, wix, _, wst⟩ := s.elAt uv_f 0 0 rfl (k := t) hlt .i64
        refine wix _ ?_
        refine wst _ _ _ fun w5 s => ?_
        rw [hset] at s
        refine fin _ _ f2 f3 f4 f6 f7 f8 ?_
        have e : wAt blk (sched blk t) t = wNext (sched blk t) t := by unfold wAt; rw [if_neg h16]
        rw [e]; exact s
    · obtain rfl : t = 64 := by omega
      have e : sched blk 64 ++ List.replicate (64 - 64) 0 = sched blk 64 := by simp
      rw [e] at s
      exact hX _ _ _ (by simp) (h2 _ _ _ (blk_x (rounds _ _ f2 f3 f6 f7 s)))
end Go.Proofs.Ytedebapgmfnflaa
