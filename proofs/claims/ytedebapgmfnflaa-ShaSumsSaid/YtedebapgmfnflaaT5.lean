/- The laws of sha: whole blocks; its walk. -/
import Derived.Test.YtedebapgmfnflaaT2
import Derived.Test.YtedebapgmfnflaaN1
import Derived.Test.YtedebapgmfnflaaH5
namespace Go.Proofs.Ytedebapgmfnflaa
open Go
set_option maxRecDepth 100000

theorem slArrO {b o n sz : Nat} {w : World} {K : VPost} (h : K (.slice (some ⟨b, o, none⟩) n n) w) : sliceW (.arr n sz) (.pointer (some ⟨b, o, none⟩)) none none none w K := by
  refine ⟨by simp, 0, n, n, rfl, rfl, rfl, Nat.zero_le _, by simp, Nat.le_refl _, ?_⟩
  have : (if n = 0 then (⟨b, o, none⟩ : Addr) else Addr.add ⟨b, o, none⟩ (0 * sz)) = ⟨b, o, none⟩ := by
    rw [add_addr]; simp
  show K (.slice (some (if n = 0 then (⟨b, o, none⟩ : Addr) else Addr.add ⟨b, o, none⟩ (0 * sz))) (n - 0) (n - 0)) w
  rw [this]; simpa using h

/-- Sectors' or blocks' bytes as cells. -/
def bcs (l : List Bytes) : List Value := l.flatMap bc
theorem bcs_len {l : List Bytes} (h : ∀ x ∈ l, x.length = 64) : (bcs l).length = l.length * 64 := flat_len bc 64 l (fun x hx => by rw [bc_length]; exact h x hx)
theorem bcs_get {l : List Bytes} (h : ∀ x ∈ l, x.length = 64) {i : Nat} (hi : i < l.length) : ((bcs l).drop (i * 64)).take 64 = bc l[i] := flat_get bc 64 l (fun x hx => by rw [bc_length]; exact h x hx) i hi
theorem bcs_one (l : List Bytes) : ∀ y ∈ bcs l, y.oneCell' = true := by
  intro y hy
  obtain ⟨b, _, hb⟩ := List.mem_flatMap.1 hy
  exact bc_one b y hb

theorem flat64 (l : List Bytes) (h : ∀ x ∈ l, x.length = 64) : l.flatten.length = 64 * l.length := by
  induction l with
  | nil => rfl
  | cons x r ih =>
    rw [List.flatten_cons, List.length_append, h x List.mem_cons_self, ih (fun y hy => h y (List.mem_cons_of_mem _ hy)), List.length_cons]; omega

theorem fold_absorb (l : List Bytes) (h : ∀ x ∈ l, x.length = 64) : ∀ i, i ≤ l.length → ∀ (hi : i < l.length), compress (absorb i shaH (l.take i).flatten) l[i] = absorb (i + 1) shaH (l.take (i + 1)).flatten := by
  intro i hi0 hi
  have ht : ∀ x ∈ l.take i, x.length = 64 := fun x hx => h x (List.mem_of_mem_take hx)
  have hl := flat64 _ ht
  rw [List.length_take, Nat.min_eq_left hi0] at hl
  rw [flat_take _ _ hi, absorb_append _ _ i 1 _ hl]
  have h64 := h l[i] (List.getElem_mem hi)
  show _ = compress (absorb i shaH (l.take i).flatten) (l[i].take 64)
  rw [List.take_of_length_le (show l[i].length ≤ 64 by omega)]

theorem dig_blocks (l : Bytes) (n : Nat) (h : l.length = 64 * n) : (padM l.length).length = 64 ∧ digest l = outM (compress (absorb n shaH l) (padM l.length)) := by
  have hz : zeros l.length = 55 := by unfold zeros; rw [h]; omega
  have hp : (padM l.length).length = 64 := by rw [padM_length, hz]
  refine ⟨hp, ?_⟩
  unfold digest
  have e : (l ++ padM l.length).length / 64 = n + 1 := by rw [List.length_append, hp, h]; omega
  rw [e, absorb_append _ _ n 1 _ h]
  show outM (compress (absorb n shaH l) ((padM l.length).take 64)) = _
  rw [List.take_of_length_le (by omega)]

theorem ty_b64 : tyI Try.prog 32 = some (.agg (Array.replicate 64 (.int .u8 0)), 64, 64) := by kernel_rfl
theorem zero_b64 : zeroO Try.prog 32 = some (.agg (Array.replicate 64 (.int .u8 0))) := by kernel_rfl
theorem cells_b64 : (Value.agg (Array.replicate 64 (.int .u8 0))).cells.toList = bc (List.replicate 64 0) := by rw [bc_zeros]; simp [Value.cells]
theorem build0_b64 {w : World} {K : VPost} (h : K (.agg (bc (List.replicate 64 0)).toArray) w) : insW Try.prog (Instr.build 32 #[]) w K := by
  obtain ⟨ti, hi, hz, hs, hb⟩ := tyI_spec ty_b64
  obtain ⟨ui, hui, huz, husz, huby⟩ := tyI_spec ty_u8
  refine buildA_i (parts := []) (by kernel_rfl : Try.prog.underlying 32 = some (.array 64 5)) hi hz hui ?_ h
  rw [← cells_b64]; rfl

set_option maxHeartbeats 2000000 in
theorem blocks_walk {w : World} {K : VPost} {v : Value} {l : List Bytes} (hv : RdSl w v 64 (bcs l) l.length) (h64 : ∀ x ∈ l, x.length = 64) (hK : ∀ w', Ext [] w w' → K (.bool true) w') :
    Calls Try.prog 12 #[v] w (retK K) := by
  refine c12_calls _ w K ?_
  unfold c12
  refine fnW_of (by kernel_rfl) (alive1_c fun w1 e => ?_)
  have s := (Sep.zero1 (U := rR v 64 (bcs l) l.length) hv).ext0 e
  rw [notN, Bool.not_true, condW_f]
  obtain ⟨va, vc, hva⟩ := hv.len
  have hlen : ∀ (w : World) (K : VPost), lenW Try.prog (some true) #[73] 3 #[v] w K = K (.int .i64 l.length) w := fun w K => by rw [hva, len_s]
  rw [hlen]
  refine ngtr (y := 20) (cond_d (fun _ => hK _ s.ext) (fun h20 => ?_))
  refine s.litB [] rfl (by decide) fun v0 w2 s _ _ => ?_
  refine build_w8 (l := shaH) (by kernel_rfl) ?_
  refine s.alloc zero_w8 cells_w8 fun b4 w3 s _ => ?_
  refine s.storeAll 0 rfl rfl rfl (uc_one _) fun w4 s _ => ?_
  have s : Sep [] w w4 [rB b4 (uc shaH) 70, rO v0 5 1 (bc []) 0] [rR v 64 (bcs l) l.length] := s
  refine bindX_i fun J0 h0 => bindX_i fun J1 h1 => bindX_i fun J2 h2 => ?_
  have tail : ∀ (fr : Fr) (wr : World) (v0 : Value), fr 3 = v0 → fr 4 = .pointer (some ⟨b4, 0, none⟩) → Sep [] w wr [rB b4 (uc (absorb l.length shaH l.flatten)) 70, rO v0 5 1 (bc l.flatten) l.flatten.length] [rR v 64 (bcs l) l.length] → J1 .normal fr wr := by
    intro fr wr v0 f3 f4 s
    refine seq_n h1 ?_
    have hfl := flat64 l h64
    obtain ⟨hp64, hdig⟩ := dig_blocks l.flatten l.length hfl
    have ha8 : (absorb l.length shaH l.flatten).length = 8 := absorb_length _ _ _ rfl
    obtain ⟨pa, pc, hpa⟩ := (OwnAt.rd (s.at 1 rfl)).len
    have hlen1 : ∀ (w : World) (K : VPost), lenW Try.prog (some true) #[34] 3 #[v0] w K = K (.int .i64 l.flatten.length) w := fun w K => by rw [hpa, len_s]
    rw [f3, hlen1]
    refine fnW_of (by kernel_rfl) (pad_c _ (fun hh => absurd ⟨by omega, by omega⟩ hh) fun _ vp w5 hvp e hf => ?_)
    rw [Int.toNat_natCast] at hvp
    have s := s.add (T := rO vp 5 1 (bc (padM l.flatten.length)) (padM l.flatten.length).length) hvp e hf
    generalize hpm : padM l.flatten.length = pm at *
    obtain ⟨qa, qc, hqa⟩ := (OwnAt.rd (s.at 0 rfl)).len
    have hlen2 : ∀ (w : World) (K : VPost), lenW Try.prog (some true) #[34] 3 #[vp] w K = K (.int .i64 (64 : Nat)) w := fun w K => by rw [hqa, len_s, hp64]
    rw [hlen2]
    refine nneq (y := 64) ?_
    rw [decide_eq_false (by simp), condW_f]
    refine build0_b64 ?_
    refine s.alloc zero_b64 cells_b64 fun b7 w6 s _ => ?_
    refine s.storeAll 0 rfl (by rw [bc_length]; simp) (by rw [bc_length]; simp) (bc_one _) fun w7 s _ => ?_
    have s : Sep [] w w7 [rB b7 (bc (List.replicate 64 0)) 32, rO vp 5 1 (bc pm) pm.length, rB b4 (uc (absorb l.length shaH l.flatten)) 70, rO v0 5 1 (bc l.flatten) l.flatten.length] [rR v 64 (bcs l) l.length] := s
    refine bindX_i fun J3 h3 => bindX_i fun J4 h4 => ?_
    refine loop_i (fun m fr wr => ∃ (i : Nat), m = 64 - i ∧ i ≤ 64 ∧ fr 3 = v0 ∧ fr 4 = .pointer (some ⟨b4, 0, none⟩) ∧ fr 6 = vp ∧ fr 7 = .pointer (some ⟨b7, 0, none⟩) ∧ fr 8 = .int .i64 i ∧
      Sep [] w wr [rB b7 (bc (pm.take i ++ List.replicate (64 - i) 0)) 32, rO vp 5 1 (bc pm) pm.length, rB b4 (uc (absorb l.length shaH l.flatten)) 70, rO v0 5 1 (bc l.flatten) l.flatten.length] [rR v 64 (bcs l) l.length]) 64 ?_ ?_
    · exact ⟨0, rfl, by omega, f3, f4, rfl, rfl, rfl, s⟩
    · rintro m fr wr J ⟨i, rfl, hi, g3, g4, g6, g7, g8, s⟩ hJ hX
      rw [g8]
      refine nlss (y := 64) (cond_d (fun hlt => ?_) (fun hlt => ?_))
      · rw [g6, g7]
        obtain ⟨b1, o1, i1, l1, _⟩ := s.byteAt 1 rfl (k := i) (by omega) .i64
        refine i1 _ ?_
        refine l1 _ ?_
        refine idxA1 hlt ?_
        have hil : (pm.take i).length = i := by rw [List.length_take]; omega
        refine s.store1 0 rfl rfl (by rw [bc_length, List.length_append, hil, List.length_replicate]; omega) rfl fun w8 s _ => ?_
        have e : (pm.take i ++ List.replicate (64 - i) 0).set i (pm.getD i 0) = pm.take (i + 1) ++ List.replicate (64 - (i + 1)) 0 := by
          rw [show 64 - i = (64 - (i + 1)) + 1 by omega, List.replicate_succ, set_mid _ _ _ _ i hil, List.take_succ_eq_append_getElem (by omega), List.append_assoc]
          congr 2
          simp [List.getD_eq_getElem?_getD, List.getElem?_eq_getElem (show i < pm.length by omega)]
        rw [bc_set, e] at s
        refine nadd (y := 1) (by omega) ?_
        exact hJ (64 - (i + 1)) _ _ (by omega) ⟨i + 1, rfl, by omega, g3, g4, g6, g7, rfl, s⟩
      · obtain rfl : i = 64 := by omega
        have e : pm.take 64 ++ List.replicate (64 - 64) 0 = pm := by simp [List.take_of_length_le, hp64]
        rw [e] at s
        have rest : ∀ (fr : Fr), fr 3 = v0 → fr 4 = .pointer (some ⟨b4, 0, none⟩) → fr 7 = .pointer (some ⟨b7, 0, none⟩) → J3 .normal fr wr := by
          intro fr g3 g4 g7
          refine seq_n h3 ?_
          rw [g3, g4, g7]
          refine s.loadAll 2 rfl (by rw [uc_length, ha8]) ?_
          refine s.loadAll 0 rfl (by rw [bc_length, hp64]) ?_
          refine fnW_of (by kernel_rfl) (Compress_c ha8 hp64 fun w9 e => ?_)
          have s := s.ext0 e
          have hc8 : (uc (compress (absorb l.length shaH l.flatten) pm)).length = 8 := by rw [uc_length]; exact compress_length _ _ ha8
          refine s.storeAll 2 rfl hc8 (by rw [uc_length, ha8]) (uc_one _) fun w10 s _ => ?_
          have s : Sep [] w w10 [rB b7 (bc pm) 32, rO vp 5 1 (bc pm) pm.length, rB b4 (uc (compress (absorb l.length shaH l.flatten) pm)) 70, rO v0 5 1 (bc l.flatten) l.flatten.length] [rR v 64 (bcs l) l.length] := s
          refine fnW_of (by kernel_rfl) (sum_c (OwnAt.rd (s.at 3 rfl)) (OwnAt.cap (s.at 3 rfl)) (by omega) fun w11 e => ?_)
          have s := s.ext0 e
          have hdl : (bc (digest l.flatten)).length = 32 := by rw [bc_length, digest_length]
          refine s.alloc zero_dig cells_dig fun b9 w12 s _ => ?_
          refine s.storeAll 0 rfl hdl rfl (bc_one _) fun w13 s _ => ?_
          have s : Sep [] w w13 [rB b9 (bc (digest l.flatten)) 62, rB b7 (bc pm) 32, rO vp 5 1 (bc pm) pm.length, rB b4 (uc (compress (absorb l.length shaH l.flatten) pm)) 70, rO v0 5 1 (bc l.flatten) l.flatten.length] [rR v 64 (bcs l) l.length] := s
          generalize hst : compress (absorb l.length shaH l.flatten) pm = st at *
          have hst8 : st.length = 8 := by rw [← uc_length]; exact hc8
          refine bindX_i fun J5 h5 => bindX_i fun J6 h6 => ?_
          refine loop_i (fun m fr wr => ∃ (i : Nat), m = 32 - i ∧ i ≤ 32 ∧ fr 4 = .pointer (some ⟨b4, 0, none⟩) ∧ fr 9 = .pointer (some ⟨b9, 0, none⟩) ∧ fr 10 = .int .i64 i ∧
            Sep [] w wr [rB b9 (bc (digest l.flatten)) 62, rB b7 (bc pm) 32, rO vp 5 1 (bc pm) pm.length, rB b4 (uc st) 70, rO v0 5 1 (bc l.flatten) l.flatten.length] [rR v 64 (bcs l) l.length]) 32 ?_ ?_
          · exact ⟨0, rfl, by omega, g4, rfl, rfl, s⟩
          · rintro m fr wr J ⟨i, rfl, hi, k4, k9, k10, s⟩ hJ hX
            rw [k10]
            refine nlss (y := 32) (cond_d (fun hlt => ?_) (fun hlt => ?_))
            · rw [k4, k9]
              have s := s.drew
              generalize wr.drew = wr at *
              refine idxA1 hlt ?_
              refine s.load1 0 rfl (bc_get (l := digest l.flatten) (i := i) (by rw [digest_length]; exact hlt)) ?_
              refine nquo (y := 4) (by decide) (by omega) ?_
              refine idxA1 (i := i / 4) (by omega) ?_
              refine s.ldw 3 rfl (by omega) ?_
              refine nand (y := 3) (by omega) (by decide) ?_
              have e3 : i &&& 3 = i % 4 := Nat.and_two_pow_sub_one_eq_mod i 2
              rw [e3]
              refine nmul (x := 8) (by omega) ?_
              refine nsub (x := 24) (by omega) (by decide) ?_
              rw [convN_i und_int und_uint, wrap_u64n, Nat.mod_eq_of_lt (by omega)]
              unfold uv
              refine nshr (by show 24 - 8 * (i % 4) ≤ 32; omega) ?_
              rw [conv_byte und_u32 und_u8]
              have eg : (digest l.flatten).getD i 0 = UInt8.ofNat ((st.getD (i / 4) 0).toNat >>> (24 - 8 * (i % 4))) := by
                rw [hdig]
                unfold outM
                rw [List.getD_eq_getElem?_getD]
                simp [hlt]
              rw [eg]
              unfold bv
              refine nneq ?_
              rw [decide_eq_false (by simp), condW_f]
              refine nadd (y := 1) (by omega) ?_
              exact hJ (32 - (i + 1)) _ _ (by omega) ⟨i + 1, rfl, by omega, k4, k9, rfl, s⟩
            · have fin : ∀ (fr : Fr), J5 .normal fr wr := by
                intro fr
                refine seq_n h5 ?_
                exact hK _ s.ext
              exact hX _ _ _ (by simp) (h6 _ _ _ (blk_x (fin _)))
        exact hX _ _ _ (by simp) (h4 _ _ _ (blk_x (rest _ g3 g4 g7)))
  refine loop_i (fun m fr wr => ∃ (i : Nat) (v0 : Value), m = l.length - i ∧ i ≤ l.length ∧ fr 0 = v ∧ fr 3 = v0 ∧ fr 4 = .pointer (some ⟨b4, 0, none⟩) ∧ fr 5 = .int .i64 i ∧
    Sep [] w wr [rB b4 (uc (absorb i shaH (l.take i).flatten)) 70, rO v0 5 1 (bc (l.take i).flatten) (l.take i).flatten.length] [rR v 64 (bcs l) l.length]) l.length ?_ ?_
  · exact ⟨0, v0, rfl, by omega, rfl, rfl, rfl, rfl, s⟩
  · rintro m fr wr J ⟨i, v0, rfl, hi, f0, f3, f4, f5, s⟩ hJ hX
    rw [f0, f5, hlen]
    refine nlss (cond_d (fun hlt => ?_) (fun hlt => ?_))
    · rw [f3, f4]
      have hb64 := h64 l[i] (List.getElem_mem hlt)
      have htl := flat64 _ (fun x hx => h64 x (List.mem_of_mem_take hx) : ∀ x ∈ l.take i, x.length = 64)
      rw [List.length_take, Nat.min_eq_left hi] at htl
      obtain ⟨b, o, cs, hix, hbk, hle, hpart⟩ := RdSl.elem (s.rat 0 rfl) hlt (by decide) .i64
      rw [bcs_get h64 hlt] at hpart
      refine hix _ ?_
      refine slArrO ?_
      obtain ⟨ui, hui, huz, husz, huby⟩ := tyI_spec ty_u8
      refine s.appendO (v := v0) (n := (l.take i).flatten.length) (m := 64) (ys := bc l[i]) (xs := bc (l.take i).flatten) 1 (by rw [husz]; rfl) und_u8s und_u8s hui huz (by rw [husz]; rfl) (by rw [huby]; decide) (by rw [husz]; exact ⟨by rw [bc_length]; omega, .inr ⟨b, o, 64, cs, rfl, hbk, by rw [Nat.mul_one]; exact hpart, by omega⟩⟩) (bc_one _) (by rw [huby]; omega) fun v2 w8 s => ?_
      have el : (l.take i).flatten.length + 64 = (l.take (i + 1)).flatten.length := by rw [flat_take _ _ hlt, List.length_append, hb64]
      rw [husz, ← bc_append, ← flat_take _ _ hlt, el] at s
      have s : Sep [] w w8 [rB b4 (uc (absorb i shaH (l.take i).flatten)) 70, rO v2 5 1 (bc (l.take (i + 1)).flatten) (l.take (i + 1)).flatten.length] [rR v 64 (bcs l) l.length] := s
      have s := s.drew
      generalize w8.drew = w9 at *
      have ha8 : (absorb i shaH (l.take i).flatten).length = 8 := absorb_length _ _ _ rfl
      refine s.loadAll 0 rfl (by rw [uc_length, ha8]) ?_
      obtain ⟨b, o, cs, hix, hbk, hle, hpart⟩ := RdSl.elem (s.rat 0 rfl) hlt (by decide) .i64
      rw [bcs_get h64 hlt] at hpart
      refine hix _ ?_
      refine loadN hbk hle ?_
      rw [hpart]
      refine fnW_of (by kernel_rfl) (Compress_c ha8 hb64 fun w10 e => ?_)
      have s := s.ext0 e
      rw [fold_absorb l h64 i hi hlt]
      have hn8 : (absorb (i + 1) shaH (l.take (i + 1)).flatten).length = 8 := absorb_length _ _ _ rfl
      refine s.storeAll 0 rfl (by rw [uc_length, hn8]) (by rw [uc_length, ha8]) (uc_one _) fun w11 s _ => ?_
      refine nadd (y := 1) (by omega) ?_
      exact hJ (l.length - (i + 1)) _ _ (by omega) ⟨i + 1, v2, rfl, by omega, f0, rfl, f4, rfl, s⟩
    · obtain rfl : i = l.length := by omega
      rw [List.take_length] at s
      exact hX _ _ _ (by simp) (h2 _ _ _ (blk_x (tail _ _ v0 f3 f4 s)))
end Go.Proofs.Ytedebapgmfnflaa
