/- Digits and order by the document: the walks. -/
import Derived.Test.YtedebapgmfnflaaTF
namespace Go.Proofs.Ytedebapgmfnflaa
open Go
set_option maxRecDepth 100000

theorem value_c {w : World} {K : VPost} {c : UInt8} (hK : K (.int .i64 (dval c)) w) : Calls Try.prog 86 #[bv c] w (retK K) := by
  refine c86_calls _ w K ?_
  unfold c86
  have hdig : ∀ i : Fin 16, dval (dig (UInt8.ofNat i.val)) = i.val := by decide +kernel
  have hno : (∀ i : Nat, i < 16 → dig (UInt8.ofNat i) ≠ c) → dval c = -1 := by
    intro h
    have H : ∀ k : Fin 256, (∀ i : Fin 16, dig (UInt8.ofNat i.val) ≠ UInt8.ofNat k.val) → dval (UInt8.ofNat k.val) = -1 := by decide +kernel
    have := H ⟨c.toNat, c.toNat_lt⟩ (fun i => by simpa using h i.val i.isLt)
    simpa using this
  refine bindX_i fun J0 h0 => bindX_i fun J1 h1 => bindX_i fun J4 h4 => ?_
  refine loop_i (fun m fr wr => ∃ (i : Nat), m = 16 - i ∧ i ≤ 16 ∧ fr 0 = bv c ∧ fr 3 = .int .i64 i ∧ (∀ j, j < i → dig (UInt8.ofNat j) ≠ c) ∧ w = wr) 16 ?_ ?_
  · exact ⟨0, rfl, by omega, rfl, rfl, by simp, rfl⟩
  · rintro m fr wr J ⟨i, rfl, hi, f0, f3, hlt0, rfl⟩ hJ hX
    rw [f0, f3]
    refine nlss (y := 16) (cond_d (fun hlt => ?_) (fun hlt => ?_))
    · have hd := digs_get ⟨i, hlt⟩
      have hn : (UInt8.ofNat i).toNat = i := by rw [UInt8.toNat_ofNat']; omega
      refine ⟨by omega, dig (UInt8.ofNat i), by rw [Int.toNat_natCast]; unfold dig; rw [hn]; exact hd, ?_⟩
      unfold bv
      refine neql (cond_d (fun he => ?_) (fun hne => ?_))
      · have he : dig (UInt8.ofNat i) = c := UInt8.toNat_inj.1 he
        refine hX _ _ _ (by simp) (h4 _ _ _ (h1 _ _ _ (h0 _ _ _ ?_)))
        have := hdig ⟨i, hlt⟩
        rw [he] at this
        rw [this] at hK
        exact hK
      · refine nadd (y := 1) (by omega) ?_
        refine hJ (16 - (i + 1)) _ _ (by omega) ⟨i + 1, rfl, by omega, f0, rfl, fun j hj => ?_, rfl⟩
        by_cases h : j = i
        · subst h; exact fun e => hne (by rw [e])
        · exact hlt0 j (by omega)
    · obtain rfl : i = 16 := by omega
      refine hX _ _ _ (by simp) (h4 _ _ _ (blk_x (seq_n h1 ?_)))
      rw [hno hlt0] at hK
      exact hK

set_option maxHeartbeats 1000000 in
theorem rhex_c {w : World} {K : VPost} {d : Bytes} (hd : d.length = 32) (hK : ∀ w', Ext [] w w' → K (.string ⟨(hexB d).toArray⟩) w') : Calls Try.prog 57 #[.agg (bc d).toArray] w (retK K) := by
  refine c57_calls _ w K ?_
  unfold c57
  refine (Sep.nil w).box fun b1 w1 s _ => ?_
  refine s.litB [] rfl (by simp) fun t w2 s _ _ => ?_
  have s : Sep [] w w2 [rDb t [], rB b1 (bc d) 62] [] := s
  refine bindX_i fun J0 h0 => bindX_i fun J1 h1 => bindX_i fun J2 h2 => ?_
  refine loop_i (fun m fr wr => ∃ (i : Nat) (t : Value), m = 32 - i ∧ i ≤ 32 ∧ fr 1 = .pointer (some ⟨b1, 0, none⟩) ∧ fr 3 = t ∧ fr 4 = .int .i64 i ∧ Sep [] w wr [rDb t (hexB (d.take i)), rB b1 (bc d) 62] []) 32 ?_ ?_
  · exact ⟨0, t, rfl, by omega, rfl, rfl, rfl, s⟩
  · rintro m fr wr J ⟨i, t, rfl, hi, f1, f3, f4, s⟩ hJ hX
    rw [f1, f3, f4]
    refine nlss (y := 32) (cond_d (fun hlt => ?_) (fun hlt => ?_))
    · have hid : i < d.length := by omega
      have s := s.drew
      have hld : (bc d)[i]? = some (bv d[i]) := by simp [bc, hid]
      have hb := d[i].toNat_lt
      refine idxA1 hlt ?_
      refine s.load1 1 rfl hld ?_
      have e1 : binN Try.prog .quo 5 true (bv d[i]) (.int .u8 16) wr.drew = fun K => K (bv (d[i] >>> 4)) wr.drew := by
        funext K
        unfold bv
        rw [iquo (by decide)]
        have h1 : (d[i].toNat : Int).tdiv 16 = ((d[i].toNat / 16 : Nat) : Int) := rfl
        have h2 : (d[i] >>> 4).toNat = d[i].toNat / 16 := by
          rw [UInt8.toNat_shiftRight]
          show d[i].toNat >>> 4 = _
          rw [Nat.shiftRight_eq_div_pow]
        rw [h1, h2, wrap_u8n, UInt8.toNat_ofNat', Nat.mod_eq_of_lt (by omega)]
      have e2 : ∀ w, binN Try.prog .rem 5 true (bv d[i]) (.int .u8 16) w = fun K => K (bv (d[i] &&& 15)) w := by
        intro w
        funext K
        unfold bv
        rw [irem (by decide)]
        have h1 : (d[i].toNat : Int).tmod 16 = ((d[i].toNat % 16 : Nat) : Int) := rfl
        have h2 : (d[i] &&& 15).toNat = d[i].toNat % 16 := by
          rw [UInt8.toNat_and]
          show d[i].toNat &&& (2 ^ 4 - 1) = _
          rw [Nat.and_two_pow_sub_one_eq_mod]
        rw [h1, h2]
      rw [e1]
      refine ixv_dig (hi_lt _) ?_
      refine idxA1 hlt ?_
      refine s.load1 1 rfl hld ?_
      rw [e2]
      refine ixv_dig (lo_lt _) ?_
      refine s.litB [dig (d[i] >>> 4), dig (d[i] &&& 15)] rfl (by simp) fun t2 w3 s _ _ => ?_
      have hhl := hexB_length (d.take i)
      refine s.apB (v := t) (l := hexB (d.take i)) (y := [dig (d[i] >>> 4), dig (d[i] &&& 15)]) 1 rfl (OwnAt.rd (s.at 0 rfl)) (by rw [hhl, List.length_take]; simp; omega) fun t3 w4 s => ?_
      have e : hexB (d.take i) ++ [dig (d[i] >>> 4), dig (d[i] &&& 15)] = hexB (d.take (i + 1)) := by
        rw [List.take_succ_eq_append_getElem hid, hexB_snoc]; simp
      rw [e] at s
      have s := s.drop 0
      refine nadd (y := 1) (by omega) ?_
      exact hJ (32 - (i + 1)) _ _ (by omega) ⟨i + 1, t3, rfl, by omega, f1, rfl, rfl, s⟩
    · obtain rfl : i = 32 := by omega
      rw [List.take_of_length_le (by omega)] at s
      have fin : ∀ (fr : Fr), fr 3 = t → J1 .normal fr wr := by
        intro fr f3
        refine seq_n h1 ?_
        rw [f3]
        refine conv_bs und_u8s und_u8 und_str (OwnAt.rd (s.at 0 rfl)) ?_
        exact hK _ s.ext
      exact hX _ _ _ (by simp) (h2 _ _ _ (blk_x (fin _ f3)))

theorem dval_lt (c : UInt8) : dval c < 16 := by
  have H : ∀ k : Fin 256, dval (UInt8.ofNat k.val) < 16 := by decide +kernel
  have := H ⟨c.toNat, c.toNat_lt⟩
  simpa using this
/-- Two digits make a byte. -/
theorem fromHexL_two (c1 c2 : UInt8) (r : Bytes) (k : Nat) (d : Bytes) (hk : k < d.length) (hz : d.getD k 0 = 0) :
    fromHexL (c1 :: c2 :: r) (2 * k) d = if dval c1 < 0 then none else if dval c2 < 0 then none else fromHexL r (2 * (k + 1)) (d.set k (UInt8.ofNat (16 * (dval c1).toNat + (dval c2).toNat))) := by
  have e1 : 2 * k / 2 = k := by omega
  have e2 : (2 * k + 1) / 2 = k := by omega
  rw [fromHexL]
  by_cases h1 : dval c1 < 0
  · rw [if_pos h1, if_pos h1]
  · rw [if_neg h1, if_neg h1, fromHexL]
    by_cases h2 : dval c2 < 0
    · rw [if_pos h2, if_pos h2]
    · rw [if_neg h2, if_neg h2, e1, e2, hz]
      have hr : ∀ c : UInt8, dval c < 16 := by
        intro c
        have H : ∀ k : Fin 256, dval (UInt8.ofNat k.val) < 16 := by decide +kernel
        have := H ⟨c.toNat, c.toNat_lt⟩
        simpa using this
      have g1 := hr c1
      have g2 := hr c2
      obtain ⟨n1, hn1⟩ : ∃ n : Nat, dval c1 = n := ⟨(dval c1).toNat, by omega⟩
      obtain ⟨n2, hn2⟩ : ∃ n : Nat, dval c2 = n := ⟨(dval c2).toNat, by omega⟩
      rw [hn1, hn2, Int.toNat_natCast, Int.toNat_natCast]
      have hs : (d.set k ((0 : UInt8) <<< 4 ||| UInt8.ofNat n1)).getD k 0 = (0 : UInt8) <<< 4 ||| UInt8.ofNat n1 := by
        rw [List.getD_eq_getElem?_getD, List.getElem?_set_self hk]; rfl
      have hb : ((0 : UInt8) <<< 4 ||| UInt8.ofNat n1) <<< 4 ||| UInt8.ofNat n2 = UInt8.ofNat (16 * n1 + n2) := by
        have H : ∀ a b : Fin 16, ((0 : UInt8) <<< 4 ||| UInt8.ofNat a.val) <<< 4 ||| UInt8.ofNat b.val = UInt8.ofNat (16 * a.val + b.val) := by decide +kernel
        exact H ⟨n1, by omega⟩ ⟨n2, by omega⟩
      rw [hs, hb, List.set_set]
      rfl

theorem ixv_s {l : Bytes} {k : IntKind} {i : Nat} {w : World} {K : VPost} (hi : i < l.length) (hK : K (bv l[i]) w) : ixvW .str (.string ⟨l.toArray⟩) (.int k i) w K := by
  refine ⟨by omega, l[i], ?_, hK⟩
  rw [Int.toNat_natCast]
  show (ByteArray.mk l.toArray)[i]? = _
  have hs : (ByteArray.mk l.toArray).size = l.length := by show l.toArray.size = _; rw [List.size_toArray]
  rw [getElem?_pos (ByteArray.mk l.toArray) i (by rw [hs]; exact hi)]
  rfl

set_option maxHeartbeats 2000000 in
theorem rfromHex_c {w : World} {K : VPost} {s : Bytes} (hK : ∀ w', Ext [] w w' → K (.tuple #[.agg (bc (fromHex s).1).toArray, .bool (fromHex s).2]) w') : Calls Try.prog 55 #[.string ⟨s.toArray⟩] w (retK K) := by
  refine c55_calls _ w K ?_
  unfold c55
  refine (Sep.nil w).alloc zero_dig cells_dig fun b2 w1 sp _ => ?_
  refine build0_dig ?_
  refine sp.alloc zero_dig cells_dig fun b4 w2 sp _ => ?_
  refine sp.storeAll 0 rfl (by simp [bc]) (by simp [bc]) (bc_one _) fun w3 sp _ => ?_
  have sp : Sep [] w w3 [rB b4 (bc (List.replicate 32 0)) 62, rB b2 (bc (List.replicate 32 0)) 62] [] := sp
  have hsz : (ByteArray.mk s.toArray).size = s.length := by show s.toArray.size = _; rw [List.size_toArray]
  rw [len_str, hsz]
  refine nneq (y := 64) ?_
  by_cases hlen : s.length = 64
  · rw [decide_eq_false (by simp [hlen]), condW_f]
    have hfh : fromHex s = match fromHexL s 0 (List.replicate 32 0) with
      | some d => (d, true)
      | none => (List.replicate 32 0, false) := by unfold fromHex; rw [if_pos hlen]; cases fromHexL s 0 (List.replicate 32 0) <;> rfl
    refine bindX_i fun J16 h16 => bindX_i fun J17 h17 => bindX_i fun J25 h25 => ?_
    refine loop_i (fun m fr wr => ∃ (i : Nat) (d : Bytes), m = 32 - i ∧ i ≤ 32 ∧ d.length = 32 ∧ (∀ j, i ≤ j → d.getD j 0 = 0) ∧ fromHexL (s.drop (2 * i)) (2 * i) d = fromHexL s 0 (List.replicate 32 0) ∧ fr 0 = .string ⟨s.toArray⟩ ∧ fr 2 = .pointer (some ⟨b2, 0, none⟩) ∧ fr 3 = .bool false ∧ fr 4 = .pointer (some ⟨b4, 0, none⟩) ∧ fr 5 = .int .i64 i ∧
      Sep [] w wr [rB b4 (bc d) 62, rB b2 (bc (List.replicate 32 0)) 62] []) 32 ?_ ?_
    · refine ⟨0, List.replicate 32 0, rfl, by omega, by simp, fun j _ => ?_, rfl, rfl, rfl, rfl, rfl, rfl, sp⟩
      rw [List.getD_eq_getElem?_getD, List.getElem?_replicate]
      split <;> rfl
    · rintro m fr wr J ⟨i, d, rfl, hi, hd, hz, hst, f0, f2, f3, f4, f5, sp⟩ hJ hX
      rw [f0, f2, f4, f5]
      refine nlss (y := 32) (cond_d (fun hlt => ?_) (fun hlt => ?_))
      · have hsd : s.drop (2 * i) = s[2 * i] :: s[2 * i + 1] :: s.drop (2 * (i + 1)) := by
          rw [List.drop_eq_getElem_cons (show 2 * i < s.length by omega), List.drop_eq_getElem_cons (show 2 * i + 1 < s.length by omega)]
          rfl
        rw [hsd, fromHexL_two _ _ _ _ _ (by omega) (hz i (Nat.le_refl _))] at hst
        refine nmul (x := 2) (by omega) ?_
        refine ixv_s (by omega) ?_
        refine fnW_of (by kernel_rfl) (value_c ?_)
        refine nmul (x := 2) (by omega) ?_
        refine nadd (y := 1) (by omega) ?_
        refine ixv_s (by omega) ?_
        refine fnW_of (by kernel_rfl) (value_c ?_)
        generalize hv1 : dval s[2 * i] = n1 at *
        generalize hv2 : dval s[2 * i + 1] = n2 at *
        have bad : none = fromHexL s 0 (List.replicate 32 0) → ∀ {G : Value → Fr}, (∀ x, G x 2 = .pointer (some ⟨b2, 0, none⟩)) → (∀ x, G x 3 = .bool false) → insW Try.prog (Instr.build 62 #[]) wr fun t w1 => storeW (some (true, 32)) (.pointer (some ⟨b2, 0, none⟩)) t w1 fun w2 => J .ret (G t) w2 := by
          intro hn G g2 g3
          refine build0_dig ?_
          refine sp.storeAll 1 rfl (by simp [bc]) (by simp [bc]) (bc_one _) fun w4 sp _ => ?_
          refine hX _ _ _ (by simp) (h25 _ _ _ (h17 _ _ _ (h16 _ _ _ ?_)))
          show loadW (szI Try.prog 62) (G _ 2) w4 fun v _ => K (.tuple #[v, G _ 3]) w4
          rw [szI_dig, g2, g3]
          refine sp.loadAll 1 rfl (by simp [bc]) ?_
          rw [← hn] at hfh
          have := hK w4 sp.ext
          rw [hfh] at this
          exact this
        rw [ilss]
        by_cases hn1 : n1 < 0
        · rw [if_pos hn1] at hst
          rw [decide_eq_true hn1]
          repeat with_reducible refine gs_tf ?_
          refine pick_ti ?_
          rw [condW_t]
          refine bad hst ?_ ?_
          · exact fun x => f2
          · exact fun x => rfl
        · rw [if_neg hn1] at hst
          rw [decide_eq_false hn1]
          repeat with_reducible refine gs_f ?_
          rw [ilss]
          refine pick_fi ?_
          refine cond_d (fun hn2 => ?_) (fun hn2 => ?_)
          · rw [if_pos hn2] at hst
            refine bad hst ?_ ?_
            · exact fun x => f2
            · exact fun x => rfl
          · rw [if_neg hn2] at hst
            obtain ⟨m1, rfl⟩ : ∃ n : Nat, n1 = n := ⟨n1.toNat, by omega⟩
            obtain ⟨m2, rfl⟩ : ∃ n : Nat, n2 = n := ⟨n2.toNat, by omega⟩
            rw [Int.toNat_natCast, Int.toNat_natCast] at hst
            have g1 := dval_lt s[2 * i]
            have g2 := dval_lt s[2 * i + 1]
            rw [hv1] at g1
            rw [hv2] at g2
            refine nmul (x := 16) (by omega) ?_
            refine nadd (by omega) ?_
            rw [conv_byte und_int und_u8]
            refine idxA1 hlt ?_
            refine sp.store1 0 rfl rfl (by rw [bc_length]; omega) rfl fun w4 sp _ => ?_
            refine nadd (y := 1) (by omega) ?_
            have e : (bc d).set i (bv (UInt8.ofNat (16 * m1 + m2))) = bc (d.set i (UInt8.ofNat (16 * m1 + m2))) := bc_set _ _ _
            rw [e] at sp
            refine hJ (32 - (i + 1)) _ _ (by omega) ⟨i + 1, _, rfl, by omega, by simp [hd], fun j hj => ?_, hst, f0, f2, f3, f4, rfl, sp⟩
            rw [List.getD_eq_getElem?_getD, List.getElem?_set_ne (by omega), ← List.getD_eq_getElem?_getD]
            exact hz j (by omega)
      · obtain rfl : i = 32 := by omega
        rw [List.drop_eq_nil_of_le (by omega), fromHexL] at hst
        rw [← hst] at hfh
        have fin : ∀ (fr : Fr), fr 2 = .pointer (some ⟨b2, 0, none⟩) → fr 4 = .pointer (some ⟨b4, 0, none⟩) → J17 .normal fr wr := by
          intro fr f2 f4
          refine seq_n h17 ?_
          rw [f2, f4]
          refine sp.loadAll 0 rfl (by rw [bc_length]; exact hd) ?_
          refine sp.storeAll 1 rfl (by rw [bc_length]; exact hd) (by simp [bc]) (bc_one _) fun w4 sp _ => ?_
          refine sp.loadAll 1 rfl (by rw [bc_length]; exact hd) ?_
          have := hK w4 sp.ext
          rw [hfh] at this
          exact this
        exact hX _ _ _ (by simp) (h25 _ _ _ (blk_x (fin _ f2 f4)))
  · rw [decide_eq_true hlen, condW_t]
    refine sp.loadAll 0 rfl (by simp [bc]) ?_
    refine sp.storeAll 1 rfl (by simp [bc]) (by simp [bc]) (bc_one _) fun w3 sp _ => ?_
    refine sp.loadAll 1 rfl (by simp [bc]) ?_
    have := hK w3 sp.ext
    rw [fromHex, if_neg hlen] at this
    exact this
end Go.Proofs.Ytedebapgmfnflaa
