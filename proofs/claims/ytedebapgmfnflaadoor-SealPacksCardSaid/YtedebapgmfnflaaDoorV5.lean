/- Bytes compared and trimmed; a sector's wholeness, marks and data: walks. Condition: sectors have 64 bytes. -/
import Derived.Test.YtedebapgmfnflaaDoorV3
import Derived.Test.YtedebapgmfnflaaDoorNB
namespace Go.Proofs.YtedebapgmfnflaaDoor
open Go
set_option maxRecDepth 100000

theorem equal_c {w : World} {K : VPost} {x y : Value} {a b : Bytes} (hx : RdSl w x 1 (bc a) a.length) (hy : RdSl w y 1 (bc b) b.length) (hK : K (.bool (decide (a = b))) w) : Calls Tryd.prog 77 #[x, y] w (retK K) := by
  refine c77_calls _ _ w K ?_
  unfold c77
  refine conv_bs und_u8s und_u8 und_str hx ?_
  refine conv_bs und_u8s und_u8 und_str hy ?_
  exact str_eql hK

/-- The bytes are zeros. -/
abbrev zrB (b : Bytes) : Bool := b.all (· == 0)

theorem zr_drop {b : Bytes} {k : Nat} (h : k < b.length) : zrB (b.drop k) = ((b.getD k 0 == 0) && zrB (b.drop (k + 1))) := by
  unfold zrB
  rw [List.drop_eq_getElem_cons h, List.all_cons]
  congr 2
  rw [List.getD_eq_getElem?_getD, List.getElem?_eq_getElem h]; rfl
theorem zr_take {b : Bytes} {k : Nat} (h : k < b.length) : zrB (b.take (k + 1)) = (zrB (b.take k) && (b.getD k 0 == 0)) := by
  unfold zrB
  rw [List.take_succ_eq_append_getElem h, List.all_append]
  congr 1
  rw [List.getD_eq_getElem?_getD, List.getElem?_eq_getElem h]
  simp

theorem u8_zero (x : UInt8) : decide (x.toNat = 0) = (x == 0) := by
  have : x.toNat = 0 ↔ x = 0 := ⟨fun h => UInt8.toNat_inj.1 h, fun h => by rw [h]; rfl⟩
  by_cases h : x = 0
  · simp [h]
  · rw [decide_eq_false (fun e => h (this.1 e))]; simp [h]

set_option maxHeartbeats 1000000 in
theorem trimR_c {w : World} {K : VPost} {x : Value} {b : Bytes} (hx : RdSl w x 1 (bc b) b.length) (hc : capOk x) (hn : b.length ≤ 1073741824)
    (hK : ∀ v k, k ≤ b.length → RdSl w v 1 (bc (b.take k)) (b.take k).length → capOk v → zrB (b.drop k) = true → (k = 0 ∨ b.getD (k - 1) 0 ≠ 0) → K v w) : Calls Tryd.prog 137 #[x, .int .u8 0] w (retK K) := by
  refine c137_calls _ _ w K ?_
  unfold c137
  refine bindX_i fun J0 h0 => bindX_i fun J1 h1 => bindX_i fun J2 h2 => ?_
  refine loop_i (fun m fr wr => ∃ v, m ≤ b.length ∧ fr 0 = v ∧ fr 1 = .int .u8 0 ∧ RdSl w v 1 (bc (b.take m)) (b.take m).length ∧ capOk v ∧ zrB (b.drop m) = true ∧ w = wr) b.length ?_ ?_
  · refine ⟨x, Nat.le_refl _, rfl, rfl, ?_, hc, ?_, rfl⟩
    · rw [List.take_length]; exact hx
    · rw [List.drop_length]; rfl
  · rintro m fr wr J ⟨v, hm, f0, f1, hv, hcv, hz, rfl⟩ hJ hX
    have hl : (b.take m).length = m := by rw [List.length_take]; omega
    rw [f0, hv.lenw, hl]
    refine ngtr (y := 0) ?_
    by_cases hp : 0 < m
    · rw [decide_eq_true hp]
      refine gs_t ?_
      refine gs_t ?_
      refine gs_t ?_
      rw [hv.lenw, hl]
      refine gs_t ?_
      refine nsub (y := 1) (by omega) (by omega) ?_
      obtain ⟨b1, o1, i1, l1⟩ := RdSl.elAt (f := bv) 0 hv (k := m - 1) (by rw [hl]; omega) .i64
      refine gs_t ?_
      refine i1 _ ?_
      refine gs_t ?_
      refine l1 _ ?_
      refine gs_t ?_
      rw [f1]
      refine gs_t ?_
      have hg : (b.take m).getD (m - 1) 0 = b.getD (m - 1) 0 := by
        rw [List.getD_eq_getElem?_getD, List.getD_eq_getElem?_getD, List.getElem?_take, if_pos (by omega)]
      rw [hg]
      refine neql (y := 0) ?_
      refine pick_ti ?_
      have hzd := zr_drop (b := b) (k := m - 1) (by omega)
      rw [show m - 1 + 1 = m by omega, hz, Bool.and_true] at hzd
      rw [u8_zero]
      cases he : (b.getD (m - 1) 0 == 0) with
      | true =>
        refine cndT ?_
        rw [hv.lenw, hl]
        refine nsub (y := 1) (by omega) (by omega) ?_
        refine hv.cut (l := 0) (h := m - 1) hcv rfl rfl (by omega) (by omega) fun v' hv' hc' _ _ => ?_
        rw [Nat.zero_mul, List.drop_zero, Nat.sub_zero, Nat.mul_one, ← List.drop_zero (l := bc (b.take m)), bc_part, List.drop_zero, List.take_take, Nat.min_eq_left (by omega)] at hv'
        have hl2 : (b.take (m - 1)).length = m - 1 := by rw [List.length_take]; omega
        exact hJ (m - 1) _ _ (by omega) ⟨v', by omega, rfl, f1, by rw [hl2]; exact hv', hc', by rw [hzd, he], rfl⟩
      | false =>
        refine cndF ?_
        refine hX _ _ _ (by simp) (h2 _ _ _ (h1 _ _ _ ?_))
        show K (fr 0) _
        rw [f0]
        exact hK v m hm hv hcv hz (.inr (by simpa using he))
    · rw [decide_eq_false hp]
      repeat with_reducible refine gs_ft ?_
      refine pick_fi ?_
      refine cndF ?_
      refine hX _ _ _ (by simp) (h2 _ _ _ (h1 _ _ _ ?_))
      show K (fr 0) _
      rw [f0]
      exact hK v m hm hv hcv hz (.inl (by omega))

set_option maxHeartbeats 1000000 in
theorem trimL_c {w : World} {K : VPost} {x : Value} {b : Bytes} (hx : RdSl w x 1 (bc b) b.length) (hc : capOk x) (hn : b.length ≤ 1073741824)
    (hK : ∀ v m, (∃ a c, v = .slice a m c) → (m = 0 ↔ zrB b = true) → K v w) : Calls Tryd.prog 136 #[x, .int .u8 0] w (retK K) := by
  refine c136_calls _ _ w K ?_
  unfold c136
  refine bindX_i fun J0 h0 => bindX_i fun J1 h1 => bindX_i fun J2 h2 => ?_
  refine loop_i (fun q fr wr => ∃ (m : Nat) (v : Value), q = b.length - m ∧ m ≤ b.length ∧ fr 0 = v ∧ fr 1 = .int .u8 0 ∧ RdSl w v 1 (bc (b.drop m)) (b.drop m).length ∧ capOk v ∧ zrB (b.take m) = true ∧ w = wr) b.length ?_ ?_
  · exact ⟨0, x, rfl, by omega, rfl, rfl, by rw [List.drop_zero]; exact hx, hc, rfl, rfl⟩
  · rintro q fr wr J ⟨m, v, rfl, hm, f0, f1, hv, hcv, hz, rfl⟩ hJ hX
    have hl : (b.drop m).length = b.length - m := by rw [List.length_drop]
    rw [f0, hv.lenw, hl]
    refine ngtr (y := 0) ?_
    have hend : ∀ (fr' : Fr), fr' 0 = v → (b.length - m = 0 ↔ zrB b = true) → J1 .normal fr' w := by
      intro fr' g0 hiff
      refine h1 _ _ _ (seqX_n ?_)
      show lenW _ _ _ _ #[fr' 0] _ _
      rw [g0, hv.lenw, hl]
      refine neql (y := 0) ?_
      refine cond_d (fun he => ?_) (fun he => ?_)
      · exact hK _ 0 ⟨_, _, rfl⟩ ⟨fun _ => hiff.1 he, fun _ => rfl⟩
      · exact hK v _ hv.len (by rw [hl]; exact hiff)
    by_cases hp : 0 < b.length - m
    · rw [decide_eq_true hp]
      refine gs_t ?_
      refine gs_t ?_
      obtain ⟨b1, o1, i1, l1⟩ := RdSl.elAt (f := bv) 0 hv (k := 0) (by rw [hl]; omega) .i64
      refine i1 _ ?_
      refine gs_t ?_
      refine l1 _ ?_
      refine gs_t ?_
      rw [f1]
      refine gs_t ?_
      have hg : (b.drop m).getD 0 0 = b.getD m 0 := by
        rw [List.getD_eq_getElem?_getD, List.getD_eq_getElem?_getD, List.getElem?_drop, Nat.add_zero]
      rw [hg]
      refine neql (y := 0) ?_
      refine pick_ti ?_
      rw [u8_zero]
      cases he : (b.getD m 0 == 0) with
      | true =>
        refine cndT ?_
        refine hv.cut (l := 1) (h := (b.drop m).length) hcv rfl rfl (by rw [hl]; omega) (Nat.le_refl _) fun v' hv' hc' _ _ => ?_
        rw [Nat.mul_one, Nat.mul_one, bc_part, List.drop_drop] at hv'
        have hl2 : (b.drop (m + 1)).length = (b.drop m).length - 1 := by rw [List.length_drop, List.length_drop]; omega
        rw [← hl2, List.take_length] at hv'
        exact hJ (b.length - (m + 1)) _ _ (by omega) ⟨m + 1, v', rfl, by omega, rfl, f1, hv', hc', by rw [zr_take (by omega), hz, he]; rfl, rfl⟩
      | false =>
        refine cndF ?_
        refine hX _ _ _ (by simp) (h2 _ _ _ (hend _ f0 ⟨fun h => by omega, fun h => ?_⟩))
        exfalso
        have h3 : zrB (b.drop m) = true := by
          rw [List.all_eq_true] at h ⊢
          exact fun y hy => h y (List.mem_of_mem_drop hy)
        rw [zr_drop (by omega), he] at h3
        cases h3
    · rw [decide_eq_false hp]
      repeat with_reducible refine gs_ft ?_
      refine pick_fi ?_
      refine cndF ?_
      refine hX _ _ _ (by simp) (h2 _ _ _ (hend _ f0 ⟨fun _ => ?_, fun _ => by omega⟩))
      rw [List.take_of_length_le (by omega)] at hz
      exact hz

theorem trim_c {w : World} {K : VPost} {x : Value} {b : Bytes} (hx : RdSl w x 1 (bc b) b.length) (hc : capOk x) (hn : b.length ≤ 1073741824)
    (hK : ∀ v m, (∃ a c, v = .slice a m c) → (m = 0 ↔ zrB b = true) → ∀ w', Ext [] w w' → K v w') : Calls Tryd.prog 80 #[x, .string ⟨#[0]⟩] w (retK K) := by
  refine c80_calls _ _ w K ?_
  unfold c80
  rw [hx.lenw]
  refine neql (y := 0) (cond_d (fun h => ?_) (fun h => ?_))
  · have : b = [] := List.length_eq_zero_iff.1 h
    subst this
    exact hK _ 0 ⟨_, _, rfl⟩ ⟨fun _ => rfl, fun _ => rfl⟩ w (Ext.refl _ _)
  · refine str_eql (a := [0]) (b := []) ?_
    refine cndF ?_
    refine neql (x := 1) (y := 1) ?_
    refine gs_t ?_
    refine gs_t ?_
    refine ixv_s (l := [0]) (i := 0) (by decide) ?_
    refine gs_t ?_
    refine nlss (x := 0) (y := 128) ?_
    refine pick_ti ?_
    refine cndT ?_
    have e := Ext.drew [] w
    have hx' := (rR x 1 (bc b) b.length).keep hx e (by simp)
    generalize w.drew = w1 at *
    refine ixv_s (l := [0]) (i := 0) (by decide) ?_
    refine ixv_s (l := [0]) (i := 0) (by decide) ?_
    refine fnW_of (by kernel_rfl) (trimR_c hx' hc hn fun v k hk hv hcv hz hlast => ?_)
    refine fnW_of (by kernel_rfl) (trimL_c hv hcv (by rw [List.length_take]; omega) fun v' m hm hiff => ?_)
    refine hK v' m hm ?_ w1 e
    rw [hiff]
    have hall : zrB b = (zrB (b.take k) && zrB (b.drop k)) := by
      unfold zrB
      rw [← List.all_append, List.take_append_drop]
    rw [hall, hz, Bool.and_true]
end Go.Proofs.YtedebapgmfnflaaDoor
