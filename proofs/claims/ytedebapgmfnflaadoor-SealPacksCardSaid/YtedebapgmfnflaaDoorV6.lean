/- A sector's wholeness, marks and data: walks. Condition: the sector has 64 bytes. -/
import Derived.Test.YtedebapgmfnflaaDoorV5
namespace Go.Proofs.YtedebapgmfnflaaDoor
open Go
set_option maxRecDepth 100000

theorem slA_cut {b o n sz l h : Nat} {w : World} {K : VPost} {k1 k2 : IntKind} (hl : l ≤ h) (hh : h ≤ n) (hn : l < n) (hK : K (.slice (some ⟨b, o + l * sz, none⟩) (h - l) (n - l)) w) : sliceW (.arr n sz) (.pointer (some ⟨b, o, none⟩)) (some (.int k1 l)) (some (.int k2 h)) none w K := by
  refine ⟨by simp, l, h, n, rfl, rfl, rfl, hl, by simpa using hh, Nat.le_refl _, ?_⟩
  show K (.slice (some (if n = l then (⟨b, o, none⟩ : Addr) else Addr.add ⟨b, o, none⟩ (l * sz))) (h - l) (n - l)) w
  rw [if_neg (by omega), add_addr]
  exact hK

theorem Blk.part {w : World} {b l k c : Nat} {B : Bytes} {t : TypeId} (h : Blk w b (bc B) t) (hk : l + k ≤ B.length) (hc : k ≤ c) (hcl : l + c ≤ B.length) : RdSl w (.slice (some ⟨b, l, none⟩) k c) 1 (bc ((B.drop l).take k)) ((B.drop l).take k).length := by
  have e : ((B.drop l).take k).length = k := by rw [List.length_take, List.length_drop]; omega
  rw [e]
  refine ⟨by rw [bc_length, e, Nat.mul_one], .inr ⟨b, l, c, _, rfl, h.r, ?_, by rw [bc_length]; omega⟩⟩
  rw [Nat.mul_one, bc_part]

theorem whole_c {w : World} {K : VPost} {b : Bytes} (hb : b.length = 64) (hK : ∀ w', Ext [] w w' → K (.bool (wholeB b)) w') : Calls Tryd.prog 26 #[.agg (bc b).toArray] w (retK K) := by
  refine c26_calls _ w K ?_
  unfold c26
  refine (Sep.nil w).box fun p w1 s _ => ?_
  have s : Sep [] w w1 [rB p (bc b) 37] [] := by simpa [Value.cells] using s
  have hp : Blk w1 p (bc b) 37 := s.at 0 rfl
  refine slA_cut (l := 8) (h := 10) (by decide) (by decide) (by decide) ?_
  have h8 := hp.part (l := 8) (k := 2) (c := 56) (by omega) (by decide) (by omega)
  have hcl : ((b.drop 8).take 2).length = 2 := by rw [List.length_take, List.length_drop]; omega
  refine fnW_of (by kernel_rfl) (get_c h8 (by omega) ?_)
  have hlt := beN_lt ((b.drop 8).take 2)
  rw [hcl] at hlt
  have h65 : (256 : Nat) ^ 2 = 65536 := by decide
  have s := s.drew
  generalize w1.drew = w2 at *
  have hp : Blk w2 p (bc b) 37 := s.at 0 rfl
  unfold wholeB cntB at hK
  generalize hn : beN ((b.drop 8).take 2) = n at *
  refine nleq (y := 46) ?_
  by_cases h1 : n ≤ 46
  · rw [decide_eq_true h1] at hK ⊢
    rw [Bool.true_and] at hK
    refine gs_t ?_
    refine slA_to (k := 8) (by decide) ?_
    refine gs_t ?_
    refine slA_from (l := 56) (by decide) ?_
    rw [if_neg (by decide : ¬ 64 = 56)]
    refine gs_t ?_
    have h0 := hp.part (l := 0) (k := 8) (c := 64) (by omega) (by decide) (by omega)
    rw [List.drop_zero] at h0
    have h56 := hp.part (l := 56) (k := 8) (c := 8) (by omega) (by decide) (by omega)
    rw [List.take_of_length_le (by rw [List.length_drop]; omega)] at h56
    refine fnW_of (by kernel_rfl) (equal_c h0 h56 ?_)
    refine pick_ti ?_
    by_cases h2 : b.take 8 = b.drop 56
    · rw [decide_eq_true h2] at hK ⊢
      rw [Bool.true_and] at hK
      refine gs_t ?_
      refine gs_t ?_
      refine nadd (x := 10) (by omega) ?_
      refine gs_t ?_
      refine slA_cut (l := 10 + n) (h := 56) (by omega) (by decide) (by omega) ?_
      refine gs_t ?_
      have ht := hp.part (l := 10 + n) (k := 56 - (10 + n)) (c := 64 - (10 + n)) (by omega) (by omega) (by omega)
      have e : (b.drop (10 + n)).take (56 - (10 + n)) = (b.take 56).drop (10 + n) := by rw [List.drop_take]
      rw [e] at ht
      rw [Nat.zero_add, Nat.mul_one]
      refine fnW_of (by kernel_rfl) (trim_c ht (by show 56 - (10 + n) ≤ 64 - (10 + n); omega) (by rw [List.length_drop, List.length_take]; omega) fun v m hm hiff w3 e3 => ?_)
      refine gs_t ?_
      obtain ⟨a, c, rfl⟩ := hm
      rw [len_s]
      refine gs_t ?_
      refine neql (y := 0) ?_
      refine pick_ti ?_
      have e4 : decide (m = 0) = zrB ((b.take 56).drop (10 + n)) := by
        cases hz : zrB ((b.take 56).drop (10 + n)) with
        | true => exact decide_eq_true (hiff.2 hz)
        | false => exact decide_eq_false fun h => by rw [hiff.1 h] at hz; cases hz
      rw [e4]
      exact hK _ (s.ext0 e3).ext
    · rw [decide_eq_false h2] at hK ⊢
      rw [Bool.false_and] at hK
      repeat with_reducible refine gs_ft ?_
      refine pick_fi ?_
      exact hK _ s.ext
  · rw [decide_eq_false h1] at hK ⊢
    rw [Bool.false_and] at hK
    repeat with_reducible refine gs_ft ?_
    refine pick_fi ?_
    repeat with_reducible refine gs_ft ?_
    refine pick_fi ?_
    exact hK _ s.ext

theorem mark_c {w : World} {K : VPost} {b : Bytes} (hb : b.length = 64) (hK : ∀ w', Ext [] w w' → K (.tuple #[.int .i64 (markB b).1, .int .i64 (markB b).2.1, .bool (markB b).2.2]) w') : Calls Tryd.prog 24 #[.agg (bc b).toArray] w (retK K) := by
  refine c24_calls _ w K ?_
  unfold c24
  refine (Sep.nil w).box fun p w1 s _ => ?_
  have s : Sep [] w w1 [rB p (bc b) 37] [] := by simpa [Value.cells] using s
  refine s.loadAll 0 rfl (by rw [bc_length, hb]) ?_
  refine fnW_of (by kernel_rfl) (whole_c hb fun w2 e => ?_)
  have s := s.ext0 e
  unfold markB at hK
  refine not_ti ?_
  cases hw : wholeB b with
  | false =>
    rw [hw] at hK
    refine cndT ?_
    exact hK _ s.ext
  | true =>
    rw [hw] at hK
    refine cndF ?_
    have s := s.drew
    generalize w2.drew = w3 at *
    have hp : Blk w3 p (bc b) 37 := s.at 0 rfl
    refine slA_to (k := 4) (by decide) ?_
    refine slA_cut (l := 4) (h := 8) (by decide) (by decide) (by decide) ?_
    have h0 := hp.part (l := 0) (k := 4) (c := 64) (by omega) (by decide) (by omega)
    rw [List.drop_zero] at h0
    have h4 := hp.part (l := 4) (k := 4) (c := 60) (by omega) (by decide) (by omega)
    refine fnW_of (by kernel_rfl) (get_c h0 (by rw [List.length_take]; omega) ?_)
    refine fnW_of (by kernel_rfl) (get_c h4 (by rw [List.length_take, List.length_drop]; omega) ?_)
    exact hK _ s.ext

theorem data_c {w : World} {K : VPost} {b : Bytes} (hb : b.length = 64) (hK : ∀ v w', OwnAt w' v 5 1 (bc (dataB b)) (dataB b).length → Ext [] w w' → (∀ c ∈ slB v, w.heap.size ≤ c) → K v w') : Calls Tryd.prog 27 #[.agg (bc b).toArray] w (retK K) := by
  refine c27_calls _ w K ?_
  unfold c27
  refine (Sep.nil w).box fun p w1 s _ => ?_
  have s : Sep [] w w1 [rB p (bc b) 37] [] := by simpa [Value.cells] using s
  refine s.loadAll 0 rfl (by rw [bc_length, hb]) ?_
  refine fnW_of (by kernel_rfl) (whole_c hb fun w2 e => ?_)
  have s := s.ext0 e
  unfold dataB at hK
  refine not_ti ?_
  cases hw : wholeB b with
  | false =>
    rw [hw] at hK
    refine cndT ?_
    exact hK _ _ (.inl ⟨rfl, rfl, rfl⟩) s.ext (by simp [slB])
  | true =>
    have hc := whole_cnt hw
    rw [hw, if_pos rfl] at hK
    refine cndF ?_
    have hp : Blk w2 p (bc b) 37 := s.at 0 rfl
    refine slA_cut (l := 8) (h := 10) (by decide) (by decide) (by decide) ?_
    have h8 := hp.part (l := 8) (k := 2) (c := 56) (by omega) (by decide) (by omega)
    refine fnW_of (by kernel_rfl) (get_c h8 (by rw [List.length_take, List.length_drop]; omega) ?_)
    unfold cntB at hK hc
    generalize beN ((b.drop 8).take 2) = n at *
    refine nadd (x := 10) (by omega) ?_
    refine slA_cut (l := 10) (h := 10 + n) (by omega) (by omega) (by decide) ?_
    have h10 := hp.part (l := 10) (k := n) (c := 54) (by omega) (by omega) (by omega)
    rw [show 10 + n - 10 = n by omega]
    refine fnW_of (by kernel_rfl) (bytesClone_c h10 (by rw [List.length_take, List.length_drop]; omega) fun v w3 hv e3 hf => ?_)
    exact hK v w3 hv (s.ext0 e3).ext (fun c hc => Nat.le_trans s.ext.size (hf c hc))
end Go.Proofs.YtedebapgmfnflaaDoor
