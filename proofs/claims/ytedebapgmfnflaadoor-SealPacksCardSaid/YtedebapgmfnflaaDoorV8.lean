/- seal.Unpack: its walk. Conditions: sectors have 64 bytes; at most 10^6 of them. -/
import Derived.Test.YtedebapgmfnflaaDoorV7
namespace Go.Proofs.YtedebapgmfnflaaDoor
open Go
set_option maxRecDepth 100000

/-- What Unpack tells of whatever generation and number. -/
def unpackI (l : List Bytes) (g n : Int) : Option (Bytes × Nat) := if l = [] ∨ g < 1 ∨ 4294967295 < g ∨ n < 0 ∨ 4294967295 < n then none else unpackB l g.toNat n.toNat
theorem unpackI_nat {l : List Bytes} {g n : Nat} (h1 : 1 ≤ g) (h2 : g ≤ 4294967295) (h3 : n ≤ 4294967295) : unpackI l g n = unpackB l g n := by
  unfold unpackI
  by_cases hl : l = []
  · subst hl; simp [unpackB]
  · rw [if_neg (by simp only [hl, false_or]; omega), Int.toNat_natCast, Int.toNat_natCast]

theorem take64 {ls : List Bytes} (h : ∀ l ∈ ls, l.length = 64) {k : Nat} (hk : k ≤ ls.length) : ls.flatten.take (k * 64) = (ls.take k).flatten := by
  have h1 : (ls.take k).flatten.length = k * 64 := by
    rw [flat64 (fun l hl => h l (List.mem_of_mem_take hl)), List.length_take, Nat.min_eq_left hk, Nat.mul_comm]
  have h2 : ls.flatten = (ls.take k).flatten ++ (ls.drop k).flatten := by rw [← List.flatten_append, List.take_append_drop]
  rw [h2, List.take_left' h1]

theorem gather_len (g n : Nat) : ∀ (l : List Bytes) (acc : Bytes) (i : Nat), (∀ b ∈ l, b.length = 64) → (gatherB g n l acc i).1.length ≤ acc.length + 46 * l.length
  | [], acc, i, _ => by simp [gatherB]
  | b :: r, acc, i, h => by
    have hd := data_le (h b (by simp))
    rw [gather_cons]
    split
    · split
      · simp only [List.length_append, List.length_cons]; omega
      · have := gather_len g n r (acc ++ dataB b) (i + 1) (fun x hx => h x (by simp [hx]))
        rw [List.length_append] at this
        simp only [List.length_cons]; omega
    · simp only [List.length_cons]; omega

set_option maxHeartbeats 2000000 in
theorem unpack_c {w : World} {K : VPost} {x : Value} {g n : Int} {ls : List Bytes} (hx : RdSl w x 64 (bc ls.flatten) ls.length) (hcap : capOk x) (h64 : ∀ l ∈ ls, l.length = 64) (hln : ls.length ≤ 1000000)
    (hno : unpackI ls g n = none → ∀ w', Ext [] w w' → K (.tuple #[.slice none 0 0, .int .i64 0, .bool false]) w')
    (hyes : ∀ r k, unpackI ls g n = some (r, k) → ∀ v w', OwnAt w' v 5 1 (bc r) r.length → Ext [] w w' → (∀ b ∈ slB v, w.heap.size ≤ b) → K (.tuple #[v, .int .i64 k, .bool true]) w') :
    Calls Tryd.prog 23 #[x, .int .i64 g, .int .i64 n] w (retK K) := by
  refine c23_calls _ _ _ w K ?_
  unfold c23
  have hlen : ∀ (w : World) (K : VPost), lenW Tryd.prog (some true) #[23] 3 #[x] w K = K (.int .i64 ls.length) w := fun w K => hx.lenw
  rw [hlen]
  refine neql (y := 0) ?_
  by_cases h0 : ls.length = 0
  · rw [decide_eq_true h0]
    iterate 4 ((repeat with_reducible refine gs_tf ?_); refine pick_ti ?_)
    exact cndT (hno (by unfold unpackI; rw [if_pos (.inl (List.length_eq_zero_iff.1 h0))]) _ (Ext.refl _ _))
  rw [decide_eq_false h0]
  refine gs_f ?_
  refine gs_f ?_
  rw [ilss]
  refine pick_fi ?_
  by_cases h1 : g < 1
  · rw [decide_eq_true h1]
    iterate 3 ((repeat with_reducible refine gs_tf ?_); refine pick_ti ?_)
    exact cndT (hno (by unfold unpackI; rw [if_pos (.inr (.inl h1))]) _ (Ext.refl _ _))
  rw [decide_eq_false h1]
  refine gs_f ?_
  refine gs_f ?_
  rw [igtr]
  refine pick_fi ?_
  by_cases h2 : 4294967295 < g
  · rw [decide_eq_true h2]
    iterate 2 ((repeat with_reducible refine gs_tf ?_); refine pick_ti ?_)
    exact cndT (hno (by unfold unpackI; rw [if_pos (.inr (.inr (.inl h2)))]) _ (Ext.refl _ _))
  rw [decide_eq_false h2]
  refine gs_f ?_
  refine gs_f ?_
  rw [ilss]
  refine pick_fi ?_
  by_cases h3 : n < 0
  · rw [decide_eq_true h3]
    repeat with_reducible refine gs_tf ?_
    refine pick_ti ?_
    exact cndT (hno (by unfold unpackI; rw [if_pos (.inr (.inr (.inr (.inl h3))))]) _ (Ext.refl _ _))
  rw [decide_eq_false h3]
  refine gs_f ?_
  refine gs_f ?_
  rw [igtr]
  refine pick_fi ?_
  refine cond_d (fun h4 => hno (by unfold unpackI; rw [if_pos (.inr (.inr (.inr (.inr h4))))]) _ (Ext.refl _ _)) (fun h4 => ?_)
  obtain ⟨g, rfl⟩ : ∃ k : Nat, g = k := ⟨g.toNat, by omega⟩
  obtain ⟨n, rfl⟩ : ∃ k : Nat, n = k := ⟨n.toNat, by omega⟩
  rw [unpackI_nat (by omega) (by omega) (by omega)] at hno hyes
  have s := Sep.zero1 (U := rKR x ls) hx
  obtain ⟨b0, o0, hix, hld⟩ := RdSl.secAt hx h64 (i := 0) (by omega) .i64
  refine hix _ ?_
  refine hld _ ?_
  obtain ⟨hd, tl, rfl⟩ : ∃ hd tl, ls = hd :: tl := by
    cases ls with
    | nil => exact absurd rfl h0
    | cons a b => exact ⟨a, b, rfl⟩
  show fnW _ _ #[.agg (bc hd).toArray] _ _
  unfold unpackB at hno hyes
  simp only at hno hyes
  refine fnW_of (by kernel_rfl) (data_c (h64 hd (by simp)) fun vd w1 hvd e1 hfd => ?_)
  have s := s.add (T := rDb vd (dataB hd)) hvd e1 hfd
  rw [hvd.rd.lenw]
  have hdl := data_le (h64 hd (by simp))
  refine nlss (y := 2) (cond_d (fun h5 => hno (by rw [if_pos h5]) _ s.ext) (fun h5 => ?_))
  rw [if_neg h5] at hno hyes
  refine (OwnAt.rd (s.at 0 rfl)).cut (l := 0) (h := 2) hvd.cap rfl rfl (by omega) (by omega) fun v2 hv2 _ _ _ => ?_
  rw [Nat.zero_mul, List.drop_zero, ← List.drop_zero (l := bc (dataB hd)), bc_part, List.drop_zero] at hv2
  have hl2 : ((dataB hd).take 2).length = 2 := by rw [List.length_take]; omega
  have hv2 : RdSl w1 v2 1 (bc ((dataB hd).take 2)) ((dataB hd).take 2).length := by rw [hl2]; exact hv2
  refine fnW_of (by kernel_rfl) (get_c hv2 (by omega) ?_)
  refine fnW_of (by kernel_rfl) (need_c ?_)
  rw [needI_nat]
  generalize beN ((dataB hd).take 2) = m at *
  generalize hk : needN m = k at *
  refine neql (y := 0) ?_
  by_cases h6 : k = 0
  · rw [decide_eq_true h6]
    repeat with_reducible refine gs_tf ?_
    refine pick_ti ?_
    exact cndT (hno (by rw [if_pos (.inl h6)]) _ s.ext)
  rw [decide_eq_false h6]
  refine gs_f ?_
  refine gs_f ?_
  refine gs_f ?_
  rw [hlen]
  refine gs_f ?_
  refine ngtr ?_
  refine pick_fi ?_
  refine cond_d (fun h7 => hno (by rw [if_pos (.inr h7)]) _ s.ext) (fun h7 => ?_)
  rw [if_neg (by omega)] at hno hyes
  have hkm : k ≤ 45 ∧ m ≤ 2000 := by
    rw [← hk] at h6 ⊢
    unfold needN at h6 ⊢
    split at h6 <;> first | exact absurd rfl h6 | (split <;> omega)
  have hxr : RdSl w1 x 64 (bc (hd :: tl).flatten) (hd :: tl).length := s.rat 0 rfl
  refine hxr.cut (l := 0) (h := k) hcap rfl rfl (by omega) (by omega) fun vk hvk _ _ _ => ?_
  have h64k : ∀ l ∈ (hd :: tl).take k, l.length = 64 := fun l hl => h64 l (List.mem_of_mem_take hl)
  have hlk : ((hd :: tl).take k).length = k := by rw [List.length_take]; omega
  rw [Nat.zero_mul, List.drop_zero, Nat.sub_zero, ← List.drop_zero (l := bc _), bc_part, List.drop_zero, take64 h64 (by omega)] at hvk
  have hvk : RdSl w1 vk 64 (bc ((hd :: tl).take k).flatten) ((hd :: tl).take k).length := by rw [hlk]; exact hvk
  generalize (hd :: tl).take k = lk at *
  have hgl := gather_len g n lk [] 0 h64k
  refine fnW_of (by kernel_rfl) (gather_c hvk h64k (by omega) (by omega) fun va w2 hva e2 hfa => ?_)
  generalize gatherB g n lk [] 0 = res at *
  have s := s.add (T := rDb va res.1) hva e2 hfa
  rw [extr0, extr1]
  refine nneq ?_
  by_cases h8 : res.2 ≠ k
  · rw [decide_eq_true h8]
    iterate 2 ((repeat with_reducible refine gs_tf ?_); refine pick_ti ?_)
    exact cndT (hno (by rw [if_pos (.inl h8)]) _ s.ext)
  rw [decide_eq_false h8]
  refine gs_f ?_
  refine gs_f ?_
  rw [hva.rd.lenw]
  refine gs_f ?_
  refine gs_f ?_
  refine nadd (y := 34) (by omega) ?_
  refine gs_f ?_
  refine nneq ?_
  refine pick_fi ?_
  by_cases h9 : res.1.length ≠ m + 34
  · rw [decide_eq_true h9]
    iterate 1 ((repeat with_reducible refine gs_tf ?_); refine pick_ti ?_)
    exact cndT (hno (by rw [if_pos (.inr (.inl h9))]) _ s.ext)
  rw [decide_eq_false h9]
  have h9 : res.1.length = m + 34 := by omega
  refine gs_f ?_
  refine gs_f ?_
  refine gs_f ?_
  refine nadd (x := 2) (by omega) ?_
  refine gs_f ?_
  have hcut : ∀ (w' : World) (K : VPost), OwnAt w' va 5 1 (bc res.1) res.1.length → (∀ v', RdSl w' v' 1 (bc ((res.1.drop 2).take m)) ((res.1.drop 2).take m).length → capOk v' → K v' w') → sliceW (.sl 1) va (some (.int .i64 2)) (some (.int .i64 ((2 + m : Nat) : Int))) none w' K := by
    intro w' K ho hK
    refine ho.rd.cut (l := 2) (h := 2 + m) ho.cap rfl rfl (by omega) (by omega) fun v' hv' hc' _ _ => hK v' ?_ hc'
    have hl3 : ((res.1.drop 2).take m).length = m := by rw [List.length_take, List.length_drop]; omega
    rw [Nat.mul_one, Nat.mul_one, Nat.add_sub_cancel_left, bc_part] at hv'
    rw [hl3]
    exact hv'
  refine hcut _ _ (s.at 0 rfl) fun v3 hv3 hc3 => ?_
  have hl3 : ((res.1.drop 2).take m).length = m := by rw [List.length_take, List.length_drop]; omega
  refine gs_f ?_
  refine fnW_of (by kernel_rfl) (sealed_c hv3 (by omega) fun v4 w3 hv4 e3 hf4 => ?_)
  have s := s.add (T := rDb v4 (sealB ((res.1.drop 2).take m))) hv4 e3 hf4
  refine gs_f ?_
  refine gs_f ?_
  refine fnW_of (by kernel_rfl) (equal_c hv4.rd (OwnAt.rd (s.at 1 rfl)) ?_)
  refine gs_f ?_
  refine not_ti ?_
  refine pick_fi ?_
  by_cases h10 : sealB ((res.1.drop 2).take m) = res.1
  · rw [decide_eq_true h10, Bool.not_true]
    refine cndF ?_
    refine nadd (x := 2) (by omega) ?_
    refine hcut _ _ (s.at 1 rfl) fun v5 hv5 hc5 => ?_
    refine fnW_of (by kernel_rfl) (bytesClone_c hv5 (by omega) fun v6 w4 hv6 e4 hf6 => ?_)
    refine hyes _ k ?_ v6 w4 hv6 (s.ext0 e4).ext (fun b hb => Nat.le_trans s.ext.size (hf6 b hb))
    rw [if_neg]
    rintro (h | h | h)
    · exact h8 h
    · omega
    · exact h h10
  · rw [decide_eq_false h10, Bool.not_false]
    exact cndT (hno (by rw [if_pos (.inr (.inr h10))]) _ s.ext)
end Go.Proofs.YtedebapgmfnflaaDoor
