/- The law of what is read of sectors: its walk. -/
import Derived.Test.YtedebapgmfnflaaDoorX4
namespace Go.Proofs.YtedebapgmfnflaaDoor
open Go
set_option maxRecDepth 100000

theorem flatMap_bc (l : List Bytes) : l.flatMap bc = bc l.flatten := by
  induction l with
  | nil => rfl
  | cons x r ih => rw [List.flatMap_cons, List.flatten_cons, bc_append, ih]

/-- A sector's place, the same in whatever world. -/
theorem RdSl.secU {w0 : World} {x : Value} {ls : List Bytes} (h0 : RdSl w0 x 64 (bc ls.flatten) ls.length) (h64 : ∀ l ∈ ls, l.length = 64) {i : Nat} (hi : i < ls.length) :
    ∃ b o, ∀ w, RdSl w x 64 (bc ls.flatten) ls.length → (∀ K : VPost, K (.pointer (some ⟨b, o, none⟩)) w → idxW (some (none, 64)) x (.int .i64 i) w K) ∧ (∀ K : VPost, K (.agg (bc ls[i]).toArray) w → loadW (some (true, 64)) (.pointer (some ⟨b, o, none⟩)) w K) := by
  have hfl := flat64 h64
  obtain ⟨hl, ⟨h1, _⟩ | ⟨b, o, c, cs0, rfl, _, _, _⟩⟩ := h0
  · rw [h1] at hl; simp at hl; omega
  · refine ⟨b, o + i * 64, fun w h => ?_⟩
    obtain ⟨_, ⟨h1, _⟩ | ⟨b', o', c', cs, he, hb, h1, h2⟩⟩ := h
    · rw [h1] at hl; simp at hl; omega
    · cases he
      have hcl := congrArg List.length h1
      rw [bc_length, List.length_take, List.length_drop, hfl] at hcl
      refine ⟨fun K hK => idx_i hi hK, fun K hK => loadN hb (by omega) ?_⟩
      rw [take_drop_part cs o (i * 64) 64 (ls.length * 64) (by omega), h1, bc_part, flat64_get h64 hi]
      exact hK

set_option maxHeartbeats 1000000 in
theorem sameK_c {w : World} {K : VPost} {x y : Value} {ls ms : List Bytes} (hx : RdSl w x 64 (bc ls.flatten) ls.length) (hy : RdSl w y 64 (bc ms.flatten) ms.length) (h64 : ∀ l ∈ ls, l.length = 64) (h64' : ∀ l ∈ ms, l.length = 64) (hn : ls.length ≤ 1000000)
    (hK : ∀ w', Ext [] w w' → K (.bool (decide (ls = ms))) w') : Calls Tryd.prog 19 #[x, y] w (retK K) := by
  refine c19_calls _ _ w K ?_
  unfold c19
  rw [hx.lenw, hy.lenw]
  refine nneq (cond_d (fun h => ?_) (fun h => ?_))
  · have := hK w (Ext.refl _ _)
    rw [decide_eq_false (fun e => h (by rw [e]))] at this
    exact this
  have hl : ls.length = ms.length := by omega
  refine bindX_i fun J0 h0 => bindX_i fun J1 h1 => bindX_i fun J2 h2 => ?_
  refine loop_i (fun m fr wr => ∃ i : Nat, m = ls.length - i ∧ i ≤ ls.length ∧ ls.take i = ms.take i ∧ fr 0 = x ∧ fr 1 = y ∧ fr 5 = .int .i64 i ∧ Sep [] w wr [] [rKR y ms, rKR x ls]) ls.length ?_ ?_
  · exact ⟨0, rfl, by omega, rfl, rfl, rfl, rfl, (Sep.zero1 (U := rKR x ls) hx).addR (T := rKR y ms) hy (by simp)⟩
  · rintro m fr wr J ⟨i, rfl, hi, htk, f0, f1, f5, s⟩ hJ hX
    rw [f0, hx.lenw, f5]
    refine nlss (cond_d (fun hlt => ?_) (fun hlt => ?_))
    · have s := s.drew
      generalize wr.drew = w1 at *
      rw [f1]
      obtain ⟨b1, o1, i1, l1⟩ := RdSl.secAt (s.rat 1 rfl) h64 (i := i) hlt .i64
      refine i1 _ ?_
      refine l1 _ ?_
      obtain ⟨b2, o2, i2, l2⟩ := RdSl.secAt (s.rat 0 rfl) h64' (i := i) (by omega) .i64
      refine i2 _ ?_
      refine l2 _ ?_
      refine blk_neq (h64 _ (List.getElem_mem _)) (h64' _ (List.getElem_mem _)) ⟨rfl, ?_⟩
      have e1 : ls.take (i + 1) = ls.take i ++ [ls[i]] := List.take_succ_eq_append_getElem (by omega)
      have e2 : ms.take (i + 1) = ms.take i ++ [ms[i]] := List.take_succ_eq_append_getElem (by omega)
      by_cases heq : ls[i] = ms[i]
      · rw [decide_eq_true heq, Bool.not_true]
        refine cndF ?_
        refine nadd (y := 1) (by omega) ?_
        exact hJ (ls.length - (i + 1)) _ _ (by omega) ⟨i + 1, rfl, by omega, by rw [e1, e2, htk, heq], f0, f1, rfl, s⟩
      · rw [decide_eq_false heq, Bool.not_false]
        refine cndT ?_
        refine hX _ _ _ (by simp) (h2 _ _ _ (h1 _ _ _ (h0 _ _ _ ?_)))
        have := hK _ s.ext
        rw [decide_eq_false (fun e => heq (by subst e; rfl))] at this
        exact this
    · obtain rfl : i = ls.length := by omega
      refine hX _ _ _ (by simp) (h2 _ _ _ (h1 _ _ _ (seqX_n ?_)))
      have := hK _ s.ext
      rw [List.take_length, hl, List.take_length] at htk
      rw [decide_eq_true htk] at this
      exact this

def unpV : Option (Bytes × Nat) → Bytes × Nat × Bool
  | none => ([], 0, false)
  | some (r, k) => (r, k, true)
theorem unpV_len {ls : List Bytes} (h64 : ∀ l ∈ ls, l.length = 64) (g n : Int) : (unpV (unpackI ls g n)).1.length ≤ 2000 := by
  cases h : unpackI ls g n with
  | none => exact Nat.zero_le _
  | some p =>
    obtain ⟨r, k⟩ := p
    unfold unpackI at h
    split at h
    · cases h
    · rename_i hn
      simp only [not_or] at hn
      have := (unpack_iff h64 (show g.toNat < 2 ^ 32 by omega) r k).1 h
      exact this.1.1.1
theorem unpackV_c {w : World} {K : VPost} {x : Value} {g n : Int} {ls : List Bytes} (hx : RdSl w x 64 (bc ls.flatten) ls.length) (hcap : capOk x) (h64 : ∀ l ∈ ls, l.length = 64) (hln : ls.length ≤ 1000000)
    (hK : ∀ v w', OwnAt w' v 5 1 (bc (unpV (unpackI ls g n)).1) (unpV (unpackI ls g n)).1.length → Ext [] w w' → (∀ b ∈ slB v, w.heap.size ≤ b) → K (.tuple #[v, .int .i64 (unpV (unpackI ls g n)).2.1, .bool (unpV (unpackI ls g n)).2.2]) w') :
    Calls Tryd.prog 23 #[x, .int .i64 g, .int .i64 n] w (retK K) := by
  refine unpack_c hx hcap h64 hln (fun h w' e => ?_) (fun r k h v w' hv e hf => ?_)
  · have := hK (.slice none 0 0) w'
    rw [h] at this
    exact this (.inl ⟨rfl, rfl, rfl⟩) e (by simp [slB])
  · have := hK v w'
    rw [h] at this
    exact this hv e hf
theorem runpackV_c {w : World} {K : VPost} {x : Value} {g n : Int} {ls : List Bytes} (hx : RdSl w x 64 (bc ls.flatten) ls.length) (h64 : ∀ l ∈ ls, l.length = 64) (hln : ls.length ≤ 1000000)
    (hK : ∀ v w', OwnAt w' v 5 1 (bc (unpV (unpackI ls g n)).1) (unpV (unpackI ls g n)).1.length → Ext [] w w' → (∀ b ∈ slB v, w.heap.size ≤ b) → K (.tuple #[v, .int .i64 (unpV (unpackI ls g n)).2.1, .bool (unpV (unpackI ls g n)).2.2]) w') :
    Calls Tryd.prog 29 #[x, .int .i64 g, .int .i64 n] w (retK K) := by
  refine runpack_c hx h64 hln (fun h w' e => ?_) (fun r k h v w' hv e hf => ?_)
  · have := hK (.slice none 0 0) w'
    rw [rUnpack_eq h64] at h
    rw [h] at this
    exact this (.inl ⟨rfl, rfl, rfl⟩) e (by simp [slB])
  · have := hK v w'
    rw [rUnpack_eq h64] at h
    rw [h] at this
    exact this hv e hf

set_option maxHeartbeats 2000000 in
theorem readsLaw_walk {w : World} {K : VPost} {x : Value} {ls : List Bytes} {g n : Int} (hx : RdSl w x 64 (ls.flatMap bc) ls.length) (h64 : ∀ l ∈ ls, l.length = 64) (hcap : capOk x) (hK : ∀ w', Ext [] w w' → K (.bool true) w') :
    Calls Tryd.prog 4 #[x, .int .i64 g, .int .i64 n] w (retK K) := by
  rw [flatMap_bc] at hx
  refine c4_calls _ _ _ w K ?_
  unfold c4
  refine fnW_of (by kernel_rfl) (alive4_c fun w1 e1 => ?_)
  have s := (Sep.zero1 (U := rKR x ls) hx).ext0 e1
  refine not_ti ?_
  refine cndF ?_
  have hlen : ∀ (w : World) (K : VPost), lenW Tryd.prog (some true) #[23] 3 #[x] w K = K (.int .i64 ls.length) w := fun w K => hx.lenw
  rw [hlen]
  refine ngtr (y := 60) (cond_d (fun _ => hK _ s.ext) (fun hl => ?_))
  refine s.litKs (ls := []) (by simp) (by decide) rfl fun v0 w2 s => ?_
  refine s.apKs (ms := ls) 0 rfl (s.rat 0 rfl) (by simp; omega) fun v7 w3 s => ?_
  have s : Sep [] w w3 [rK v7 ls] [rKR x ls] := s
  refine bindX_i fun J0 g0 => bindX_i fun J1 g1 => bindX_i fun J2 g2 => ?_
  refine loop_i (fun m fr wr => ∃ i : Nat, m = ls.length - i ∧ i ≤ ls.length ∧ fr 0 = x ∧ fr 1 = .int .i64 g ∧ fr 2 = .int .i64 n ∧ fr 7 = v7 ∧ fr 8 = .int .i64 i ∧ Sep [] w wr [rK v7 ls] [rKR x ls]) ls.length ?_ ?_
  · exact ⟨0, rfl, by omega, rfl, rfl, rfl, rfl, rfl, s⟩
  · rintro m fr wr J ⟨i, rfl, hi, f0, f1, f2, f7, f8, s⟩ hJ hX
    rw [f0, hlen, f8]
    refine nlss (cond_d (fun hlt => ?_) (fun hlt => ?_))
    · have hb := h64 _ (List.getElem_mem hlt)
      obtain ⟨b1, o1, i1, l1⟩ := RdSl.secAt (s.rat 0 rfl) h64 (i := i) hlt .i64
      refine i1 _ ?_
      refine l1 _ ?_
      obtain ⟨bb, oo, hsU⟩ := RdSl.secU hx h64 hlt
      have hsa : ∀ (w' : World), Sep [] w w' [rK v7 ls] [rKR x ls] → (∀ K : VPost, K (.pointer (some ⟨bb, oo, none⟩)) w' → idxW (some (none, 64)) x (.int .i64 i) w' K) ∧ (∀ K : VPost, K (.agg (bc ls[i]).toArray) w' → loadW (some (true, 64)) (.pointer (some ⟨bb, oo, none⟩)) w' K) :=
        fun w' s => hsU w' (s.rat 0 rfl)
      clear hsU
      generalize ls[i] = sec at *
      refine fnW_of (by kernel_rfl) (mark_c hb fun w4 e4 => ?_)
      have s := s.ext0 e4
      refine extr_i rfl ?_
      refine extr_i rfl ?_
      refine extr_i rfl ?_
      obtain ⟨i2, l2⟩ := hsa _ s
      refine i2 _ ?_
      refine l2 _ ?_
      refine fnW_of (by kernel_rfl) (rmark_c hb fun w5 e5 => ?_)
      have s := s.ext0 e5
      refine extr_i rfl ?_
      refine extr_i rfl ?_
      refine extr_i rfl ?_
      have s := s.drew
      generalize w5.drew = w6 at *
      have hm3 : (markB sec).2.2 = wholeB sec := by unfold markB; cases wholeB sec <;> rfl
      refine nneq ?_
      rw [decide_eq_false (by simp)]
      refine gs_f ?_
      refine gs_f ?_
      refine gs_f ?_
      refine nneq ?_
      refine pick_fi ?_
      rw [decide_eq_false (by simp)]
      refine gs_f ?_
      refine gs_f ?_
      refine gs_f ?_
      refine bool_neq und_boolB ⟨rfl, ?_⟩
      refine pick_fi ?_
      rw [beq_self_eq_true, Bool.not_true]
      refine gs_f ?_
      refine gs_f ?_
      obtain ⟨i3, l3⟩ := hsa _ s
      refine gs_f ?_
      refine i3 _ ?_
      refine gs_f ?_
      refine l3 _ ?_
      refine gs_f ?_
      refine gs_f ?_
      refine fnW_of (by kernel_rfl) (whole_c hb fun w7 e7 => ?_)
      have s := s.ext0 e7
      refine gs_f ?_
      refine bool_neq und_boolB ⟨rfl, ?_⟩
      refine pick_fi ?_
      rw [hm3, beq_self_eq_true, Bool.not_true]
      refine gs_f ?_
      refine gs_f ?_
      obtain ⟨i4, l4⟩ := hsa _ s
      refine gs_f ?_
      refine i4 _ ?_
      refine gs_f ?_
      refine l4 _ ?_
      refine gs_f ?_
      refine gs_f ?_
      refine gs_f ?_
      refine i4 _ ?_
      refine gs_f ?_
      refine l4 _ ?_
      refine gs_f ?_
      refine fnW_of (by kernel_rfl) (data_c hb fun va w8 hva e8 hfa => ?_)
      have s := s.ext0 e8
      obtain ⟨_, l6⟩ := hsa _ s
      refine ⟨gs_f (l6 _ ⟨rfl, rfl⟩), ?_⟩
      refine gs_f ?_
      refine fnW_of (by kernel_rfl) (rdata_c hb fun vb w9 hvb e9 hfb => ?_)
      refine gs_f ?_
      have hva9 := (rDb va (dataB sec)).keep hva e9 (by simp)
      refine fnW_of (by kernel_rfl) (sameBytes_c (OwnAt.rd hva9) hvb.rd (by have := data_le hb; omega) fun w10 e10 => ?_)
      rw [decide_eq_true rfl]
      have s := (s.ext0 e9).ext0 e10
      refine gs_f ?_
      refine not_ti (b := true) ?_
      refine pick_fi ?_
      refine cndF ?_
      refine nadd (y := 1) (by omega) ?_
      exact hJ (ls.length - (i + 1)) _ _ (by omega) ⟨i + 1, rfl, by omega, f0, f1, f2, f7, rfl, s⟩
    · refine hX _ _ _ (by simp) (g2 _ _ _ (g1 _ _ _ (seqX_n ?_)))
      show fnW _ _ #[fr 7, fr 1, fr 2] _ _
      rw [f7, f1, f2]
      have hul := unpV_len h64 g n
      refine fnW_of (by kernel_rfl) (unpackV_c (OwnAt.rd (s.at 0 rfl)) (OwnAt.cap (s.at 0 rfl)) h64 (by omega) fun va w4 hva e4 hfa => ?_)
      have s := s.add (T := rDb va (unpV (unpackI ls g n)).1) hva e4 hfa
      refine extr_i rfl ?_
      refine extr_i rfl ?_
      refine extr_i rfl ?_
      show fnW _ _ #[fr 0, fr 1, fr 2] _ _
      rw [f0, f1, f2]
      refine fnW_of (by kernel_rfl) (runpackV_c (s.rat 0 rfl) h64 (by omega) fun vb w5 hvb e5 hfb => ?_)
      have s := s.add (T := rDb vb (unpV (unpackI ls g n)).1) hvb e5 hfb
      generalize unpV (unpackI ls g n) = u at *
      obtain ⟨r, k, ok⟩ := u
      refine extr_i rfl ?_
      refine extr_i rfl ?_
      refine extr_i rfl ?_
      refine fnW_of (by kernel_rfl) (sameBytes_c (OwnAt.rd (s.at 1 rfl)) (OwnAt.rd (s.at 0 rfl)) (by omega) fun w6 e6 => ?_)
      rw [decide_eq_true rfl]
      have s := s.ext0 e6
      refine gs_t ?_
      refine gs_t ?_
      refine gs_t ?_
      refine neql ?_
      rw [decide_eq_true rfl]
      refine pick_ti ?_
      refine gs_t ?_
      refine gs_t ?_
      refine gs_t ?_
      refine bool_eql und_boolB ?_
      rw [beq_self_eq_true]
      refine pick_ti ?_
      refine gs_t ?_
      refine gs_t ?_
      show fnW _ _ #[fr 7] _ _
      rw [f7]
      refine fnW_of (by kernel_rfl) (highest_c (OwnAt.rd (s.at 2 rfl)) h64 (by omega) fun w7 e7 => ?_)
      have s := s.ext0 e7
      refine gs_t ?_
      refine gs_t ?_
      show fnW _ _ #[fr 0] _ _
      rw [f0]
      refine fnW_of (by kernel_rfl) (rhighest_c (s.rat 0 rfl) h64 (by omega) fun w8 e8 => ?_)
      have s := s.ext0 e8
      refine gs_t ?_
      refine neql ?_
      rw [decide_eq_true rfl]
      refine pick_ti ?_
      refine gs_t ?_
      refine gs_t ?_
      refine gs_t ?_
      show fnW _ _ #[fr 7, fr 0] _ _
      rw [f7, f0]
      refine fnW_of (by kernel_rfl) (sameK_c (OwnAt.rd (s.at 2 rfl)) (s.rat 0 rfl) h64 h64 (by omega) fun w9 e9 => ?_)
      rw [decide_eq_true rfl]
      refine pick_ti ?_
      exact hK _ (s.ext0 e9).ext
end Go.Proofs.YtedebapgmfnflaaDoor
