/- alive of law04: its walk. -/
import Derived.Test.YtedebapgmfnflaaDoorV9
namespace Go.Proofs.YtedebapgmfnflaaDoor
open Go
set_option maxRecDepth 100000

theorem Sep.makeB {S : List Nat} {w0 w : World} {L R : List Res} {K : VPost} (s : Sep S w0 w L R) {n : Nat} (hn : n ≤ 1000000) (h : ∀ v w', Sep S w0 w' (rDb v (List.replicate n 0) :: L) R → K v w') : insW Tryd.prog (Instr.makeSlice 22 (.int .i64 n) (.int .i64 n)) w K := by
  obtain ⟨ui, hui, huz, husz, huby⟩ := tyI_spec ty_u8
  refine makeSlice_i (z0 := .int .u8 0) (n := n) (c := n) und_u8s hui huz (by rw [husz]; rfl) (Nat.le_refl _) (by rw [huby]; omega) (by omega) fun bb w1 hbb e hm _ => ?_
  rw [husz, Nat.mul_one, ← bc_zeros] at hm
  refine h _ w1 (s.add (T := rDb (.slice (some ⟨bb, 0, none⟩) n n) (List.replicate n 0)) ?_ e (fun c hc => by simp [rDb, rO, slB] at hc; omega))
  show OwnAt w1 _ _ 1 _ _
  rw [List.length_replicate]
  exact .inr ⟨bb, 0, n, _, rfl, hm, by rw [bc_length]; simp, by rw [List.drop_zero, List.take_of_length_le (by rw [bc_length]; simp)], by rw [bc_length]; simp, Nat.le_refl _⟩

/-- A literal of sectors. -/
theorem Sep.litKs {S : List Nat} {w0 w : World} {L R : List Res} {K : VPost} {ls : List Bytes} {parts : List (Nat × Value)} (s : Sep S w0 w L R) (hb : ∀ l ∈ ls, l.length = 64) (hl : ls.length ≤ 1000) (hp : parts = enumV 0 (ls.map fun b => .agg (bc b).toArray)) (h : ∀ v' w', Sep S w0 w' (rK v' ls :: L) R → K v' w') :
    insW Tryd.prog (Instr.buildSlice 23 ls.length parts.toArray) w K := by
  obtain ⟨ti, hti, htz, hts, htb⟩ := tyI_spec ty_blk
  have e : ∀ ls : List Bytes, flatV (ls.map fun b => Value.agg (bc b).toArray) = bc ls.flatten := by
    intro ls
    induction ls with
    | nil => rfl
    | cons x r ih =>
      rw [List.map_cons, List.flatten_cons, bc_append, ← ih]
      simp [flatV, Value.cells]
  have := s.lit (K := K) (vs := ls.map fun b => .agg (bc b).toArray) und_blks hti htz hp (by
    intro y hy
    obtain ⟨b, hb', rfl⟩ := List.mem_map.1 hy
    rw [hts]; show (bc b).toArray.size = 64; rw [List.size_toArray, bc_length, hb b hb']) (by rw [hts, List.length_map]; omega) fun t w1 s1 _ _ => h t w1 (by rw [hts, e, List.length_map] at s1; exact s1)
  rw [List.length_map] at this
  exact this

theorem al_ok : packOk 3 7 (needN ([97, 98] : Bytes).length) := ⟨by decide, by decide, by decide, by decide, by decide⟩
theorem al_ok2 : packOk 3 8 (needN (List.replicate 20 (0 : UInt8)).length) := ⟨by decide, by decide, by decide, by decide, by decide⟩
theorem al64 : ∀ l ∈ [alB], l.length = 64 := by intro l h; rw [List.mem_singleton] at h; subst h; exact alB_len
theorem al64m : ∀ l ∈ [al0, al1], l.length = 64 := by
  intro l h
  simp only [List.mem_cons, List.not_mem_nil, or_false] at h
  rcases h with rfl | rfl
  · exact al0_len
  · exact al1_len
theorem al64a : ∀ l ∈ [alB] ++ [al0, al1], l.length = 64 := by
  intro l h
  rcases List.mem_append.1 h with h | h
  · exact al64 l h
  · exact al64m l h

set_option maxHeartbeats 2000000 in
theorem alive4_c {w : World} {K : VPost} (hK : ∀ w', Ext [] w w' → K (.bool true) w') : Calls Tryd.prog 15 #[] w (retK K) := by
  refine c15_calls w K ?_
  unfold c15
  refine (Sep.nil w).litB [97, 98] rfl (by decide) fun v1 w1 s _ _ => ?_
  refine fnW_of (by kernel_rfl) (pack_c (g := 3) (n := 7) (r := [97, 98]) (OwnAt.rd (s.at 0 rfl)) (fun h => absurd al_ok h) fun _ vl w2 hvl e2 hf2 => ?_)
  have hvl : OwnAt w2 vl 37 64 (bc (packB 3 7 [97, 98]).flatten) (packB 3 7 [97, 98]).length := hvl
  rw [al_pack] at hvl
  have s := s.add (T := rK vl [alB]) hvl e2 hf2
  rw [extr0, extr1]
  refine s.makeB (n := 20) (by decide) fun vz w3 s => ?_
  refine fnW_of (by kernel_rfl) (pack_c (g := 3) (n := 8) (r := List.replicate 20 0) (OwnAt.rd (s.at 0 rfl)) (fun h => absurd al_ok2 h) fun _ vm w4 hvm e4 hf4 => ?_)
  have hvm : OwnAt w4 vm 37 64 (bc (packB 3 8 (List.replicate 20 0)).flatten) (packB 3 8 (List.replicate 20 0)).length := hvm
  rw [al_pack2] at hvm
  have s := s.add (T := rK vm [al0, al1]) hvm e4 hf4
  have s : Sep [] w w4 [rK vm [al0, al1], rDb vz (List.replicate 20 0), rK vl [alB], rDb v1 [97, 98]] [] := s
  rw [extr0, extr1]
  refine not_ti (b := true) ?_
  refine gs_f ?_
  refine gs_f ?_
  refine not_ti (b := true) ?_
  refine pick_fi ?_
  refine gs_f ?_
  refine gs_f ?_
  rw [(OwnAt.rd (s.at 2 rfl)).lenw]
  refine gs_f ?_
  refine nneq (x := 1) (y := 1) ?_
  refine pick_fi ?_
  refine gs_f ?_
  refine gs_f ?_
  rw [(OwnAt.rd (s.at 0 rfl)).lenw]
  refine gs_f ?_
  refine nneq (x := 2) (y := 2) ?_
  refine pick_fi ?_
  refine cndF ?_
  have s := s.freeze 0 rfl (T' := rKR vm [al0, al1]) (OwnAt.rd (s.at 0 rfl)) (fun b hb => rdB_slB (ys := bc [al0, al1].flatten) hb)
  have s := (s.drop 0).drop 1
  have s : Sep [] w w4 [rK vl [alB]] [rKR vm [al0, al1]] := s
  refine s.apKs2 (s.rat 0 rfl) (by decide) fun va w5 s hca => ?_
  refine fnW_of (by kernel_rfl) (unpack_c (g := 3) (n := 7) (ls := [alB] ++ [al0, al1]) (s.rat 0 rfl) hca al64a (by decide) (fun h => ?_) fun r k h vr w6 hvr e6 hf6 => ?_)
  · rw [al_unpack] at h; cases h
  rw [al_unpack] at h
  obtain ⟨rfl, rfl⟩ := Prod.mk.inj (Option.some.inj h)
  have s := s.add (T := rDb vr [97, 98]) hvr e6 hf6
  have s : Sep [] w w6 [rDb vr [97, 98]] [rKR va ([alB] ++ [al0, al1]), rKR vl [alB], rKR vm [al0, al1]] := s
  refine extr_i rfl ?_
  refine extr_i rfl ?_
  refine extr_i rfl ?_
  obtain ⟨p1, o1, i1, l1⟩ := RdSl.secAt (s.rat 2 rfl) al64m (i := 1) (by decide) .i64
  refine i1 _ ?_
  refine l1 _ ?_
  refine fnW_of (by kernel_rfl) (mark_c (b := al1) al1_len fun w7 e7 => ?_)
  rw [al_mark]
  have s := s.ext0 e7
  refine extr_i rfl ?_
  refine extr_i rfl ?_
  refine extr_i rfl ?_
  obtain ⟨p2, o2, i2, l2⟩ := RdSl.secAt (s.rat 1 rfl) al64 (i := 0) (by decide) .i64
  refine i2 _ ?_
  refine l2 _ ?_
  show allocW _ _ _ _
  refine s.alloc zero_blk cellsK fun p w8 s _ => ?_
  refine s.storeAll (vs := bc alB) 0 rfl (by rw [bc_length, alB_len]) rfl (bc_one _) fun w9 s _ => ?_
  have s : Sep [] w w9 [rB p (bc alB) 37, rDb vr [97, 98]] [rKR va ([alB] ++ [al0, al1]), rKR vl [alB], rKR vm [al0, al1]] := s
  refine idxA1 (i := 20) (by decide) ?_
  refine s.load1 (v := bv (alB.getD 20 0)) 0 rfl (getD_lt (by rw [alB_len]; decide)) ?_
  rw [show (Value.int .u8 1) = bv 1 from rfl, u8_add]
  refine idxA1 (i := 20) (by decide) ?_
  refine s.store1 0 rfl rfl (by rw [bc_length, alB_len]; decide) rfl fun w10 s _ => ?_
  rw [bc_set] at s
  have s : Sep [] w w10 [rB p (bc alX) 37, rDb vr [97, 98]] [rKR va ([alB] ++ [al0, al1]), rKR vl [alB], rKR vm [al0, al1]] := s
  refine s.loadAll 0 rfl (by rw [bc_length, alX_len]) ?_
  refine s.litK alX_len fun vx w11 s => ?_
  have hx : RdSl w11 vx 64 (bc [alX].flatten) [alX].length := by
    have := OwnAt.rd (s.at 0 rfl)
    have e : [alX].flatten = alX := by simp
    rw [e]
    exact this
  refine fnW_of (by kernel_rfl) (unpack_c (g := 3) (n := 7) (ls := [alX]) hx (OwnAt.cap (s.at 0 rfl)) (by intro l h; rw [List.mem_singleton] at h; subst h; exact alX_len) (by decide) (fun _ w12 e12 => ?_) (fun r k h => by rw [alX_no] at h; cases h))
  have s := (s.ext0 e12).drop 0
  have s : Sep [] w w12 [rB p (bc alX) 37, rDb vr [97, 98]] [rKR va ([alB] ++ [al0, al1]), rKR vl [alB], rKR vm [al0, al1]] := s
  refine extr_i rfl ?_
  refine extr_i rfl ?_
  refine extr_i rfl ?_
  have s := s.drew
  generalize w12.drew = w13 at *
  refine gs_t ?_
  refine gs_t ?_
  refine not_ti (b := false) ?_
  refine pick_ti ?_
  refine gs_t ?_
  refine gs_t ?_
  refine neql (x := 1) (y := 1) ?_
  refine pick_ti ?_
  refine gs_t ?_
  refine gs_t ?_
  refine s.litB [97, 98] rfl (by decide) fun v14 w14 s _ _ => ?_
  refine gs_t ?_
  refine fnW_of (by kernel_rfl) (sameBytes_c (l := [97, 98]) (l' := [97, 98]) (OwnAt.rd (s.at 2 rfl)) (OwnAt.rd (s.at 0 rfl)) (by decide) fun w15 e15 => ?_)
  have s := (s.ext0 e15).drop 0
  have s : Sep [] w w15 [rB p (bc alX) 37, rDb vr [97, 98]] [rKR va ([alB] ++ [al0, al1]), rKR vl [alB], rKR vm [al0, al1]] := s
  refine pick_ti ?_
  refine gs_t ?_
  refine gs_t ?_
  refine neql (x := 3) (y := 3) ?_
  refine pick_ti ?_
  refine gs_t ?_
  refine gs_t ?_
  refine neql (x := 9) (y := 9) ?_
  refine pick_ti ?_
  refine gs_t ?_
  refine pick_ti ?_
  refine gs_t ?_
  refine gs_t ?_
  obtain ⟨p2, o2, i2, l2⟩ := RdSl.secAt (s.rat 1 rfl) al64 (i := 0) (by decide) .i64
  refine i2 _ ?_
  refine gs_t ?_
  refine l2 _ ?_
  refine gs_t ?_
  refine fnW_of (by kernel_rfl) (whole_c (b := alB) alB_len fun w16 e16 => ?_)
  rw [al_whole]
  have s := s.ext0 e16
  refine pick_ti ?_
  refine gs_t ?_
  refine fnW_of (by kernel_rfl) (need_c (n := 0) ?_)
  refine gs_t ?_
  refine neql (x := 1) (y := 1) ?_
  refine pick_ti ?_
  refine gs_t ?_
  refine fnW_of (by kernel_rfl) (need_c (n := 2001) ?_)
  refine gs_t ?_
  refine neql (x := 0) (y := 0) ?_
  refine pick_ti ?_
  refine gs_t ?_
  refine gs_t ?_
  obtain ⟨p3, o3, i3, l3⟩ := RdSl.secAt (s.rat 1 rfl) al64 (i := 0) (by decide) .i64
  refine i3 _ ?_
  refine gs_t ?_
  refine l3 _ ?_
  refine gs_t ?_
  refine s.loadAll 0 rfl (by rw [bc_length, alX_len]) ?_
  refine gs_t ?_
  refine s.litKs (ls := [alB, alX]) (by intro l h; simp only [List.mem_cons, List.not_mem_nil, or_false] at h; rcases h with rfl | rfl <;> first | exact alB_len | exact alX_len) (by decide) rfl fun vy w17 s => ?_
  refine gs_t ?_
  refine fnW_of (by kernel_rfl) (highest_c (ls := [alB, alX]) (OwnAt.rd (s.at 0 rfl)) (by intro l h; simp only [List.mem_cons, List.not_mem_nil, or_false] at h; rcases h with rfl | rfl <;> first | exact alB_len | exact alX_len) (by decide) fun w18 e18 => ?_)
  rw [al_high]
  have s := (s.ext0 e18).drop 0
  have s : Sep [] w w18 [rB p (bc alX) 37, rDb vr [97, 98]] [rKR va ([alB] ++ [al0, al1]), rKR vl [alB], rKR vm [al0, al1]] := s
  refine gs_t ?_
  refine neql (x := 3) (y := 3) ?_
  refine pick_ti ?_
  refine gs_t ?_
  refine gs_t ?_
  obtain ⟨p4, o4, i4, l4⟩ := RdSl.secAt (s.rat 2 rfl) al64m (i := 1) (by decide) .i64
  refine i4 _ ?_
  refine gs_t ?_
  refine l4 _ ?_
  refine gs_t ?_
  refine fnW_of (by kernel_rfl) (data_c (b := al1) al1_len fun vd w19 hvd e19 hfd => ?_)
  refine gs_t ?_
  rw [hvd.rd.lenw, al_data]
  refine gs_t ?_
  refine neql (x := 8) (y := 8) ?_
  refine pick_ti ?_
  exact hK _ (s.ext0 e19).ext
end Go.Proofs.YtedebapgmfnflaaDoor
