/- Bytes put one behind the other; a record with its digest; a sector: their walks. Conditions: at most 2^30 bytes; the numbers are not below 0. -/
import Derived.Test.YtedebapgmfnflaaDoorV1
namespace Go.Proofs.YtedebapgmfnflaaDoor
open Go
set_option maxRecDepth 100000

theorem Sep.putB {S : List Nat} {w0 w : World} {L R : List Res} {K : VPost} (s : Sep S w0 w L R) {n k : Nat} (hn : n < 9223372036854775808) (hk : k ≤ 8) (h : ∀ v w', Sep S w0 w' (rDb v (beP k n) :: L) R → K v w') :
    fnW Tryd.prog 128 #[.int .i64 n, .int .i64 k] w K :=
  fnW_of (by kernel_rfl) (put_c hn hk fun v w' hv e hf => h v w' (s.add (T := rDb v (beP k n)) (by show OwnAt w' v 5 1 (bc (beP k n)) (beP k n).length; rw [beP_length]; exact hv) e hf))

theorem cap_e {P : Program} {t e : TypeId} {ty : TypeId} {a : Option Addr} {n c : Nat} {w : World} {K : VPost} (hu : P.underlying t = some (.slice e)) (h : K (.int .i64 c) w) : insW P (Builtin.cap_ #[t] ty #[.slice a n c]) w K := by
  refine insW_ok (v := .int .i64 c) (w' := w) ?_ h
  unfold Builtin.cap_
  simp [Sem.run_bind, run_und hu, goInt]
theorem len_i {P : Program} {ts : Array TypeId} {t : TypeId} {a : Option Addr} {n c : Nat} {w : World} {K : VPost} (h : K (.int .i64 n) w) : lenW P (some true) ts t #[.slice a n c] w K := h
theorem seqX_n {B : Fr → World → Prop} {K : XPost} {fr : Fr} {w : World} (h : B fr w) : seqX B K .normal fr w := h

theorem grow_c {w : World} {K : VPost} {n : Nat} (hn : n ≤ 1073741824) (hK : ∀ v w', OwnAt w' v 5 1 [] 0 → Ext [] w w' → (∀ b ∈ slB v, w.heap.size ≤ b) → K v w') :
    Calls Tryd.prog 173 #[.slice none 0 0, .int .i64 n] w (retK K) := by
  refine c173_calls _ _ w K ?_
  unfold c173
  refine bindX_i fun J0 h0 => bindX_i fun J1 h1 => ?_
  refine nlss (y := 0) ?_
  rw [show decide (n < 0) = false from decide_eq_false (by omega)]
  refine cndF ?_
  refine h1 _ _ _ (seqX_n ?_)
  refine bindX_i fun J2 h2 => ?_
  refine cap_e und_u8s ?_
  refine len_i ?_
  refine nsub (x := 0) (y := 0) (by omega) (by omega) ?_
  refine nsub (x := n) (y := 0) (by omega) (by omega) ?_
  refine ngtr (y := 0) ?_
  rw [Nat.sub_zero]
  refine cond_d (fun hp => ?_) (fun hp => ?_)
  · refine cap_e und_u8s ?_
    refine cut_ok (l := 0) (h := 0) rfl rfl (Nat.le_refl _) (Nat.le_refl _) ?_
    obtain ⟨ui, hui, huz, husz, huby⟩ := tyI_spec ty_u8
    have s := (Sep.nil w).add (T := rO (.slice none 0 0) 5 ui.size [] 0) (w' := w) (.inl ⟨rfl, rfl, rfl⟩) (Ext.refl _ _) (by simp [rO, slB])
    refine s.appendZ (n := 0) (m := n) 0 rfl und_u8s und_int hui huz (by rw [husz]; rfl) (by rw [huby]; decide) (by intro y hy; rcases List.mem_singleton.1 (show y ∈ [Value.int .u8 0] from hy) with rfl; rfl) (by rw [huby]; omega) fun v w1 s => ?_
    rw [husz] at s
    refine len_i ?_
    have hv := s.at 0 rfl
    refine hv.cutO (l := 0) (h := 0) rfl rfl (Nat.le_refl _) (Nat.zero_le _) fun v' hv' e => ?_
    refine h2 _ _ _ ?_
    show K v' w1
    have hv' : OwnAt w1 v' 5 1 [] 0 := hv'
    exact hK v' w1 hv' s.ext (fun b hb => s.fresh 0 rfl b (by show b ∈ slB v; rw [← e]; exact hb))
  · exact h2 _ _ _ (hK (.slice none 0 0) w (.inl ⟨rfl, rfl, rfl⟩) (Ext.refl _ _) (by simp [slB]))

theorem fltake {α : Type} (ls : List (List α)) {i : Nat} (h : i < ls.length) : (ls.take (i + 1)).flatten = (ls.take i).flatten ++ ls[i] := by
  rw [List.take_succ_eq_append_getElem h, List.flatten_append]
  simp
theorem fltake_le {α : Type} (ls : List (List α)) (i : Nat) : (ls.take i).flatten.length ≤ ls.flatten.length := by
  have : ls.flatten = (ls.take i).flatten ++ (ls.drop i).flatten := by rw [← List.flatten_append, List.take_append_drop]
  rw [this, List.length_append]
  omega

theorem concat_c {w : World} {K : VPost} {v : Value} {hs : List Value} {ls : List Bytes} (hv : RowsR w v hs ls) (hn : ls.flatten.length ≤ 1073741824) (hl : ls.length ≤ 1073741824)
    (hK : ∀ v' w', OwnAt w' v' 5 1 (bc ls.flatten) ls.flatten.length → Ext [] w w' → (∀ b ∈ slB v', w.heap.size ≤ b) → K v' w') : Calls Tryd.prog 130 #[v] w (retK K) := by
  refine c130_calls _ w K ?_
  unfold c130
  have hvl : ∀ (w : World) (K : VPost), lenW Tryd.prog (some true) #[45] 3 #[v] w K = K (.int .i64 ls.length) w := fun w K => by obtain ⟨a, c, rfl⟩ := hv.len; exact len_s
  refine bindX_i fun J0 h0 => bindX_i fun J1 h1 => ?_
  rw [hvl]
  refine bindX_i fun J2 h2 => ?_
  refine loop_i (fun m fr wr => ∃ i : Nat, m = ls.length - i ∧ i ≤ ls.length ∧ fr 0 = v ∧ fr 3 = .int .i64 (ls.take i).flatten.length ∧ fr 9 = v ∧ fr 10 = .int .i64 ls.length ∧ fr 11 = .int .i64 i ∧ w = wr) ls.length ?_ ?_
  · exact ⟨0, rfl, by omega, rfl, rfl, rfl, rfl, rfl, rfl⟩
  · rintro m fr wr J ⟨i, rfl, hi, f0, f3, f9, f10, f11, rfl⟩ hJ hX
    rw [f10, f11]
    refine nlss (cond_d (fun hlt => ?_) (fun hlt => ?_))
    · refine bindX_i fun J3 h3 => bindX_i fun J4 h4 => ?_
      rw [f9]
      obtain ⟨b, o, r, hix, hld, hr, hc, hf⟩ := hv.elem hlt .i64
      refine hix _ ?_
      refine hld _ ?_
      rw [hr.lenw, f3]
      have e1 := fltake ls hlt
      have e2 := fltake_le ls (i + 1)
      rw [e1, List.length_append] at e2
      refine nadd (by omega) ?_
      refine nlss (y := 0) ?_
      rw [show decide ((ls.take i).flatten.length + ls[i].length < 0) = false from decide_eq_false (by omega)]
      refine cndF ?_
      refine h3 _ _ _ ?_
      show binN _ _ _ _ (fr 11) _ _ _
      rw [f11]
      refine nadd (y := 1) (by omega) ?_
      refine hJ (ls.length - (i + 1)) _ _ (by omega) ⟨i + 1, rfl, by omega, f0, ?_, f9, f10, rfl, rfl⟩
      rw [e1, List.length_append]; rfl
    · obtain rfl : i = ls.length := by omega
      refine hX _ _ _ (by simp) (h2 _ _ _ (h1 _ _ _ ?_))
      show fnW _ _ #[_, fr 3] _ _
      rw [f3, List.take_length]
      refine fnW_of (by kernel_rfl) (grow_c hn fun v1 w1 hv1 e1 hf1 => ?_)
      have s := (Sep.zero1 (U := rW v hs ls) hv).add (T := rDb v1 []) hv1 e1 hf1
      refine bindX_i fun J5 h5 => ?_
      show lenW _ _ _ _ #[fr 0] _ _
      rw [f0, hvl]
      refine bindX_i fun J6 h6 => ?_
      refine loop_i (fun m fr wr => ∃ (i : Nat) (v1 : Value), m = ls.length - i ∧ i ≤ ls.length ∧ fr 6 = v1 ∧ fr 25 = v ∧ fr 26 = .int .i64 ls.length ∧ fr 27 = .int .i64 i ∧ Sep [] w wr [rDb v1 (ls.take i).flatten] [rW v hs ls]) ls.length ?_ ?_
      · exact ⟨0, v1, rfl, by omega, rfl, f0, rfl, rfl, s⟩
      · rintro m fr wr I ⟨i, v1, rfl, hi, g6, g25, g26, g27, s⟩ hI hY
        rw [g26, g27]
        refine nlss (cond_d (fun hlt => ?_) (fun hlt => ?_))
        · rw [g25, g6]
          obtain ⟨b, o, r, hix, hld, hr, hc, hf⟩ := RowsR.elem (s.rat 0 rfl) hlt .i64
          refine hix _ ?_
          refine hld _ ?_
          have e1 := fltake ls hlt
          have e2 := fltake_le ls (i + 1)
          rw [e1, List.length_append] at e2
          refine s.apB 0 rfl hr (by omega) fun v2 w2 s => ?_
          refine nadd (y := 1) (by omega) ?_
          refine hI (ls.length - (i + 1)) _ _ (by omega) ⟨i + 1, v2, rfl, by omega, rfl, g25, g26, rfl, ?_⟩
          rw [e1]; exact s
        · obtain rfl : i = ls.length := by omega
          refine hY _ _ _ (by simp) (h6 _ _ _ (h5 _ _ _ ?_))
          show K (fr 6) _
          rw [g6]
          rw [List.take_length] at s
          exact hK v1 _ (s.at 0 rfl) s.ext (s.fresh 0 rfl)

theorem sealed_c {w : World} {K : VPost} {x : Value} {r : Bytes} (h : RdSl w x 1 (bc r) r.length) (hn : r.length ≤ 1073741824) (hK : ∀ v w', OwnAt w' v 5 1 (bc (sealB r)) (sealB r).length → Ext [] w w' → (∀ b ∈ slB v, w.heap.size ≤ b) → K v w') :
    Calls Tryd.prog 71 #[x] w (retK K) := by
  refine c71_calls _ w K ?_
  unfold c71
  rw [h.lenw]
  refine (Sep.zero1 (U := rR x 1 (bc r) r.length) h).putB (k := 2) (by omega) (by decide) fun v1 w1 s => ?_
  refine s.apB 0 rfl (s.rat 0 rfl) (by rw [beP_length]; omega) fun v2 w2 s => ?_
  have s : Sep [] w w2 [rDb v2 (beP 2 r.length ++ r)] [rR x 1 (bc r) r.length] := s
  have hl : (beP 2 r.length ++ r).length = 2 + r.length := by rw [List.length_append, beP_length]
  refine fnW_of (by kernel_rfl) (sum_c (OwnAt.rd (s.at 0 rfl)) (OwnAt.cap (s.at 0 rfl)) (by omega) fun w3 e => ?_)
  have s := s.ext0 e
  have hd := digest_length (beP 2 r.length ++ r)
  refine s.alloc zero_dig cells_dig fun b4 w4 s _ => ?_
  refine s.storeAll 0 rfl (by rw [bc_length, hd]) rfl (bc_one _) fun w5 s _ => ?_
  have s : Sep [] w w5 [rB b4 (bc (digest (beP 2 r.length ++ r))) 77, rDb v2 (beP 2 r.length ++ r)] [rR x 1 (bc r) r.length] := s
  refine slArr0 ?_
  have hr4 : RdSl w5 (.slice (some ⟨b4, 0, none⟩) 32 32) 1 (bc (digest (beP 2 r.length ++ r))) (digest (beP 2 r.length ++ r)).length := by
    have := Blk.rdTo (s.at 0 rfl) hd (k := 32) (Nat.le_refl _)
    rwa [List.take_of_length_le (by omega)] at this
  refine s.apB 1 rfl hr4 (by omega) fun v6 w6 s => ?_
  exact hK v6 w6 (s.at 1 rfl) s.ext (s.fresh 1 rfl)
end Go.Proofs.YtedebapgmfnflaaDoor
