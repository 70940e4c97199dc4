/- Frames and nodes: the walks of the program's. Condition: a frame of at most 2^30 bytes. -/
import Derived.Test.YtedebapgmfnflaaK4
namespace Go.Proofs.Ytedebapgmfnflaa
open Go
set_option maxRecDepth 100000

theorem frameL_append (a b : List Bytes) : frameL (a ++ b) = frameL a ++ frameL b := by simp [frameL]
theorem frameL_take (ls : List Bytes) (i : Nat) : (frameL (ls.take i)).length ≤ (frameL ls).length := by
  have := frameL_append (ls.take i) (ls.drop i)
  rw [List.take_append_drop] at this
  rw [this, List.length_append]
  omega
theorem le4_length (n : Nat) : (le4 n).length = 4 := rfl

set_option maxHeartbeats 1000000 in
theorem frame_c {w : World} {K : VPost} {v : Value} {hs : List Value} {ls : List Bytes} (hv : RowsR w v hs ls) (hn : (frameL ls).length ≤ 2 ^ 30)
    (hK : ∀ v' w', OwnAt w' v' 5 1 (bc (frameB ls)) (frameB ls).length → Ext [] w w' → (∀ b ∈ slB v', w.heap.size ≤ b) → K v' w') : Calls Try.prog 66 #[v] w (retK K) := by
  refine c66_calls _ w K ?_
  unfold c66
  obtain ⟨va, vc, hva⟩ := hv.len
  have hlen : ∀ (w : World) (K : VPost), lenW Try.prog (some true) #[56] 3 #[v] w K = K (.int .i64 ls.length) w := fun w K => by rw [hva, len_s]
  have hfl := frameL_length ls
  rw [hlen]
  refine fnW_of (by kernel_rfl) (count_c fun v0 w1 hv0 e hf => ?_)
  have s := (Sep.zero1 (U := rW v hs ls) hv).add (T := rO v0 5 1 (bc (le4 ls.length)) 4) hv0 e hf
  refine bindX_i fun J0 h0 => bindX_i fun J1 h1 => ?_
  rw [hlen]
  refine bindX_i fun J2 h2 => ?_
  refine loop_i (fun m fr wr => ∃ (i : Nat) (v1 : Value), m = ls.length - i ∧ i ≤ ls.length ∧ fr 3 = v1 ∧ fr 9 = v ∧ fr 10 = .int .i64 ls.length ∧ fr 11 = .int .i64 i ∧
    Sep [] w wr [rO v1 5 1 (bc (le4 ls.length ++ frameL (ls.take i))) (4 + (frameL (ls.take i)).length)] [rW v hs ls]) ls.length ?_ ?_
  · exact ⟨0, v0, rfl, by omega, rfl, rfl, rfl, rfl, by rw [List.take_zero, show frameL [] = [] from rfl, List.append_nil]; exact s⟩
  · rintro m fr wr J ⟨i, v1, rfl, hi, f3, f9, f10, f11, s⟩ hJ hX
    rw [f9, f10, f11]
    refine nlss (cond_d (fun hlt => ?_) (fun hlt => ?_))
    · obtain ⟨b, o, r, hix, hld, hr1, hcr, hfr⟩ := RowsR.elem (s.rat 0 rfl) hlt .i64
      refine hix _ ?_
      refine hld _ ?_
      obtain ⟨ra, rc, hra⟩ := hr1.len
      rw [hra, len_s, ← hra]
      have s := s.part (T := rR r 1 (bc ls[i]) ls[i].length) (U := rW v hs ls) (by simp) hr1 hfr
      refine fnW_of (by kernel_rfl) (count_c fun v2 w2 hv2 e hf => ?_)
      have s := s.add (T := rO v2 5 1 (bc (le4 ls[i].length)) 4) hv2 e hf
      have s : Sep [] w w2 [rO v2 5 1 (bc (le4 ls[i].length)) 4, rO v1 5 1 (bc (le4 ls.length ++ frameL (ls.take i))) (4 + (frameL (ls.take i)).length)] [rR r 1 (bc ls[i]) ls[i].length, rW v hs ls] := s
      obtain ⟨ui, hui, huz, husz, huby⟩ := tyI_spec ty_u8
      have htk := frameL_take ls (i + 1)
      have hsn : frameL (ls.take (i + 1)) = frameL (ls.take i) ++ le4 ls[i].length ++ ls[i] := by rw [List.take_succ_eq_append_getElem hlt, frameL_snoc]
      have hsl : (frameL (ls.take (i + 1))).length = (frameL (ls.take i)).length + 4 + ls[i].length := by rw [hsn, List.length_append, List.length_append, le4_length]
      rw [f3]
      refine s.appendO (v := v1) (n := 4 + (frameL (ls.take i)).length) (m := 4) (ys := bc (le4 ls[i].length)) (xs := bc (le4 ls.length ++ frameL (ls.take i))) 1 (by rw [husz]; rfl) und_u8s und_u8s hui huz (by rw [husz]; rfl) (by rw [huby]; decide) (by rw [husz]; exact OwnAt.rd (s.at 0 rfl)) (bc_one _) (by rw [huby]; omega) fun v3 w3 s => ?_
      rw [husz, ← bc_append] at s
      have s := s.drop 0
      have s : Sep [] w w3 [rO v3 5 1 (bc (le4 ls.length ++ frameL (ls.take i) ++ le4 ls[i].length)) (4 + (frameL (ls.take i)).length + 4)] [rR r 1 (bc ls[i]) ls[i].length, rW v hs ls] := s
      refine s.appendO (v := v3) (n := 4 + (frameL (ls.take i)).length + 4) (m := ls[i].length) (ys := bc ls[i]) (xs := bc (le4 ls.length ++ frameL (ls.take i) ++ le4 ls[i].length)) 0 (by rw [husz]; rfl) und_u8s und_u8s hui huz (by rw [husz]; rfl) (by rw [huby]; decide) (by rw [husz]; exact s.rat 0 rfl) (bc_one _) (by rw [huby]; omega) fun v4 w4 s => ?_
      rw [husz, ← bc_append] at s
      have e1 : le4 ls.length ++ frameL (ls.take i) ++ le4 ls[i].length ++ ls[i] = le4 ls.length ++ frameL (ls.take (i + 1)) := by rw [hsn]; simp
      have e2 : 4 + (frameL (ls.take i)).length + 4 + ls[i].length = 4 + (frameL (ls.take (i + 1))).length := by omega
      rw [e1, e2] at s
      have s := s.sub (R' := [rW v hs ls]) (List.Sublist.refl _) (by intro T hT; rw [List.mem_singleton] at hT; subst hT; simp)
      have s : Sep [] w w4 [rO v4 5 1 (bc (le4 ls.length ++ frameL (ls.take (i + 1)))) (4 + (frameL (ls.take (i + 1))).length)] [rW v hs ls] := s
      refine nadd (y := 1) (by omega) ?_
      exact hJ (ls.length - (i + 1)) _ _ (by omega) ⟨i + 1, v4, rfl, by omega, rfl, f9, f10, rfl, s⟩
    · obtain rfl : i = ls.length := by omega
      refine hX _ _ _ (by simp) (h2 _ _ _ (blk_x (seq_n h1 ?_)))
      rw [List.take_length] at s
      have e : 4 + (frameL ls).length = (frameB ls).length := by rw [frameB, List.length_append, le4_length]
      rw [e] at s
      show K (fr 3) wr
      rw [f3]
      exact hK v1 wr (s.at 0 rfl) s.ext (s.fresh 0 rfl)

set_option maxHeartbeats 1000000 in
theorem node_c {w : World} {K : VPost} {kind : UInt8} {v : Value} {hs : List Value} {ls : List Bytes} (hv : RowsR w v hs ls) (hn : (frameL ls).length ≤ 2 ^ 30)
    (hK : ∀ w', Ext [] w w' → K (.agg (bc (digest (kind :: frameB ls))).toArray) w') : Calls Try.prog 70 #[bv kind, v] w (retK K) := by
  refine c70_calls _ _ w K ?_
  unfold c70
  refine (Sep.zero1 (U := rW v hs ls) hv).alloc zero_dig cells_dig fun b4 w1 s _ => ?_
  refine s.hnew fun p F w2 s _ => ?_
  refine s.litB [kind] rfl (by simp) fun t w3 s _ _ => ?_
  refine fnW_of (by kernel_rfl) (frame_c (s.rat 0 rfl) hn fun v2 w4 hv2 e hf => ?_)
  have s := s.add (T := rO v2 5 1 (bc (frameB ls)) (frameB ls).length) hv2 e hf
  have c2 : capOk v2 := OwnAt.cap hv2
  have s := s.freeze 0 rfl (T' := rR v2 1 (bc (frameB ls)) (frameB ls).length) (OwnAt.rd hv2) (fun b hb => rdB_slB (ys := bc (frameB ls)) hb)
  have ht : OwnAt w4 t 5 1 (bc [kind]) [kind].length := s.at 0 rfl
  have s := s.freeze 0 rfl (T' := rR t 1 (bc [kind]) [kind].length) (OwnAt.rd ht) (fun b hb => rdB_slB (ys := bc [kind]) hb)
  have s : Sep [] w w4 [rH p F (hm []), rB b4 (bc (List.replicate 32 0)) 62] [rR t 1 (bc [kind]) [kind].length, rR v2 1 (bc (frameB ls)) (frameB ls).length, rW v hs ls] := s
  have hfb : (frameB ls).length = 4 + (frameL ls).length := by rw [frameB, List.length_append, le4_length]
  refine s.hwrite (vs := [t, v2]) (ls := [[kind], frameB ls]) 0 rfl rfl ⟨⟨s.rat 0 rfl, OwnAt.cap ht⟩, ⟨s.rat 1 rfl, c2⟩, trivial⟩ (fun x hx hxm => ?_) (by simp) (by simp; omega) fun F' t2 u w5 s => ?_
  · simp only [rowsF, List.append_nil, List.mem_append] at hxm
    rcases hxm with h | h
    · exact s.disR (rH p F (hm [])) (by simp) (rR t 1 (bc [kind]) [kind].length) (by simp) x hx h
    · exact s.disR (rH p F (hm [])) (by simp) (rR v2 1 (bc (frameB ls)) (frameB ls).length) (by simp) x hx h
  have e2 : [] ++ [[kind], frameB ls].flatten = kind :: frameB ls := by simp
  rw [e2] at s
  refine s.hsum 0 rfl (by simp; omega) fun w6 s => ?_
  have hdl := digest_length (kind :: frameB ls)
  generalize digest (kind :: frameB ls) = dg at *
  refine s.storeAll 1 rfl (by rw [bc_length]; exact hdl) (by simp [bc]) (bc_one _) fun w7 s _ => ?_
  refine s.loadAll 1 rfl (by rw [bc_length]; exact hdl) ?_
  exact hK w7 s.ext
end Go.Proofs.Ytedebapgmfnflaa
