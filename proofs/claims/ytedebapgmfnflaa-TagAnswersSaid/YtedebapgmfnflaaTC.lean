/- The laws of frames and of nodes: their walks. -/
import Derived.Test.YtedebapgmfnflaaTB
import Derived.Test.YtedebapgmfnflaaTA
namespace Go.Proofs.Ytedebapgmfnflaa
open Go
set_option maxRecDepth 100000

theorem frameL_of {ls : List Bytes} {m : Nat} (h : ls.flatten.length + ls.length ≤ m) (hm : m ≤ 10000) : (frameL ls).length ≤ 2 ^ 20 := by
  rw [frameL_length]; omega
theorem each_le {ls : List Bytes} {m : Nat} (h : ls.flatten.length + ls.length ≤ m) : ∀ l ∈ ls, l.length ≤ m := by
  intro l hl
  have : l.length ≤ ls.flatten.length := by
    clear h
    induction ls with
    | nil => cases hl
    | cons x r ih =>
      rw [List.flatten_cons, List.length_append]
      rcases List.mem_cons.1 hl with rfl | hl
      · omega
      · have := ih hl; omega
  omega

set_option maxHeartbeats 2000000 in
theorem framesLaw_walk {w : World} {K : VPost} {v : Value} {hs : List Value} {ls : List Bytes} {kind : UInt8} (hv : RowsR w v hs ls) (hls : ls.length ≤ 2 ^ 44) (hb : ∀ l ∈ ls, l.length ≤ 140737488351232) (hK : ∀ w', Ext [] w w' → K (.bool true) w') :
    Calls Try.prog 14 #[v, bv kind] w (retK K) := by
  refine c14_calls _ _ w K ?_
  unfold c14
  refine fnW_of (by kernel_rfl) (alive2_c fun w1 e => ?_)
  have s := (Sep.zero1 (U := rW v hs ls) hv).ext0 e
  rw [notN, Bool.not_true, condW_f]
  refine fnW_of (by kernel_rfl) (rows_c (s.rat 0 rfl) hls hb 1500 (by decide) fun r hr => ?_)
  rw [igtr]
  refine cond_d (fun _ => hK _ s.ext) (fun hle => ?_)
  have hm := hr (by omega)
  have hfl := frameL_of hm (by decide)
  have heach := each_le hm
  obtain ⟨va, vc, hva⟩ := hv.len
  have hlen : ∀ (w : World) (K : VPost), lenW Try.prog (some true) #[56] 3 #[v] w K = K (.int .i64 ls.length) w := fun w K => by rw [hva, len_s]
  refine fnW_of (by kernel_rfl) (frame_c (s.rat 0 rfl) (by omega) fun f w2 hf e hff => ?_)
  have s := s.add (T := rDb f (frameB ls)) hf e hff
  have hbl : (frameB ls).length = 4 + (frameL ls).length := by rw [frameB, List.length_append, le4_length]
  refine fnW_of (by kernel_rfl) (unframe_c hf.rd hf.cap (by omega) (fun hno => ?_) (fun ls' hls' l hs' w3 Q s2 hhs => ?_))
  · rw [unframe_frame (by omega)] at hno
    cases hno
  rw [unframe_frame (by omega)] at hls'
  obtain rfl := Option.some.inj hls'
  have s := s.ext0 s2.ext
  have hl : RowsR w3 l hs' ls := ⟨by rw [hhs]; exact OwnAt.rd (s2.at 1 rfl), s2.at 0 rfl⟩
  have s := s.addR (T := rW l hs' ls) hl (fun U hU b hb hm => by
    rw [List.mem_singleton] at hU
    subst hU
    have h1 := hf.lt b hb
    have h2 : w2.heap.size ≤ b := by
      rcases List.mem_append.1 hm with hm | hm
      · exact s2.fresh 1 rfl b (rdB_slB (ys := bc (frameB ls)) (by
          unfold rdB at hm ⊢
          cases hs' with
          | nil => cases hm
          | cons y r => exact hm))
      · exact s2.fresh 0 rfl b hm
    omega)
  have s : Sep [] w w3 [rDb f (frameB ls)] [rW l hs' ls, rW v hs ls] := s
  rw [extr0, extr1]
  obtain ⟨ti, hti, htz, hts, htb⟩ := tyI_spec ty_str
  refine s.lit (vs := []) und_strs hti htz rfl (by simp) (by simp) fun t w4 s _ _ => ?_
  have s : Sep [] w w4 [rO t 9 ti.size [] 0, rDb f (frameB ls)] [rW l hs' ls, rW v hs ls] := s
  rw [hts] at s
  refine bindX_i fun J18 h18 => bindX_i fun J19 h19 => bindX_i fun J72 h72 => ?_
  refine loop_i (fun m fr wr => ∃ (i : Nat) (t : Value), m = ls.length - i ∧ i ≤ ls.length ∧ fr 0 = v ∧ fr 1 = bv kind ∧ fr 5 = f ∧ fr 6 = l ∧ fr 7 = .bool true ∧ fr 8 = t ∧ fr 9 = .int .i64 i ∧
    Sep [] w wr [rO t 9 1 ((ls.take i).map sv) i, rDb f (frameB ls)] [rW l hs' ls, rW v hs ls]) ls.length ?_ ?_
  · exact ⟨0, t, rfl, by omega, rfl, rfl, rfl, rfl, rfl, rfl, rfl, s⟩
  · rintro m fr wr J ⟨i, t, rfl, hi, f0, f1, f5, f6, f7, f8, f9, s⟩ hJ hX
    rw [f0, f8, f9, hlen]
    refine nlss (cond_d (fun hlt => ?_) (fun hlt => ?_))
    · obtain ⟨b, o, r, hix, hld, hr1, hcr, hfr⟩ := RowsR.elem (s.rat 1 rfl) hlt .i64
      refine hix _ ?_
      refine hld _ ?_
      refine conv_bs und_u8s und_u8 und_str hr1 ?_
      refine s.litS [ls[i]] rfl (by simp) fun t2 w5 s => ?_
      refine s.appendO (ti := ti) (v := t) (n := i) (m := 1) (ys := [sv ls[i]]) (xs := (ls.take i).map sv) 1 (by rw [hts]; rfl) und_strs und_strs hti htz (by rw [hts]; rfl) (by rw [htb]; decide) (by rw [hts]; exact OwnAt.rd (s.at 0 rfl)) (by intro y hy; simp at hy; subst hy; rfl) (by rw [htb]; omega) fun t3 w6 s => ?_
      rw [hts] at s
      have e1 : (ls.take i).map sv ++ [sv ls[i]] = (ls.take (i + 1)).map sv := by rw [List.take_succ_eq_append_getElem hlt, List.map_append]; rfl
      rw [e1] at s
      have s := s.drop 0
      refine nadd (y := 1) (by omega) ?_
      exact hJ (ls.length - (i + 1)) _ _ (by omega) ⟨i + 1, t3, rfl, by omega, f0, f1, f5, f6, f7, rfl, rfl, s⟩
    · obtain rfl : i = ls.length := by omega
      rw [List.take_length] at s
      have fin : ∀ (fr : Fr), fr 0 = v → fr 1 = bv kind → fr 5 = f → fr 6 = l → fr 7 = .bool true → fr 8 = t → J19 .normal fr wr := by
        intro fr f0 f1 f5 f6 f7 f8
        refine seq_n h19 ?_
        rw [f0, f1, f5, f6, f7, f8]
        repeat with_reducible refine gs_t ?_
        refine fnW_of (by kernel_rfl) (same_c (s.rat 0 rfl) (s.rat 1 rfl) (by omega) (fun l hl => by have := heach l hl; omega) fun w5 e => ?_)
        have s := s.ext0 e
        rw [decide_eq_true rfl]
        refine pick_ti ?_
        repeat with_reducible refine gs_t ?_
        refine fnW_of (by kernel_rfl) (rframe_c (s.rat 1 rfl) (by omega) fun f2 w6 hf2 e _ => ?_)
        have s := s.ext0 e
        repeat with_reducible refine gs_t ?_
        refine fnW_of (by kernel_rfl) (sameBytes_c (OwnAt.rd (s.at 1 rfl)) hf2.rd (by omega) fun w7 e => ?_)
        have s := s.ext0 e
        rw [decide_eq_true rfl]
        refine pick_ti ?_
        repeat with_reducible refine gs_t ?_
        refine fnW_of (by kernel_rfl) (node_c (s.rat 1 rfl) (by omega) fun w8 e => ?_)
        have s := s.ext0 e
        repeat with_reducible refine gs_t ?_
        refine fnW_of (by kernel_rfl) (rnode_c (s.rat 1 rfl) (by omega) fun w9 e => ?_)
        have s := s.ext0 e
        repeat with_reducible refine gs_t ?_
        refine dig_eql (digest_length _) (digest_length _) ?_
        rw [decide_eq_true rfl]
        refine pick_ti ?_
        repeat with_reducible refine gs_t ?_
        refine fnW_of (by kernel_rfl) (texts_c (OwnAt.rd (s.at 0 rfl)) (by omega) fun w10 e => ?_)
        have s := s.ext0 e
        repeat with_reducible refine gs_t ?_
        refine fnW_of (by kernel_rfl) (node_c (s.rat 1 rfl) (by omega) fun w11 e => ?_)
        have s := s.ext0 e
        repeat with_reducible refine gs_t ?_
        refine dig_eql (digest_length _) (digest_length _) ?_
        rw [decide_eq_true rfl]
        refine pick_ti ?_
        exact hK _ s.ext
      exact hX _ _ _ (by simp) (h72 _ _ _ (blk_x (fin _ f0 f1 f5 f6 f7 f8)))

set_option maxHeartbeats 2000000 in
theorem nodesLaw_walk {w : World} {K : VPost} {va vb : Value} {ha hb : List Value} {la lb : List Bytes} {kind : UInt8} (hva : RowsR w va ha la) (hvb : RowsR w vb hb lb) (hla : la.length ≤ 2 ^ 44) (hba : ∀ l ∈ la, l.length ≤ 140737488351232) (hlb : lb.length ≤ 2 ^ 44) (hbb : ∀ l ∈ lb, l.length ≤ 140737488351232) (hK : ∀ w', Ext [] w w' → K (.bool true) w') :
    Calls Try.prog 18 #[va, vb, bv kind] w (retK K) := by
  refine c18_calls _ _ _ w K ?_
  unfold c18
  refine fnW_of (by kernel_rfl) (alive2_c fun w1 e => ?_)
  have s := ((Sep.zero1 (U := rW vb hb lb) hvb).addR (T := rW va ha la) hva (by simp)).ext0 e
  have s : Sep [] w w1 [] [rW va ha la, rW vb hb lb] := s
  rw [notN, Bool.not_true, condW_f]
  refine fnW_of (by kernel_rfl) (rows_c (s.rat 0 rfl) hla hba 1500 (by decide) fun r hr => ?_)
  rw [igtr]
  cases hc : decide ((1500 : Int) < r) with
  | true =>
    repeat with_reducible refine gs_tf ?_
    refine pick_ti ?_
    rw [condW_t]
    exact hK _ s.ext
  | false =>
  repeat with_reducible refine gs_f ?_
  refine fnW_of (by kernel_rfl) (rows_c (s.rat 1 rfl) hlb hbb 1500 (by decide) fun r2 hr2 => ?_)
  repeat with_reducible refine gs_f ?_
  rw [igtr]
  refine pick_fi ?_
  refine cond_d (fun _ => hK _ s.ext) (fun hle2 => ?_)
  have hle := of_decide_eq_false hc
  have hma := hr (by omega)
  have hmb := hr2 (by omega)
  have hfa := frameL_of hma (by decide)
  have hfb := frameL_of hmb (by decide)
  have hea := each_le hma
  have hba4 : (frameB la).length = 4 + (frameL la).length := by rw [frameB, List.length_append, le4_length]
  have hbb4 : (frameB lb).length = 4 + (frameL lb).length := by rw [frameB, List.length_append, le4_length]
  refine fnW_of (by kernel_rfl) (frame_c (s.rat 0 rfl) (by omega) fun x w2 hx e hxf => ?_)
  have s := s.add (T := rDb x (frameB la)) hx e hxf
  refine fnW_of (by kernel_rfl) (frame_c (s.rat 1 rfl) (by omega) fun y w3 hy e hyf => ?_)
  have s := s.add (T := rDb y (frameB lb)) hy e hyf
  have s : Sep [] w w3 [rDb y (frameB lb), rDb x (frameB la)] [rW va ha la, rW vb hb lb] := s
  refine s.hnew fun p F w4 s hF => ?_
  rw [ptr_eql_nil und_phash, condW_f]
  refine s.litB [kind] rfl (by simp) fun t w5 s _ _ => ?_
  have ht : OwnAt w5 t 5 1 (bc [kind]) 1 := s.at 0 rfl
  have hx : OwnAt w5 x 5 1 (bc (frameB la)) (frameB la).length := s.at 3 rfl
  have s := s.freeze 0 rfl (T' := rR t 1 (bc [kind]) 1) ht.rd (fun b hb => rdB_slB (ys := bc [kind]) hb)
  have s := s.freeze 2 rfl (T' := rR x 1 (bc (frameB la)) (frameB la).length) hx.rd (fun b hb => rdB_slB (ys := bc (frameB la)) hb)
  have s : Sep [] w w5 [rH p F (hm []), rDb y (frameB lb)] [rR x 1 (bc (frameB la)) (frameB la).length, rR t 1 (bc [kind]) 1, rW va ha la, rW vb hb lb] := s
  refine s.hwrite (vs := [t]) (ls := [[kind]]) 0 rfl rfl ⟨⟨s.rat 1 rfl, ht.cap⟩, trivial⟩ (fun c hc hcm => ?_) (by simp) (by simp) fun F2 t2 u w6 s => ?_
  · simp only [rowsF, List.append_nil] at hcm
    exact s.disR (rH p F (hm [])) (by simp) (rR t 1 (bc [kind]) 1) (by simp) c hc hcm
  have e1 : ([] : Bytes) ++ [[kind]].flatten = [kind] := by simp
  rw [e1] at s
  have s : Sep [] w w6 [rH p F2 (hm [kind]), rDb y (frameB lb)] [rR x 1 (bc (frameB la)) (frameB la).length, rR t 1 (bc [kind]) 1, rW va ha la, rW vb hb lb] := s
  refine s.hwrite (vs := [x]) (ls := [frameB la]) 0 rfl rfl ⟨⟨s.rat 0 rfl, hx.cap⟩, trivial⟩ (fun c hc hcm => ?_) (by simp) (by simp; omega) fun F3 t3 u w7 s => ?_
  · simp only [rowsF, List.append_nil] at hcm
    exact s.disR (rH p F2 (hm [kind])) (by simp) (rR x 1 (bc (frameB la)) (frameB la).length) (by simp) c hc hcm
  have e2 : [kind] ++ [frameB la].flatten = kind :: frameB la := by simp
  rw [e2] at s
  have s : Sep [] w w7 [rH p F3 (hm (kind :: frameB la)), rDb y (frameB lb)] [rR x 1 (bc (frameB la)) (frameB la).length, rR t 1 (bc [kind]) 1, rW va ha la, rW vb hb lb] := s
  refine fnW_of (by kernel_rfl) (node_c (s.rat 2 rfl) (by omega) fun w8 e => ?_)
  have s := s.ext0 e
  refine s.hsum 0 rfl (by simp; omega) fun w9 s => ?_
  refine dig_eql (digest_length _) (digest_length _) ?_
  rw [decide_eq_true rfl]
  repeat with_reducible refine gs_t ?_
  refine fnW_of (by kernel_rfl) (sameBytes_c (l := frameB la) (l' := frameB lb) (s.rat 0 rfl) (OwnAt.rd (s.at 1 rfl)) (by omega) fun w10 e => ?_)
  have s := s.ext0 e
  repeat with_reducible refine gs_t ?_
  refine fnW_of (by kernel_rfl) (same_c (s.rat 2 rfl) (s.rat 3 rfl) (by omega) (fun l hl => by have := hea l hl; omega) fun w11 e => ?_)
  have s := s.ext0 e
  repeat with_reducible refine gs_t ?_
  refine bool_eql und_boolB ?_
  refine pick_ti ?_
  have e : (decide (frameB la = frameB lb) == decide (la = lb)) = true := by
    have := frameB_inj (a := la) (b := lb) (by omega) (by omega)
    by_cases h : la = lb
    · subst h; simp
    · have h2 : ¬ frameB la = frameB lb := fun e => h (this.1 e)
      simp [h, h2]
  rw [e]
  exact hK _ s.ext
end Go.Proofs.Ytedebapgmfnflaa
