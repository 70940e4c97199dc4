/- The laws of sha: rows counted, forks, pads, parts: their walks. -/
import Derived.Test.YtedebapgmfnflaaT1
namespace Go.Proofs.Ytedebapgmfnflaa
open Go
set_option maxRecDepth 100000

theorem flat_take (ls : List Bytes) (i : Nat) (h : i < ls.length) : (ls.take (i + 1)).flatten = (ls.take i).flatten ++ ls[i] := by
  rw [List.take_succ_eq_append_getElem h, List.flatten_append]; simp

theorem rows_c {w : World} {K : VPost} {v : Value} {hs : List Value} {ls : List Bytes} (hv : RowsR w v hs ls) (hls : ls.length ≤ 2 ^ 44) (hb : ∀ l ∈ ls, l.length ≤ 140737488351232) (most : Nat) (hm : most ≤ 2 ^ 40)
    (hK : ∀ r : Int, (r ≤ most → ls.flatten.length + ls.length ≤ most) → K (.int .i64 r) w) : Calls Try.prog 41 #[v, .int .i64 most] w (retK K) := by
  refine c41_calls _ _ w K ?_
  unfold c41
  obtain ⟨va, vc, hva⟩ := hv.len
  have hlen : ∀ (w : World) (K : VPost), lenW Try.prog (some true) #[56] 3 #[v] w K = K (.int .i64 ls.length) w := fun w K => by rw [hva, len_s]
  rw [hlen]
  refine ngtr (cond_d (fun hgt => ?_) (fun hgt => ?_))
  · refine nadd (y := 1) (by omega) ?_
    exact hK _ (fun h => by omega)
  · refine bindX_i fun J0 h0 => bindX_i fun J1 h1 => bindX_i fun J2 h2 => ?_
    refine loop_i (fun m fr wr => ∃ (i n : Nat), m = ls.length - i ∧ i ≤ ls.length ∧ n = (ls.take i).flatten.length + i ∧ n ≤ most + 140737488351233 ∧ fr 0 = v ∧ fr 1 = .int .i64 most ∧ fr 5 = .int .i64 n ∧ fr 6 = .int .i64 i ∧ w = wr) ls.length ?_ ?_
    · exact ⟨0, 0, rfl, by omega, rfl, by omega, rfl, rfl, rfl, rfl, rfl⟩
    · rintro m fr wr J ⟨i, n, rfl, hi, hn, hnm, f0, f1, f5, f6, rfl⟩ hJ hX
      rw [f0, f1, f5, f6, hlen]
      have tail : ∀ fr : Fr, fr 5 = .int .i64 n → ((n : Int) ≤ most → ls.flatten.length + ls.length ≤ most) → J1 .normal fr w := by
        intro fr f5 h
        refine seq_n h1 ?_
        rw [f5]
        exact hK _ h
      refine nlss ?_
      by_cases hlt : i < ls.length
      · rw [decide_eq_true hlt]
        refine gs_t ?_
        refine gs_t ?_
        refine gs_t ?_
        refine nleq ?_
        rw [pickW_t]
        refine cond_d (fun hle => ?_) (fun hle => ?_)
        · obtain ⟨b, o, r, hix, hld, hr, hc, hf⟩ := hv.elem hlt .i64
          refine hix _ ?_
          refine hld _ ?_
          obtain ⟨ra, rc, hra⟩ := hr.len
          rw [hra, len_s]
          have hbl := hb ls[i] (List.getElem_mem hlt)
          refine nadd (x := 1) (by omega) ?_
          refine nadd (by omega) ?_
          refine nadd (y := 1) (by omega) ?_
          refine hJ (ls.length - (i + 1)) _ _ (by omega) ⟨i + 1, n + (1 + ls[i].length), rfl, by omega, ?_, by omega, f0, f1, rfl, rfl, rfl⟩
          rw [flat_take _ _ hlt, List.length_append]; omega
        · exact hX _ _ _ (by simp) (h2 _ _ _ (blk_x (tail _ f5 (fun h => by omega))))
      · rw [decide_eq_false hlt]
        refine gs_ft ?_
        refine gs_ft ?_
        refine gs_ft ?_
        rw [pickW_f, condW_f]
        obtain rfl : i = ls.length := by omega
        refine hX _ _ _ (by simp) (h2 _ _ _ (blk_x (tail _ f5 (fun h => ?_))))
        rw [List.take_length] at hn
        omega

set_option maxHeartbeats 1000000 in
theorem forks_walk {w : World} {K : VPost} {va vb vc : Value} {a b c : Bytes} (ha : RdSl w va 1 (bc a) a.length) (hb : RdSl w vb 1 (bc b) b.length) (hc : RdSl w vc 1 (bc c) c.length) (ka : capOk va) (kb : capOk vb) (kc : capOk vc) (hK : ∀ w', Ext [] w w' → K (.bool true) w') :
    Calls Try.prog 9 #[va, vb, vc] w (retK K) := by
  refine c9_calls _ _ _ w K ?_
  unfold c9
  refine fnW_of (by kernel_rfl) (alive1_c fun w1 e => ?_)
  have s : Sep [] w w1 [] [rR va 1 (bc a) a.length, rR vb 1 (bc b) b.length, rR vc 1 (bc c) c.length] := ((((Sep.nil w).addR (T := rR vc 1 (bc c) c.length) hc (by simp)).addR (T := rR vb 1 (bc b) b.length) hb (by simp)).addR (T := rR va 1 (bc a) a.length) ha (by simp)).ext0 e
  rw [notN, Bool.not_true, condW_f]
  obtain ⟨pa, qa, ea⟩ := ha.len
  obtain ⟨pb, qb, eb⟩ := hb.len
  obtain ⟨pc, qc, ec⟩ := hc.len
  have la : ∀ (w : World) (K : VPost), lenW Try.prog (some true) #[34] 3 #[va] w K = K (.int .i64 a.length) w := fun w K => by rw [ea, len_s]
  have lb : ∀ (w : World) (K : VPost), lenW Try.prog (some true) #[34] 3 #[vb] w K = K (.int .i64 b.length) w := fun w K => by rw [eb, len_s]
  have lc : ∀ (w : World) (K : VPost), lenW Try.prog (some true) #[34] 3 #[vc] w K = K (.int .i64 c.length) w := fun w K => by rw [ec, len_s]
  rw [la]
  refine ngtr (y := 1000) ?_
  by_cases h1 : 1000 < a.length
  · rw [decide_eq_true h1]
    refine gs_tf ?_
    refine gs_tf ?_
    refine gs_tf ?_
    rw [pickW_t]
    refine gs_tf ?_
    refine gs_tf ?_
    refine gs_tf ?_
    rw [pickW_t, condW_t]
    exact hK _ s.ext
  rw [decide_eq_false h1]
  refine gs_f ?_
  refine gs_f ?_
  rw [lb]
  refine gs_f ?_
  refine ngtr (y := 1000) ?_
  rw [pickW_f]
  by_cases h2 : 1000 < b.length
  · rw [decide_eq_true h2]
    refine gs_tf ?_
    refine gs_tf ?_
    refine gs_tf ?_
    rw [pickW_t, condW_t]
    exact hK _ s.ext
  rw [decide_eq_false h2]
  refine gs_f ?_
  refine gs_f ?_
  rw [lc]
  refine gs_f ?_
  refine ngtr (y := 1000) ?_
  rw [pickW_f]
  refine cond_d (fun _ => hK _ s.ext) (fun h3 => ?_)
  refine s.hnew fun p F w2 s hF => ?_
  rw [ptr_eql_nil und_phash, condW_f]
  have dR : ∀ {T U : Res} {S : List Nat} {w0 w : World} {L R : List Res}, Sep S w0 w (T :: L) R → U ∈ R → ∀ x ∈ T.foot, x ∉ U.foot := fun s hU => s.disR _ List.mem_cons_self _ hU
  refine s.hwrite (vs := [va]) (ls := [a]) 0 rfl rfl ⟨⟨s.rat 0 rfl, ka⟩, trivial⟩ (fun x hx hxm => ?_) (by simp) (by simp; omega) fun F2 t u w3 s => ?_
  · simp only [rowsF, List.append_nil] at hxm
    exact s.disR (rH p F (hm [])) (by simp) (rR va 1 (bc a) a.length) (by simp) x hx hxm
  have e1 : ([] : Bytes) ++ [a].flatten = a := by simp
  rw [e1] at s
  have s : Sep [] w w3 [rH p F2 (hm a)] [rR va 1 (bc a) a.length, rR vb 1 (bc b) b.length, rR vc 1 (bc c) c.length] := s
  refine s.hfork 0 rfl fun q G w4 s hG => ?_
  rw [ptr_eql_nil und_phash, condW_f]
  refine s.hwrite (vs := [vb]) (ls := [b]) 0 rfl rfl ⟨⟨s.rat 1 rfl, kb⟩, trivial⟩ (fun x hx hxm => ?_) (by simp) (by simp; omega) fun G2 t u w5 s => ?_
  · simp only [rowsF, List.append_nil] at hxm
    exact s.disR (rH q G (hm a)) (by simp) (rR vb 1 (bc b) b.length) (by simp) x hx hxm
  have e2 : [b].flatten = b := by simp
  rw [e2] at s
  have s : Sep [] w w5 [rH q G2 (hm (a ++ b)), rH p F2 (hm a)] [rR va 1 (bc a) a.length, rR vb 1 (bc b) b.length, rR vc 1 (bc c) c.length] := s
  refine s.hwrite (vs := [vc]) (ls := [c]) 1 rfl rfl ⟨⟨s.rat 2 rfl, kc⟩, trivial⟩ (fun x hx hxm => ?_) (by simp) (by simp; omega) fun F3 t u w6 s => ?_
  · simp only [rowsF, List.append_nil] at hxm
    exact s.disR (rH p F2 (hm a)) (by simp) (rR vc 1 (bc c) c.length) (by simp) x hx hxm
  have e3 : [c].flatten = c := by simp
  rw [e3] at s
  have s : Sep [] w w6 [rH q G2 (hm (a ++ b)), rH p F3 (hm (a ++ c))] [rR va 1 (bc a) a.length, rR vb 1 (bc b) b.length, rR vc 1 (bc c) c.length] := s
  obtain ⟨ui, hui, huz, husz, huby⟩ := tyI_spec ty_u8
  refine fnW_of (by kernel_rfl) (copyBytes_c (s.rat 0 rfl) (by omega) fun v1 w7 hv1 e hf => ?_)
  have s := s.add (T := rO v1 5 1 (bc a) a.length) hv1.at e hf
  refine s.appendO (v := v1) (n := a.length) (m := b.length) (ys := bc b) (xs := bc a) 0 (by rw [husz]; rfl) und_u8s und_u8s hui huz (by rw [husz]; rfl) (by rw [huby]; decide) (by rw [husz]; exact s.rat 1 rfl) (bc_one _) (by rw [huby]; omega) fun v2 w8 s => ?_
  rw [husz, ← bc_append, ← List.length_append] at s
  have s : Sep [] w w8 [rO v2 5 1 (bc (a ++ b)) (a ++ b).length, rH q G2 (hm (a ++ b)), rH p F3 (hm (a ++ c))] [rR va 1 (bc a) a.length, rR vb 1 (bc b) b.length, rR vc 1 (bc c) c.length] := s
  refine fnW_of (by kernel_rfl) (copyBytes_c (s.rat 0 rfl) (by omega) fun v3 w9 hv3 e hf => ?_)
  have s := s.add (T := rO v3 5 1 (bc a) a.length) hv3.at e hf
  refine s.appendO (v := v3) (n := a.length) (m := c.length) (ys := bc c) (xs := bc a) 0 (by rw [husz]; rfl) und_u8s und_u8s hui huz (by rw [husz]; rfl) (by rw [huby]; decide) (by rw [husz]; exact s.rat 2 rfl) (bc_one _) (by rw [huby]; omega) fun v4 w10 s => ?_
  rw [husz, ← bc_append, ← List.length_append] at s
  have s : Sep [] w w10 [rO v4 5 1 (bc (a ++ c)) (a ++ c).length, rO v2 5 1 (bc (a ++ b)) (a ++ b).length, rH q G2 (hm (a ++ b)), rH p F3 (hm (a ++ c))] [rR va 1 (bc a) a.length, rR vb 1 (bc b) b.length, rR vc 1 (bc c) c.length] := s
  have hab : (a ++ b).length ≤ 2 ^ 36 := by rw [List.length_append]; omega
  have hac : (a ++ c).length ≤ 2 ^ 36 := by rw [List.length_append]; omega
  refine s.hsum 2 rfl hab fun w11 s => ?_
  refine fnW_of (by kernel_rfl) (sum_c (OwnAt.rd (s.at 1 rfl)) (OwnAt.cap (s.at 1 rfl)) hab fun w12 e => ?_)
  have s := s.ext0 e
  refine dig_eql (digest_length _) (digest_length _) ?_
  rw [decide_eq_true rfl]
  refine gs_t ?_
  refine gs_t ?_
  refine s.hsum 3 rfl hac fun w13 s => ?_
  refine gs_t ?_
  refine gs_t ?_
  refine fnW_of (by kernel_rfl) (sum_c (OwnAt.rd (s.at 0 rfl)) (OwnAt.cap (s.at 0 rfl)) hac fun w14 e => ?_)
  have s := s.ext0 e
  refine gs_t ?_
  refine dig_eql (digest_length _) (digest_length _) ?_
  rw [decide_eq_true rfl, pickW_t]
  exact hK _ s.ext
end Go.Proofs.Ytedebapgmfnflaa
