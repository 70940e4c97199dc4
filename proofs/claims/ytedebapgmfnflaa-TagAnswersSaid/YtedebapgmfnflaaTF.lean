/- Digests in slices compared; the law that a set hangs on which digests there are alone: the walks. -/
import Derived.Test.YtedebapgmfnflaaTE
namespace Go.Proofs.Ytedebapgmfnflaa
open Go
set_option maxRecDepth 100000

theorem RdSl.dgetR {w : World} {v : Value} {ds : List Bytes} {k : Nat} (h : RdSl w v 32 (fl ds) ds.length) (hd : ∀ d ∈ ds, d.length = 32) (hk : k < ds.length) :
    ∃ b o, (∀ K : VPost, K (.pointer (some ⟨b, o, none⟩)) w → idxW (some (none, 32)) v (.int .i64 k) w K) ∧ (∀ K : VPost, K (.agg (bc ds[k]).toArray) w → loadW (some (true, 32)) (.pointer (some ⟨b, o, none⟩)) w K) := by
  obtain ⟨b, o, cs, hix, hrb, hle, hel⟩ := RdSl.elem h hk (by decide) .i64
  exact ⟨b, o, hix, fun K hK => loadN hrb hle (by rw [hel, fl_get hd hk]; exact hK)⟩
/-- Digests of one's own; one more. -/
def rDl (v : Value) (ds : List Bytes) : Res := rO v 62 32 (fl ds) ds.length
theorem Sep.apD {S : List Nat} {w0 w : World} {L R : List Res} {K : Value → VPost} {v : Value} {ds : List Bytes} {d : Bytes} (s : Sep S w0 w L R) (i : Nat) (hL : L[i]? = some (rDl v ds)) (hd : d.length = 32) (hn : ds.length ≤ 2 ^ 20)
    (h : ∀ t v' w', Sep S w0 w' (L.set i (rDl v' (ds ++ [d]))) R → K t v' w') :
    insW Try.prog (Instr.buildSlice 75 1 #[(0, .agg (bc d).toArray)]) w fun t w' => insW Try.prog (Builtin.append_ #[75, 75] 75 #[v, t]) w' (K t) := by
  refine s.litD [d] rfl (by simp [hd]) (by simp) fun t w1 s => ?_
  obtain ⟨ti, hti, htz, hts, htb⟩ := tyI_spec ty_dig
  refine s.appendO (ti := ti) (v := v) (n := ds.length) (m := 1) (ys := fl [d]) (xs := fl ds) (i + 1) (by rw [hts]; simpa [rDl] using hL) und_digs und_digs hti htz (by rw [hts]; rfl) (by rw [htb]; decide) (by rw [hts]; exact OwnAt.rd (s.at 0 rfl)) (fl_one _) (by rw [htb]; omega) fun v' w2 s => ?_
  rw [hts, ← fl_append] at s
  have s := s.drop 0
  refine h t v' w2 ?_
  unfold rDl
  rw [List.length_append, List.length_singleton]
  exact s

theorem and_mask10 {P : Program} {w : World} {K : VPost} {t : TypeId} {c : Bool} {x : Int} : binN P .and t c (.int .i64 x) (.int .i64 1023) w K = K (.int .i64 (((x % 1024).toNat : Nat) : Int)) w := by
  rw [binN_e, bin_and]
  have h := and_mask x 10 (by decide)
  have e : ((2 : Int) ^ 10 - 1) = 1023 := by decide
  have e2 : ((2 : Int) ^ 10) = 1024 := by decide
  rw [e, e2] at h
  rw [h, Int.toNat_of_nonneg (Int.emod_nonneg _ (by decide))]

theorem sameAll_c {w : World} {K : VPost} {v v' : Value} {a b : List Bytes} (hv : RdSl w v 32 (fl a) a.length) (hv' : RdSl w v' 32 (fl b) b.length) (ha : ∀ d ∈ a, d.length = 32) (hb : ∀ d ∈ b, d.length = 32) (hl : a.length < 2 ^ 62)
    (hK : ∀ w', Ext [] w w' → K (.bool (decide (a = b))) w') : Calls Try.prog 61 #[v, v'] w (retK K) := by
  refine c61_calls _ _ w K ?_
  unfold c61
  obtain ⟨p, c, hva⟩ := hv.len
  obtain ⟨p', c', hva'⟩ := hv'.len
  have hl1 : ∀ (w : World) (K : VPost), lenW Try.prog (some true) #[75] 3 #[v] w K = K (.int .i64 a.length) w := fun w K => by rw [hva, len_s]
  have hl2 : ∀ (w : World) (K : VPost), lenW Try.prog (some true) #[75] 3 #[v'] w K = K (.int .i64 b.length) w := fun w K => by rw [hva', len_s]
  rw [hl1, hl2]
  refine nneq (cond_d (fun hne => ?_) (fun heq => ?_))
  · have := hK w (Ext.refl _ _)
    rw [decide_eq_false (fun e => hne (by rw [e]))] at this
    exact this
  have heq : a.length = b.length := by simpa using heq
  refine bindX_i fun J0 h0 => bindX_i fun J1 h1 => bindX_i fun J2 h2 => ?_
  refine loop_i (fun m fr wr => ∃ k : Nat, m = a.length - k ∧ k ≤ a.length ∧ fr 0 = v ∧ fr 1 = v' ∧ fr 5 = .int .i64 k ∧ a.take k = b.take k ∧ Ext [] w wr) a.length ?_ ?_
  · exact ⟨0, rfl, Nat.zero_le _, rfl, rfl, rfl, rfl, Ext.refl _ _⟩
  · rintro m fr wr J ⟨k, rfl, hk, f0, f1, f5, hq, e1⟩ hJ hX
    rw [f0, f1, f5, hl1]
    refine nlss (cond_d (fun hlt => ?_) (fun hlt => ?_))
    · have e2 : Ext [] w wr.drew := e1.new (Ext.drew _ _)
      generalize wr.drew = w2 at *
      obtain ⟨b1, o1, hix, hld⟩ := RdSl.dgetR ((rR v 32 (fl a) a.length).keep hv e2 (by simp)) ha hlt
      refine hix _ ?_
      refine hld _ ?_
      obtain ⟨b2, o2, hix', hld'⟩ := RdSl.dgetR ((rR v' 32 (fl b) b.length).keep hv' e2 (by simp)) hb (show k < b.length by omega)
      refine hix' _ ?_
      refine hld' _ ?_
      refine dig_neq (ha _ (List.getElem_mem _)) (hb _ (List.getElem_mem _)) ⟨rfl, ?_⟩
      cases hc2 : decide (a[k] = b[k]'(by omega)) with
      | false =>
        rw [Bool.not_false, condW_t]
        have hne := of_decide_eq_false hc2
        refine hX _ _ _ (by simp) (h2 _ _ _ (h1 _ _ _ (h0 _ _ _ ?_)))
        have := hK w2 e2
        rw [decide_eq_false (fun e => hne (by subst e; rfl))] at this
        exact this
      | true =>
        rw [Bool.not_true, condW_f]
        have he := of_decide_eq_true hc2
        refine nadd (y := 1) (by omega) ?_
        exact hJ (a.length - (k + 1)) _ _ (by omega) ⟨k + 1, rfl, hlt, f0, f1, rfl, by rw [List.take_succ_eq_append_getElem hlt, List.take_succ_eq_append_getElem (by omega), hq, he], e2⟩
    · obtain rfl : k = a.length := by omega
      refine hX _ _ _ (by simp) (h2 _ _ _ (blk_x (seq_n h1 ?_)))
      have := hK wr e1
      rw [List.take_length, heq, List.take_length] at hq
      rw [decide_eq_true hq] at this
      exact this

set_option maxHeartbeats 2000000 in
theorem setsLaw_walk {w : World} {K : VPost} {v : Value} {ds : List Bytes} {kind : UInt8} {at' : Int} (hv : RdSl w v 32 (fl ds) ds.length) (hd : ∀ d ∈ ds, d.length = 32) (hat : -9223372036854775808 ≤ at' ∧ at' ≤ 9223372036854775807) (hK : ∀ w', Ext [] w w' → K (.bool true) w') :
    Calls Try.prog 17 #[v, bv kind, .int .i64 at'] w (retK K) := by
  refine c17_calls _ _ _ w K ?_
  unfold c17
  refine fnW_of (by kernel_rfl) (alive2_c fun w1 e => ?_)
  have s := (Sep.zero1 (U := rR v 32 (fl ds) ds.length) hv).ext0 e
  rw [notN, Bool.not_true, condW_f]
  obtain ⟨p, c, hva⟩ := hv.len
  have hlen : ∀ (w : World) (K : VPost), lenW Try.prog (some true) #[75] 3 #[v] w K = K (.int .i64 ds.length) w := fun w K => by rw [hva, len_s]
  rw [hlen]
  refine ngtr (y := 20) (cond_d (fun _ => hK _ s.ext) (fun hle => ?_))
  refine s.litD [] rfl (by simp) (by simp) fun t w2 s => ?_
  have s : Sep [] w w2 [rDl t []] [rR v 32 (fl ds) ds.length] := s
  refine bindX_i fun J10 h10 => bindX_i fun J11 h11 => ?_
  rw [hlen]
  refine isub (by omega) ?_
  refine bindX_i fun J84 h84 => ?_
  -- the list backwards
  refine loop_i (fun m fr wr => ∃ (t : Value), m ≤ ds.length ∧ fr 0 = v ∧ fr 1 = bv kind ∧ fr 2 = .int .i64 at' ∧ fr 7 = t ∧ fr 8 = .int .i64 ((m : Int) - 1) ∧ Sep [] w wr [rDl t (ds.drop m).reverse] [rR v 32 (fl ds) ds.length]) ds.length ?_ ?_
  · exact ⟨t, Nat.le_refl _, rfl, rfl, rfl, rfl, rfl, by rw [List.drop_length]; exact s⟩
  · rintro m fr wr J ⟨t, hm, f0, f1, f2, f7, f8, s⟩ hJ hX
    rw [f0, f7, f8, igeq]
    cases m with
    | succ k =>
      have ek : ((k + 1 : Nat) : Int) - 1 = ((k : Nat) : Int) := by omega
      rw [ek, decide_eq_true (by omega), condW_t]
      obtain ⟨b1, o1, hix, hld⟩ := RdSl.dgetR (s.rat 0 rfl) hd (show k < ds.length by omega)
      refine hix _ ?_
      refine hld _ ?_
      refine s.apD 0 rfl (hd _ (List.getElem_mem _)) (by simp; omega) fun t2 t3 w4 s => ?_
      refine isub (by omega) ?_
      have e : (ds.drop (k + 1)).reverse ++ [ds[k]] = (ds.drop k).reverse := by
        rw [List.drop_eq_getElem_cons (show k < ds.length by omega), List.reverse_cons]
      rw [e] at s
      exact hJ k _ _ (by omega) ⟨t3, by omega, f0, f1, f2, rfl, rfl, s⟩
    | zero =>
      rw [decide_eq_false (by omega), condW_f]
      rw [List.drop_zero] at s
      have fin11 : ∀ (fr : Fr) (w' : World), fr 0 = v → fr 1 = bv kind → fr 2 = .int .i64 at' → fr 7 = t → Sep [] w w' [rDl t ds.reverse] [rR v 32 (fl ds) ds.length] → J11 .normal fr w' := by
        intro fr w' f0 f1 f2 f7 s
        refine seq_n h11 ?_
        refine bindX_i fun J14 h14 => ?_
        have fin14 : ∀ (fr : Fr) (w' : World) (t : Value) (back : List Bytes), fr 0 = v → fr 1 = bv kind → fr 7 = t → (∀ x, x ∈ back ↔ x ∈ ds) → back.length ≤ 21 → Sep [] w w' [rDl t back] [rR v 32 (fl ds) ds.length] → J14 .normal fr w' := by
          intro fr w' t back f0 f1 f7 hmem hbl s
          refine seq_n h14 ?_
          rw [f0]
          have hbd : ∀ d ∈ back, d.length = 32 := fun d h => hd d ((hmem d).1 h)
          refine fnW_of (by kernel_rfl) (sort_c (s.rat 0 rfl) hd (by omega) fun l w5 hl e hlf => ?_)
          have s := s.add (T := rDl l (sortD ds)) hl e hlf
          have s : Sep [] w w5 [rDl l (sortD ds), rDl t back] [rR v 32 (fl ds) ds.length] := s
          have hs32 := sortD_32 hd
          have hrise := (sortD_ok ds).1
          have hsle := sortD_le ds
          have heq : sortD back = sortD ds := sortD_mem hmem
          generalize sortD ds = ls at *
          obtain ⟨lp, lc, hlv⟩ := hl.rd.len
          have hll : ∀ (w : World) (K : VPost), lenW Try.prog (some true) #[75] 3 #[l] w K = K (.int .i64 ls.length) w := fun w K => by rw [hlv, len_s]
          refine bindX_i fun J19 h19 => bindX_i fun J38 h38 => ?_
          have fin19 : ∀ (fr : Fr) (w' : World), fr 0 = v → fr 1 = bv kind → fr 7 = t → fr 9 = l → Sep [] w w' [rDl l ls, rDl t back] [rR v 32 (fl ds) ds.length] → J19 .normal fr w' := by
            intro fr w' f0 f1 f7 f9 s
            refine seq_n h19 ?_
            rw [f0, f1, f7, f9]
            refine fnW_of (by kernel_rfl) (set_c (s.rat 0 rfl) hd (by omega) fun w6 e => ?_)
            have s := s.ext0 e
            refine fnW_of (by kernel_rfl) (set_c (ds := back) (OwnAt.rd (s.at 1 rfl)) hbd (by omega) fun w7 e => ?_)
            have s := s.ext0 e
            rw [heq]
            have hsd : sortD ds = ls := by
              rw [← heq]
              exact sortD_mem fun x => (hmem x).symm
            rw [hsd]
            refine dig_eql (digest_length _) (digest_length _) ?_
            rw [decide_eq_true rfl]
            repeat with_reducible refine gs_t ?_
            refine fnW_of (by kernel_rfl) (sort_c (ds := back) (OwnAt.rd (s.at 1 rfl)) hbd (by omega) fun l2 w8 hl2 e _ => ?_)
            have s := s.ext0 e
            rw [heq] at hl2
            repeat with_reducible refine gs_t ?_
            refine fnW_of (by kernel_rfl) (sameAll_c (a := ls) (b := ls) hl2.rd (OwnAt.rd (s.at 0 rfl)) hs32 hs32 (by omega) fun w9 e => ?_)
            have s := s.ext0 e
            rw [decide_eq_true rfl]
            refine pick_ti ?_
            exact hK _ s.ext
          refine loop_i (fun m fr wr => ∃ (i : Nat), m = ls.length + 1 - i ∧ 1 ≤ i ∧ i ≤ ls.length + 1 ∧ fr 0 = v ∧ fr 1 = bv kind ∧ fr 7 = t ∧ fr 9 = l ∧ fr 10 = .int .i64 i ∧ Sep [] w wr [rDl l ls, rDl t back] [rR v 32 (fl ds) ds.length]) ls.length ?_ ?_
          · exact ⟨1, rfl, Nat.le_refl _, by omega, f0, f1, f7, rfl, rfl, s⟩
          · rintro m fr wr J ⟨i, rfl, hi1, hi2, f0, f1, f7, f9, f10, s⟩ hJ hX
            rw [f9, f10, hll]
            refine nlss (cond_d (fun hlt => ?_) (fun hlt => ?_))
            · have s := s.drew
              refine nsub (y := 1) (by omega) (by omega) ?_
              have hl6 : OwnAt wr.drew l 62 32 (fl ls) ls.length := s.at 0 rfl
              obtain ⟨b1, o1, hix, hld⟩ := RdSl.dgetR hl6.rd hs32 (show i - 1 < ls.length by omega)
              refine hix _ ?_
              refine hld _ ?_
              obtain ⟨b2, o2, hix2, hld2⟩ := RdSl.dgetR hl6.rd hs32 hlt
              refine hix2 _ ?_
              refine hld2 _ ?_
              refine fnW_of (by kernel_rfl) (compare_c (hs32 _ (List.getElem_mem _)) (hs32 _ (List.getElem_mem _)) fun w7 e => ?_)
              have s := s.ext0 e
              have hlt2 : ls[i - 1] < ls[i] := List.pairwise_iff_getElem.1 hrise (i - 1) i (by omega) hlt (by omega)
              have hc := (cmp_lt _ _).2 hlt2
              have h3 := cmp_three ls[i - 1] ls[i]
              have hc1 : Lib.compareBytes ls[i - 1] ls[i] = -1 := by omega
              rw [hc1, ineq, decide_eq_false (by simp), condW_f]
              refine nadd (y := 1) (by omega) ?_
              exact hJ (ls.length + 1 - (i + 1)) _ _ (by omega) ⟨i + 1, rfl, by omega, by omega, f0, f1, f7, f9, rfl, s⟩
            · exact hX _ _ _ (by simp) (h38 _ _ _ (blk_x (fin19 _ _ f0 f1 f7 f9 s)))
        rw [f0, f2, f7, hlen]
        refine ngtr (y := 0) (cond_d (fun hp => ?_) (fun hp => ?_))
        · rw [and_mask10, hlen]
          refine nrem (by omega) ?_
          have hlt := Nat.mod_lt (at' % 1024).toNat hp
          generalize (at' % 1024).toNat % ds.length = q at *
          obtain ⟨b1, o1, hix, hld⟩ := RdSl.dgetR (s.rat 0 rfl) hd hlt
          refine hix _ ?_
          refine hld _ ?_
          refine s.apD 0 rfl (hd _ (List.getElem_mem _)) (by simp; omega) fun t2 t3 w4 s => ?_
          refine fin14 _ _ t3 _ f0 f1 rfl (fun x => ?_) ?_ s
          · rw [List.mem_append, List.mem_reverse, List.mem_singleton]
            refine ⟨fun h => ?_, fun h => .inl h⟩
            rcases h with h | rfl
            · exact h
            · exact List.getElem_mem _
          · rw [List.length_append, List.length_reverse, List.length_singleton]; omega
        · exact fin14 _ _ t _ f0 f1 f7 (fun x => List.mem_reverse) (by rw [List.length_reverse]; omega) s
      exact hX _ _ _ (by simp) (h84 _ _ _ (blk_x (fin11 _ _ f0 f1 f2 f7 s)))
end Go.Proofs.Ytedebapgmfnflaa
