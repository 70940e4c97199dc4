/- Sets by the document; the law that every answer on digests is the document's: the walks. -/
import Derived.Test.YtedebapgmfnflaaTH
namespace Go.Proofs.Ytedebapgmfnflaa
open Go
set_option maxRecDepth 100000

theorem slArr_at {b o n sz : Nat} {w : World} {K : VPost} (h : K (.slice (some ⟨b, o, none⟩) n n) w) : sliceW (.arr n sz) (.pointer (some ⟨b, o, none⟩)) none none none w K := by
  refine ⟨by simp, 0, n, n, rfl, rfl, rfl, Nat.zero_le _, by simp, Nat.le_refl _, ?_⟩
  show K (.slice (some (if n = 0 then (⟨b, o, none⟩ : Addr) else Addr.add ⟨b, o, none⟩ (0 * sz))) (n - 0) (n - 0)) w
  rw [Nat.sub_zero, Nat.zero_mul, add_addr, Nat.add_zero]
  split <;> exact h

set_option maxHeartbeats 1000000 in
theorem rset_c {w : World} {K : VPost} {kind : UInt8} {x : Value} {ds : List Bytes} (hx : RdSl w x 32 (fl ds) ds.length) (hd : ∀ d ∈ ds, d.length = 32) (h50 : ds.length < 50)
    (hK : ∀ w', Ext [] w w' → K (.agg (bc (digest (kind :: frameB (sortD ds)))).toArray) w') : Calls Try.prog 65 #[bv kind, x] w (retK K) := by
  refine c65_calls _ _ w K ?_
  unfold c65
  refine (Sep.zero1 (U := rR x 32 (fl ds) ds.length) hx).alloc zero_dig cells_dig fun b4 w1 s _ => ?_
  obtain ⟨ti, hti, htz, hts, htb⟩ := tyI_spec ty_row
  refine s.lit (vs := []) und_rows hti htz rfl (by simp) (by simp) fun t w2 s _ _ => ?_
  have s : Sep [] w w2 [rO t 34 ti.size [] 0, rB b4 (bc (List.replicate 32 0)) 62] [rR x 32 (fl ds) ds.length] := s
  rw [hts] at s
  have hd2 := sortD_32 hd
  have hle := sortD_le ds
  refine fnW_of (by kernel_rfl) (rsort_c (s.rat 0 rfl) hd h50 fun v w3 hv e hf => ?_)
  have s := s.add (T := rDl v (sortD ds)) hv e hf
  have s := s.freeze 0 rfl (T' := rR v 32 (fl (sortD ds)) (sortD ds).length) hv.rd (fun b hb => by
    have hb : b ∈ rdB v (fl (sortD ds)) := hb
    unfold rdB at hb
    split at hb
    · cases hb
    · exact hb)
  generalize sortD ds = ls at *
  have s : Sep [] w w3 [rO t 34 1 [] 0, rB b4 (bc (List.replicate 32 0)) 62] [rR v 32 (fl ls) ls.length, rR x 32 (fl ds) ds.length] := s
  have s := s.addR (T := rL [] []) trivial (fun U hU b hb hm => by cases hm)
  have s : Sep [] w w3 [rO t 34 1 [] 0, rB b4 (bc (List.replicate 32 0)) 62] [rL [] [], rR v 32 (fl ls) ls.length, rR x 32 (fl ds) ds.length] := s
  obtain ⟨va, vc, hva⟩ := hv.rd.len
  have hlen : ∀ (w : World) (K : VPost), lenW Try.prog (some true) #[75] 3 #[v] w K = K (.int .i64 ls.length) w := fun w K => by rw [hva, len_s]
  have hfl := flat32 hd2
  refine bindX_i fun J0 h0 => bindX_i fun J1 h1 => bindX_i fun J2 h2 => ?_
  refine loop_i (fun m fr wr => ∃ (i : Nat) (v1 : Value) (hs : List Value), m = ls.length - i ∧ i ≤ ls.length ∧ hs.length = i ∧ fr 0 = bv kind ∧ fr 4 = .pointer (some ⟨b4, 0, none⟩) ∧ fr 5 = v1 ∧ fr 6 = v ∧ fr 7 = .int .i64 i ∧ (∀ b ∈ rowsF hs (ls.take i), b ∈ rdB v (fl ls)) ∧
    Sep [] w wr [rO v1 34 1 hs i, rB b4 (bc (List.replicate 32 0)) 62] [rL hs (ls.take i), rR v 32 (fl ls) ls.length, rR x 32 (fl ds) ds.length]) ls.length ?_ ?_
  · exact ⟨0, t, [], rfl, by omega, rfl, rfl, rfl, rfl, rfl, rfl, (fun b hb => by cases hb), s⟩
  · rintro m fr wr J ⟨i, v1, hs, rfl, hi, hhs, f0, f4, f5, f6, f7, hft, s⟩ hJ hX
    rw [f5, f6, f7, hlen]
    refine nlss (cond_d (fun hlt => ?_) (fun hlt => ?_))
    · have hrd : RdSl wr v 32 (fl ls) ls.length := s.rat 1 rfl
      have hl32 : ls[i].length = 32 := hd2 _ (List.getElem_mem hlt)
      have hget := fl_get hd2 hlt
      obtain ⟨hll, ⟨h00, _⟩ | ⟨b, o, c, cs, hve, hb, ht, hle3⟩⟩ := hrd
      · have := congrArg List.length h00
        rw [hll, List.length_nil] at this
        omega
      have hpart : (cs.drop (o + i * 32)).take 32 = bc ls[i] := by
        rw [← hget, ← ht]
        exact take_drop_part cs o (i * 32) 32 (ls.length * 32) (by omega)
      have hrow : RdSl wr (.slice (some ⟨b, o + i * 32, none⟩) 32 32) 1 (bc ls[i]) ls[i].length := by
        rw [hl32]
        exact ⟨by rw [bc_length, hl32], .inr ⟨b, o + i * 32, 32, cs, rfl, hb, hpart, by omega⟩⟩
      rw [hve]
      refine idx_i hlt ?_
      refine slArr_at ?_
      refine s.litR fun t2 w5 s => ?_
      have s : Sep [] w w5 [rO t2 34 1 [.slice (some ⟨b, o + i * 32, none⟩) 32 32] 1, rO v1 34 1 hs i, rB b4 (bc (List.replicate 32 0)) 62] [rL hs (ls.take i), rR v 32 (fl ls) ls.length, rR x 32 (fl ds) ds.length] := s
      refine s.appendO (ti := ti) (v := v1) (n := i) (m := 1) (ys := [.slice (some ⟨b, o + i * 32, none⟩) 32 32]) (xs := hs) 1 (by rw [hts]; rfl) und_rows und_rows hti htz (by rw [hts]; rfl) (by rw [htb]; decide) (by rw [hts]; exact OwnAt.rd (s.at 0 rfl)) (by intro y hy; simp at hy; subst hy; rfl) (by rw [htb]; omega) fun v2 w6 s => ?_
      rw [hts] at s
      have s := s.drop 0
      have s : Sep [] w w6 [rO v2 34 1 (hs ++ [.slice (some ⟨b, o + i * 32, none⟩) 32 32]) (i + 1), rB b4 (bc (List.replicate 32 0)) 62] [rL hs (ls.take i), rR v 32 (fl ls) ls.length, rR x 32 (fl ds) ds.length] := s
      have hrd6 : RdSl w6 v 32 (fl ls) ls.length := s.rat 1 rfl
      have hrow6 : RdSl w6 (.slice (some ⟨b, o + i * 32, none⟩) 32 32) 1 (bc ls[i]) ls[i].length := by
        obtain ⟨hll6, ⟨h00, _⟩ | ⟨b', o', c', cs', hve', hb', ht', hle'⟩⟩ := hrd6
        · have := congrArg List.length h00
          rw [hll6, List.length_nil] at this
          omega
        · rw [hve] at hve'
          obtain ⟨rfl, rfl⟩ : b = b' ∧ o = o' := by
            simp only [Value.slice.injEq, Option.some.injEq, Addr.mk.injEq] at hve'
            exact ⟨hve'.1.1, hve'.1.2.1⟩
          have hpart' : (cs'.drop (o + i * 32)).take 32 = bc ls[i] := by
            rw [← hget, ← ht']
            exact take_drop_part cs' o (i * 32) 32 (ls.length * 32) (by omega)
          rw [hl32]
          exact ⟨by rw [bc_length, hl32], .inr ⟨b, o + i * 32, 32, cs', rfl, hb', hpart', by omega⟩⟩
      have htk : ls.take (i + 1) = ls.take i ++ [ls[i]] := List.take_succ_eq_append_getElem hlt
      have hhl : hs.length = (ls.take i).length := by rw [List.length_take]; omega
      have hrl : RowsL w6 hs (ls.take i) := s.rat 0 rfl
      have hft2 : ∀ c ∈ rowsF (hs ++ [.slice (some ⟨b, o + i * 32, none⟩) 32 32]) (ls.take (i + 1)), c ∈ rdB v (fl ls) := by
        intro c hc
        rw [htk, rowsF_snoc hhl] at hc
        rcases List.mem_append.1 hc with h | h
        · exact hft c h
        · have hne : fl ls ≠ [] := by
            intro h0
            have := congrArg List.length h0
            rw [hll, List.length_nil] at this
            omega
          have h1 : c ∈ slB (.slice (some ⟨b, o + i * 32, none⟩) 32 32) := rdB_slB (ys := bc ls[i]) h
          unfold rdB
          cases hfe : fl ls with
          | nil => exact absurd hfe hne
          | cons y r =>
            rw [hve]
            exact h1
      have s := s.part (T := rL (hs ++ [Value.slice (some ⟨b, o + i * 32, none⟩) 32 32]) (ls.take (i + 1))) (U := rR v 32 (fl ls) ls.length) (by simp) (by rw [htk]; exact RowsL.append hrow6 (Nat.le_refl _) hrl) hft2
      have s := s.sub (R' := [rL (hs ++ [.slice (some ⟨b, o + i * 32, none⟩) 32 32]) (ls.take (i + 1)), rR v 32 (fl ls) ls.length, rR x 32 (fl ds) ds.length]) (List.Sublist.refl _) (by intro T hT; simp only [List.mem_cons, List.not_mem_nil, or_false] at hT ⊢; rcases hT with h | h | h <;> simp [h])
      refine nadd (y := 1) (by omega) ?_
      exact hJ (ls.length - (i + 1)) _ _ (by omega) ⟨i + 1, v2, _, rfl, by omega, by simp [hhs], f0, f4, rfl, f6.trans hve ▸ f6, rfl, hft2, s⟩
    · obtain rfl : i = ls.length := by omega
      rw [List.take_length] at s
      have fin : ∀ (fr : Fr), fr 0 = bv kind → fr 4 = .pointer (some ⟨b4, 0, none⟩) → fr 5 = v1 → J1 .normal fr wr := by
        intro fr f0 f4 f5
        refine seq_n h1 ?_
        rw [f0, f4, f5]
        have h1' : OwnAt wr v1 34 1 hs ls.length := s.at 0 rfl
        have h2' : RowsL wr hs ls := s.rat 0 rfl
        refine fnW_of (by kernel_rfl) (rnode_c (hs := hs) (ls := ls) ⟨by rw [hhs]; exact h1'.rd, h2'⟩ (by omega) fun w5 e => ?_)
        have s := s.ext0 e
        have hdl := digest_length (kind :: frameB ls)
        generalize digest (kind :: frameB ls) = dg at *
        refine s.storeAll 1 rfl (by rw [bc_length]; exact hdl) (by simp [bc]) (bc_one _) fun w7 s _ => ?_
        refine s.loadAll 1 rfl (by rw [bc_length]; exact hdl) ?_
        exact hK w7 s.ext
      exact hX _ _ _ (by simp) (h2 _ _ _ (blk_x (fin _ f0 f4 f5)))

theorem str_cut {l : Bytes} {w : World} {K : VPost} (h : 8 ≤ l.length) (hK : K (.string ⟨(l.take 8).toArray⟩) w) : sliceW .str (.string ⟨l.toArray⟩) none (some (.int .i64 8)) none w K := by
  have hs : (ByteArray.mk l.toArray).size = l.length := by show l.toArray.size = _; rw [List.size_toArray]
  refine ⟨rfl, ?_⟩
  rw [hs]
  refine cut_ok (l := 0) (h := 8) rfl rfl (by omega) h ?_
  have e : (ByteArray.mk l.toArray).extract 0 8 = ⟨(l.take 8).toArray⟩ := by
    apply ByteArray.ext
    rw [ByteArray.data_extract]
    apply Array.ext'
    simp
  rw [e]
  exact hK

set_option maxHeartbeats 4000000 in
theorem answersLaw_walk {w : World} {K : VPost} {v : Value} {ds : List Bytes} {kind : UInt8} {a b st : Bytes} (hv : RdSl w v 32 (fl ds) ds.length) (hd : ∀ d ∈ ds, d.length = 32) (ha : a.length = 32) (hb : b.length = 32) (hK : ∀ w', Ext [] w w' → K (.bool true) w') :
    Calls Try.prog 13 #[v, bv kind, .agg (bc a).toArray, .agg (bc b).toArray, .string ⟨st.toArray⟩] w (retK K) := by
  refine c13_calls _ _ _ _ _ w K ?_
  unfold c13
  have hbl : ∀ {d : Bytes}, d.length = 32 → (bc d).length = 32 := fun h => by rw [bc_length]; exact h
  refine (Sep.zero1 (U := rR v 32 (fl ds) ds.length) hv).box fun b7 w1 s _ => ?_
  refine s.box fun b8 w2 s _ => ?_
  have s : Sep [] w w2 [rB b8 (bc b) 62, rB b7 (bc a) 62] [rR v 32 (fl ds) ds.length] := s
  refine fnW_of (by kernel_rfl) (alive2_c fun w3 e => ?_)
  have s := s.ext0 e
  rw [notN, Bool.not_true, condW_f]
  obtain ⟨p, c, hva⟩ := hv.len
  have hlen : ∀ (w : World) (K : VPost), lenW Try.prog (some true) #[75] 3 #[v] w K = K (.int .i64 ds.length) w := fun w K => by rw [hva, len_s]
  have hsz : (ByteArray.mk st.toArray).size = st.length := by show st.toArray.size = _; rw [List.size_toArray]
  rw [hlen]
  refine ngtr (y := 20) ?_
  by_cases hle : 20 < ds.length
  · rw [decide_eq_true hle]
    repeat with_reducible refine gs_tf ?_
    refine pick_ti ?_
    rw [condW_t]
    exact hK _ s.ext
  rw [decide_eq_false hle]
  repeat with_reducible refine gs_f ?_
  rw [len_str, hsz]
  repeat with_reducible refine gs_f ?_
  refine ngtr (y := 500) ?_
  refine pick_fi ?_
  refine cond_d (fun _ => hK _ s.ext) (fun hle2 => ?_)
  refine s.litD [] rfl (by simp) (by simp) fun t w4 s => ?_
  have s : Sep [] w w4 [rDl t [], rB b8 (bc b) 62, rB b7 (bc a) 62] [rR v 32 (fl ds) ds.length] := s
  obtain ⟨ti, hti, htz, hts, htb⟩ := tyI_spec ty_dig
  refine s.appendO (ti := ti) (v := t) (n := 0) (m := ds.length) (ys := fl ds) (xs := []) 0 (by rw [hts]; rfl) und_digs und_digs hti htz (by rw [hts]; rfl) (by rw [htb]; decide) (by rw [hts]; exact s.rat 0 rfl) (fl_one _) (by rw [htb]; omega) fun o w5 s => ?_
  rw [hts, List.nil_append, Nat.zero_add] at s
  have s : Sep [] w w5 [rDl o ds, rB b8 (bc b) 62, rB b7 (bc a) 62] [rR v 32 (fl ds) ds.length] := s
  have hf32 : ((fromHex st).1).length = 32 := by
    unfold fromHex
    split
    · split
      · rename_i d hd2
        have hl : ∀ (l : Bytes) (i : Nat) (d d2 : Bytes), fromHexL l i d = some d2 → d2.length = d.length := by
          intro l
          induction l with
          | nil => intro i d d2 h; rw [fromHexL] at h; rw [Option.some.inj h]
          | cons c r ih =>
            intro i d d2 h
            rw [fromHexL] at h
            split at h
            · cases h
            · rw [ih _ _ _ h, List.length_set]
        show d.length = 32
        rw [hl _ _ _ _ hd2]; simp
      · simp
    · simp
  refine fnW_of (by kernel_rfl) (fromHex_c fun w6 e => ?_)
  have s := s.ext0 e
  rw [extr0, extr1]
  refine s.alloc zero_dig cells_dig fun b12 w7 s _ => ?_
  refine s.storeAll 0 rfl (hbl hf32) (by simp [bc]) (bc_one _) fun w8 s _ => ?_
  refine fnW_of (by kernel_rfl) (rfromHex_c fun w9 e => ?_)
  have s := s.ext0 e
  rw [extr0, extr1]
  refine s.alloc zero_dig cells_dig fun b14 w10 s _ => ?_
  refine s.storeAll 0 rfl (hbl hf32) (by simp [bc]) (bc_one _) fun w11 s _ => ?_
  have s : Sep [] w w11 [rB b14 (bc (fromHex st).1) 62, rB b12 (bc (fromHex st).1) 62, rDl o ds, rB b8 (bc b) 62, rB b7 (bc a) 62] [rR v 32 (fl ds) ds.length] := s
  generalize fromHex st = fx at *
  obtain ⟨fd, fb⟩ := fx
  have s := s.drew
  have hab : ∀ w, Sep [] w (w11.drew) [] [] → True := fun _ _ => trivial
  generalize w11.drew = w12 at *
  refine s.loadAll 1 rfl (hbl hf32) ?_
  refine s.loadAll 0 rfl (hbl hf32) ?_
  refine dig_eql hf32 hf32 ⟨rfl, ?_⟩
  rw [decide_eq_true rfl]
  repeat with_reducible refine gs_t ?_
  refine bool_eql und_boolB ⟨rfl, ?_⟩
  rw [show (fb == fb) = true by simp]
  refine pick_ti ?_
  repeat with_reducible refine gs_t ?_
  refine s.loadAll 4 rfl (hbl ha) ?_
  repeat with_reducible refine gs_t ?_
  refine s.loadAll 4 rfl (hbl ha) ?_
  repeat with_reducible refine gs_t ?_
  refine fnW_of (by kernel_rfl) (hex_c ha fun w13 e => ?_)
  have s := s.ext0 e
  refine ⟨gs_t (s.loadAll 4 rfl (hbl ha) ⟨rfl, rfl⟩), ?_⟩
  repeat with_reducible refine gs_t ?_
  refine fnW_of (by kernel_rfl) (rhex_c ha fun w14 e => ?_)
  have s := s.ext0 e
  repeat with_reducible refine gs_t ?_
  refine str_eql ⟨rfl, ?_⟩
  rw [decide_eq_true rfl]
  refine pick_ti ?_
  repeat with_reducible refine gs_t ?_
  refine s.loadAll 4 rfl (hbl ha) ?_
  repeat with_reducible refine gs_t ?_
  refine s.loadAll 4 rfl (hbl ha) ?_
  repeat with_reducible refine gs_t ?_
  refine fnW_of (by kernel_rfl) (short_c ha fun w15 e => ?_)
  have s := s.ext0 e
  refine ⟨gs_t (s.loadAll 4 rfl (hbl ha) ⟨rfl, rfl⟩), ?_⟩
  repeat with_reducible refine gs_t ?_
  refine fnW_of (by kernel_rfl) (rhex_c ha fun w16 e => ?_)
  have s := s.ext0 e
  repeat with_reducible refine gs_t ?_
  refine str_cut (by rw [hexB_length, ha]; omega) ?_
  repeat with_reducible refine gs_t ?_
  refine str_eql ⟨rfl, ?_⟩
  rw [decide_eq_true rfl]
  refine pick_ti ?_
  repeat with_reducible refine gs_t ?_
  refine s.loadAll 4 rfl (hbl ha) ?_
  repeat with_reducible refine gs_t ?_
  refine s.loadAll 3 rfl (hbl hb) ?_
  repeat with_reducible refine gs_t ?_
  refine s.loadAll 4 rfl (hbl ha) ?_
  repeat with_reducible refine gs_t ?_
  refine s.loadAll 3 rfl (hbl hb) ?_
  repeat with_reducible refine gs_t ?_
  refine fnW_of (by kernel_rfl) (compare_c ha hb fun w17 e => ?_)
  have s := s.ext0 e
  refine ⟨gs_t (s.loadAll 4 rfl (hbl ha) ⟨rfl, rfl⟩), ?_⟩
  refine ⟨gs_t (s.loadAll 3 rfl (hbl hb) ⟨rfl, rfl⟩), ?_⟩
  repeat with_reducible refine gs_t ?_
  refine fnW_of (by kernel_rfl) (rcompare_c ha hb fun w18 e => ?_)
  have s := s.ext0 e
  repeat with_reducible refine gs_t ?_
  rw [ieql, decide_eq_true rfl]
  refine pick_ti ?_
  repeat with_reducible refine gs_t ?_
  refine fnW_of (by kernel_rfl) (sort_c (ds := ds) (OwnAt.rd (s.at 2 rfl)) hd (by omega) fun l1 w19 hl1 e hlf => ?_)
  have s := s.add (T := rDl l1 (sortD ds)) hl1 e hlf
  repeat with_reducible refine gs_t ?_
  refine fnW_of (by kernel_rfl) (rsort_c (s.rat 0 rfl) hd (by omega) fun l2 w20 hl2 e _ => ?_)
  have s := s.ext0 e
  have hsl := sortD_le ds
  repeat with_reducible refine gs_t ?_
  refine fnW_of (by kernel_rfl) (sameAll_c (a := sortD ds) (b := sortD ds) (OwnAt.rd (s.at 0 rfl)) hl2.rd (sortD_32 hd) (sortD_32 hd) (by omega) fun w21 e => ?_)
  have s := (s.ext0 e).drop 0
  rw [decide_eq_true rfl]
  refine pick_ti ?_
  repeat with_reducible refine gs_t ?_
  refine fnW_of (by kernel_rfl) (set_c (ds := ds) (OwnAt.rd (s.at 2 rfl)) hd (by omega) fun w22 e => ?_)
  have s := s.ext0 e
  repeat with_reducible refine gs_t ?_
  refine fnW_of (by kernel_rfl) (rset_c (s.rat 0 rfl) hd (by omega) fun w23 e => ?_)
  have s := s.ext0 e
  repeat with_reducible refine gs_t ?_
  refine dig_eql (digest_length _) (digest_length _) ⟨rfl, ?_⟩
  rw [decide_eq_true rfl]
  refine pick_ti ?_
  repeat with_reducible refine gs_t ?_
  refine fnW_of (by kernel_rfl) (sameAll_c (a := ds) (b := ds) (OwnAt.rd (s.at 2 rfl)) (s.rat 0 rfl) hd hd (by omega) fun w24 e => ?_)
  have s := s.ext0 e
  rw [decide_eq_true rfl]
  refine pick_ti ?_
  exact hK _ s.ext
end Go.Proofs.Ytedebapgmfnflaa
