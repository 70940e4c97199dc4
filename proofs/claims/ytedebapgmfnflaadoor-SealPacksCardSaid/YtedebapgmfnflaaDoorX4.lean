/- The document's unpack: its walk. Conditions: sectors have 64 bytes; at most 10^6 of them. -/
import Derived.Test.YtedebapgmfnflaaDoorX3
namespace Go.Proofs.YtedebapgmfnflaaDoor
open Go
set_option maxRecDepth 100000

theorem blk_neq {w : World} {K : VPost} {c : Bool} {a b : Bytes} (ha : a.length = 64) (hb : b.length = 64) (h : K (.bool (!decide (a = b))) w) : binW Tryd.prog .neq 37 c (.agg (bc a).toArray) (.agg (bc b).toArray) w K := by
  obtain ⟨ui, hui, huz, husz, huby⟩ := tyI_spec ty_u8
  rw [bc_ints a, bc_ints b, bin_ints_neq (by kernel_rfl : Tryd.prog.underlying 37 = some (.array 64 5)) hui (by kernel_rfl) (by kernel_rfl) (by kernel_rfl) (by kernel_rfl) _ _ (by simpa using ha) (by simpa using hb)]
  simpa only [ints_inj] using h

open Classical in
/-- What the document's Unpack tells. -/
noncomputable def rUnpackI (l : List Bytes) (g n : Int) : Option (Bytes × Nat) :=
  match l with
  | [] => none
  | b :: _ =>
    if (dataB b).length < 2 then none else
    if needN (beN ((dataB b).take 2)) = 0 ∨ l.length < needN (beN ((dataB b).take 2)) then none else
    if (((l.take (needN (beN ((dataB b).take 2)))).map dataB).flatten).length ≠ beN ((dataB b).take 2) + 34 then none else
    if ¬ packOk g n (needN (beN ((dataB b).take 2))) ∨ packB g.toNat n.toNat (((((l.take (needN (beN ((dataB b).take 2)))).map dataB).flatten).drop 2).take (beN ((dataB b).take 2))) ≠ l.take (needN (beN ((dataB b).take 2))) then none else
      some (((((l.take (needN (beN ((dataB b).take 2)))).map dataB).flatten).drop 2).take (beN ((dataB b).take 2)), needN (beN ((dataB b).take 2)))

theorem rUnpack_eq {l : List Bytes} (h64 : ∀ b ∈ l, b.length = 64) (g n : Int) : rUnpackI l g n = unpackI l g n := by
  unfold unpackI
  by_cases hr : l = [] ∨ g < 1 ∨ 4294967295 < g ∨ n < 0 ∨ 4294967295 < n
  · rw [if_pos hr]
    rcases hr with rfl | hr
    · rfl
    · unfold rUnpackI
      cases l with
      | nil => rfl
      | cons b t =>
        simp only
        split
        · rfl
        · split
          · rfl
          · rename_i hk
            split
            · rfl
            · rw [if_pos (.inl fun hp => by obtain ⟨p1, p2, p3, p4, p5⟩ := hp; omega)]
  · rw [if_neg hr]
    simp only [not_or] at hr
    obtain ⟨hl, hg1, hg2, hn1, hn2⟩ := hr
    rw [unpack_ref h64 (show g.toNat < 2 ^ 32 by omega)]
    unfold rUnpackI refUnpackB
    cases l with
    | nil => rfl
    | cons b t =>
      simp only
      generalize beN ((dataB b).take 2) = m
      by_cases h1 : (dataB b).length < 2
      · rw [if_pos h1, if_pos h1]
      rw [if_neg h1, if_neg h1]
      by_cases h2 : needN m = 0 ∨ (b :: t).length < needN m
      · rw [if_pos h2, if_pos h2]
      rw [if_neg h2, if_neg h2]
      split
      · rfl
      · have e : (¬ packOk g n (needN m)) ↔ 2 ^ 32 < n.toNat + needN m := by
          unfold packOk
          constructor
          · intro h
            have h' : ¬ (n ≤ 4294967296 - (needN m : Nat)) := fun hh => h ⟨fun h0 => h2 (.inl h0), by omega, by omega, by omega, hh⟩
            omega
          · intro h hp
            have := hp.2.2.2.2
            omega
        by_cases h3 : ¬ packOk g n (needN m) ∨ packB g.toNat n.toNat ((((((b :: t).take (needN m)).map dataB).flatten).drop 2).take m) ≠ (b :: t).take (needN m)
        · rw [if_pos h3, if_pos (h3.imp_left e.1)]
        · rw [if_neg h3, if_neg (fun h => h3 (h.imp_left e.2))]

set_option maxHeartbeats 2000000 in
theorem runpack_c {w : World} {K : VPost} {x : Value} {g n : Int} {ls : List Bytes} (hx : RdSl w x 64 (bc ls.flatten) ls.length) (h64 : ∀ l ∈ ls, l.length = 64) (hln : ls.length ≤ 1000000)
    (hno : rUnpackI ls g n = none → ∀ w', Ext [] w w' → K (.tuple #[.slice none 0 0, .int .i64 0, .bool false]) w')
    (hyes : ∀ r k, rUnpackI ls g n = some (r, k) → ∀ v w', OwnAt w' v 5 1 (bc r) r.length → Ext [] w w' → (∀ b ∈ slB v, w.heap.size ≤ b) → K (.tuple #[v, .int .i64 k, .bool true]) w') :
    Calls Tryd.prog 29 #[x, .int .i64 g, .int .i64 n] w (retK K) := by
  refine c29_calls _ _ _ w K ?_
  unfold c29
  have hlen : ∀ (w : World) (K : VPost), lenW Tryd.prog (some true) #[23] 3 #[x] w K = K (.int .i64 ls.length) w := fun w K => hx.lenw
  rw [hlen]
  refine neql (y := 0) (cond_d (fun h0 => ?_) (fun h0 => ?_))
  · exact hno (by rw [List.length_eq_zero_iff.1 h0]; rfl) _ (Ext.refl _ _)
  have s := Sep.zero1 (U := rKR x ls) hx
  obtain ⟨b0, o0, hix, hld⟩ := RdSl.secAt hx h64 (i := 0) (by omega) .i64
  refine hix _ ?_
  refine hld _ ?_
  obtain ⟨hd, tl, rfl⟩ : ∃ hd tl, ls = hd :: tl := by
    cases ls with
    | nil => exact absurd rfl h0
    | cons a b => exact ⟨a, b, rfl⟩
  show fnW _ _ #[.agg (bc hd).toArray] _ _
  unfold rUnpackI at hno hyes
  simp only at hno hyes
  refine fnW_of (by kernel_rfl) (rdata_c (h64 hd (by simp)) fun vd w1 hvd e1 hfd => ?_)
  have s := s.add (T := rDb vd (dataB hd)) hvd e1 hfd
  rw [hvd.rd.lenw]
  have hdl := data_le (h64 hd (by simp))
  refine nlss (y := 2) (cond_d (fun h5 => hno (by rw [if_pos h5]) _ s.ext) (fun h5 => ?_))
  rw [if_neg h5] at hno hyes
  refine (OwnAt.rd (s.at 0 rfl)).cut (l := 0) (h := 2) hvd.cap rfl rfl (by omega) (by omega) fun v2 hv2 _ _ _ => ?_
  rw [Nat.zero_mul, List.drop_zero, ← List.drop_zero (l := bc (dataB hd)), bc_part, List.drop_zero] at hv2
  have hl2 : ((dataB hd).take 2).length = 2 := by rw [List.length_take]; omega
  have hv2 : RdSl w1 v2 1 (bc ((dataB hd).take 2)) ((dataB hd).take 2).length := by rw [hl2]; exact hv2
  refine fnW_of (by kernel_rfl) (number_c hv2 (by omega) ?_)
  refine fnW_of (by kernel_rfl) (rneed_c ?_)
  rw [needI_nat]
  generalize beN ((dataB hd).take 2) = m at *
  have hkm : needN m ≠ 0 → needN m ≤ 45 ∧ m ≤ 2000 := fun h6 => by
    unfold needN at h6 ⊢
    split at h6 <;> first | exact absurd rfl h6 | (split <;> omega)
  generalize hk : needN m = k at *
  refine neql (y := 0) ?_
  by_cases h6 : k = 0
  · rw [decide_eq_true h6]
    repeat with_reducible refine gs_tf ?_
    refine pick_ti ?_
    exact cndT (hno (by rw [if_pos (.inl h6)]) _ s.ext)
  rw [decide_eq_false h6]
  refine gs_f ?_
  refine gs_f ?_
  refine gs_f ?_
  rw [hlen]
  refine gs_f ?_
  refine ngtr ?_
  refine pick_fi ?_
  refine cond_d (fun h7 => hno (by rw [if_pos (.inr h7)]) _ s.ext) (fun h7 => ?_)
  rw [if_neg (by omega)] at hno hyes
  have hkm := hkm h6
  generalize hls : hd :: tl = ls at *
  have hlk : (ls.take k).length = k := by rw [List.length_take]; omega
  refine s.litB [] rfl (by decide) fun v8 w8 s _ _ => ?_
  have s : Sep [] w w8 [rDb v8 [], rDb vd (dataB hd)] [rKR x ls] := s
  have s := s.drop 1
  have s : Sep [] w w8 [rDb v8 []] [rKR x ls] := s
  refine bindX_i fun J0 g0 => bindX_i fun J1 g1 => bindX_i fun J2 g2 => ?_
  refine loop_i (fun q fr wr => ∃ (i : Nat) (v : Value), q = k - i ∧ i ≤ k ∧ fr 0 = x ∧ fr 1 = .int .i64 g ∧ fr 2 = .int .i64 n ∧ fr 10 = .int .i64 m ∧ fr 11 = .int .i64 k ∧ fr 12 = v ∧ fr 13 = .int .i64 i ∧
    (((ls.take i).map dataB).flatten).length ≤ 46 * i ∧ Sep [] w wr [rDb v (((ls.take i).map dataB).flatten)] [rKR x ls]) k ?_ ?_
  · exact ⟨0, v8, rfl, by omega, rfl, rfl, rfl, rfl, rfl, rfl, rfl, by simp, s⟩
  · rintro q fr wr J ⟨i, v, rfl, hi, f0, f1, f2, f10, f11, f12, f13, hal, s⟩ hJ hX
    rw [f13, f11]
    refine nlss (cond_d (fun hlt => ?_) (fun hlt => ?_))
    · rw [f0, f12]
      obtain ⟨b1, o1, i1, l1⟩ := RdSl.secAt (s.rat 0 rfl) h64 (i := i) (by omega) .i64
      refine i1 _ ?_
      refine l1 _ ?_
      have hsi := h64 _ (List.getElem_mem (show i < ls.length by omega))
      have hnx : ((ls.take (i + 1)).map dataB).flatten = ((ls.take i).map dataB).flatten ++ dataB ls[i] := by
        rw [List.take_succ_eq_append_getElem (show i < ls.length by omega), List.map_append, List.flatten_append]
        simp
      have hdi := data_le hsi
      refine fnW_of (by kernel_rfl) (rdata_c hsi fun va w2 hva e2 hfa => ?_)
      have s := s.ext0 e2
      refine s.apB 0 rfl hva.rd (by omega) fun vb w3 s => ?_
      have s : Sep [] w w3 [rDb vb (((ls.take i).map dataB).flatten ++ dataB ls[i])] [rKR x ls] := s
      rw [← hnx] at s
      refine nadd (y := 1) (by omega) ?_
      exact hJ (k - (i + 1)) _ _ (by omega) ⟨i + 1, vb, rfl, by omega, f0, f1, f2, f10, f11, rfl, rfl, by rw [hnx, List.length_append]; omega, s⟩
    · obtain rfl : i = k := by omega
      refine hX _ _ _ (by simp) (g2 _ _ _ (g1 _ _ _ (seqX_n ?_)))
      generalize ((ls.take i).map dataB).flatten = a at *
      show lenW _ _ _ _ #[fr 12] _ _
      rw [f12, (OwnAt.rd (s.at 0 rfl)).lenw]
      show binN _ _ _ _ (fr 10) _ _ _
      rw [f10]
      refine nadd (y := 34) (by omega) ?_
      refine nneq (cond_d (fun h9 => hno (by rw [if_pos h9]) _ s.ext) (fun h9 => ?_))
      rw [if_neg h9] at hno hyes
      have h9 : a.length = m + 34 := by omega
      show binN _ _ _ _ _ (fr 10) _ _
      rw [f10]
      refine nadd (x := 2) (by omega) ?_
      show sliceW _ (fr 12) _ _ _ _ _
      rw [f12]
      refine (OwnAt.rd (s.at 0 rfl)).cut (l := 2) (h := 2 + m) (OwnAt.cap (s.at 0 rfl)) rfl rfl (by omega) (by omega) fun vc hvc hcc _ _ => ?_
      have hl3 : ((a.drop 2).take m).length = m := by rw [List.length_take, List.length_drop]; omega
      rw [Nat.mul_one, Nat.mul_one, Nat.add_sub_cancel_left, bc_part] at hvc
      have hvc : RdSl wr vc 1 (bc ((a.drop 2).take m)) ((a.drop 2).take m).length := by rw [hl3]; exact hvc
      refine fnW_of (by kernel_rfl) (copyBytes_c hvc (by omega) fun vr w4 hvr e4 hfr => ?_)
      have s := s.add (T := rDb vr ((a.drop 2).take m)) hvr.at e4 hfr
      generalize hrec : (a.drop 2).take m = rec at *
      have hkr : needN rec.length = i := by rw [hl3]; exact hk
      show fnW _ _ #[fr 1, fr 2, _] _ _
      rw [f1, f2]
      refine fnW_of (by kernel_rfl) (rpack_c (g := g) (n := n) (r := rec) (OwnAt.rd (s.at 0 rfl)) (fun hbad w5 e5 => ?_) fun hok vw w5 hvw e5 hfw => ?_)
      · rw [extr0, extr1]
        refine not_ti (b := false) ?_
        refine cndT ?_
        rw [hkr] at hbad
        exact hno (by rw [if_pos (.inl hbad)]) _ (s.ext0 e5).ext
      rw [extr0, extr1]
      refine not_ti (b := true) ?_
      refine cndF ?_
      rw [hkr] at hok
      have s := s.add (T := rK vw (packB g.toNat n.toNat rec)) hvw e5 hfw
      have hpl := packB_length g.toNat n.toNat rec
      rw [hkr] at hpl
      have hp64 := packB_64 g.toNat n.toNat rec
      generalize packB g.toNat n.toNat rec = ps at *
      refine bindX_i fun J3 g3 => bindX_i fun J4 g4 => ?_
      have s : Sep [] w w5 [rK vw ps, rDb vr rec, rDb v a] [rKR x ls] := s
      refine loop_i (fun q fr wr => ∃ (j : Nat), q = i - j ∧ j ≤ i ∧ ps.take j = ls.take j ∧ fr 0 = x ∧ fr 11 = .int .i64 i ∧ fr 14 = vr ∧ fr 15 = vw ∧ fr 17 = .int .i64 j ∧ Sep [] w wr [rK vw ps, rDb vr rec, rDb v a] [rKR x ls]) i ?_ ?_
      · exact ⟨0, rfl, by omega, rfl, f0, f11, rfl, rfl, rfl, s⟩
      · rintro q fr2 wr2 I ⟨j, rfl, hj, htk, k0, k11, k14, k15, k17, s⟩ hI hY
        rw [k17, k11]
        refine nlss (cond_d (fun hlt => ?_) (fun hlt => ?_))
        · have s := s.drew
          generalize wr2.drew = w6 at *
          rw [k15, k0]
          obtain ⟨b1, o1, i1, l1⟩ := RdSl.secAt (OwnAt.rd (s.at 0 rfl)) hp64 (i := j) (by omega) .i64
          refine i1 _ ?_
          refine l1 _ ?_
          obtain ⟨b2, o2, i2, l2⟩ := RdSl.secAt (s.rat 0 rfl) h64 (i := j) (by omega) .i64
          refine i2 _ ?_
          refine l2 _ ?_
          refine blk_neq (hp64 _ (List.getElem_mem _)) (h64 _ (List.getElem_mem _)) ⟨rfl, ?_⟩
          have h1 : ps.take (j + 1) = ps.take j ++ [ps[j]] := List.take_succ_eq_append_getElem (by omega)
          have h2 : ls.take (j + 1) = ls.take j ++ [ls[j]] := List.take_succ_eq_append_getElem (by omega)
          by_cases heq : ps[j] = ls[j]
          · rw [decide_eq_true heq, Bool.not_true]
            refine cndF ?_
            refine nadd (y := 1) (by omega) ?_
            exact hI (i - (j + 1)) _ _ (by omega) ⟨j + 1, rfl, by omega, by rw [h1, h2, htk, heq], k0, k11, k14, k15, rfl, s⟩
          · rw [decide_eq_false heq, Bool.not_false]
            refine cndT ?_
            refine hY _ _ _ (by simp) (g4 _ _ _ (g3 _ _ _ (g0 _ _ _ ?_)))
            have hne : ps ≠ ls.take i := fun e => heq (by
              have e1 : ps[j]? = (ls.take i)[j]? := by rw [← e]
              rw [List.getElem?_take, if_pos hlt, List.getElem?_eq_getElem (by omega), List.getElem?_eq_getElem (by omega)] at e1
              exact Option.some.inj e1)
            exact hno (by rw [if_pos (.inr hne)]) _ s.ext
        · obtain rfl : j = i := by omega
          rw [List.take_of_length_le (by omega)] at htk
          refine hY _ _ _ (by simp) (g4 _ _ _ (g3 _ _ _ (seqX_n ?_)))
          show K (.tuple #[fr2 14, fr2 11, _]) _
          rw [k14, k11]
          refine hyes rec j ?_ vr _ (s.at 1 rfl) s.ext (s.fresh 1 rfl)
          rw [if_neg]
          rintro (h | h)
          · exact h hok
          · exact h htk
end Go.Proofs.YtedebapgmfnflaaDoor
