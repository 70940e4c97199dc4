/- Frames taken apart, by the document; the law that bytes that are a frame are that of their parts: the walks. -/
import Derived.Test.YtedebapgmfnflaaTC
namespace Go.Proofs.Ytedebapgmfnflaa
open Go
set_option maxRecDepth 100000

theorem getD_drop (l : Bytes) (a i : Nat) (h : a + i < l.length) (h4 : i < 4) : l.getD (a + i) 0 = ((l.drop a).take 4).getD i 0 := by
  simp only [List.getD_eq_getElem?_getD, List.getElem?_take, List.getElem?_drop, if_pos h4]
theorem leN4 {l : Bytes} (h : l.length = 4) : leN l = (l.getD 0 0).toNat + 256 * (l.getD 1 0).toNat + 65536 * (l.getD 2 0).toNat + 16777216 * (l.getD 3 0).toNat := by
  match l, h with
  | [a, b, c, d], _ =>
    simp only [leN, List.getD_cons_zero, List.getD_cons_succ]
    omega

theorem number_c {w : World} {K : VPost} {x : Value} {l : Bytes} {a : Nat} (hx : RdSl w x 1 (bc l) l.length) (hl : l.length ≤ 2 ^ 40) (ha : a ≤ 2 ^ 40)
    (hK : ∀ w', Ext [] w w' → K (.int .i64 (if l.length < a + 4 then -1 else ((leN ((l.drop a).take 4) : Nat) : Int))) w') : Calls Try.prog 97 #[x, .int .i64 a] w (retK K) := by
  refine c97_calls _ _ w K ?_
  unfold c97
  obtain ⟨xa, xc, hxa⟩ := hx.len
  have hlen : ∀ (w : World) (K : VPost), lenW Try.prog (some true) #[34] 3 #[x] w K = K (.int .i64 l.length) w := fun w K => by rw [hxa, len_s]
  refine nadd (y := 4) (by omega) ?_
  rw [hlen]
  refine ngtr (cond_d (fun h => ?_) (fun h => ?_))
  · have := hK w (Ext.refl _ _)
    rw [if_pos h] at this
    exact this
  · have hK := hK w.drew (Ext.drew _ _)
    rw [if_neg h] at hK
    have hx : RdSl w.drew x 1 (bc l) l.length := (rR x 1 (bc l) l.length).keep hx (Ext.drew [] w) (by simp)
    have h4 : ((l.drop a).take 4).length = 4 := by rw [List.length_take, List.length_drop]; omega
    rw [leN4 h4, ← getD_drop l a 0 (by omega) (by omega), ← getD_drop l a 1 (by omega) (by omega), ← getD_drop l a 2 (by omega) (by omega), ← getD_drop l a 3 (by omega) (by omega)] at hK
    obtain ⟨b0, o0, i0, l0⟩ := RdSl.at1 hx (i := a) (by omega) .i64
    obtain ⟨b1, o1, i1, l1⟩ := RdSl.at1 hx (i := a + 1) (by omega) .i64
    obtain ⟨b2, o2, i2, l2⟩ := RdSl.at1 hx (i := a + 2) (by omega) .i64
    obtain ⟨b3, o3, i3, l3⟩ := RdSl.at1 hx (i := a + 3) (by omega) .i64
    have t0 := (l.getD a 0).toNat_lt
    have t1 := (l.getD (a + 1) 0).toNat_lt
    have t2 := (l.getD (a + 2) 0).toNat_lt
    have t3 := (l.getD (a + 3) 0).toNat_lt
    refine i0 _ ?_
    refine l0 _ ?_
    rw [conv_b64 (k := .u8) und_u8 und_int]
    refine nadd (y := 1) (by omega) ?_
    refine i1 _ ?_
    refine l1 _ ?_
    rw [conv_b64 (k := .u8) und_u8 und_int]
    refine nmul (x := 256) (by omega) ?_
    refine nadd (by omega) ?_
    refine nadd (y := 2) (by omega) ?_
    refine i2 _ ?_
    refine l2 _ ?_
    rw [conv_b64 (k := .u8) und_u8 und_int]
    refine nmul (x := 65536) (by omega) ?_
    refine nadd (by omega) ?_
    refine nadd (y := 3) (by omega) ?_
    refine i3 _ ?_
    refine l3 _ ?_
    rw [conv_b64 (k := .u8) und_u8 und_int]
    refine nmul (x := 16777216) (by omega) ?_
    refine nadd (by omega) ?_
    exact hK

set_option maxHeartbeats 2000000 in
theorem runframe_c {w : World} {K : VPost} {x : Value} {l : Bytes} (hx : RdSl w x 1 (bc l) l.length) (hc : capOk x) (hl : l.length ≤ 2 ^ 20)
    (hno : unframe l = none → ∀ w', Ext [] w w' → K (.tuple #[.slice none 0 0, .bool false]) w')
    (hK : ∀ ls, unframe l = some ls → ∀ v hs w' Q, Sep [] w w' [rL hs ls, rO v 34 1 hs ls.length] Q → hs.length = ls.length → K (.tuple #[v, .bool true]) w') : Calls Try.prog 73 #[x] w (retK K) := by
  refine c73_calls _ w K ?_
  unfold c73
  obtain ⟨xa, xc, hxa⟩ := hx.len
  have hlen : ∀ (w : World) (K : VPost), lenW Try.prog (some true) #[34] 3 #[x] w K = K (.int .i64 l.length) w := fun w K => by rw [hxa, len_s]
  rw [unframe_alt] at hno hK
  refine fnW_of (by kernel_rfl) (number_c (a := 0) hx (by omega) (by omega) fun w1 e1 => ?_)
  rw [List.drop_zero, Nat.zero_add, ilss]
  by_cases h4 : l.length < 4
  · rw [if_pos h4] at hno ⊢
    rw [decide_eq_true (by decide)]
    repeat with_reducible refine gs_tf ?_
    refine pick_ti ?_
    rw [condW_t]
    exact hno rfl w1 e1
  · rw [if_neg h4] at hno hK ⊢
    rw [decide_eq_false (by omega)]
    repeat with_reducible refine gs_f ?_
    rw [hlen]
    repeat with_reducible refine gs_f ?_
    refine ngtr ?_
    refine pick_fi ?_
    generalize leN (l.take 4) = n at *
    refine cond_d (fun hgt => ?_) (fun hgt => ?_)
    · refine hno ?_ w1 e1
      cases hu : unframeL n (l.drop 4) [] with
      | none => rfl
      | some p =>
        obtain ⟨acc, r⟩ := p
        obtain ⟨ls', q1, q2, q3⟩ := unframeL_some _ _ _ _ _ hu
        have hfl := frameL_length ls'
        have hb : (l.drop 4).length = l.length - 4 := List.length_drop
        rw [q3, List.length_append] at hb
        omega
    · obtain ⟨ti, hti, htz, hts, htb⟩ := tyI_spec ty_row
      have s : Sep [] w w1 [] [rR x 1 (bc l) l.length] := (Sep.zero1 (U := rR x 1 (bc l) l.length) hx).ext0 e1
      refine s.lit (vs := []) und_rows hti htz rfl (by simp) (by simp) fun t w2 s _ _ => ?_
      have s : Sep [] w w2 [rO t 34 ti.size [] 0] [rR x 1 (bc l) l.length] := s
      rw [hts] at s
      have s := s.add (T := rL [] []) trivial (Ext.refl _ _) (by simp [rL, rowsF])
      refine bindX_i fun J16 h16 => bindX_i fun J17 h17 => bindX_i fun J24 h24 => ?_
      refine loop_i (fun m fr wr => ∃ (i at' : Nat) (v1 : Value) (hs : List Value) (acc : List Bytes), m = n - i ∧ i ≤ n ∧ 4 ≤ at' ∧ at' ≤ l.length ∧ hs.length = acc.length ∧ acc.length = i ∧ unframeL (n - i) (l.drop at') acc = unframeL n (l.drop 4) [] ∧
        fr 0 = x ∧ fr 4 = .int .i64 n ∧ fr 5 = v1 ∧ fr 6 = .int .i64 at' ∧ fr 7 = .int .i64 i ∧ Sep [] w wr [rL hs acc, rO v1 34 1 hs acc.length] [rR x 1 (bc l) l.length]) n ?_ ?_
      · exact ⟨0, 4, t, [], [], rfl, by omega, by omega, by omega, rfl, rfl, rfl, rfl, rfl, rfl, rfl, rfl, s⟩
      · rintro m fr wr J ⟨i, at', v1, hs, acc, rfl, hi, ha4, hal, hhs, hacc, hst, f0, f4, f5, f6, f7, s⟩ hJ hX
        rw [f0, f4, f6, f7]
        refine nlss (cond_d (fun hlt => ?_) (fun hlt => ?_))
        · obtain ⟨j, hj⟩ : ∃ j, n - i = j + 1 := ⟨n - i - 1, by omega⟩
          rw [hj, unframeL] at hst
          have hdl : (l.drop at').length = l.length - at' := List.length_drop
          refine fnW_of (by kernel_rfl) (number_c (a := at') (s.rat 0 rfl) (by omega) (by omega) fun w3 e3 => ?_)
          have s := s.ext0 e3
          rw [ilss]
          by_cases h4' : l.length < at' + 4
          · rw [if_pos h4', decide_eq_true (by decide)]
            rw [if_pos (by omega)] at hst
            repeat with_reducible refine gs_tf ?_
            refine pick_ti ?_
            rw [condW_t]
            refine hX _ _ _ (by simp) (h24 _ _ _ (h17 _ _ _ (h16 _ _ _ ?_)))
            exact hno (by rw [← hst]) _ s.ext
          · rw [if_neg h4', decide_eq_false (by omega)]
            rw [if_neg (by omega)] at hst
            repeat with_reducible refine gs_f ?_
            rw [hlen]
            repeat with_reducible refine gs_f ?_
            refine nsub (by omega) (by omega) ?_
            repeat with_reducible refine gs_f ?_
            refine nsub (y := 4) (by omega) (by omega) ?_
            repeat with_reducible refine gs_f ?_
            refine ngtr ?_
            refine pick_fi ?_
            have hdd : (l.drop at').drop 4 = l.drop (at' + 4) := by rw [List.drop_drop]
            rw [hdd] at hst
            generalize leN ((l.drop at').take 4) = k at *
            have hdl4 : (l.drop (at' + 4)).length = l.length - (at' + 4) := List.length_drop
            refine cond_d (fun hgk => ?_) (fun hgk => ?_)
            · rw [if_pos (by omega)] at hst
              refine hX _ _ _ (by simp) (h24 _ _ _ (h17 _ _ _ (h16 _ _ _ ?_)))
              exact hno (by rw [← hst]) _ s.ext
            · rw [if_neg (by omega)] at hst
              refine nadd (y := 4) (by omega) ?_
              refine nadd (y := 4) (by omega) ?_
              refine nadd (by omega) ?_
              have hx3 : RdSl w3 x 1 (bc l) l.length := s.rat 0 rfl
              refine hx3.cut hc (l := at' + 4) (h := at' + 4 + k) rfl rfl (by omega) (by omega) fun v3 hv3 hc3 _ _ => ?_
              rw [part_bc, show at' + 4 + k - (at' + 4) = k by omega] at hv3
              have hkl : ((l.drop (at' + 4)).take k).length = k := by rw [List.length_take]; omega
              refine fnW_of (by kernel_rfl) (copyBytes_c (l := (l.drop (at' + 4)).take k) (by rw [hkl]; exact hv3) (by omega) fun v4 w4 hv4 e4 hf4 => ?_)
              have hv4 := hv4.at
              have s := s.add (T := rO v4 5 1 (bc ((l.drop (at' + 4)).take k)) ((l.drop (at' + 4)).take k).length) hv4 e4 hf4
              have hrl : RowsL w4 hs acc := s.at 1 rfl
              have s := s.join (T := rL (hs ++ [v4]) (acc ++ [(l.drop (at' + 4)).take k])) (RowsL.append (OwnAt.rd hv4) (OwnAt.cap hv4) hrl) (by
                intro b hb
                have hb : b ∈ rowsF (hs ++ [v4]) (acc ++ [(l.drop (at' + 4)).take k]) := hb
                rw [rowsF_snoc hhs] at hb
                rcases List.mem_append.1 hb with h | h
                · exact .inr h
                · exact .inl (rdB_slB (ys := bc ((l.drop (at' + 4)).take k)) h))
              rw [f5]
              obtain ⟨ra, rc, hra⟩ := (OwnAt.rd hv4).len
              refine s.addRow (v := v1) (hs := hs) (n := acc.length) 1 rfl hra (by omega) fun t v5 w5 s => ?_
              refine nadd (x := 4) (by omega) ?_
              refine nadd (by omega) ?_
              refine nadd (y := 1) (by omega) ?_
              refine hJ (n - (i + 1)) _ _ (by omega) ⟨i + 1, at' + (4 + k), v5, hs ++ [v4], acc ++ [(l.drop (at' + 4)).take k], rfl, by omega, by omega, by omega, by simp [hhs], by simp [hacc], ?_, f0, f4, rfl, rfl, rfl, ?_⟩
              · rw [show n - (i + 1) = j by omega, ← hst, List.drop_drop]
                congr 2
                omega
              · rw [List.length_append]; exact s
        · obtain rfl : i = n := by omega
          rw [Nat.sub_self, unframeL] at hst
          rw [← hst] at hno hK
          have fin : ∀ (fr : Fr), fr 0 = x → fr 5 = v1 → fr 6 = .int .i64 at' → J17 .normal fr wr := by
            intro fr f0 f5 f6
            refine seq_n h17 ?_
            rw [f0, f5, f6, hlen]
            refine nneq (cond_d (fun hne => ?_) (fun heq => ?_))
            · refine hno ?_ wr s.ext
              cases hd : l.drop at' with
              | nil =>
                have := congrArg List.length hd
                rw [List.length_drop, List.length_nil] at this
                omega
              | cons y r => rfl
            · have hd : l.drop at' = [] := List.drop_eq_nil_of_le (by omega)
              rw [hd] at hK
              exact hK acc rfl v1 hs wr _ s hhs
          exact hX _ _ _ (by simp) (h24 _ _ _ (blk_x (fin _ f0 f5 f6)))
end Go.Proofs.Ytedebapgmfnflaa
