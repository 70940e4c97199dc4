/- The document's Word and Right (ref08), levels made (ref07): walks. Conditions: at most 10^6 nodes. -/
import Derived.Test.YtbaddpnlokmldaaDoorIH
namespace Go.Proofs.YtbaddpnlokmldaaDoor
open Go
set_option maxRecDepth 100000

theorem scanW_at {s : Bytes} {i : Nat} (b : Bool) (h : i < s.length) : scanW b (s.drop i) = if b && !letB s[i] then none else if s[i] = 46 then scanW true (s.drop (i + 1)) else if !letB s[i] && !digB s[i] && s[i] != 95 then none else scanW false (s.drop (i + 1)) := by
  rw [List.drop_eq_getElem_cons h, scanW]
set_option maxHeartbeats 800000 in
theorem rword_c {w : World} {K : VPost} {s : Bytes} (hn : s.length < 2 ^ 60) (hK : ∀ w', Ext [] w w' → K (.bool (wordR s)) w') : Calls Tryd.prog 9 #[sv s] w (retK K) := by
  refine c9_calls _ w K ?_
  unfold c9
  have no : ∀ w', Ext [] w w' → wordR s = false → K (.bool false) w' := fun w' e h => by
    have := hK w' e
    rwa [h] at this
  rw [sv_len]
  refine nlss (y := 1) ?_
  by_cases h1 : s.length < 1
  · rw [decide_eq_true h1]
    repeat (first | with_reducible refine gs_tf ?_ | with_reducible refine gs_ft ?_ | with_reducible refine gs_u ?_ | with_reducible refine pick_ti ?_ | with_reducible refine pick_fi ?_ | with_reducible refine ⟨gs_tf ⟨rfl, rfl⟩, ?_⟩ | with_reducible refine ⟨gs_ft ⟨rfl, rfl⟩, ?_⟩ | with_reducible refine ⟨gs_u ⟨rfl, rfl⟩, ?_⟩ | with_reducible refine gs_t ?_ | with_reducible refine gs_f ?_ | with_reducible refine off_i ?_ | with_reducible refine cndT ?_ | with_reducible refine cndF ?_)
    refine no _ (Ext.refl _ _) ?_
    unfold wordR
    rw [decide_eq_false (by omega)]; rfl
  rw [decide_eq_false h1]
  repeat (first | with_reducible refine gs_tf ?_ | with_reducible refine gs_ft ?_ | with_reducible refine gs_u ?_ | with_reducible refine pick_ti ?_ | with_reducible refine pick_fi ?_ | with_reducible refine ⟨gs_tf ⟨rfl, rfl⟩, ?_⟩ | with_reducible refine ⟨gs_ft ⟨rfl, rfl⟩, ?_⟩ | with_reducible refine ⟨gs_u ⟨rfl, rfl⟩, ?_⟩ | with_reducible refine gs_t ?_ | with_reducible refine gs_f ?_ | with_reducible refine off_i ?_ | with_reducible refine cndT ?_ | with_reducible refine cndF ?_)
  rw [sv_len]
  repeat (first | with_reducible refine gs_tf ?_ | with_reducible refine gs_ft ?_ | with_reducible refine gs_u ?_ | with_reducible refine pick_ti ?_ | with_reducible refine pick_fi ?_ | with_reducible refine ⟨gs_tf ⟨rfl, rfl⟩, ?_⟩ | with_reducible refine ⟨gs_ft ⟨rfl, rfl⟩, ?_⟩ | with_reducible refine ⟨gs_u ⟨rfl, rfl⟩, ?_⟩ | with_reducible refine gs_t ?_ | with_reducible refine gs_f ?_ | with_reducible refine off_i ?_ | with_reducible refine cndT ?_ | with_reducible refine cndF ?_)
  refine ngtr (y := 32) ?_
  repeat (first | with_reducible refine gs_tf ?_ | with_reducible refine gs_ft ?_ | with_reducible refine gs_u ?_ | with_reducible refine pick_ti ?_ | with_reducible refine pick_fi ?_ | with_reducible refine ⟨gs_tf ⟨rfl, rfl⟩, ?_⟩ | with_reducible refine ⟨gs_ft ⟨rfl, rfl⟩, ?_⟩ | with_reducible refine ⟨gs_u ⟨rfl, rfl⟩, ?_⟩ | with_reducible refine gs_t ?_ | with_reducible refine gs_f ?_ | with_reducible refine off_i ?_ | with_reducible refine cndT ?_ | with_reducible refine cndF ?_)
  refine cond_d (fun h2 => ?_) (fun h2 => ?_)
  · refine no _ (Ext.refl _ _) ?_
    unfold wordR
    rw [decide_eq_false (by omega)]; rfl
  have hde : wordR s = (match scanW true s with | some b => !b && !wordsL.contains s | none => false) := by
    unfold wordR
    rw [decide_eq_true (show 1 ≤ s.length ∧ s.length ≤ 32 by omega), Bool.true_and]
    rfl
  refine bindX_i fun J0 g0 => bindX_i fun J1 g1 => bindX_i fun J2 g2 => ?_
  refine loop_i (fun m fr wr => ∃ (i : Nat) (b : Bool), m = s.length - i ∧ i ≤ s.length ∧ scanW true s = scanW b (s.drop i) ∧ fr 0 = sv s ∧ fr 3 = .bool b ∧ fr 4 = .int .i64 i ∧ wr = w) s.length ?_ ?_
  · exact ⟨0, true, rfl, by omega, rfl, rfl, rfl, rfl, rfl⟩
  · rintro m fr wr J ⟨i, b, rfl, hi, hsc, f0, f3, f4, rfl⟩ hJ hX
    rw [f0, f3, f4, sv_len]
    refine nlss (cond_d (fun hlt => ?_) (fun hlt => ?_))
    · rw [scanW_at b hlt] at hsc
      have dead : scanW true s = none → K (.bool false) wr := fun h => no _ (Ext.refl _ _) (by rw [hde, h])
      refine bindX_i fun J3 g3 => bindX_i fun J4 g4 => ?_
      have rest : scanW true s = (if s[i] = 46 then scanW true (s.drop (i + 1)) else if !letB s[i] && !digB s[i] && s[i] != 95 then none else scanW false (s.drop (i + 1))) → ∀ (c : Bool) (fr2 : Fr), fr2 0 = sv s → fr2 4 = .int .i64 i → fr2 3 = .bool c → scanW true s = scanW c (s.drop (i + 1)) → J3 .normal fr2 wr := by
        intro _ c fr2 k0 k4 k3 hc
        refine seq_n g3 ?_
        rw [k4]
        refine nadd (y := 1) (by omega) ?_
        exact hJ (s.length - (i + 1)) _ _ (by omega) ⟨i + 1, c, rfl, by omega, hc, k0, k3, rfl, rfl⟩
      cases hb : b && !letB s[i] with
      | true =>
        rw [hb] at hsc
        simp only [Bool.and_eq_true] at hb
        obtain ⟨rfl, hl⟩ := hb
        repeat (first | with_reducible refine gs_tf ?_ | with_reducible refine gs_ft ?_ | with_reducible refine gs_u ?_ | with_reducible refine pick_ti ?_ | with_reducible refine pick_fi ?_ | with_reducible refine ⟨gs_tf ⟨rfl, rfl⟩, ?_⟩ | with_reducible refine ⟨gs_ft ⟨rfl, rfl⟩, ?_⟩ | with_reducible refine ⟨gs_u ⟨rfl, rfl⟩, ?_⟩ | with_reducible refine gs_t ?_ | with_reducible refine gs_f ?_ | with_reducible refine off_i ?_ | with_reducible refine cndT ?_ | with_reducible refine cndF ?_)
        refine ixv_s hlt ?_
        repeat (first | with_reducible refine gs_tf ?_ | with_reducible refine gs_ft ?_ | with_reducible refine gs_u ?_ | with_reducible refine pick_ti ?_ | with_reducible refine pick_fi ?_ | with_reducible refine ⟨gs_tf ⟨rfl, rfl⟩, ?_⟩ | with_reducible refine ⟨gs_ft ⟨rfl, rfl⟩, ?_⟩ | with_reducible refine ⟨gs_u ⟨rfl, rfl⟩, ?_⟩ | with_reducible refine gs_t ?_ | with_reducible refine gs_f ?_ | with_reducible refine off_i ?_ | with_reducible refine cndT ?_ | with_reducible refine cndF ?_)
        refine fnW_of (by kernel_rfl) (rletter_c ?_)
        repeat (first | with_reducible refine gs_tf ?_ | with_reducible refine gs_ft ?_ | with_reducible refine gs_u ?_ | with_reducible refine pick_ti ?_ | with_reducible refine pick_fi ?_ | with_reducible refine ⟨gs_tf ⟨rfl, rfl⟩, ?_⟩ | with_reducible refine ⟨gs_ft ⟨rfl, rfl⟩, ?_⟩ | with_reducible refine ⟨gs_u ⟨rfl, rfl⟩, ?_⟩ | with_reducible refine gs_t ?_ | with_reducible refine gs_f ?_ | with_reducible refine off_i ?_ | with_reducible refine cndT ?_ | with_reducible refine cndF ?_)
        refine not_ti ?_
        rw [hl]
        repeat (first | with_reducible refine gs_tf ?_ | with_reducible refine gs_ft ?_ | with_reducible refine gs_u ?_ | with_reducible refine pick_ti ?_ | with_reducible refine pick_fi ?_ | with_reducible refine ⟨gs_tf ⟨rfl, rfl⟩, ?_⟩ | with_reducible refine ⟨gs_ft ⟨rfl, rfl⟩, ?_⟩ | with_reducible refine ⟨gs_u ⟨rfl, rfl⟩, ?_⟩ | with_reducible refine gs_t ?_ | with_reducible refine gs_f ?_ | with_reducible refine off_i ?_ | with_reducible refine cndT ?_ | with_reducible refine cndF ?_)
        exact hX _ _ _ (by simp) (g2 _ _ _ (g1 _ _ _ (g0 _ _ _ (dead hsc))))
      | false =>
        rw [hb] at hsc
        have hsc : scanW true s = (if s[i] = 46 then scanW true (s.drop (i + 1)) else if !letB s[i] && !digB s[i] && s[i] != 95 then none else scanW false (s.drop (i + 1))) := hsc
        have rest := rest hsc
        cases b with
        | true =>
          have hl : letB s[i] = true := by simpa using hb
          repeat (first | with_reducible refine gs_tf ?_ | with_reducible refine gs_ft ?_ | with_reducible refine gs_u ?_ | with_reducible refine pick_ti ?_ | with_reducible refine pick_fi ?_ | with_reducible refine ⟨gs_tf ⟨rfl, rfl⟩, ?_⟩ | with_reducible refine ⟨gs_ft ⟨rfl, rfl⟩, ?_⟩ | with_reducible refine ⟨gs_u ⟨rfl, rfl⟩, ?_⟩ | with_reducible refine gs_t ?_ | with_reducible refine gs_f ?_ | with_reducible refine off_i ?_ | with_reducible refine cndT ?_ | with_reducible refine cndF ?_)
          refine ixv_s hlt ?_
          repeat (first | with_reducible refine gs_tf ?_ | with_reducible refine gs_ft ?_ | with_reducible refine gs_u ?_ | with_reducible refine pick_ti ?_ | with_reducible refine pick_fi ?_ | with_reducible refine ⟨gs_tf ⟨rfl, rfl⟩, ?_⟩ | with_reducible refine ⟨gs_ft ⟨rfl, rfl⟩, ?_⟩ | with_reducible refine ⟨gs_u ⟨rfl, rfl⟩, ?_⟩ | with_reducible refine gs_t ?_ | with_reducible refine gs_f ?_ | with_reducible refine off_i ?_ | with_reducible refine cndT ?_ | with_reducible refine cndF ?_)
          refine fnW_of (by kernel_rfl) (rletter_c ?_)
          repeat (first | with_reducible refine gs_tf ?_ | with_reducible refine gs_ft ?_ | with_reducible refine gs_u ?_ | with_reducible refine pick_ti ?_ | with_reducible refine pick_fi ?_ | with_reducible refine ⟨gs_tf ⟨rfl, rfl⟩, ?_⟩ | with_reducible refine ⟨gs_ft ⟨rfl, rfl⟩, ?_⟩ | with_reducible refine ⟨gs_u ⟨rfl, rfl⟩, ?_⟩ | with_reducible refine gs_t ?_ | with_reducible refine gs_f ?_ | with_reducible refine off_i ?_ | with_reducible refine cndT ?_ | with_reducible refine cndF ?_)
          refine not_ti ?_
          rw [hl, Bool.not_true]
          repeat (first | with_reducible refine gs_tf ?_ | with_reducible refine gs_ft ?_ | with_reducible refine gs_u ?_ | with_reducible refine pick_ti ?_ | with_reducible refine pick_fi ?_ | with_reducible refine ⟨gs_tf ⟨rfl, rfl⟩, ?_⟩ | with_reducible refine ⟨gs_ft ⟨rfl, rfl⟩, ?_⟩ | with_reducible refine ⟨gs_u ⟨rfl, rfl⟩, ?_⟩ | with_reducible refine gs_t ?_ | with_reducible refine gs_f ?_ | with_reducible refine off_i ?_ | with_reducible refine cndT ?_ | with_reducible refine cndF ?_)
          refine ixv_s hlt ?_
          refine neql (x := s[i].toNat) (y := 46) ?_
          have h46 : ¬ s[i].toNat = 46 := by
            intro h
            have : s[i] = 46 := UInt8.toNat_inj.1 (by simpa using h)
            rw [this, let46] at hl; cases hl
          rw [decide_eq_false h46]
          rw [if_neg (fun h => h46 (by rw [h]; rfl)), hl] at hsc
          repeat (first | with_reducible refine gs_tf ?_ | with_reducible refine gs_ft ?_ | with_reducible refine gs_u ?_ | with_reducible refine pick_ti ?_ | with_reducible refine pick_fi ?_ | with_reducible refine ⟨gs_tf ⟨rfl, rfl⟩, ?_⟩ | with_reducible refine ⟨gs_ft ⟨rfl, rfl⟩, ?_⟩ | with_reducible refine ⟨gs_u ⟨rfl, rfl⟩, ?_⟩ | with_reducible refine gs_t ?_ | with_reducible refine gs_f ?_ | with_reducible refine off_i ?_ | with_reducible refine cndT ?_ | with_reducible refine cndF ?_)
          refine ixv_s hlt ?_
          refine fnW_of (by kernel_rfl) (rletter_c ?_)
          refine not_ti ?_
          rw [hl, Bool.not_true]
          repeat (first | with_reducible refine gs_tf ?_ | with_reducible refine gs_ft ?_ | with_reducible refine gs_u ?_ | with_reducible refine pick_ti ?_ | with_reducible refine pick_fi ?_ | with_reducible refine ⟨gs_tf ⟨rfl, rfl⟩, ?_⟩ | with_reducible refine ⟨gs_ft ⟨rfl, rfl⟩, ?_⟩ | with_reducible refine ⟨gs_u ⟨rfl, rfl⟩, ?_⟩ | with_reducible refine gs_t ?_ | with_reducible refine gs_f ?_ | with_reducible refine off_i ?_ | with_reducible refine cndT ?_ | with_reducible refine cndF ?_)
          exact rest false _ f0 f4 rfl hsc
        | false =>
          repeat (first | with_reducible refine gs_tf ?_ | with_reducible refine gs_ft ?_ | with_reducible refine gs_u ?_ | with_reducible refine pick_ti ?_ | with_reducible refine pick_fi ?_ | with_reducible refine ⟨gs_tf ⟨rfl, rfl⟩, ?_⟩ | with_reducible refine ⟨gs_ft ⟨rfl, rfl⟩, ?_⟩ | with_reducible refine ⟨gs_u ⟨rfl, rfl⟩, ?_⟩ | with_reducible refine gs_t ?_ | with_reducible refine gs_f ?_ | with_reducible refine off_i ?_ | with_reducible refine cndT ?_ | with_reducible refine cndF ?_)
          refine ixv_s hlt ?_
          refine neql (x := s[i].toNat) (y := 46) ?_
          by_cases h46 : s[i].toNat = 46
          · have he : s[i] = 46 := UInt8.toNat_inj.1 (by simpa using h46)
            rw [decide_eq_true h46]
            rw [if_pos he] at hsc
            repeat (first | with_reducible refine gs_tf ?_ | with_reducible refine gs_ft ?_ | with_reducible refine gs_u ?_ | with_reducible refine pick_ti ?_ | with_reducible refine pick_fi ?_ | with_reducible refine ⟨gs_tf ⟨rfl, rfl⟩, ?_⟩ | with_reducible refine ⟨gs_ft ⟨rfl, rfl⟩, ?_⟩ | with_reducible refine ⟨gs_u ⟨rfl, rfl⟩, ?_⟩ | with_reducible refine gs_t ?_ | with_reducible refine gs_f ?_ | with_reducible refine off_i ?_ | with_reducible refine cndT ?_ | with_reducible refine cndF ?_)
            exact rest true _ f0 f4 rfl hsc
          rw [decide_eq_false h46]
          rw [if_neg (fun h => h46 (by rw [h]; rfl))] at hsc
          repeat (first | with_reducible refine gs_tf ?_ | with_reducible refine gs_ft ?_ | with_reducible refine gs_u ?_ | with_reducible refine pick_ti ?_ | with_reducible refine pick_fi ?_ | with_reducible refine ⟨gs_tf ⟨rfl, rfl⟩, ?_⟩ | with_reducible refine ⟨gs_ft ⟨rfl, rfl⟩, ?_⟩ | with_reducible refine ⟨gs_u ⟨rfl, rfl⟩, ?_⟩ | with_reducible refine gs_t ?_ | with_reducible refine gs_f ?_ | with_reducible refine off_i ?_ | with_reducible refine cndT ?_ | with_reducible refine cndF ?_)
          refine ixv_s hlt ?_
          refine fnW_of (by kernel_rfl) (rletter_c ?_)
          refine not_ti ?_
          cases hl : letB s[i] with
          | true =>
            rw [hl] at hsc
            rw [Bool.not_true]
            repeat (first | with_reducible refine gs_tf ?_ | with_reducible refine gs_ft ?_ | with_reducible refine gs_u ?_ | with_reducible refine pick_ti ?_ | with_reducible refine pick_fi ?_ | with_reducible refine ⟨gs_tf ⟨rfl, rfl⟩, ?_⟩ | with_reducible refine ⟨gs_ft ⟨rfl, rfl⟩, ?_⟩ | with_reducible refine ⟨gs_u ⟨rfl, rfl⟩, ?_⟩ | with_reducible refine gs_t ?_ | with_reducible refine gs_f ?_ | with_reducible refine off_i ?_ | with_reducible refine cndT ?_ | with_reducible refine cndF ?_)
            exact rest false _ f0 f4 rfl hsc
          | false =>
            rw [hl] at hsc
            rw [Bool.not_false]
            repeat (first | with_reducible refine gs_tf ?_ | with_reducible refine gs_ft ?_ | with_reducible refine gs_u ?_ | with_reducible refine pick_ti ?_ | with_reducible refine pick_fi ?_ | with_reducible refine ⟨gs_tf ⟨rfl, rfl⟩, ?_⟩ | with_reducible refine ⟨gs_ft ⟨rfl, rfl⟩, ?_⟩ | with_reducible refine ⟨gs_u ⟨rfl, rfl⟩, ?_⟩ | with_reducible refine gs_t ?_ | with_reducible refine gs_f ?_ | with_reducible refine off_i ?_ | with_reducible refine cndT ?_ | with_reducible refine cndF ?_)
            refine ixv_s hlt ?_
            repeat (first | with_reducible refine gs_tf ?_ | with_reducible refine gs_ft ?_ | with_reducible refine gs_u ?_ | with_reducible refine pick_ti ?_ | with_reducible refine pick_fi ?_ | with_reducible refine ⟨gs_tf ⟨rfl, rfl⟩, ?_⟩ | with_reducible refine ⟨gs_ft ⟨rfl, rfl⟩, ?_⟩ | with_reducible refine ⟨gs_u ⟨rfl, rfl⟩, ?_⟩ | with_reducible refine gs_t ?_ | with_reducible refine gs_f ?_ | with_reducible refine off_i ?_ | with_reducible refine cndT ?_ | with_reducible refine cndF ?_)
            refine fnW_of (by kernel_rfl) (rdigit_c ?_)
            repeat (first | with_reducible refine gs_tf ?_ | with_reducible refine gs_ft ?_ | with_reducible refine gs_u ?_ | with_reducible refine pick_ti ?_ | with_reducible refine pick_fi ?_ | with_reducible refine ⟨gs_tf ⟨rfl, rfl⟩, ?_⟩ | with_reducible refine ⟨gs_ft ⟨rfl, rfl⟩, ?_⟩ | with_reducible refine ⟨gs_u ⟨rfl, rfl⟩, ?_⟩ | with_reducible refine gs_t ?_ | with_reducible refine gs_f ?_ | with_reducible refine off_i ?_ | with_reducible refine cndT ?_ | with_reducible refine cndF ?_)
            refine not_ti ?_
            cases hd : digB s[i] with
            | true =>
              rw [hd] at hsc
              rw [Bool.not_true]
              repeat (first | with_reducible refine gs_tf ?_ | with_reducible refine gs_ft ?_ | with_reducible refine gs_u ?_ | with_reducible refine pick_ti ?_ | with_reducible refine pick_fi ?_ | with_reducible refine ⟨gs_tf ⟨rfl, rfl⟩, ?_⟩ | with_reducible refine ⟨gs_ft ⟨rfl, rfl⟩, ?_⟩ | with_reducible refine ⟨gs_u ⟨rfl, rfl⟩, ?_⟩ | with_reducible refine gs_t ?_ | with_reducible refine gs_f ?_ | with_reducible refine off_i ?_ | with_reducible refine cndT ?_ | with_reducible refine cndF ?_)
              exact rest false _ f0 f4 rfl hsc
            | false =>
              rw [hd] at hsc
              rw [Bool.not_false]
              repeat (first | with_reducible refine gs_tf ?_ | with_reducible refine gs_ft ?_ | with_reducible refine gs_u ?_ | with_reducible refine pick_ti ?_ | with_reducible refine pick_fi ?_ | with_reducible refine ⟨gs_tf ⟨rfl, rfl⟩, ?_⟩ | with_reducible refine ⟨gs_ft ⟨rfl, rfl⟩, ?_⟩ | with_reducible refine ⟨gs_u ⟨rfl, rfl⟩, ?_⟩ | with_reducible refine gs_t ?_ | with_reducible refine gs_f ?_ | with_reducible refine off_i ?_ | with_reducible refine cndT ?_ | with_reducible refine cndF ?_)
              refine ixv_s hlt ?_
              repeat (first | with_reducible refine gs_tf ?_ | with_reducible refine gs_ft ?_ | with_reducible refine gs_u ?_ | with_reducible refine pick_ti ?_ | with_reducible refine pick_fi ?_ | with_reducible refine ⟨gs_tf ⟨rfl, rfl⟩, ?_⟩ | with_reducible refine ⟨gs_ft ⟨rfl, rfl⟩, ?_⟩ | with_reducible refine ⟨gs_u ⟨rfl, rfl⟩, ?_⟩ | with_reducible refine gs_t ?_ | with_reducible refine gs_f ?_ | with_reducible refine off_i ?_ | with_reducible refine cndT ?_ | with_reducible refine cndF ?_)
              refine nneq (x := s[i].toNat) (y := 95) ?_
              by_cases h95 : s[i] = 95
              · rw [h95] at hsc ⊢
                rw [decide_eq_false (by decide)]
                repeat (first | with_reducible refine gs_tf ?_ | with_reducible refine gs_ft ?_ | with_reducible refine gs_u ?_ | with_reducible refine pick_ti ?_ | with_reducible refine pick_fi ?_ | with_reducible refine ⟨gs_tf ⟨rfl, rfl⟩, ?_⟩ | with_reducible refine ⟨gs_ft ⟨rfl, rfl⟩, ?_⟩ | with_reducible refine ⟨gs_u ⟨rfl, rfl⟩, ?_⟩ | with_reducible refine gs_t ?_ | with_reducible refine gs_f ?_ | with_reducible refine off_i ?_ | with_reducible refine cndT ?_ | with_reducible refine cndF ?_)
                exact rest false _ f0 f4 rfl hsc
              · have h95' : s[i].toNat ≠ 95 := fun h => h95 (UInt8.toNat_inj.1 (by simpa using h))
                rw [decide_eq_true h95']
                repeat (first | with_reducible refine gs_tf ?_ | with_reducible refine gs_ft ?_ | with_reducible refine gs_u ?_ | with_reducible refine pick_ti ?_ | with_reducible refine pick_fi ?_ | with_reducible refine ⟨gs_tf ⟨rfl, rfl⟩, ?_⟩ | with_reducible refine ⟨gs_ft ⟨rfl, rfl⟩, ?_⟩ | with_reducible refine ⟨gs_u ⟨rfl, rfl⟩, ?_⟩ | with_reducible refine gs_t ?_ | with_reducible refine gs_f ?_ | with_reducible refine off_i ?_ | with_reducible refine cndT ?_ | with_reducible refine cndF ?_)
                refine hX _ _ _ (by simp) (g2 _ _ _ (g1 _ _ _ (g0 _ _ _ (dead ?_))))
                rw [hsc]
                simp [h95]
    · obtain rfl : i = s.length := by omega
      rw [List.drop_length, scanW] at hsc
      rw [hsc] at hde
      have hde : wordR s = (!b && !wordsL.contains s) := hde
      refine hX _ _ _ (by simp) (g2 _ _ _ (blk_x (seq_n g1 ?_)))
      refine (Sep.nil wr).litX wordsL rfl rfl (by decide) fun v w2 q => ?_
      have hrd : RdSl w2 v 1 (svs wordsL) wordsL.length := OwnAt.rd (q.at 0 rfl)
      refine bindX_i fun J3 g3 => bindX_i fun J4 g4 => ?_
      refine loop_i (fun m fr wr => ∃ i : Nat, m = wordsL.length - i ∧ i ≤ wordsL.length ∧ (wordsL.take i).contains s = false ∧ fr 0 = sv s ∧ fr 3 = .bool b ∧ fr 5 = v ∧ fr 6 = .int .i64 i ∧ wr = w2) wordsL.length ?_ ?_
      · exact ⟨0, rfl, by omega, rfl, f0, f3, rfl, rfl, rfl⟩
      · rintro m fr2 wr2 J' ⟨i, rfl, hi, hc, k0, k3, k5, k6, rfl⟩ hJ' hX'
        rw [k0, k5, k6, hrd.lenw]
        refine nlss (cond_d (fun hlt => ?_) (fun hlt => ?_))
        · obtain ⟨b1, o1, hix, hld⟩ := hrd.text hlt .i64
          refine hix _ ?_
          refine hld _ ?_
          refine str_eql (a := wordsL[i]) (b := s) ?_
          refine cond_d (fun he => ?_) (fun he => ?_)
          · refine hX' _ _ _ (by simp) (g4 _ _ _ (g3 _ _ _ (g0 _ _ _ (no _ q.ext ?_))))
            have : wordsL.contains s = true := by
              rw [List.contains_iff_mem, ← he]
              exact List.getElem_mem hlt
            rw [hde, this]; simp
          · have hw16 : wordsL.length = 16 := rfl
            refine nadd (y := 1) (by omega) ?_
            refine hJ' (wordsL.length - (i + 1)) _ _ (by omega) ⟨i + 1, rfl, by omega, ?_, k0, k3, k5, rfl, rfl⟩
            rw [List.take_succ_eq_append_getElem hlt]
            have h3 : ¬ s ∈ wordsL.take i := fun h => by
              rw [← List.contains_iff_mem, hc] at h; cases h
            have h4 : ¬ s ∈ wordsL.take i ++ [wordsL[i]] := fun h => by
              rcases List.mem_append.1 h with h | h
              · exact h3 h
              · rw [List.mem_singleton] at h
                exact he h.symm
            cases h5 : (wordsL.take i ++ [wordsL[i]]).contains s with
            | false => rfl
            | true => exact absurd (List.contains_iff_mem.1 h5) h4
        · obtain rfl : i = wordsL.length := by omega
          rw [List.take_length] at hc
          refine hX' _ _ _ (by simp) (g4 _ _ _ (blk_x (seq_n g3 ?_)))
          show unN _ _ (fr2 3) _ _
          rw [k3]
          refine not_ti ?_
          have := hK wr2 q.ext
          rw [hde, hc] at this
          simpa using this
end Go.Proofs.YtbaddpnlokmldaaDoor
