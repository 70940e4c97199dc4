/- The document's levels, names, and what is right (ref07, ref08): walks. Conditions: at most 10^6 nodes. -/
import Derived.Test.YtbaddpnlokmldaaDoorIG
namespace Go.Proofs.YtbaddpnlokmldaaDoor
open Go
set_option maxRecDepth 100000

theorem lv_cell {l : Lv} {i : Nat} (hi : i < 4) : l.cells[0 + 1 + i * 1]? = some (iv (l.ps[i]'(by simpa [Lv.ps] using hi))) := by
  have hk : i = 0 ∨ i = 1 ∨ i = 2 ∨ i = 3 := by omega
  rcases hk with rfl | rfl | rfl | rfl <;> rfl
theorem rlright_c {w : World} {K : VPost} {l : Lv} (hK : ∀ w', Ext [] w w' → K (.bool (lvR l)) w') : Calls Tryd.prog 73 #[.agg l.cells.toArray] w (retK K) := by
  refine c73_calls _ w K ?_
  unfold c73
  refine (Sep.nil w).box fun b w1 s _ => ?_
  have s : Sep [] w w1 (rB b l.cells 48 :: []) [] := s
  have no : ∀ w', Ext [] w w' → lvR l = false → K (.bool false) w' := fun w' e h => by
    have := hK w' e
    rwa [h] at this
  refine off_i ?_
  refine s.load1 (v := iv l.base) 0 rfl rfl ?_
  rw [ilss]
  by_cases h0 : l.base < 0
  · rw [decide_eq_true h0]
    repeat (first | with_reducible refine gs_tf ?_ | with_reducible refine gs_ft ?_ | with_reducible refine gs_u ?_ | with_reducible refine pick_ti ?_ | with_reducible refine pick_fi ?_ | with_reducible refine ⟨gs_tf ⟨rfl, rfl⟩, ?_⟩ | with_reducible refine ⟨gs_ft ⟨rfl, rfl⟩, ?_⟩ | with_reducible refine ⟨gs_u ⟨rfl, rfl⟩, ?_⟩ | with_reducible refine gs_t ?_ | with_reducible refine gs_f ?_ | with_reducible refine off_i ?_ | with_reducible refine cndT ?_ | with_reducible refine cndF ?_)
    exact no _ s.ext (by rw [lvR_ps, decide_eq_false (show ¬ (0 ≤ l.base ∧ l.base ≤ 100) by omega), Bool.and_false])
  rw [decide_eq_false h0]
  repeat (first | with_reducible refine gs_tf ?_ | with_reducible refine gs_ft ?_ | with_reducible refine gs_u ?_ | with_reducible refine pick_ti ?_ | with_reducible refine pick_fi ?_ | with_reducible refine ⟨gs_tf ⟨rfl, rfl⟩, ?_⟩ | with_reducible refine ⟨gs_ft ⟨rfl, rfl⟩, ?_⟩ | with_reducible refine ⟨gs_u ⟨rfl, rfl⟩, ?_⟩ | with_reducible refine gs_t ?_ | with_reducible refine gs_f ?_ | with_reducible refine off_i ?_ | with_reducible refine cndT ?_ | with_reducible refine cndF ?_)
  refine s.load1 (v := iv l.base) 0 rfl rfl ?_
  repeat (first | with_reducible refine gs_tf ?_ | with_reducible refine gs_ft ?_ | with_reducible refine gs_u ?_ | with_reducible refine pick_ti ?_ | with_reducible refine pick_fi ?_ | with_reducible refine ⟨gs_tf ⟨rfl, rfl⟩, ?_⟩ | with_reducible refine ⟨gs_ft ⟨rfl, rfl⟩, ?_⟩ | with_reducible refine ⟨gs_u ⟨rfl, rfl⟩, ?_⟩ | with_reducible refine gs_t ?_ | with_reducible refine gs_f ?_ | with_reducible refine off_i ?_ | with_reducible refine cndT ?_ | with_reducible refine cndF ?_)
  rw [igtr]
  repeat (first | with_reducible refine gs_tf ?_ | with_reducible refine gs_ft ?_ | with_reducible refine gs_u ?_ | with_reducible refine pick_ti ?_ | with_reducible refine pick_fi ?_ | with_reducible refine ⟨gs_tf ⟨rfl, rfl⟩, ?_⟩ | with_reducible refine ⟨gs_ft ⟨rfl, rfl⟩, ?_⟩ | with_reducible refine ⟨gs_u ⟨rfl, rfl⟩, ?_⟩ | with_reducible refine gs_t ?_ | with_reducible refine gs_f ?_ | with_reducible refine off_i ?_ | with_reducible refine cndT ?_ | with_reducible refine cndF ?_)
  refine cond_d (fun h1 => ?_) (fun h1 => ?_)
  · exact no _ s.ext (by rw [lvR_ps, decide_eq_false (show ¬ (0 ≤ l.base ∧ l.base ≤ 100) by omega), Bool.and_false])
  refine bindX_i fun J0 g0 => bindX_i fun J1 g1 => bindX_i fun J2 g2 => ?_
  refine loop_i (fun m fr wr => ∃ i : Nat, m = 4 - i ∧ i ≤ 4 ∧ (l.ps.take i).all (fun n => decide (-1 ≤ n ∧ n ≤ l.base)) = true ∧ fr 1 = .pointer (some ⟨b, 0, none⟩) ∧ fr 3 = .int .i64 i ∧ Sep [] w wr (rB b l.cells 48 :: []) []) 4 ?_ ?_
  · exact ⟨0, rfl, by omega, rfl, rfl, rfl, s⟩
  · rintro m fr wr J ⟨i, rfl, hi, ha, f1, f3, s⟩ hJ hX
    rw [f1, f3]
    refine nlss (y := 4) (cond_d (fun hlt => ?_) (fun hlt => ?_))
    · have hl : i < l.ps.length := hlt
      have ht : (l.ps.take (i + 1)).all (fun n => decide (-1 ≤ n ∧ n ≤ l.base)) = decide (-1 ≤ l.ps[i] ∧ l.ps[i] ≤ l.base) := by
        rw [List.take_succ_eq_append_getElem hl, List.all_append, ha]; simp
      have s := s.drew
      generalize wr.drew = wr at *
      have no2 : ¬ (-1 ≤ l.ps[i] ∧ l.ps[i] ≤ l.base) → K (.bool false) wr := fun hn => by
        refine no _ s.ext ?_
        have e : l.ps.all (fun n => decide (-1 ≤ n ∧ n ≤ l.base)) = false := by
          rw [List.all_eq_false]
          exact ⟨l.ps[i], List.getElem_mem hl, by simpa using hn⟩
        rw [lvR_ps, e]; rfl
      refine off_i ?_
      refine idxA_i hlt ?_
      refine s.load1 0 rfl (lv_cell hlt) ?_
      rw [ilss]
      by_cases h2 : l.ps[i] < -1
      · rw [decide_eq_true h2]
        repeat (first | with_reducible refine gs_tf ?_ | with_reducible refine gs_ft ?_ | with_reducible refine gs_u ?_ | with_reducible refine pick_ti ?_ | with_reducible refine pick_fi ?_ | with_reducible refine ⟨gs_tf ⟨rfl, rfl⟩, ?_⟩ | with_reducible refine ⟨gs_ft ⟨rfl, rfl⟩, ?_⟩ | with_reducible refine ⟨gs_u ⟨rfl, rfl⟩, ?_⟩ | with_reducible refine gs_t ?_ | with_reducible refine gs_f ?_ | with_reducible refine off_i ?_ | with_reducible refine cndT ?_ | with_reducible refine cndF ?_)
        exact hX _ _ _ (by simp) (g2 _ _ _ (g1 _ _ _ (g0 _ _ _ (no2 (by omega)))))
      rw [decide_eq_false h2]
      repeat (first | with_reducible refine gs_tf ?_ | with_reducible refine gs_ft ?_ | with_reducible refine gs_u ?_ | with_reducible refine pick_ti ?_ | with_reducible refine pick_fi ?_ | with_reducible refine ⟨gs_tf ⟨rfl, rfl⟩, ?_⟩ | with_reducible refine ⟨gs_ft ⟨rfl, rfl⟩, ?_⟩ | with_reducible refine ⟨gs_u ⟨rfl, rfl⟩, ?_⟩ | with_reducible refine gs_t ?_ | with_reducible refine gs_f ?_ | with_reducible refine off_i ?_ | with_reducible refine cndT ?_ | with_reducible refine cndF ?_)
      refine idxA_i hlt ?_
      repeat (first | with_reducible refine gs_tf ?_ | with_reducible refine gs_ft ?_ | with_reducible refine gs_u ?_ | with_reducible refine pick_ti ?_ | with_reducible refine pick_fi ?_ | with_reducible refine ⟨gs_tf ⟨rfl, rfl⟩, ?_⟩ | with_reducible refine ⟨gs_ft ⟨rfl, rfl⟩, ?_⟩ | with_reducible refine ⟨gs_u ⟨rfl, rfl⟩, ?_⟩ | with_reducible refine gs_t ?_ | with_reducible refine gs_f ?_ | with_reducible refine off_i ?_ | with_reducible refine cndT ?_ | with_reducible refine cndF ?_)
      refine s.load1 0 rfl (lv_cell hlt) ?_
      repeat (first | with_reducible refine gs_tf ?_ | with_reducible refine gs_ft ?_ | with_reducible refine gs_u ?_ | with_reducible refine pick_ti ?_ | with_reducible refine pick_fi ?_ | with_reducible refine ⟨gs_tf ⟨rfl, rfl⟩, ?_⟩ | with_reducible refine ⟨gs_ft ⟨rfl, rfl⟩, ?_⟩ | with_reducible refine ⟨gs_u ⟨rfl, rfl⟩, ?_⟩ | with_reducible refine gs_t ?_ | with_reducible refine gs_f ?_ | with_reducible refine off_i ?_ | with_reducible refine cndT ?_ | with_reducible refine cndF ?_)
      rw [igtr]
      by_cases h3 : 100 < l.ps[i]
      · rw [decide_eq_true h3]
        repeat (first | with_reducible refine gs_tf ?_ | with_reducible refine gs_ft ?_ | with_reducible refine gs_u ?_ | with_reducible refine pick_ti ?_ | with_reducible refine pick_fi ?_ | with_reducible refine ⟨gs_tf ⟨rfl, rfl⟩, ?_⟩ | with_reducible refine ⟨gs_ft ⟨rfl, rfl⟩, ?_⟩ | with_reducible refine ⟨gs_u ⟨rfl, rfl⟩, ?_⟩ | with_reducible refine gs_t ?_ | with_reducible refine gs_f ?_ | with_reducible refine off_i ?_ | with_reducible refine cndT ?_ | with_reducible refine cndF ?_)
        exact hX _ _ _ (by simp) (g2 _ _ _ (g1 _ _ _ (g0 _ _ _ (no2 (by omega)))))
      rw [decide_eq_false h3]
      repeat (first | with_reducible refine gs_tf ?_ | with_reducible refine gs_ft ?_ | with_reducible refine gs_u ?_ | with_reducible refine pick_ti ?_ | with_reducible refine pick_fi ?_ | with_reducible refine ⟨gs_tf ⟨rfl, rfl⟩, ?_⟩ | with_reducible refine ⟨gs_ft ⟨rfl, rfl⟩, ?_⟩ | with_reducible refine ⟨gs_u ⟨rfl, rfl⟩, ?_⟩ | with_reducible refine gs_t ?_ | with_reducible refine gs_f ?_ | with_reducible refine off_i ?_ | with_reducible refine cndT ?_ | with_reducible refine cndF ?_)
      refine idxA_i hlt ?_
      repeat (first | with_reducible refine gs_tf ?_ | with_reducible refine gs_ft ?_ | with_reducible refine gs_u ?_ | with_reducible refine pick_ti ?_ | with_reducible refine pick_fi ?_ | with_reducible refine ⟨gs_tf ⟨rfl, rfl⟩, ?_⟩ | with_reducible refine ⟨gs_ft ⟨rfl, rfl⟩, ?_⟩ | with_reducible refine ⟨gs_u ⟨rfl, rfl⟩, ?_⟩ | with_reducible refine gs_t ?_ | with_reducible refine gs_f ?_ | with_reducible refine off_i ?_ | with_reducible refine cndT ?_ | with_reducible refine cndF ?_)
      refine s.load1 0 rfl (lv_cell hlt) ?_
      repeat (first | with_reducible refine gs_tf ?_ | with_reducible refine gs_ft ?_ | with_reducible refine gs_u ?_ | with_reducible refine pick_ti ?_ | with_reducible refine pick_fi ?_ | with_reducible refine ⟨gs_tf ⟨rfl, rfl⟩, ?_⟩ | with_reducible refine ⟨gs_ft ⟨rfl, rfl⟩, ?_⟩ | with_reducible refine ⟨gs_u ⟨rfl, rfl⟩, ?_⟩ | with_reducible refine gs_t ?_ | with_reducible refine gs_f ?_ | with_reducible refine off_i ?_ | with_reducible refine cndT ?_ | with_reducible refine cndF ?_)
      refine s.load1 (v := iv l.base) 0 rfl rfl ?_
      repeat (first | with_reducible refine gs_tf ?_ | with_reducible refine gs_ft ?_ | with_reducible refine gs_u ?_ | with_reducible refine pick_ti ?_ | with_reducible refine pick_fi ?_ | with_reducible refine ⟨gs_tf ⟨rfl, rfl⟩, ?_⟩ | with_reducible refine ⟨gs_ft ⟨rfl, rfl⟩, ?_⟩ | with_reducible refine ⟨gs_u ⟨rfl, rfl⟩, ?_⟩ | with_reducible refine gs_t ?_ | with_reducible refine gs_f ?_ | with_reducible refine off_i ?_ | with_reducible refine cndT ?_ | with_reducible refine cndF ?_)
      rw [igtr]
      repeat (first | with_reducible refine gs_tf ?_ | with_reducible refine gs_ft ?_ | with_reducible refine gs_u ?_ | with_reducible refine pick_ti ?_ | with_reducible refine pick_fi ?_ | with_reducible refine ⟨gs_tf ⟨rfl, rfl⟩, ?_⟩ | with_reducible refine ⟨gs_ft ⟨rfl, rfl⟩, ?_⟩ | with_reducible refine ⟨gs_u ⟨rfl, rfl⟩, ?_⟩ | with_reducible refine gs_t ?_ | with_reducible refine gs_f ?_ | with_reducible refine off_i ?_ | with_reducible refine cndT ?_ | with_reducible refine cndF ?_)
      refine cond_d (fun h4 => ?_) (fun h4 => ?_)
      · exact hX _ _ _ (by simp) (g2 _ _ _ (g1 _ _ _ (g0 _ _ _ (no2 (by omega)))))
      · refine nadd (y := 1) (by omega) ?_
        exact hJ (4 - (i + 1)) _ _ (by omega) ⟨i + 1, rfl, by omega, by rw [ht]; simp; omega, f1, rfl, s⟩
    · obtain rfl : i = 4 := by omega
      refine hX _ _ _ (by simp) (g2 _ _ _ (blk_x (seq_n g1 ?_)))
      have e : l.ps.all (fun n => decide (-1 ≤ n ∧ n ≤ l.base)) = true := ha
      have := hK wr s.ext
      rw [lvR_ps, e, decide_eq_true (show 0 ≤ l.base ∧ l.base ≤ 100 by omega)] at this
      exact this
theorem rlwidth_c {w : World} {K : VPost} {l : Lv} (hK : ∀ w', Ext [] w w' → K (.int .i64 (lvW l)) w') : Calls Tryd.prog 74 #[.agg l.cells.toArray] w (retK K) := by
  refine c74_calls _ w K ?_
  unfold c74
  refine (Sep.nil w).box fun b w1 s _ => ?_
  have s : Sep [] w w1 (rB b l.cells 48 :: []) [] := s
  refine bindX_i fun J0 g0 => bindX_i fun J1 g1 => bindX_i fun J2 g2 => ?_
  refine loop_i (fun m fr wr => ∃ i : Nat, m = 4 - i ∧ i ≤ 4 ∧ fr 1 = .pointer (some ⟨b, 0, none⟩) ∧ fr 3 = .int .i64 (lvWi l i) ∧ fr 4 = .int .i64 i ∧ wr = w1) 4 ?_ ?_
  · exact ⟨0, rfl, by omega, rfl, rfl, rfl, rfl⟩
  · rintro m fr wr J ⟨i, rfl, hi, f1, f3, f4, rfl⟩ hJ hX
    rw [f1, f4]
    refine nlss (y := 4) (cond_d (fun hlt => ?_) (fun hlt => ?_))
    · refine bindX_i fun J3 g3 => bindX_i fun J4 g4 => ?_
      refine off_i ?_
      refine idxA_i hlt ?_
      refine s.load1 0 rfl (lv_cell hlt) ?_
      have hl : i < l.ps.length := hlt
      have hg : l.ps.getD i (-1) = l.ps[i] := by rw [List.getD_eq_getElem?_getD, List.getElem?_eq_getElem hl]; rfl
      rw [igeq]
      refine cond_d (fun h1 => ?_) (fun h1 => ?_)
      · refine nadd (y := 1) (by omega) ?_
        refine seq_n g3 ?_
        show binN _ _ _ _ (fr 4) _ _ _
        rw [f4]
        refine nadd (y := 1) (by omega) ?_
        refine hJ (4 - (i + 1)) _ _ (by omega) ⟨i + 1, rfl, by omega, f1, ?_, rfl, rfl⟩
        show Value.int .i64 _ = Value.int .i64 _
        rw [lvWi, hg, if_pos (by omega)]
        rfl
      · refine seq_n g3 ?_
        show binN _ _ _ _ (fr 4) _ _ _
        rw [f4]
        refine nadd (y := 1) (by omega) ?_
        refine hJ (4 - (i + 1)) _ _ (by omega) ⟨i + 1, rfl, by omega, f1, ?_, rfl, rfl⟩
        show fr 3 = Value.int .i64 _
        rw [lvWi, hg, if_neg (by omega)]
        exact f3
    · obtain rfl : i = 4 := by omega
      refine hX _ _ _ (by simp) (g2 _ _ _ (blk_x (seq_n g1 ?_)))
      show K (fr 3) _
      rw [f3, lvWi_4]
      exact hK wr s.ext
theorem binds_c {w : World} {K : VPost} {k : Int} {i : Nat} (hK : K (.bool (decide (bndA k i = 1))) w) : Calls Tryd.prog 75 #[.int .i64 k, .int .i64 i] w (retK K) := by
  refine c75_calls _ _ w K ?_
  unfold c75
  have hR : ∀ r : Bool, (bndA k i = 1 ↔ r = true) → K (.bool r) w := fun r h => by
    rwa [show decide (bndA k i = 1) = r from by rw [Bool.eq_iff_iff, decide_eq_true_iff]; exact h] at hK
  have hb : bndA k i = 1 ↔ ((k = 6 ∨ k = 7) ∧ i = 1 ∨ k = 8 ∧ i = 2) := by
    unfold bndA
    split
    · rename_i h; simp [h]
    · rename_i h; simp [h]
  rw [hb] at hR
  rw [ieql]
  have last : ∀ a : Bool, (a = true ↔ ((k = 6 ∨ k = 7) ∧ i = 1)) → gstep (.bool a) false w (fun K => K (Value.int .i64 k) w) fun t16_14 w15 =>
      gstep (.bool a) false w15 (fun K => binN Tryd.prog .eql 3 true t16_14 (.int .i64 8) w15 K) fun t17_16 w17 =>
      gstep (.bool a) false w17 (fun K => K t17_16 w17) fun t18_18 w19 =>
      gstep t18_18 true w19 (fun K => K (Value.int .i64 i) w19) fun t19_20 w21 =>
      gstep t18_18 true w21 (fun K => binN Tryd.prog .eql 3 true t19_20 (.int .i64 2) w21 K) fun t20_22 w23 =>
      gstep (.bool a) false w23 (fun K => pickW t18_18 t20_22 (.bool false) w23 K) fun t21_24 w25 =>
      pickW (.bool a) (.bool true) t21_24 w25 fun t22_26 w27 => K t22_26 w27 := by
    intro a ha
    cases a with
    | true =>
      repeat (first | with_reducible refine gs_tf ?_ | with_reducible refine gs_ft ?_ | with_reducible refine gs_u ?_ | with_reducible refine pick_ti ?_ | with_reducible refine pick_fi ?_ | with_reducible refine ⟨gs_tf ⟨rfl, rfl⟩, ?_⟩ | with_reducible refine ⟨gs_ft ⟨rfl, rfl⟩, ?_⟩ | with_reducible refine ⟨gs_u ⟨rfl, rfl⟩, ?_⟩ | with_reducible refine gs_t ?_ | with_reducible refine gs_f ?_ | with_reducible refine off_i ?_ | with_reducible refine cndT ?_ | with_reducible refine cndF ?_)
      exact hR true (by simp [ha.1 rfl])
    | false =>
      have hn : ¬ ((k = 6 ∨ k = 7) ∧ i = 1) := fun h => by have := ha.2 h; cases this
      repeat (first | with_reducible refine gs_tf ?_ | with_reducible refine gs_ft ?_ | with_reducible refine gs_u ?_ | with_reducible refine pick_ti ?_ | with_reducible refine pick_fi ?_ | with_reducible refine ⟨gs_tf ⟨rfl, rfl⟩, ?_⟩ | with_reducible refine ⟨gs_ft ⟨rfl, rfl⟩, ?_⟩ | with_reducible refine ⟨gs_u ⟨rfl, rfl⟩, ?_⟩ | with_reducible refine gs_t ?_ | with_reducible refine gs_f ?_ | with_reducible refine off_i ?_ | with_reducible refine cndT ?_ | with_reducible refine cndF ?_)
      rw [ieql]
      by_cases h8 : k = 8
      · rw [decide_eq_true h8]
        repeat (first | with_reducible refine gs_tf ?_ | with_reducible refine gs_ft ?_ | with_reducible refine gs_u ?_ | with_reducible refine pick_ti ?_ | with_reducible refine pick_fi ?_ | with_reducible refine ⟨gs_tf ⟨rfl, rfl⟩, ?_⟩ | with_reducible refine ⟨gs_ft ⟨rfl, rfl⟩, ?_⟩ | with_reducible refine ⟨gs_u ⟨rfl, rfl⟩, ?_⟩ | with_reducible refine gs_t ?_ | with_reducible refine gs_f ?_ | with_reducible refine off_i ?_ | with_reducible refine cndT ?_ | with_reducible refine cndF ?_)
        refine neql (y := 2) ?_
        repeat (first | with_reducible refine gs_tf ?_ | with_reducible refine gs_ft ?_ | with_reducible refine gs_u ?_ | with_reducible refine pick_ti ?_ | with_reducible refine pick_fi ?_ | with_reducible refine ⟨gs_tf ⟨rfl, rfl⟩, ?_⟩ | with_reducible refine ⟨gs_ft ⟨rfl, rfl⟩, ?_⟩ | with_reducible refine ⟨gs_u ⟨rfl, rfl⟩, ?_⟩ | with_reducible refine gs_t ?_ | with_reducible refine gs_f ?_ | with_reducible refine off_i ?_ | with_reducible refine cndT ?_ | with_reducible refine cndF ?_)
        refine hR _ ?_
        rw [decide_eq_true_iff]
        constructor
        · rintro (h | h)
          · exact absurd h hn
          · exact h.2
        · exact fun h => .inr ⟨h8, h⟩
      · rw [decide_eq_false h8]
        repeat (first | with_reducible refine gs_tf ?_ | with_reducible refine gs_ft ?_ | with_reducible refine gs_u ?_ | with_reducible refine pick_ti ?_ | with_reducible refine pick_fi ?_ | with_reducible refine ⟨gs_tf ⟨rfl, rfl⟩, ?_⟩ | with_reducible refine ⟨gs_ft ⟨rfl, rfl⟩, ?_⟩ | with_reducible refine ⟨gs_u ⟨rfl, rfl⟩, ?_⟩ | with_reducible refine gs_t ?_ | with_reducible refine gs_f ?_ | with_reducible refine off_i ?_ | with_reducible refine cndT ?_ | with_reducible refine cndF ?_)
        refine hR false ?_
        simp [h8]
        exact fun h1 h2 => hn ⟨h1, h2⟩
  by_cases h6 : k = 6
  · rw [decide_eq_true h6]
    repeat (first | with_reducible refine gs_tf ?_ | with_reducible refine gs_ft ?_ | with_reducible refine gs_u ?_ | with_reducible refine pick_ti ?_ | with_reducible refine pick_fi ?_ | with_reducible refine ⟨gs_tf ⟨rfl, rfl⟩, ?_⟩ | with_reducible refine ⟨gs_ft ⟨rfl, rfl⟩, ?_⟩ | with_reducible refine ⟨gs_u ⟨rfl, rfl⟩, ?_⟩ | with_reducible refine gs_t ?_ | with_reducible refine gs_f ?_ | with_reducible refine off_i ?_ | with_reducible refine cndT ?_ | with_reducible refine cndF ?_)
    refine neql (y := 1) ?_
    repeat (first | with_reducible refine gs_tf ?_ | with_reducible refine gs_ft ?_ | with_reducible refine gs_u ?_ | with_reducible refine pick_ti ?_ | with_reducible refine pick_fi ?_ | with_reducible refine ⟨gs_tf ⟨rfl, rfl⟩, ?_⟩ | with_reducible refine ⟨gs_ft ⟨rfl, rfl⟩, ?_⟩ | with_reducible refine ⟨gs_u ⟨rfl, rfl⟩, ?_⟩ | with_reducible refine gs_t ?_ | with_reducible refine gs_f ?_ | with_reducible refine off_i ?_ | with_reducible refine cndT ?_ | with_reducible refine cndF ?_)
    exact last _ (by simp [h6])
  · rw [decide_eq_false h6]
    repeat (first | with_reducible refine gs_tf ?_ | with_reducible refine gs_ft ?_ | with_reducible refine gs_u ?_ | with_reducible refine pick_ti ?_ | with_reducible refine pick_fi ?_ | with_reducible refine ⟨gs_tf ⟨rfl, rfl⟩, ?_⟩ | with_reducible refine ⟨gs_ft ⟨rfl, rfl⟩, ?_⟩ | with_reducible refine ⟨gs_u ⟨rfl, rfl⟩, ?_⟩ | with_reducible refine gs_t ?_ | with_reducible refine gs_f ?_ | with_reducible refine off_i ?_ | with_reducible refine cndT ?_ | with_reducible refine cndF ?_)
    rw [ieql]
    by_cases h7 : k = 7
    · rw [decide_eq_true h7]
      repeat (first | with_reducible refine gs_tf ?_ | with_reducible refine gs_ft ?_ | with_reducible refine gs_u ?_ | with_reducible refine pick_ti ?_ | with_reducible refine pick_fi ?_ | with_reducible refine ⟨gs_tf ⟨rfl, rfl⟩, ?_⟩ | with_reducible refine ⟨gs_ft ⟨rfl, rfl⟩, ?_⟩ | with_reducible refine ⟨gs_u ⟨rfl, rfl⟩, ?_⟩ | with_reducible refine gs_t ?_ | with_reducible refine gs_f ?_ | with_reducible refine off_i ?_ | with_reducible refine cndT ?_ | with_reducible refine cndF ?_)
      refine neql (y := 1) ?_
      repeat (first | with_reducible refine gs_tf ?_ | with_reducible refine gs_ft ?_ | with_reducible refine gs_u ?_ | with_reducible refine pick_ti ?_ | with_reducible refine pick_fi ?_ | with_reducible refine ⟨gs_tf ⟨rfl, rfl⟩, ?_⟩ | with_reducible refine ⟨gs_ft ⟨rfl, rfl⟩, ?_⟩ | with_reducible refine ⟨gs_u ⟨rfl, rfl⟩, ?_⟩ | with_reducible refine gs_t ?_ | with_reducible refine gs_f ?_ | with_reducible refine off_i ?_ | with_reducible refine cndT ?_ | with_reducible refine cndF ?_)
      exact last _ (by simp [h7])
    · rw [decide_eq_false h7]
      repeat (first | with_reducible refine gs_tf ?_ | with_reducible refine gs_ft ?_ | with_reducible refine gs_u ?_ | with_reducible refine pick_ti ?_ | with_reducible refine pick_fi ?_ | with_reducible refine ⟨gs_tf ⟨rfl, rfl⟩, ?_⟩ | with_reducible refine ⟨gs_ft ⟨rfl, rfl⟩, ?_⟩ | with_reducible refine ⟨gs_u ⟨rfl, rfl⟩, ?_⟩ | with_reducible refine gs_t ?_ | with_reducible refine gs_f ?_ | with_reducible refine off_i ?_ | with_reducible refine cndT ?_ | with_reducible refine cndF ?_)
      exact last false (by simp [h6, h7])
def shpL (k : Int) : Int := if k = 3 then 1 else if k = 4 then -1 else 0
theorem shape_c {w : World} {K : VPost} {k : Int} (hK : K (.tuple #[iv (argsN k : Nat), iv (shpL k)]) w) : Calls Tryd.prog 72 #[.int .i64 k] w (retK K) := by
  refine c72_calls _ w K ?_
  unfold c72
  have hR : ∀ a b : Int, (argsN k : Nat) = a → shpL k = b → K (.tuple #[.int .i64 a, .int .i64 b]) w := by
    rintro a b rfl rfl
    exact hK
  unfold argsN shpL at hR
  refine bindX_i fun J0 g0 => bindX_i fun J1 g1 => bindX_i fun J2 g2 => ?_
  rw [ieql]
  refine cond_d (fun h3 => ?_) (fun h3 => ?_)
  · exact hR _ _ (by subst h3; rfl) (by rw [if_pos h3])
  rw [if_neg h3] at hR
  rw [ieql]
  refine cond_d (fun h4 => ?_) (fun h4 => ?_)
  · exact hR _ _ (by subst h4; rfl) (by rw [if_pos h4])
  rw [if_neg h4] at hR
  refine bindX_i fun J3 g3 => ?_
  rw [ieql]
  refine cond_d (fun h5 => ?_) (fun h5 => ?_)
  · refine seq_n g3 ?_
    rw [decide_eq_true h5]
    exact cndT (hR _ _ (by rw [if_pos (.inl h5)]; rfl) rfl)
  rw [ieql]
  refine cond_d (fun h6 => ?_) (fun h6 => ?_)
  · refine seq_n g3 ?_
    show condW (.bool (decide (k = 6))) _ _
    rw [decide_eq_true h6]
    exact cndT (hR _ _ (by rw [if_pos (.inr (.inl h6))]; rfl) rfl)
  rw [ieql]
  refine seq_n g3 ?_
  show condW (.bool (decide (k = 7))) _ _
  refine cond_d (fun h7 => ?_) (fun h7 => ?_)
  · exact hR _ _ (by rw [if_pos (.inr (.inr h7))]; rfl) rfl
  rw [if_neg (by omega)] at hR
  show binN _ _ _ _ (Value.int .i64 k) _ _ _
  rw [ieql]
  refine cond_d (fun h8 => ?_) (fun h8 => ?_)
  · exact hR _ _ (by rw [if_pos h8]; rfl) rfl
  show binN _ _ _ _ (Value.int .i64 k) _ _ _
  rw [ieql]
  refine cond_d (fun h9 => ?_) (fun h9 => ?_)
  · exact hR _ _ (by rw [if_neg h8, if_pos h9]; rfl) rfl
  refine seq_n g1 ?_
  exact hR _ _ (by rw [if_neg h8, if_neg h9]; rfl) rfl

/-! Texts. -/
abbrev svs (ss : List Bytes) : List Value := ss.map sv
theorem svs_get {ss : List Bytes} {i : Nat} (hi : i < ss.length) : ((svs ss).drop (i * 1)).take 1 = [sv ss[i]] := by
  rw [Nat.mul_one, List.drop_eq_getElem_cons (by simpa using hi)]
  simp
theorem RdSl.text {w : World} {x : Value} {ss : List Bytes} (h : RdSl w x 1 (svs ss) ss.length) {i : Nat} (hi : i < ss.length) (kk : IntKind) :
    ∃ b o, (∀ K : VPost, K (.pointer (some ⟨b, o, none⟩)) w → idxW (some (none, 1)) x (.int kk i) w K) ∧ (∀ K : VPost, K (sv ss[i]) w → loadW (some (false, 1)) (.pointer (some ⟨b, o, none⟩)) w K) := by
  obtain ⟨b, o, cs, q1, q2, q3, q4⟩ := h.elem hi (by decide) kk
  rw [svs_get hi] at q4
  refine ⟨b, o, q1, fun K hK => load1 q2 ?_ hK⟩
  have := congrArg (·[0]?) q4
  simpa using this
theorem und_texts : Tryd.prog.underlying 52 = some (.slice 9) := by kernel_rfl
theorem ty_text : tyI Tryd.prog 9 = some (sv [], 1, 16) := by kernel_rfl
abbrev rOX (v : Value) (ss : List Bytes) : Res := rO v 9 1 (svs ss) ss.length
section
variable {S : List Nat} {w0 w : World} {L R : List Res} {K : VPost}
theorem Sep.litX (s : Sep S w0 w L R) (ss : List Bytes) {parts : Array (Nat × Value)} {n : Nat} (hp : parts = (enumV 0 (svs ss)).toArray) (hn : n = ss.length) (hl : ss.length ≤ 1000) (h : ∀ v' w', Sep S w0 w' (rOX v' ss :: L) R → K v' w') : insW Tryd.prog (Instr.buildSlice 52 n parts) w K := by
  subst hp hn
  obtain ⟨ti, hti, htz, hts, htb⟩ := tyI_spec ty_text
  have hf : ∀ ss : List Bytes, flatV (svs ss) = svs ss := by
    intro ss
    induction ss with
    | nil => rfl
    | cons t r ih =>
      have e : flatV (svs (t :: r)) = sv t :: flatV (svs r) := by simp [flatV, sv, Value.cells]
      rw [e, ih]; rfl
  have := s.lit (K := K) (vs := svs ss) und_texts hti htz rfl (by
    intro y hy
    obtain ⟨t, _, rfl⟩ := List.mem_map.1 hy
    rw [hts]
    rfl) (by rw [hts, List.length_map]; omega) (fun t w1 s1 _ _ => by
    rw [hts, hf, List.length_map] at s1
    exact h t w1 s1)
  rw [List.length_map] at this
  exact this
theorem Sep.apX {v x : Value} {ss us : List Bytes} (s : Sep S w0 w L R) (i : Nat) (hL : L[i]? = some (rOX v ss)) (hx : RdSl w x 1 (svs us) us.length) (hn : ss.length + us.length ≤ 10000000)
    (h : ∀ v' w', Sep S w0 w' (L.set i (rOX v' (ss ++ us))) R → K v' w') : insW Tryd.prog (Builtin.append_ #[52, 52] 52 #[v, x]) w K := by
  obtain ⟨ti, hti, htz, hts, htb⟩ := tyI_spec ty_text
  refine s.appendO (v := v) (n := ss.length) (m := us.length) (ys := svs us) (xs := svs ss) i (by rw [hts]; exact hL) und_texts und_texts hti htz (by rw [hts]; rfl) (by rw [htb]; decide) (by rw [hts]; exact hx) (fun y hy => by
    obtain ⟨u, _, rfl⟩ := List.mem_map.1 hy
    rfl) (by rw [htb]; omega) fun v' w' s => ?_
  have e : svs ss ++ svs us = svs (ss ++ us) := by simp [svs]
  rw [hts, e, ← List.length_append] at s
  exact h v' w' s
end
theorem sameTexts_c {w : World} {K : VPost} {x y : Value} {ps qs : List Bytes} (hx : RdSl w x 1 (svs ps) ps.length) (hy : RdSl w y 1 (svs qs) qs.length) (hn : ps.length < 2 ^ 50) (hK : ∀ w', Ext [] w w' → K (.bool (decide (ps = qs))) w') : Calls Tryd.prog 30 #[x, y] w (retK K) := by
  refine c30_calls _ _ w K ?_
  unfold c30
  have no : ∀ w', Ext [] w w' → ps ≠ qs → K (.bool false) w' := fun w' e h => by
    have := hK w' e
    rwa [decide_eq_false h] at this
  rw [hx.lenw, hy.lenw]
  refine nneq (cond_d (fun hne => ?_) (fun hne => ?_))
  · exact no _ (Ext.refl _ _) fun h => hne (by rw [h])
  have hle : ps.length = qs.length := by omega
  refine bindX_i fun J0 g0 => bindX_i fun J1 g1 => bindX_i fun J2 g2 => ?_
  refine loop_i (fun m fr wr => ∃ i : Nat, m = ps.length - i ∧ i ≤ ps.length ∧ ps.take i = qs.take i ∧ fr 0 = x ∧ fr 1 = y ∧ fr 5 = .int .i64 i ∧ Ext [] w wr) ps.length ?_ ?_
  · exact ⟨0, rfl, by omega, rfl, rfl, rfl, rfl, Ext.refl _ _⟩
  · rintro m fr wr J ⟨i, rfl, hi, ht, f0, f1, f5, e1⟩ hJ hX
    rw [f0, f1, f5, hx.lenw]
    refine nlss (cond_d (fun hlt => ?_) (fun hlt => ?_))
    · have e2 := e1.new (Ext.drew [] wr)
      generalize wr.drew = wr at *
      obtain ⟨b1, o1, hix1, hld1⟩ := (hx.keep e2 (by simp)).text hlt .i64
      obtain ⟨b2, o2, hix2, hld2⟩ := (hy.keep e2 (by simp)).text (show i < qs.length by omega) .i64
      refine hix1 _ ?_
      refine hld1 _ ?_
      refine hix2 _ ?_
      refine hld2 _ ?_
      refine str_neq ⟨rfl, ?_⟩
      by_cases he : ps[i] = qs[i]
      · rw [decide_eq_true he]
        refine cndF ?_
        refine nadd (y := 1) (by omega) ?_
        refine hJ (ps.length - (i + 1)) _ _ (by omega) ⟨i + 1, rfl, by omega, ?_, f0, f1, rfl, e2⟩
        rw [List.take_succ_eq_append_getElem hlt, List.take_succ_eq_append_getElem (show i < qs.length by omega), ht, he]
      · rw [decide_eq_false he]
        refine cndT ?_
        refine hX _ _ _ (by simp) (g2 _ _ _ (g1 _ _ _ (g0 _ _ _ (no _ e2 fun h => he ?_))))
        subst h; rfl
    · obtain rfl : i = ps.length := by omega
      refine hX _ _ _ (by simp) (g2 _ _ _ (blk_x (seq_n g1 ?_)))
      rw [List.take_length, hle, List.take_length] at ht
      have := hK wr e1
      rwa [decide_eq_true ht] at this
end Go.Proofs.YtbaddpnlokmldaaDoor
