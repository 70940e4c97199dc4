/- Kinds' forms, nodes' numbers and levels: walks. -/
import Derived.Test.YtbaddpnlokmldaaDoorIA
namespace Go.Proofs.YtbaddpnlokmldaaDoor
open Go
set_option maxRecDepth 100000

def levN (k : Int) : Nat := if k = 3 then 1 else if k = 4 then 4 else 0
def bndN (k : Int) : Int := if k = 6 ∨ k = 7 then 1 else if k = 8 then 2 else -1
abbrev formC (a b c : Int) : List Value := [iv a, iv b, iv c]
def formsC : List Value := formC 0 0 0 ++ formC 0 0 (-1) ++ formC 0 0 (-1) ++ formC 0 1 (-1) ++ formC 0 4 (-1) ++ formC 2 0 (-1) ++ formC 2 0 1 ++ formC 2 0 1 ++ formC 3 0 2 ++ formC 1 0 (-1)
theorem str_form : strI Tryd.prog 77 = some ([(0, 1), (1, 1), (2, 1)], formC 0 0 0) := by kernel_rfl
theorem fill_form (a b c : Int) : fillL [(0, 1), (1, 1), (2, 1)] (formC 0 0 0) [(0, iv a), (1, iv b), (2, iv c)] = some (formC a b c) := by
  have h1 : ∀ n : Int, (iv n).cells = #[iv n] := fun _ => rfl
  simp [fillL, h1, lspl]
theorem zero_forms : zeroO Tryd.prog 78 = some (.agg (formC 0 0 0 ++ formC 0 0 0 ++ formC 0 0 0 ++ formC 0 0 0 ++ formC 0 0 0 ++ formC 0 0 0 ++ formC 0 0 0 ++ formC 0 0 0 ++ formC 0 0 0 ++ formC 0 0 0).toArray) := by kernel_rfl
theorem form_i {w : World} {K : VPost} {a b c : Int} (h : K (.agg (formC a b c).toArray) w) : insW Tryd.prog (Instr.build 77 #[(0, .int .i64 a), (1, .int .i64 b), (2, .int .i64 c)]) w K := build_i str_form (fill_form a b c) h
theorem run_forms (w : World) : (Instr.build 78 #[(1, .agg (formC 0 0 (-1)).toArray), (2, .agg (formC 0 0 (-1)).toArray), (3, .agg (formC 0 1 (-1)).toArray), (4, .agg (formC 0 4 (-1)).toArray), (5, .agg (formC 2 0 (-1)).toArray), (6, .agg (formC 2 0 1).toArray), (7, .agg (formC 2 0 1).toArray), (8, .agg (formC 3 0 2).toArray), (9, .agg (formC 1 0 (-1)).toArray)]).run Tryd.prog w = .ok (.agg formsC.toArray) w := by kernel_rfl
theorem forms_c {w : World} {K : VPost} (hK : ∀ w', Ext [] w w' → K (.agg formsC.toArray) w') : Calls Tryd.prog 56 #[] w (retK K) := by
  refine cForms_calls w K ?_
  unfold cForms
  refine (Sep.nil w).alloc zero_forms rfl fun b w1 s _ => ?_
  iterate 9 refine form_i ?_
  refine insW_ok (run_forms w1) ?_
  refine s.storeAll 0 rfl rfl rfl (by decide) fun w2 s _ => ?_
  refine s.loadAll 0 rfl rfl ?_
  exact hK w2 s.ext
theorem form_ix {w : World} {K : VPost} {k : Int} (h1 : 1 ≤ k) (h9 : k ≤ 9) (h : K (.agg (formC (argsN k) (levN k) (bndN k)).toArray) w) : ixvW (.arr 10 true 3) (.agg formsC.toArray) (.int .i64 k) w K := by
  refine ⟨by omega, by omega, ?_⟩
  have hk : k = 1 ∨ k = 2 ∨ k = 3 ∨ k = 4 ∨ k = 5 ∨ k = 6 ∨ k = 7 ∨ k = 8 ∨ k = 9 := by omega
  rcases hk with rfl | rfl | rfl | rfl | rfl | rfl | rfl | rfl | rfl <;> exact h
theorem fld_form {w : World} {K : VPost} {a b c : Int} {o : Nat} {v : Value} (hv : (formC a b c)[o]? = some v) (h : K v w) : fldW (some (false, o, 1)) (.agg (formC a b c).toArray) w K := ⟨v, by simpa using hv, h⟩

theorem deeper_c {w : World} {K : VPost} {k : Int} {i : Nat} (hK : ∀ w', Ext [] w w' → K (.int .i64 (bndA k i : Nat)) w') : Calls Tryd.prog 59 #[.int .i64 k, .int .i64 i] w (retK K) := by
  refine c59_calls _ _ w K ?_
  unfold c59
  rw [igeq]
  have no : ∀ w', Ext [] w w' → bndA k i = 0 → K (.int .i64 0) w' := fun w' e h => by
    have := hK w' e
    rwa [h] at this
  by_cases h1 : 1 ≤ k
  · rw [decide_eq_true h1]
    repeat (first | with_reducible refine gs_tf ?_ | with_reducible refine gs_ft ?_ | with_reducible refine gs_u ?_ | with_reducible refine pick_ti ?_ | with_reducible refine pick_fi ?_ | with_reducible refine ⟨gs_tf ⟨rfl, rfl⟩, ?_⟩ | with_reducible refine ⟨gs_ft ⟨rfl, rfl⟩, ?_⟩ | with_reducible refine ⟨gs_u ⟨rfl, rfl⟩, ?_⟩ | with_reducible refine gs_t ?_ | with_reducible refine gs_f ?_ | with_reducible refine off_i ?_ | with_reducible refine cndT ?_ | with_reducible refine cndF ?_)
    rw [ileq]
    by_cases h9 : k ≤ 9
    · rw [decide_eq_true h9]
      repeat (first | with_reducible refine gs_tf ?_ | with_reducible refine gs_ft ?_ | with_reducible refine gs_u ?_ | with_reducible refine pick_ti ?_ | with_reducible refine pick_fi ?_ | with_reducible refine ⟨gs_tf ⟨rfl, rfl⟩, ?_⟩ | with_reducible refine ⟨gs_ft ⟨rfl, rfl⟩, ?_⟩ | with_reducible refine ⟨gs_u ⟨rfl, rfl⟩, ?_⟩ | with_reducible refine gs_t ?_ | with_reducible refine gs_f ?_ | with_reducible refine off_i ?_ | with_reducible refine cndT ?_ | with_reducible refine cndF ?_)
      refine fnW_of (by kernel_rfl) (forms_c fun w1 e1 => ?_)
      repeat (first | with_reducible refine gs_tf ?_ | with_reducible refine gs_ft ?_ | with_reducible refine gs_u ?_ | with_reducible refine pick_ti ?_ | with_reducible refine pick_fi ?_ | with_reducible refine ⟨gs_tf ⟨rfl, rfl⟩, ?_⟩ | with_reducible refine ⟨gs_ft ⟨rfl, rfl⟩, ?_⟩ | with_reducible refine ⟨gs_u ⟨rfl, rfl⟩, ?_⟩ | with_reducible refine gs_t ?_ | with_reducible refine gs_f ?_ | with_reducible refine off_i ?_ | with_reducible refine cndT ?_ | with_reducible refine cndF ?_)
      refine form_ix h1 h9 ?_
      repeat (first | with_reducible refine gs_tf ?_ | with_reducible refine gs_ft ?_ | with_reducible refine gs_u ?_ | with_reducible refine pick_ti ?_ | with_reducible refine pick_fi ?_ | with_reducible refine ⟨gs_tf ⟨rfl, rfl⟩, ?_⟩ | with_reducible refine ⟨gs_ft ⟨rfl, rfl⟩, ?_⟩ | with_reducible refine ⟨gs_u ⟨rfl, rfl⟩, ?_⟩ | with_reducible refine gs_t ?_ | with_reducible refine gs_f ?_ | with_reducible refine off_i ?_ | with_reducible refine cndT ?_ | with_reducible refine cndF ?_)
      refine fld_form (v := iv (bndN k)) rfl ?_
      repeat (first | with_reducible refine gs_tf ?_ | with_reducible refine gs_ft ?_ | with_reducible refine gs_u ?_ | with_reducible refine pick_ti ?_ | with_reducible refine pick_fi ?_ | with_reducible refine ⟨gs_tf ⟨rfl, rfl⟩, ?_⟩ | with_reducible refine ⟨gs_ft ⟨rfl, rfl⟩, ?_⟩ | with_reducible refine ⟨gs_u ⟨rfl, rfl⟩, ?_⟩ | with_reducible refine gs_t ?_ | with_reducible refine gs_f ?_ | with_reducible refine off_i ?_ | with_reducible refine cndT ?_ | with_reducible refine cndF ?_)
      rw [ieql]
      refine pick_ti ?_
      refine cond_d (fun h => ?_) (fun h => ?_)
      · have := hK w1 e1
        have hb : bndA k i = 1 := by
          unfold bndA bndN at *
          split at h
          · rw [if_pos (.inl ⟨by assumption, by omega⟩)]
          · split at h
            · rw [if_pos (.inr ⟨by assumption, by omega⟩)]
            · omega
        rwa [hb] at this
      · refine no w1 e1 ?_
        unfold bndA bndN at *
        rw [if_neg]
        rintro (⟨h2, h3⟩ | ⟨h2, h3⟩)
        · rw [if_pos h2] at h; omega
        · rw [if_neg (by omega), if_pos h2] at h; omega
    · rw [decide_eq_false h9]
      repeat (first | with_reducible refine gs_tf ?_ | with_reducible refine gs_ft ?_ | with_reducible refine gs_u ?_ | with_reducible refine pick_ti ?_ | with_reducible refine pick_fi ?_ | with_reducible refine ⟨gs_tf ⟨rfl, rfl⟩, ?_⟩ | with_reducible refine ⟨gs_ft ⟨rfl, rfl⟩, ?_⟩ | with_reducible refine ⟨gs_u ⟨rfl, rfl⟩, ?_⟩ | with_reducible refine gs_t ?_ | with_reducible refine gs_f ?_ | with_reducible refine off_i ?_ | with_reducible refine cndT ?_ | with_reducible refine cndF ?_)
      refine no w (Ext.refl _ _) ?_
      unfold bndA
      rw [if_neg (by omega)]
  · rw [decide_eq_false h1]
    repeat (first | with_reducible refine gs_tf ?_ | with_reducible refine gs_ft ?_ | with_reducible refine gs_u ?_ | with_reducible refine pick_ti ?_ | with_reducible refine pick_fi ?_ | with_reducible refine ⟨gs_tf ⟨rfl, rfl⟩, ?_⟩ | with_reducible refine ⟨gs_ft ⟨rfl, rfl⟩, ?_⟩ | with_reducible refine ⟨gs_u ⟨rfl, rfl⟩, ?_⟩ | with_reducible refine gs_t ?_ | with_reducible refine gs_f ?_ | with_reducible refine off_i ?_ | with_reducible refine cndT ?_ | with_reducible refine cndF ?_)
    refine no w (Ext.refl _ _) ?_
    unfold bndA
    rw [if_neg (by omega)]

theorem str_ne_nil {P : Program} {w : World} {K : VPost} {t : TypeId} {c : Bool} {a : Bytes} (h : K (.bool (decide (a = []))) w) : binW P .eql t c (sv a) (.string ⟨#[]⟩) w K := str_eql (a := a) (b := []) h

set_option maxHeartbeats 400000 in
theorem numbered_c {w : World} {K : VPost} {t : TV} {v : Int} (h : t.ok w) (hg : GS w) (hK : ∀ w', Ext [] w w' → K (.bool (numR t.e v)) w') : Calls Tryd.prog 57 #[t.v, .int .i64 v] w (retK K) := by
  obtain ⟨k, n, nm, ls, lv, av, args⟩ := t
  refine c57_calls _ _ w K ?_
  unfold c57
  refine TV.box h fun b w1 s => ?_
  have hk := tok_iff.1 h
  have hnm : nm.length < 2 ^ 60 := hk.s
  have hR : ∀ r : Bool, numR (TV.mk k n nm ls lv av args).e v = r → ∀ w', Ext [] w w' → K (.bool r) w' := fun r h w' e => by
    have := hK w' e
    rwa [h] at this
  have hde : numR (TV.mk k n nm ls lv av args).e v = if k = 1 then decide (0 ≤ n ∧ n < v ∧ nm = []) else if k = 4 then decide (n = 0) && wordB nm else if k = 9 then decide (0 ≤ n ∧ n ≤ 31) && wordB nm else decide (n = 0 ∧ nm = []) := by
    rw [TV.e_eq]; rfl
  rw [hde] at hR
  repeat (first | with_reducible refine gs_tf ?_ | with_reducible refine gs_ft ?_ | with_reducible refine gs_u ?_ | with_reducible refine pick_ti ?_ | with_reducible refine pick_fi ?_ | with_reducible refine ⟨gs_tf ⟨rfl, rfl⟩, ?_⟩ | with_reducible refine ⟨gs_ft ⟨rfl, rfl⟩, ?_⟩ | with_reducible refine ⟨gs_u ⟨rfl, rfl⟩, ?_⟩ | with_reducible refine gs_t ?_ | with_reducible refine gs_f ?_ | with_reducible refine off_i ?_ | with_reducible refine cndT ?_ | with_reducible refine cndF ?_ | (with_reducible show loadW _ _ _ _; first | refine s.load1 0 rfl rfl ?_))
  rw [ieql]
  refine cond_d (fun h1 => ?_) (fun h1 => ?_)
  · rw [if_pos h1] at hR
    repeat (first | with_reducible refine gs_tf ?_ | with_reducible refine gs_ft ?_ | with_reducible refine gs_u ?_ | with_reducible refine pick_ti ?_ | with_reducible refine pick_fi ?_ | with_reducible refine ⟨gs_tf ⟨rfl, rfl⟩, ?_⟩ | with_reducible refine ⟨gs_ft ⟨rfl, rfl⟩, ?_⟩ | with_reducible refine ⟨gs_u ⟨rfl, rfl⟩, ?_⟩ | with_reducible refine gs_t ?_ | with_reducible refine gs_f ?_ | with_reducible refine off_i ?_ | with_reducible refine cndT ?_ | with_reducible refine cndF ?_ | (with_reducible show loadW _ _ _ _; first | refine s.load1 0 rfl rfl ?_))
    rw [igeq]
    by_cases h2 : 0 ≤ n
    · rw [decide_eq_true h2]
      repeat (first | with_reducible refine gs_tf ?_ | with_reducible refine gs_ft ?_ | with_reducible refine gs_u ?_ | with_reducible refine pick_ti ?_ | with_reducible refine pick_fi ?_ | with_reducible refine ⟨gs_tf ⟨rfl, rfl⟩, ?_⟩ | with_reducible refine ⟨gs_ft ⟨rfl, rfl⟩, ?_⟩ | with_reducible refine ⟨gs_u ⟨rfl, rfl⟩, ?_⟩ | with_reducible refine gs_t ?_ | with_reducible refine gs_f ?_ | with_reducible refine off_i ?_ | with_reducible refine cndT ?_ | with_reducible refine cndF ?_ | (with_reducible show loadW _ _ _ _; first | refine s.load1 0 rfl rfl ?_))
      rw [ilss]
      by_cases h3 : n < v
      · rw [decide_eq_true h3]
        repeat (first | with_reducible refine gs_tf ?_ | with_reducible refine gs_ft ?_ | with_reducible refine gs_u ?_ | with_reducible refine pick_ti ?_ | with_reducible refine pick_fi ?_ | with_reducible refine ⟨gs_tf ⟨rfl, rfl⟩, ?_⟩ | with_reducible refine ⟨gs_ft ⟨rfl, rfl⟩, ?_⟩ | with_reducible refine ⟨gs_u ⟨rfl, rfl⟩, ?_⟩ | with_reducible refine gs_t ?_ | with_reducible refine gs_f ?_ | with_reducible refine off_i ?_ | with_reducible refine cndT ?_ | with_reducible refine cndF ?_ | (with_reducible show loadW _ _ _ _; first | refine s.load1 0 rfl rfl ?_))
        refine str_ne_nil ?_
        repeat (first | with_reducible refine gs_tf ?_ | with_reducible refine gs_ft ?_ | with_reducible refine gs_u ?_ | with_reducible refine pick_ti ?_ | with_reducible refine pick_fi ?_ | with_reducible refine ⟨gs_tf ⟨rfl, rfl⟩, ?_⟩ | with_reducible refine ⟨gs_ft ⟨rfl, rfl⟩, ?_⟩ | with_reducible refine ⟨gs_u ⟨rfl, rfl⟩, ?_⟩ | with_reducible refine gs_t ?_ | with_reducible refine gs_f ?_ | with_reducible refine off_i ?_ | with_reducible refine cndT ?_ | with_reducible refine cndF ?_)
        exact hR _ (by simp [h2, h3]) _ s.ext
      · rw [decide_eq_false h3]
        repeat (first | with_reducible refine gs_tf ?_ | with_reducible refine gs_ft ?_ | with_reducible refine gs_u ?_ | with_reducible refine pick_ti ?_ | with_reducible refine pick_fi ?_ | with_reducible refine ⟨gs_tf ⟨rfl, rfl⟩, ?_⟩ | with_reducible refine ⟨gs_ft ⟨rfl, rfl⟩, ?_⟩ | with_reducible refine ⟨gs_u ⟨rfl, rfl⟩, ?_⟩ | with_reducible refine gs_t ?_ | with_reducible refine gs_f ?_ | with_reducible refine off_i ?_ | with_reducible refine cndT ?_ | with_reducible refine cndF ?_)
        exact hR _ (by simp [h3]) _ s.ext
    · rw [decide_eq_false h2]
      repeat (first | with_reducible refine gs_tf ?_ | with_reducible refine gs_ft ?_ | with_reducible refine gs_u ?_ | with_reducible refine pick_ti ?_ | with_reducible refine pick_fi ?_ | with_reducible refine ⟨gs_tf ⟨rfl, rfl⟩, ?_⟩ | with_reducible refine ⟨gs_ft ⟨rfl, rfl⟩, ?_⟩ | with_reducible refine ⟨gs_u ⟨rfl, rfl⟩, ?_⟩ | with_reducible refine gs_t ?_ | with_reducible refine gs_f ?_ | with_reducible refine off_i ?_ | with_reducible refine cndT ?_ | with_reducible refine cndF ?_)
      exact hR _ (by simp [h2]) _ s.ext
  · rw [if_neg h1] at hR
    rw [ieql]
    refine cond_d (fun h2 => ?_) (fun h2 => ?_)
    · rw [if_pos h2] at hR
      repeat (first | with_reducible refine gs_tf ?_ | with_reducible refine gs_ft ?_ | with_reducible refine gs_u ?_ | with_reducible refine pick_ti ?_ | with_reducible refine pick_fi ?_ | with_reducible refine ⟨gs_tf ⟨rfl, rfl⟩, ?_⟩ | with_reducible refine ⟨gs_ft ⟨rfl, rfl⟩, ?_⟩ | with_reducible refine ⟨gs_u ⟨rfl, rfl⟩, ?_⟩ | with_reducible refine gs_t ?_ | with_reducible refine gs_f ?_ | with_reducible refine off_i ?_ | with_reducible refine cndT ?_ | with_reducible refine cndF ?_ | (with_reducible show loadW _ _ _ _; first | refine s.load1 0 rfl rfl ?_))
      rw [ieql]
      by_cases h3 : n = 0
      · rw [decide_eq_true h3]
        repeat (first | with_reducible refine gs_tf ?_ | with_reducible refine gs_ft ?_ | with_reducible refine gs_u ?_ | with_reducible refine pick_ti ?_ | with_reducible refine pick_fi ?_ | with_reducible refine ⟨gs_tf ⟨rfl, rfl⟩, ?_⟩ | with_reducible refine ⟨gs_ft ⟨rfl, rfl⟩, ?_⟩ | with_reducible refine ⟨gs_u ⟨rfl, rfl⟩, ?_⟩ | with_reducible refine gs_t ?_ | with_reducible refine gs_f ?_ | with_reducible refine off_i ?_ | with_reducible refine cndT ?_ | with_reducible refine cndF ?_ | (with_reducible show loadW _ _ _ _; first | refine s.load1 0 rfl rfl ?_))
        refine fnW_of (by kernel_rfl) (word_c hnm (hg.keep s.ext (by simp)) fun w2 e2 => ?_)
        repeat (first | with_reducible refine gs_tf ?_ | with_reducible refine gs_ft ?_ | with_reducible refine gs_u ?_ | with_reducible refine pick_ti ?_ | with_reducible refine pick_fi ?_ | with_reducible refine ⟨gs_tf ⟨rfl, rfl⟩, ?_⟩ | with_reducible refine ⟨gs_ft ⟨rfl, rfl⟩, ?_⟩ | with_reducible refine ⟨gs_u ⟨rfl, rfl⟩, ?_⟩ | with_reducible refine gs_t ?_ | with_reducible refine gs_f ?_ | with_reducible refine off_i ?_ | with_reducible refine cndT ?_ | with_reducible refine cndF ?_)
        exact hR _ (by simp [h3]) _ (s.ext.new e2)
      · rw [decide_eq_false h3]
        repeat (first | with_reducible refine gs_tf ?_ | with_reducible refine gs_ft ?_ | with_reducible refine gs_u ?_ | with_reducible refine pick_ti ?_ | with_reducible refine pick_fi ?_ | with_reducible refine ⟨gs_tf ⟨rfl, rfl⟩, ?_⟩ | with_reducible refine ⟨gs_ft ⟨rfl, rfl⟩, ?_⟩ | with_reducible refine ⟨gs_u ⟨rfl, rfl⟩, ?_⟩ | with_reducible refine gs_t ?_ | with_reducible refine gs_f ?_ | with_reducible refine off_i ?_ | with_reducible refine cndT ?_ | with_reducible refine cndF ?_)
        exact hR _ (by simp [h3]) _ s.ext
    · rw [if_neg h2] at hR
      rw [ieql]
      refine cond_d (fun h3 => ?_) (fun h3 => ?_)
      · rw [if_pos h3] at hR
        repeat (first | with_reducible refine gs_tf ?_ | with_reducible refine gs_ft ?_ | with_reducible refine gs_u ?_ | with_reducible refine pick_ti ?_ | with_reducible refine pick_fi ?_ | with_reducible refine ⟨gs_tf ⟨rfl, rfl⟩, ?_⟩ | with_reducible refine ⟨gs_ft ⟨rfl, rfl⟩, ?_⟩ | with_reducible refine ⟨gs_u ⟨rfl, rfl⟩, ?_⟩ | with_reducible refine gs_t ?_ | with_reducible refine gs_f ?_ | with_reducible refine off_i ?_ | with_reducible refine cndT ?_ | with_reducible refine cndF ?_ | (with_reducible show loadW _ _ _ _; first | refine s.load1 0 rfl rfl ?_))
        rw [igeq]
        by_cases h4 : 0 ≤ n
        · rw [decide_eq_true h4]
          repeat (first | with_reducible refine gs_tf ?_ | with_reducible refine gs_ft ?_ | with_reducible refine gs_u ?_ | with_reducible refine pick_ti ?_ | with_reducible refine pick_fi ?_ | with_reducible refine ⟨gs_tf ⟨rfl, rfl⟩, ?_⟩ | with_reducible refine ⟨gs_ft ⟨rfl, rfl⟩, ?_⟩ | with_reducible refine ⟨gs_u ⟨rfl, rfl⟩, ?_⟩ | with_reducible refine gs_t ?_ | with_reducible refine gs_f ?_ | with_reducible refine off_i ?_ | with_reducible refine cndT ?_ | with_reducible refine cndF ?_ | (with_reducible show loadW _ _ _ _; first | refine s.load1 0 rfl rfl ?_))
          rw [ileq]
          by_cases h5 : n ≤ 31
          · rw [decide_eq_true h5]
            repeat (first | with_reducible refine gs_tf ?_ | with_reducible refine gs_ft ?_ | with_reducible refine gs_u ?_ | with_reducible refine pick_ti ?_ | with_reducible refine pick_fi ?_ | with_reducible refine ⟨gs_tf ⟨rfl, rfl⟩, ?_⟩ | with_reducible refine ⟨gs_ft ⟨rfl, rfl⟩, ?_⟩ | with_reducible refine ⟨gs_u ⟨rfl, rfl⟩, ?_⟩ | with_reducible refine gs_t ?_ | with_reducible refine gs_f ?_ | with_reducible refine off_i ?_ | with_reducible refine cndT ?_ | with_reducible refine cndF ?_ | (with_reducible show loadW _ _ _ _; first | refine s.load1 0 rfl rfl ?_))
            refine fnW_of (by kernel_rfl) (word_c hnm (hg.keep s.ext (by simp)) fun w2 e2 => ?_)
            repeat (first | with_reducible refine gs_tf ?_ | with_reducible refine gs_ft ?_ | with_reducible refine gs_u ?_ | with_reducible refine pick_ti ?_ | with_reducible refine pick_fi ?_ | with_reducible refine ⟨gs_tf ⟨rfl, rfl⟩, ?_⟩ | with_reducible refine ⟨gs_ft ⟨rfl, rfl⟩, ?_⟩ | with_reducible refine ⟨gs_u ⟨rfl, rfl⟩, ?_⟩ | with_reducible refine gs_t ?_ | with_reducible refine gs_f ?_ | with_reducible refine off_i ?_ | with_reducible refine cndT ?_ | with_reducible refine cndF ?_)
            exact hR _ (by simp [h4, h5]) _ (s.ext.new e2)
          · rw [decide_eq_false h5]
            repeat (first | with_reducible refine gs_tf ?_ | with_reducible refine gs_ft ?_ | with_reducible refine gs_u ?_ | with_reducible refine pick_ti ?_ | with_reducible refine pick_fi ?_ | with_reducible refine ⟨gs_tf ⟨rfl, rfl⟩, ?_⟩ | with_reducible refine ⟨gs_ft ⟨rfl, rfl⟩, ?_⟩ | with_reducible refine ⟨gs_u ⟨rfl, rfl⟩, ?_⟩ | with_reducible refine gs_t ?_ | with_reducible refine gs_f ?_ | with_reducible refine off_i ?_ | with_reducible refine cndT ?_ | with_reducible refine cndF ?_)
            exact hR _ (by simp [h5]) _ s.ext
        · rw [decide_eq_false h4]
          repeat (first | with_reducible refine gs_tf ?_ | with_reducible refine gs_ft ?_ | with_reducible refine gs_u ?_ | with_reducible refine pick_ti ?_ | with_reducible refine pick_fi ?_ | with_reducible refine ⟨gs_tf ⟨rfl, rfl⟩, ?_⟩ | with_reducible refine ⟨gs_ft ⟨rfl, rfl⟩, ?_⟩ | with_reducible refine ⟨gs_u ⟨rfl, rfl⟩, ?_⟩ | with_reducible refine gs_t ?_ | with_reducible refine gs_f ?_ | with_reducible refine off_i ?_ | with_reducible refine cndT ?_ | with_reducible refine cndF ?_)
          exact hR _ (by simp [h4]) _ s.ext
      · rw [if_neg h3] at hR
        repeat (first | with_reducible refine gs_tf ?_ | with_reducible refine gs_ft ?_ | with_reducible refine gs_u ?_ | with_reducible refine pick_ti ?_ | with_reducible refine pick_fi ?_ | with_reducible refine ⟨gs_tf ⟨rfl, rfl⟩, ?_⟩ | with_reducible refine ⟨gs_ft ⟨rfl, rfl⟩, ?_⟩ | with_reducible refine ⟨gs_u ⟨rfl, rfl⟩, ?_⟩ | with_reducible refine gs_t ?_ | with_reducible refine gs_f ?_ | with_reducible refine off_i ?_ | with_reducible refine cndT ?_ | with_reducible refine cndF ?_ | (with_reducible show loadW _ _ _ _; first | refine s.load1 0 rfl rfl ?_))
        rw [ieql]
        by_cases h4 : n = 0
        · rw [decide_eq_true h4]
          repeat (first | with_reducible refine gs_tf ?_ | with_reducible refine gs_ft ?_ | with_reducible refine gs_u ?_ | with_reducible refine pick_ti ?_ | with_reducible refine pick_fi ?_ | with_reducible refine ⟨gs_tf ⟨rfl, rfl⟩, ?_⟩ | with_reducible refine ⟨gs_ft ⟨rfl, rfl⟩, ?_⟩ | with_reducible refine ⟨gs_u ⟨rfl, rfl⟩, ?_⟩ | with_reducible refine gs_t ?_ | with_reducible refine gs_f ?_ | with_reducible refine off_i ?_ | with_reducible refine cndT ?_ | with_reducible refine cndF ?_ | (with_reducible show loadW _ _ _ _; first | refine s.load1 0 rfl rfl ?_))
          refine str_ne_nil ?_
          repeat (first | with_reducible refine gs_tf ?_ | with_reducible refine gs_ft ?_ | with_reducible refine gs_u ?_ | with_reducible refine pick_ti ?_ | with_reducible refine pick_fi ?_ | with_reducible refine ⟨gs_tf ⟨rfl, rfl⟩, ?_⟩ | with_reducible refine ⟨gs_ft ⟨rfl, rfl⟩, ?_⟩ | with_reducible refine ⟨gs_u ⟨rfl, rfl⟩, ?_⟩ | with_reducible refine gs_t ?_ | with_reducible refine gs_f ?_ | with_reducible refine off_i ?_ | with_reducible refine cndT ?_ | with_reducible refine cndF ?_)
          exact hR _ (by simp [h4]) _ s.ext
        · rw [decide_eq_false h4]
          repeat (first | with_reducible refine gs_tf ?_ | with_reducible refine gs_ft ?_ | with_reducible refine gs_u ?_ | with_reducible refine pick_ti ?_ | with_reducible refine pick_fi ?_ | with_reducible refine ⟨gs_tf ⟨rfl, rfl⟩, ?_⟩ | with_reducible refine ⟨gs_ft ⟨rfl, rfl⟩, ?_⟩ | with_reducible refine ⟨gs_u ⟨rfl, rfl⟩, ?_⟩ | with_reducible refine gs_t ?_ | with_reducible refine gs_f ?_ | with_reducible refine off_i ?_ | with_reducible refine cndT ?_ | with_reducible refine cndF ?_)
          exact hR _ (by simp [h4]) _ s.ext
end Go.Proofs.YtbaddpnlokmldaaDoor
