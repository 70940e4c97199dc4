/- slices.Equal of levels, slices.EqualFunc of terms, term.Same: walks. -/
import Derived.Test.YtbaddpnlokmldaaDoorI3
namespace Go.Proofs.YtbaddpnlokmldaaDoor
open Go
set_option maxRecDepth 100000

theorem leq_c {w : World} {K : VPost} {x y : Value} {ls ms : List Lv} (hx : RdSl w x 5 (lcs ls) ls.length) (hy : RdSl w y 5 (lcs ms) ms.length) (h1 : ∀ l ∈ ls, l.ok) (h2 : ∀ l ∈ ms, l.ok) (hn : ls.length < 2 ^ 50)
    (hK : ∀ w', Ext [] w w' → K (.bool (decide (ls = ms))) w') : Calls Tryd.prog 46 #[x, y] w (retK K) := by
  refine c46_calls _ _ w K ?_
  unfold c46
  rw [hx.lenw, hy.lenw]
  refine nneq (cond_d (fun hne => ?_) (fun hne => ?_))
  · have := hK w (Ext.refl _ _)
    rw [decide_eq_false (fun e => hne (by rw [e]))] at this
    exact this
  · have hle : ls.length = ms.length := by omega
    refine bindX_i fun J0 g0 => bindX_i fun J1 g1 => ?_
    rw [hx.lenw]
    refine bindX_i fun J2 g2 => ?_
    refine loop_i (fun m fr wr => ∃ i : Nat, m = ls.length - i ∧ i ≤ ls.length ∧ ls.take i = ms.take i ∧ fr 0 = x ∧ fr 1 = y ∧ fr 12 = .int .i64 ls.length ∧ fr 13 = .int .i64 i ∧ Ext [] w wr) ls.length ?_ ?_
    · exact ⟨0, rfl, by omega, rfl, rfl, rfl, rfl, rfl, Ext.refl _ _⟩
    · rintro m fr wr J ⟨i, rfl, hi, heq, f0, f1, f12, f13, e1⟩ hJ hX
      rw [f12, f13]
      refine nlss (cond_d (fun hlt => ?_) (fun hlt => ?_))
      · rw [f0, f1]
        have e2 := e1.new (Ext.drew [] wr)
        generalize wr.drew = wr at *
        have hlt2 : i < ms.length := by omega
        obtain ⟨b1, o1, hix1, hld1⟩ := (hx.keep e2 (by simp)).level hlt .i64
        obtain ⟨b2, o2, hix2, hld2⟩ := (hy.keep e2 (by simp)).level hlt2 .i64
        refine hix1 _ ?_
        refine hld1 _ ?_
        refine hix2 _ ?_
        refine hld2 _ ?_
        refine lvl_neq (h1 _ (List.getElem_mem hlt)) (h2 _ (List.getElem_mem hlt2)) ⟨rfl, ?_⟩
        by_cases hee : ls[i] = ms[i]
        · rw [decide_eq_true hee, Bool.not_true]
          refine cndF ?_
          refine nadd (y := 1) (by omega) ?_
          refine hJ (ls.length - (i + 1)) _ _ (by omega) ⟨i + 1, rfl, by omega, ?_, f0, f1, f12, rfl, e2⟩
          rw [List.take_succ_eq_append_getElem hlt, List.take_succ_eq_append_getElem hlt2, heq, hee]
        · rw [decide_eq_false hee, Bool.not_false]
          refine cndT ?_
          refine hX _ _ _ (by simp) (g2 _ _ _ (g1 _ _ _ (g0 _ _ _ ?_)))
          have := hK wr e2
          rw [decide_eq_false (fun e => hee (by subst e; rfl))] at this
          exact this
      · obtain rfl : i = ls.length := by omega
        refine hX _ _ _ (by simp) (g2 _ _ _ (blk_x (seq_n g1 ?_)))
        rw [List.take_length, hle, List.take_length] at heq
        have := hK wr e1
        rw [decide_eq_true heq] at this
        exact this

theorem eqFunc_c {w : World} {K : VPost} {x y : Value} {ts us : List TV} (hx : RdSl w x 5 (tcs ts) ts.length) (hy : RdSl w y 5 (tcs us) us.length) (h1 : ∀ t ∈ ts, t.ok w) (h2 : ∀ t ∈ us, t.ok w) (hn : ts.length < 2 ^ 50)
    (ih : ∀ a ∈ ts, ∀ (u : TV) {w : World} {K : VPost}, a.ok w → u.ok w → (∀ w', Ext [] w w' → K (.bool (sameB a.e u.e)) w') → Calls Tryd.prog 28 #[a.v, u.v] w (retK K))
    (hT : ts.map TV.e = us.map TV.e → ∀ w', Ext [] w w' → K (.bool true) w') (hF : ts.map TV.e ≠ us.map TV.e → ∀ w', Ext [] w w' → K (.bool false) w') : Calls Tryd.prog 47 #[x, y, .func (.func 28) #[] #[]] w (retK K) := by
  refine c47_calls _ _ _ w K ?_
  unfold c47
  rw [hx.lenw, hy.lenw]
  refine nneq (cond_d (fun hne => ?_) (fun hne => ?_))
  · exact hF (fun e => hne (by have := congrArg List.length e; rwa [List.length_map, List.length_map] at this)) w (Ext.refl _ _)
  · have hle : ts.length = us.length := by omega
    refine bindX_i fun J0 g0 => bindX_i fun J1 g1 => ?_
    rw [hx.lenw]
    refine bindX_i fun J2 g2 => ?_
    refine loop_i (fun m fr wr => ∃ i : Nat, m = ts.length - i ∧ i ≤ ts.length ∧ (ts.take i).map TV.e = (us.take i).map TV.e ∧ fr 1 = y ∧ fr 2 = .func (.func 28) #[] #[] ∧ fr 15 = x ∧ fr 16 = .int .i64 ts.length ∧ fr 17 = .int .i64 i ∧ Ext [] w wr) ts.length ?_ ?_
    · exact ⟨0, rfl, by omega, rfl, rfl, rfl, rfl, rfl, rfl, Ext.refl _ _⟩
    · rintro m fr wr J ⟨i, rfl, hi, heq, f1, f2, f15, f16, f17, e1⟩ hJ hX
      rw [f16, f17]
      refine nlss (cond_d (fun hlt => ?_) (fun hlt => ?_))
      · rw [f15, f1, f2]
        have hlt2 : i < us.length := by omega
        obtain ⟨b1, o1, hix1, hld1⟩ := (hx.keep e1 (by simp)).term hlt .i64
        refine hix1 _ ?_
        refine hld1 _ ?_
        have s := (Sep.nil w).ext0 e1
        refine s.alloc zero_term rfl fun q w2 s _ => ?_
        have ho1 : ts[i].ok w2 := TV.keep s.ext (h1 _ (List.getElem_mem hlt))
        refine s.storeAll (vs := ts[i].cells) 0 rfl ts[i].cells_len rfl (TV.one ho1) fun w3 s _ => ?_
        have s : Sep [] w w3 (rB q ts[i].cells 27 :: []) [] := s
        obtain ⟨b2, o2, hix2, hld2⟩ := (hy.keep s.ext (by simp)).term hlt2 .i64
        refine hix2 _ ?_
        refine hld2 _ ?_
        refine s.alloc zero_term rfl fun q2 w4 s _ => ?_
        have ho2 : us[i].ok w4 := TV.keep s.ext (h2 _ (List.getElem_mem hlt2))
        refine s.storeAll (vs := us[i].cells) 0 rfl us[i].cells_len rfl (TV.one ho2) fun w5 s _ => ?_
        have s : Sep [] w w5 (rB q2 us[i].cells 27 :: rB q ts[i].cells 27 :: []) [] := s
        refine s.loadAll 1 rfl ts[i].cells_len ?_
        refine s.loadAll 0 rfl us[i].cells_len ?_
        show fnW Tryd.prog 28 #[ts[i].v, us[i].v] w5 _
        refine fnW_of (by kernel_rfl) (ih ts[i] (List.getElem_mem hlt) us[i] (TV.keep s.ext (h1 _ (List.getElem_mem hlt))) (TV.keep s.ext (h2 _ (List.getElem_mem hlt2))) fun w6 e6 => ?_)
        have e2 := s.ext.new e6
        refine not_ti ?_
        by_cases hee : ts[i].e = us[i].e
        · rw [sameB_t hee]
          refine cndF ?_
          refine nadd (y := 1) (by omega) ?_
          refine hJ (ts.length - (i + 1)) _ _ (by omega) ⟨i + 1, rfl, by omega, ?_, f1, f2, f15, f16, rfl, e2⟩
          rw [List.take_succ_eq_append_getElem hlt, List.take_succ_eq_append_getElem hlt2, List.map_append, List.map_append, heq]
          simp [hee]
        · rw [sameB_f hee]
          refine cndT ?_
          refine hX _ _ _ (by simp) (g2 _ _ _ (g1 _ _ _ (g0 _ _ _ ?_)))
          refine hF (fun hm => hee ?_) w6 e2
          have h6 : (ts.map TV.e)[i]? = (us.map TV.e)[i]? := by rw [hm]
          simpa [hlt, hlt2] using h6
      · obtain rfl : i = ts.length := by omega
        refine hX _ _ _ (by simp) (g2 _ _ _ (blk_x (seq_n g1 ?_)))
        rw [List.take_length, hle, List.take_length] at heq
        exact hT heq wr e1

set_option maxHeartbeats 800000 in
theorem tsame_c : ∀ (t u : TV) {w : World} {K : VPost}, t.ok w → u.ok w → (∀ w', Ext [] w w' → K (.bool (sameB t.e u.e)) w') → Calls Tryd.prog 28 #[t.v, u.v] w (retK K) := by
  refine TV.ind fun k n nm ls lv av args ih u w K h hu hK => ?_
  obtain ⟨k', n', nm', ls', lv', av', args'⟩ := u
  refine c28_calls _ _ w K ?_
  unfold c28
  refine TV.box h fun b w1 s => ?_
  have s := s.addBase (T := rT (TV.mk k' n' nm' ls' lv' av' args')) hu
  refine s.box fun b' w2 s _ => ?_
  have s : Sep [] w w2 (rB b' (TV.mk k' n' nm' ls' lv' av' args').cells 27 :: rB b (TV.mk k n nm ls lv av args).cells 27 :: []) (rT (TV.mk k' n' nm' ls' lv' av' args') :: rT (TV.mk k n nm ls lv av args) :: []) := s
  have hk := tok_iff.1 h
  have hk' := tok_iff.1 hu
  have no : ∀ w', Sep [] w w' (rB b' (TV.mk k' n' nm' ls' lv' av' args').cells 27 :: rB b (TV.mk k n nm ls lv av args).cells 27 :: []) (rT (TV.mk k' n' nm' ls' lv' av' args') :: rT (TV.mk k n nm ls lv av args) :: []) → (TV.mk k n nm ls lv av args).e ≠ (TV.mk k' n' nm' ls' lv' av' args').e → K (.bool false) w' := by
    intro w' s hne
    have := hK w' s.ext
    rw [sameB_f hne] at this
    exact this
  refine off_i ?_
  refine s.load1 (v := iv k) 1 rfl rfl ?_
  refine off_i ?_
  refine s.load1 (v := iv k') 0 rfl rfl ?_
  show binN _ _ _ _ (Value.int .i64 k) (Value.int .i64 k') _ _
  rw [ieql]
  by_cases h1 : k = k'
  case neg =>
    rw [decide_eq_false h1]
    iterate 4 ((repeat with_reducible refine gs_ft ?_); refine pick_fi ?_)
    exact no w2 s fun he => h1 (e_inj he).1
  rw [decide_eq_true h1]
  refine gs_t (off_i ?_)
  refine gs_t (s.load1 (v := iv n) 1 rfl rfl ?_)
  refine gs_t (off_i ?_)
  refine gs_t (s.load1 (v := iv n') 0 rfl rfl ?_)
  refine gs_t ?_
  show binN _ _ _ _ (Value.int .i64 n) (Value.int .i64 n') _ _
  rw [ieql]
  refine pick_ti ?_
  by_cases h2 : n = n'
  case neg =>
    rw [decide_eq_false h2]
    iterate 3 ((repeat with_reducible refine gs_ft ?_); refine pick_fi ?_)
    exact no w2 s fun he => h2 (e_inj he).2.1
  rw [decide_eq_true h2]
  refine gs_t (off_i ?_)
  refine gs_t (s.load1 (v := sv nm) 1 rfl rfl ?_)
  refine gs_t (off_i ?_)
  refine gs_t (s.load1 (v := sv nm') 0 rfl rfl ?_)
  refine gs_t (str_eql ?_)
  refine pick_ti ?_
  by_cases h3 : nm = nm'
  case neg =>
    rw [decide_eq_false h3]
    iterate 2 ((repeat with_reducible refine gs_ft ?_); refine pick_fi ?_)
    exact no w2 s fun he => h3 (e_inj he).2.2.1
  rw [decide_eq_true h3]
  refine gs_t (off_i ?_)
  refine gs_t (s.load1 (v := lv) 1 rfl rfl ?_)
  refine gs_t (off_i ?_)
  refine gs_t (s.load1 (v := lv') 0 rfl rfl ?_)
  have ko : TOk w2 (TV.mk k n nm ls lv av args) := tok_iff.1 (s.rat 1 rfl)
  have ko' : TOk w2 (TV.mk k' n' nm' ls' lv' av' args') := tok_iff.1 (s.rat 0 rfl)
  refine gs_t (fnW_of (by kernel_rfl) (leq_c ko.lr ko'.lr ko.l ko'.l ko.ll fun w3 e3 => ?_))
  have s := s.ext0 e3
  refine pick_ti ?_
  by_cases h4 : ls = ls'
  case neg =>
    have h4' : ¬ (TV.mk k n nm ls lv av args).ls = (TV.mk k' n' nm' ls' lv' av' args').ls := h4
    rw [decide_eq_false h4']
    iterate 1 ((repeat with_reducible refine gs_ft ?_); refine pick_fi ?_)
    exact no w3 s fun he => h4 (e_inj he).2.2.2.1
  have h4' : (TV.mk k n nm ls lv av args).ls = (TV.mk k' n' nm' ls' lv' av' args').ls := h4
  rw [decide_eq_true h4']
  refine gs_t (off_i ?_)
  refine gs_t (s.load1 (v := av) 1 rfl rfl ?_)
  refine gs_t (off_i ?_)
  refine gs_t (s.load1 (v := av') 0 rfl rfl ?_)
  have ko : TOk w3 (TV.mk k n nm ls lv av args) := tok_iff.1 (s.rat 1 rfl)
  have ko' : TOk w3 (TV.mk k' n' nm' ls' lv' av' args') := tok_iff.1 (s.rat 0 rfl)
  refine gs_t (fnW_of (by kernel_rfl) (eqFunc_c ko.ar ko'.ar ko.a ko'.a ko.al (fun a ha u w K => ih a ha u) (fun hT w4 e4 => ?_) (fun hF w4 e4 => ?_)))
  · refine pick_ti ?_
    have := hK w4 (s.ext.new e4)
    rw [sameB_t (by
      rw [TV.e_eq, TV.e_eq (TV.mk k' n' nm' ls' lv' av' args')]
      show TM.mk k n nm ls (args.map TV.e) = TM.mk k' n' nm' ls' (args'.map TV.e)
      have hT : args.map TV.e = args'.map TV.e := hT
      rw [h1, h2, h3, h4, hT])] at this
    exact this
  · refine pick_ti ?_
    exact no w4 (s.ext0 e4) fun he => hF (e_inj he).2.2.2.2
end Go.Proofs.YtbaddpnlokmldaaDoor
