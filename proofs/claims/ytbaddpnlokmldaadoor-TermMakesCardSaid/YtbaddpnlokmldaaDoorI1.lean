/- ref00's Nodes, SameTerm, SameTexts: walks. Condition: see each. -/
import Derived.Test.YtbaddpnlokmldaaDoorI0
import Derived.Test.YtbaddpnlokmldaaDoorCJ
namespace Go.Proofs.YtbaddpnlokmldaaDoor
open Go
set_option maxRecDepth 100000

mutual
def TV.size : TV → Nat
  | .mk _ _ _ ls _ _ args => 1 + ls.length + TV.sizes args
def TV.sizes : List TV → Nat
  | [] => 0
  | a :: r => a.size + TV.sizes r
end
theorem TV.size_eq (t : TV) : t.size = 1 + t.ls.length + TV.sizes t.args := by cases t; rw [TV.size]; rfl
theorem sizes_app : ∀ a b : List TV, TV.sizes (a ++ b) = TV.sizes a + TV.sizes b
  | [], b => by simp [TV.sizes]
  | x :: a, b => by simp [TV.sizes, sizes_app a b]; omega
theorem sizes_take {ts : List TV} {i : Nat} (hi : i < ts.length) : TV.sizes (ts.take (i + 1)) = TV.sizes (ts.take i) + ts[i].size := by
  rw [List.take_succ_eq_append_getElem hi, sizes_app]
  simp [TV.sizes]
theorem sizes_le {ts : List TV} {t : TV} (h : t ∈ ts) : t.size ≤ TV.sizes ts := by
  induction ts with
  | nil => cases h
  | cons a r ih =>
    rw [TV.sizes]
    rcases List.mem_cons.1 h with rfl | h
    · omega
    · have := ih h; omega
theorem size_pos (t : TV) : 1 ≤ t.size := by rw [TV.size_eq]; omega
theorem len_sizes : ∀ ts : List TV, ts.length ≤ TV.sizes ts
  | [] => by simp
  | a :: r => by
    have h1 := size_pos a
    have h2 := len_sizes r
    rw [TV.sizes, List.length_cons]; omega
theorem sizes_take_le (ts : List TV) (i : Nat) : TV.sizes (ts.take i) ≤ TV.sizes ts := by
  have h := sizes_app (ts.take i) (ts.drop i)
  rw [List.take_append_drop] at h
  omega
mutual
def TM.size : TM → Nat
  | .mk _ _ _ ls args => 1 + ls.length + TM.sizes args
def TM.sizes : List TM → Nat
  | [] => 0
  | a :: r => a.size + TM.sizes r
end
theorem tm_sizes : ∀ ts : List TM, TM.sizes ts = (ts.map TM.size).sum
  | [] => by simp [TM.sizes]
  | a :: r => by simp [TM.sizes, tm_sizes r]
theorem tv_sizes : ∀ ts : List TV, TV.sizes ts = (ts.map TV.size).sum
  | [] => by simp [TV.sizes]
  | a :: r => by simp [TV.sizes, tv_sizes r]
theorem size_e : ∀ t : TV, t.e.size = t.size :=
  TV.ind fun k n nm ls lv av args ih => by
    rw [TV.e_eq, TM.size, TV.size_eq, tm_sizes, tv_sizes, List.map_map]
    congr 2
    exact List.map_congr_left fun a ha => ih a ha

theorem TV.box {w : World} {t : TV} (h : t.ok w) {K : VPost} (hK : ∀ b w', Sep [] w w' [rB b t.cells 27] [rT t] → K (.pointer (some ⟨b, 0, none⟩)) w') : boxW 27 t.v w K :=
  (Sep.zero1 (U := rT t) h).box fun b w1 s _ => hK b w1 s

set_option maxHeartbeats 400000 in
theorem nodes_c : ∀ (t : TV) {w : World} {K : VPost} {most : Nat}, t.ok w → most ≤ 2 ^ 40 → (∀ w', Ext [] w w' → K (.int .i64 ((min t.size (most + 1) : Nat) : Int)) w') → Calls Tryd.prog 11 #[t.v, .int .i64 most] w (retK K) := by
  refine TV.ind fun k n nm ls lv av args ih w K most h hm hK => ?_
  refine c11_calls _ _ w K ?_
  unfold c11
  refine TV.box h fun b w1 s => ?_
  have hk := tok_iff.1 h
  have hll : ls.length < 2 ^ 50 := hk.ll
  have hal : args.length < 2 ^ 50 := hk.al
  have hl1 : ∀ (w : World) (K : VPost), lenW Tryd.prog (some true) #[24] 3 #[lv] w K = K (.int .i64 ls.length) w := fun w K => RdSl.lenw hk.lr
  have ha1 : ∀ (w : World) (K : VPost), lenW Tryd.prog (some true) #[25] 3 #[av] w K = K (.int .i64 args.length) w := fun w K => RdSl.lenw hk.ar
  refine off_i ?_
  refine s.load1 (v := lv) 0 rfl rfl ?_
  rw [hl1]
  refine nadd (x := 1) (by omega) ?_
  refine bindX_i fun J0 g0 => bindX_i fun J1 g1 => bindX_i fun J2 g2 => ?_
  refine loop_i (fun m fr wr => ∃ i q : Nat, m = args.length - i ∧ i ≤ args.length ∧ fr 1 = .int .i64 most ∧ fr 2 = .pointer (some ⟨b, 0, none⟩) ∧ fr 5 = .int .i64 q ∧ fr 6 = .int .i64 i ∧ q ≤ 2 ^ 52 ∧ min q (most + 1) = min (1 + ls.length + TV.sizes (args.take i)) (most + 1) ∧ Sep [] w wr [rB b (TV.mk k n nm ls lv av args).cells 27] [rT (TV.mk k n nm ls lv av args)]) args.length ?_ ?_
  · refine ⟨0, 1 + ls.length, rfl, by omega, rfl, rfl, rfl, rfl, by omega, ?_, ?_⟩
    · simp [TV.sizes]
    · exact s
  · rintro m fr wr J ⟨i, q, rfl, hi, f1, f2, f5, f6, hq, hmin, s⟩ hJ hX
    rw [f2]
    refine off_i ?_
    refine s.load1 (v := av) 0 rfl rfl ?_
    rw [ha1, f6]
    refine nlss ?_
    have out : ∀ (fr' : Fr), fr' 1 = .int .i64 most → fr' 5 = .int .i64 q → min q (most + 1) = min (TV.mk k n nm ls lv av args).size (most + 1) → J1 .normal fr' wr := by
      intro fr' k1 k5 he
      refine seq_n g1 ?_
      rw [k1, k5]
      refine nadd (y := 1) (by omega) ?_
      rw [min_e, show min (q : Int) ((most + 1 : Nat) : Int) = ((min q (most + 1) : Nat) : Int) by omega, he]
      exact hK wr s.ext
    have hsz : (TV.mk k n nm ls lv av args).size = 1 + ls.length + TV.sizes args := by rw [TV.size]
    by_cases hlt : i < args.length
    · rw [decide_eq_true hlt]
      refine gs_t ?_
      refine gs_t ?_
      refine gs_t ?_
      rw [f5, f1]
      refine nleq ?_
      refine pick_ti ?_
      refine cond_d (fun hle => ?_) (fun hle => ?_)
      · refine off_i ?_
        refine s.load1 (v := av) 0 rfl rfl ?_
        have hk' : TOk wr (TV.mk k n nm ls lv av args) := tok_iff.1 (TV.keep s.ext h)
        obtain ⟨b1, o1, hix, hld⟩ := hk'.ar.term hlt .i64
        refine hix _ ?_
        refine hld _ ?_
        have hst := sizes_take hlt
        refine fnW_of (by kernel_rfl) (ih args[i] (List.getElem_mem hlt) (hk'.a _ (List.getElem_mem hlt)) hm fun w2 e2 => ?_)
        refine nadd (by omega) ?_
        refine nadd (y := 1) (by omega) ?_
        exact hJ (args.length - (i + 1)) _ _ (by omega) ⟨i + 1, _, rfl, by omega, f1, f2, rfl, rfl, by omega, by omega, s.ext0 e2⟩
      · refine hX _ _ _ (by simp) (g2 _ _ _ (blk_x (out _ f1 f5 ?_)))
        have := sizes_take_le args i
        omega
    · rw [decide_eq_false hlt]
      refine gs_ft ?_
      refine gs_ft ?_
      refine gs_ft ?_
      refine pick_fi ?_
      refine cndF ?_
      obtain rfl : i = args.length := by omega
      rw [List.take_length] at hmin
      refine hX _ _ _ (by simp) (g2 _ _ _ (blk_x (out _ f1 f5 ?_)))
      rw [hmin, hsz]

/-- Are terms one? -/
noncomputable def sameB (a b : TM) : Bool := @decide (a = b) (Classical.propDecidable _)
theorem sameB_t {a b : TM} (h : a = b) : sameB a b = true := by unfold sameB; simp [h]
theorem sameB_f {a b : TM} (h : a ≠ b) : sameB a b = false := by unfold sameB; simp [h]

theorem e_inj {a b : TV} (h : a.e = b.e) : a.k = b.k ∧ a.n = b.n ∧ a.s = b.s ∧ a.ls = b.ls ∧ a.args.map TV.e = b.args.map TV.e := by
  rw [TV.e_eq, TV.e_eq b] at h
  injection h with h1 h2 h3 h4 h5
  exact ⟨h1, h2, h3, h4, h5⟩

set_option maxHeartbeats 800000 in
theorem same_c : ∀ (t u : TV) {w : World} {K : VPost}, t.ok w → u.ok w → (∀ w', Ext [] w w' → K (.bool (sameB t.e u.e)) w') → Calls Tryd.prog 14 #[t.v, u.v] w (retK K) := by
  refine TV.ind fun k n nm ls lv av args ih u w K h hu hK => ?_
  obtain ⟨k', n', nm', ls', lv', av', args'⟩ := u
  refine c14_calls _ _ w K ?_
  unfold c14
  refine TV.box h fun b w1 s => ?_
  have s := s.addBase (T := rT (TV.mk k' n' nm' ls' lv' av' args')) hu
  refine s.box fun b' w2 s _ => ?_
  have s : Sep [] w w2 (rB b' (TV.mk k' n' nm' ls' lv' av' args').cells 27 :: rB b (TV.mk k n nm ls lv av args).cells 27 :: []) (rT (TV.mk k' n' nm' ls' lv' av' args') :: rT (TV.mk k n nm ls lv av args) :: []) := s
  have hk := tok_iff.1 h
  have hk' := tok_iff.1 hu
  have hll : ls.length < 2 ^ 50 := hk.ll
  have hal : args.length < 2 ^ 50 := hk.al
  have hl1 : ∀ (w : World) (K : VPost), lenW Tryd.prog (some true) #[24] 3 #[lv] w K = K (.int .i64 ls.length) w := fun w K => RdSl.lenw hk.lr
  have ha1 : ∀ (w : World) (K : VPost), lenW Tryd.prog (some true) #[25] 3 #[av] w K = K (.int .i64 args.length) w := fun w K => RdSl.lenw hk.ar
  have hl2 : ∀ (w : World) (K : VPost), lenW Tryd.prog (some true) #[24] 3 #[lv'] w K = K (.int .i64 ls'.length) w := fun w K => RdSl.lenw hk'.lr
  have ha2 : ∀ (w : World) (K : VPost), lenW Tryd.prog (some true) #[25] 3 #[av'] w K = K (.int .i64 args'.length) w := fun w K => RdSl.lenw hk'.ar
  have no : ∀ w', Sep [] w w' (rB b' (TV.mk k' n' nm' ls' lv' av' args').cells 27 :: rB b (TV.mk k n nm ls lv av args).cells 27 :: []) (rT (TV.mk k' n' nm' ls' lv' av' args') :: rT (TV.mk k n nm ls lv av args) :: []) → (TV.mk k n nm ls lv av args).e ≠ (TV.mk k' n' nm' ls' lv' av' args').e → K (.bool false) w' := by
    intro w' s hne
    have := hK w' s.ext
    rw [sameB_f hne] at this
    exact this
  refine off_i ?_
  refine s.load1 (v := iv k) 1 rfl rfl ?_
  refine off_i ?_
  refine s.load1 (v := iv k') 0 rfl rfl ?_
  show binN _ _ _ _ (Value.int .i64 k) (Value.int .i64 k') _ _
  rw [ineq]
  by_cases h1 : k = k'
  case neg =>
    rw [decide_eq_true (by simpa using h1)]
    iterate 4 ((repeat with_reducible refine gs_tf ?_); refine pick_ti ?_)
    exact cndT (no w2 s fun he => h1 (e_inj he).1)
  rw [decide_eq_false (by simpa using h1)]
  refine gs_f (off_i ?_)
  refine gs_f (s.load1 (v := iv n) 1 rfl rfl ?_)
  refine gs_f (off_i ?_)
  refine gs_f (s.load1 (v := iv n') 0 rfl rfl ?_)
  refine gs_f ?_
  show binN _ _ _ _ (Value.int .i64 n) (Value.int .i64 n') _ _
  rw [ineq]
  refine pick_fi ?_
  by_cases h2 : n = n'
  case neg =>
    rw [decide_eq_true (by simpa using h2)]
    iterate 3 ((repeat with_reducible refine gs_tf ?_); refine pick_ti ?_)
    exact cndT (no w2 s fun he => h2 (e_inj he).2.1)
  rw [decide_eq_false (by simpa using h2)]
  refine gs_f (off_i ?_)
  refine gs_f (s.load1 (v := sv nm) 1 rfl rfl ?_)
  refine gs_f (off_i ?_)
  refine gs_f (s.load1 (v := sv nm') 0 rfl rfl ?_)
  refine gs_f (str_neq ?_)
  refine pick_fi ?_
  by_cases h3 : nm = nm'
  case neg =>
    rw [decide_eq_false h3, Bool.not_false]
    iterate 2 ((repeat with_reducible refine gs_tf ?_); refine pick_ti ?_)
    exact cndT (no w2 s fun he => h3 (e_inj he).2.2.1)
  rw [decide_eq_true h3, Bool.not_true]
  refine gs_f (off_i ?_)
  refine gs_f (s.load1 (v := lv) 1 rfl rfl ?_)
  refine gs_f ?_
  rw [hl1]
  refine gs_f (off_i ?_)
  refine gs_f (s.load1 (v := lv') 0 rfl rfl ?_)
  refine gs_f ?_
  rw [hl2]
  refine gs_f (nneq ?_)
  refine pick_fi ?_
  by_cases h4 : ls.length = ls'.length
  case neg =>
    rw [decide_eq_true (by simpa using h4)]
    iterate 1 ((repeat with_reducible refine gs_tf ?_); refine pick_ti ?_)
    exact cndT (no w2 s fun he => h4 (by have := congrArg List.length (e_inj he).2.2.2.1; exact this))
  rw [decide_eq_false (by simpa using h4)]
  refine gs_f (off_i ?_)
  refine gs_f (s.load1 (v := av) 1 rfl rfl ?_)
  refine gs_f ?_
  rw [ha1]
  refine gs_f (off_i ?_)
  refine gs_f (s.load1 (v := av') 0 rfl rfl ?_)
  refine gs_f ?_
  rw [ha2]
  refine gs_f (nneq ?_)
  refine pick_fi ?_
  refine cond_d (fun h5 => ?_) (fun h5 => ?_)
  · exact no w2 s fun he => h5 (by have := congrArg List.length (e_inj he).2.2.2.2; rw [List.length_map, List.length_map] at this; exact this)
  have h5 : args.length = args'.length := by omega
  refine bindX_i fun J0 g0 => bindX_i fun J1 g1 => bindX_i fun J2 g2 => ?_
  -- the Args, behind the Levels
  have args_c : ∀ (fr : Fr) (wr : World), ls = ls' → fr 2 = .pointer (some ⟨b, 0, none⟩) → fr 3 = .pointer (some ⟨b', 0, none⟩) → Sep [] w wr (rB b' (TV.mk k' n' nm' ls' lv' av' args').cells 27 :: rB b (TV.mk k n nm ls lv av args).cells 27 :: []) (rT (TV.mk k' n' nm' ls' lv' av' args') :: rT (TV.mk k n nm ls lv av args) :: []) → J1 .normal fr wr := by
    intro fr wr hle k2 k3 s
    refine seq_n g1 ?_
    refine bindX_i fun J3 g3 => bindX_i fun J4 g4 => ?_
    refine loop_i (fun m fr wr => ∃ i : Nat, m = args.length - i ∧ i ≤ args.length ∧ fr 2 = .pointer (some ⟨b, 0, none⟩) ∧ fr 3 = .pointer (some ⟨b', 0, none⟩) ∧ fr 6 = .int .i64 i ∧ (args.take i).map TV.e = (args'.take i).map TV.e ∧ Sep [] w wr (rB b' (TV.mk k' n' nm' ls' lv' av' args').cells 27 :: rB b (TV.mk k n nm ls lv av args).cells 27 :: []) (rT (TV.mk k' n' nm' ls' lv' av' args') :: rT (TV.mk k n nm ls lv av args) :: [])) args.length ?_ ?_
    · exact ⟨0, rfl, by omega, k2, k3, rfl, rfl, s⟩
    · rintro m fr wr J ⟨i, rfl, hi, f2, f3, f6, heq, s⟩ hJ hX
      rw [f2, f3, f6]
      refine off_i ?_
      refine s.load1 (v := av) 1 rfl rfl ?_
      rw [ha1]
      refine nlss (cond_d (fun hlt => ?_) (fun hlt => ?_))
      · have s := s.drew
        generalize wr.drew = wr at *
        have hlt' : i < args'.length := by omega
        have ko : TOk wr (TV.mk k n nm ls lv av args) := tok_iff.1 (s.rat 1 rfl)
        have ko' : TOk wr (TV.mk k' n' nm' ls' lv' av' args') := tok_iff.1 (s.rat 0 rfl)
        refine off_i ?_
        refine s.load1 (v := av) 1 rfl rfl ?_
        obtain ⟨b1, o1, hix1, hld1⟩ := ko.ar.term hlt .i64
        refine hix1 _ ?_
        refine hld1 _ ?_
        refine off_i ?_
        refine s.load1 (v := av') 0 rfl rfl ?_
        obtain ⟨b2, o2, hix2, hld2⟩ := ko'.ar.term hlt' .i64
        refine hix2 _ ?_
        refine hld2 _ ?_
        refine fnW_of (by kernel_rfl) (ih args[i] (List.getElem_mem hlt) args'[i] (ko.a _ (List.getElem_mem hlt)) (ko'.a _ (List.getElem_mem hlt')) fun w3 e3 => ?_)
        have s := s.ext0 e3
        refine not_ti ?_
        by_cases hee : args[i].e = args'[i].e
        · rw [sameB_t hee]
          refine cndF ?_
          refine nadd (y := 1) (by omega) ?_
          refine hJ (args.length - (i + 1)) _ _ (by omega) ⟨i + 1, rfl, by omega, f2, f3, rfl, ?_, s⟩
          rw [List.take_succ_eq_append_getElem hlt, List.take_succ_eq_append_getElem hlt', List.map_append, List.map_append, heq]
          simp [hee]
        · rw [sameB_f hee]
          refine cndT ?_
          refine hX _ _ _ (by simp) (g4 _ _ _ (g3 _ _ _ (g0 _ _ _ ?_)))
          refine no w3 s fun he => hee ?_
          have hm := (e_inj he).2.2.2.2
          have h6 : (args.map TV.e)[i]? = (args'.map TV.e)[i]? := by
            have hm : args.map TV.e = args'.map TV.e := hm
            rw [hm]
          simpa [hlt, hlt'] using h6
      · obtain rfl : i = args.length := by omega
        rw [List.take_length, h5, List.take_length] at heq
        refine hX _ _ _ (by simp) (g4 _ _ _ (blk_x (seq_n g3 ?_)))
        have := hK wr s.ext
        rw [sameB_t (by rw [TV.e_eq, TV.e_eq (TV.mk k' n' nm' ls' lv' av' args')]; show TM.mk k n nm ls (args.map TV.e) = TM.mk k' n' nm' ls' (args'.map TV.e); rw [h1, h2, h3, hle, heq])] at this
        exact this
  refine loop_i (fun m fr wr => ∃ i : Nat, m = ls.length - i ∧ i ≤ ls.length ∧ fr 2 = .pointer (some ⟨b, 0, none⟩) ∧ fr 3 = .pointer (some ⟨b', 0, none⟩) ∧ fr 5 = .int .i64 i ∧ ls.take i = ls'.take i ∧ Sep [] w wr (rB b' (TV.mk k' n' nm' ls' lv' av' args').cells 27 :: rB b (TV.mk k n nm ls lv av args).cells 27 :: []) (rT (TV.mk k' n' nm' ls' lv' av' args') :: rT (TV.mk k n nm ls lv av args) :: [])) ls.length ?_ ?_
  · exact ⟨0, rfl, by omega, rfl, rfl, rfl, rfl, s⟩
  · rintro m fr wr J ⟨i, rfl, hi, f2, f3, f5, heq, s⟩ hJ hX
    rw [f2, f3, f5]
    refine off_i ?_
    refine s.load1 (v := lv) 1 rfl rfl ?_
    rw [hl1]
    refine nlss (cond_d (fun hlt => ?_) (fun hlt => ?_))
    · have s := s.drew
      generalize wr.drew = wr at *
      have hlt' : i < ls'.length := by omega
      have ko : TOk wr (TV.mk k n nm ls lv av args) := tok_iff.1 (s.rat 1 rfl)
      have ko' : TOk wr (TV.mk k' n' nm' ls' lv' av' args') := tok_iff.1 (s.rat 0 rfl)
      refine off_i ?_
      refine s.load1 (v := lv) 1 rfl rfl ?_
      obtain ⟨b1, o1, hix1, hld1⟩ := ko.lr.level hlt .i64
      refine hix1 _ ?_
      refine hld1 _ ?_
      refine off_i ?_
      refine s.load1 (v := lv') 0 rfl rfl ?_
      obtain ⟨b2, o2, hix2, hld2⟩ := ko'.lr.level hlt' .i64
      refine hix2 _ ?_
      refine hld2 _ ?_
      refine lvl_neq (ko.l _ (List.getElem_mem hlt)) (ko'.l _ (List.getElem_mem hlt')) ⟨rfl, ?_⟩
      by_cases hee : ls[i] = ls'[i]
      · have hee2 : (TV.mk k n nm ls lv av args).ls[i] = (TV.mk k' n' nm' ls' lv' av' args').ls[i] := hee
        rw [decide_eq_true hee2, Bool.not_true]
        refine cndF ?_
        refine nadd (y := 1) (by omega) ?_
        refine hJ (ls.length - (i + 1)) _ _ (by omega) ⟨i + 1, rfl, by omega, f2, f3, rfl, ?_, s⟩
        rw [List.take_succ_eq_append_getElem hlt, List.take_succ_eq_append_getElem hlt', heq, hee]
      · have hee2 : ¬ (TV.mk k n nm ls lv av args).ls[i] = (TV.mk k' n' nm' ls' lv' av' args').ls[i] := hee
        rw [decide_eq_false hee2, Bool.not_false]
        refine cndT ?_
        refine hX _ _ _ (by simp) (g2 _ _ _ (g1 _ _ _ (g0 _ _ _ ?_)))
        refine no wr s fun he => hee ?_
        have hm : ls = ls' := (e_inj he).2.2.2.1
        subst hm
        rfl
    · obtain rfl : i = ls.length := by omega
      rw [List.take_length, h4, List.take_length] at heq
      exact hX _ _ _ (by simp) (g2 _ _ _ (blk_x (args_c _ wr heq f2 f3 s)))
end Go.Proofs.YtbaddpnlokmldaaDoor
