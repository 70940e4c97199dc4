/- Loose, Uses: walks. Conditions: at most 10^6 nodes; the library's bound is a number. -/
import Derived.Test.YtbaddpnlokmldaaDoorIF
namespace Go.Proofs.YtbaddpnlokmldaaDoor
open Go
set_option maxRecDepth 100000

theorem foldl_map {α β γ : Type} (f : β → γ) (g : α → γ → α) : ∀ (l : List β) (a : α), (l.map f).foldl g a = l.foldl (fun o x => g o (f x)) a
  | [], _ => rfl
  | x :: l, a => by rw [List.map_cons, List.foldl_cons, List.foldl_cons, foldl_map f g l]
abbrev looseV (l : List (TV × Nat)) : Int := (l.map eN).foldl looseS 0
theorem looseV_snoc (l : List (TV × Nat)) (x : TV × Nat) : looseV (l ++ [x]) = looseS (looseV l) (eN x) := by simp [looseV]
theorem looseV_all (t : TV) : looseV (t.nodesV 0) = looseL t.e := by unfold looseV looseL; rw [nodesV_e]
theorem eN_k (x : TV × Nat) : (eN x).1.k = x.1.k := by
  show x.1.e.k = _
  rw [TV.e_eq]; rfl
theorem eN_n (x : TV × Nat) : (eN x).1.n = x.1.n := by
  show x.1.e.n = _
  rw [TV.e_eq]; rfl
/-- Numbers of nodes of a right term. -/
theorem right_num {t : TV} {p v : Int} (h : rightR t.e p v = true) (hs : t.size ≤ 3000) (x : TV × Nat) (hx : x ∈ t.nodesV 0) (hk : x.1.k = 1) : 0 ≤ x.1.n ∧ x.1.n ≤ 1099511627776 + 3000 ∧ x.2 ≤ 3000 := by
  obtain ⟨⟨_, _, _, h4, _⟩, h6⟩ := right_vars h
  have hm : eN x ∈ t.e.nodesL 0 := by rw [← nodesV_e]; exact List.mem_map.2 ⟨x, hx, rfl⟩
  have := node_var (h6 _ hm) (by rw [eN_k]; exact hk)
  rw [eN_n] at this
  have hl := nodesV_le t 0 x hx
  have h2 : (eN x).2 = x.2 := rfl
  rw [h2] at this
  omega
theorem loose_bd {o : Int} {x : TM × Nat} (ho : 0 ≤ o ∧ o ≤ 2 ^ 41) (hx : x.1.k = 1 → 0 ≤ x.1.n ∧ x.1.n ≤ 1099511627776 + 3000 ∧ x.2 ≤ 3000) : 0 ≤ looseS o x ∧ looseS o x ≤ 2 ^ 41 := by
  unfold looseS
  split
  · rename_i hk
    have := hx hk
    omega
  · exact ho

set_option maxHeartbeats 400000 in
theorem loose_c {w : World} {K : VPost} {t : TV} (h : t.ok w) (hg : GS w) (hsz : t.size ≤ 1000000) (hK : ∀ w', Ext [] w w' → K (.int .i64 (looseR t.e)) w') : Calls Tryd.prog 21 #[t.v] w (retK K) := by
  refine c21_calls _ w K ?_
  unfold c21
  refine TV.box h fun b w1 s => ?_
  refine s.loadAll 0 rfl t.cells_len ?_
  refine fnW_of (by kernel_rfl) (tright_c (s.rat 0 rfl) (hg.keep s.ext (by simp)) hsz fun w2 e2 => ?_)
  have s := s.ext0 e2
  refine not_ti ?_
  unfold looseR at hK
  cases hr : rightR t.e 4 1099511627776 with
  | false =>
    refine cndT ?_
    rw [hr] at hK
    exact hK _ s.ext
  | true =>
    refine cndF ?_
    rw [hr, if_pos rfl] at hK
    have hs3 : t.size ≤ 3000 := by have := (right_vars hr).1; rw [size_e] at this; omega
    refine s.alloc zero_int rfl fun bo w3 s _ => ?_
    refine s.store1 0 rfl rfl (by show 0 < 1; decide) rfl fun w4 s _ => ?_
    have s : Sep [] w w4 (rB bo [.int .i64 0] 3 :: rB b t.cells 27 :: []) (rT t :: []) := s
    refine s.loadAll 1 rfl t.cells_len ?_
    refine fnW_of (by kernel_rfl) (c41_calls _ _ _ ?_)
    unfold c41
    refine s.box fun bt w5 s _ => ?_
    refine mkfunc_i ?_
    have s : Sep [] w w5 (rB bt t.cells 27 :: rB bo [.int .i64 0] 3 :: rB b t.cells 27 :: []) (rT t :: []) := s
    refine rangeNodes_i (t := t) (Q := fun p L => (0 ≤ looseV p ∧ looseV p ≤ 2 ^ 41) ∧ L = rB bo [.int .i64 (looseV p)] 3 :: rB b t.cells 27 :: []) (by simp) hs3 s ⟨by decide, rfl⟩ ?_ ?_
    · rintro l D rdy bsy dn x p rest hx M _ W K' ⟨hbd, rfl⟩ s hK'
      have hxm := mem_mid hx
      have hnum := right_num hr hs3 x hxm
      have hbd2 := loose_bd (x := eN x) hbd (by rw [eN_k, eN_n]; exact hnum)
      rw [looseV_snoc] at hK'
      obtain ⟨⟨k, n, nm, ls, lv, av, args⟩, dx⟩ := x
      have hok : TV.ok W (TV.mk k n nm ls lv av args) := s.rat 0 rfl
      refine s.alloc zero_term rfl fun q w6 s _ => ?_
      show storeW _ _ (TV.mk k n nm ls lv av args).v w6 _
      refine s.storeAll (vs := [iv k, iv n, sv nm, lv, av]) 0 rfl rfl rfl (TV.one hok) fun w7 s _ => ?_
      have s : Sep [] w w7 (rB q [iv k, iv n, sv nm, lv, av] 27 :: rX l rdy :: rX D dfr :: rB bo [.int .i64 (looseV p)] 3 :: rB b t.cells 27 :: M) (rT (TV.mk k n nm ls lv av args) :: rT t :: []) := s
      refine ⟨s.at 1 rfl, s.at 2 rfl, ?_⟩
      have s := s.swap.putX bsy
      have hsn : looseS (looseV p) (eN (TV.mk k n nm ls lv av args, dx)) = if k = 1 then max (looseV p) (n - dx + 1) else looseV p := by
        unfold looseS
        rw [eN_k, eN_n]; rfl
      rw [hsn] at hK' hbd2
      refine bindX_i fun J0 g0 => ?_
      repeat (first | with_reducible refine gs_tf ?_ | with_reducible refine gs_ft ?_ | with_reducible refine gs_u ?_ | with_reducible refine pick_ti ?_ | with_reducible refine pick_fi ?_ | with_reducible refine ⟨gs_tf ⟨rfl, rfl⟩, ?_⟩ | with_reducible refine ⟨gs_ft ⟨rfl, rfl⟩, ?_⟩ | with_reducible refine ⟨gs_u ⟨rfl, rfl⟩, ?_⟩ | with_reducible refine gs_t ?_ | with_reducible refine gs_f ?_ | with_reducible refine off_i ?_ | with_reducible refine cndT ?_ | with_reducible refine cndF ?_ | (with_reducible show loadW _ _ _ _; first | refine s.load1 0 rfl rfl ?_ | refine s.load1 1 rfl rfl ?_ | refine s.load1 2 rfl rfl ?_ | refine s.load1 3 rfl rfl ?_ | refine s.load1 4 rfl rfl ?_))
      rw [ieql]
      refine cond_d (fun hk => ?_) (fun hk => ?_)
      · rw [if_pos hk] at hK' hbd2
        have hnum := hnum hk
        have hn1 : 0 ≤ n ∧ n ≤ 1099511627776 + 3000 ∧ dx ≤ 3000 := hnum
        repeat (first | with_reducible refine gs_tf ?_ | with_reducible refine gs_ft ?_ | with_reducible refine gs_u ?_ | with_reducible refine pick_ti ?_ | with_reducible refine pick_fi ?_ | with_reducible refine ⟨gs_tf ⟨rfl, rfl⟩, ?_⟩ | with_reducible refine ⟨gs_ft ⟨rfl, rfl⟩, ?_⟩ | with_reducible refine ⟨gs_u ⟨rfl, rfl⟩, ?_⟩ | with_reducible refine gs_t ?_ | with_reducible refine gs_f ?_ | with_reducible refine off_i ?_ | with_reducible refine cndT ?_ | with_reducible refine cndF ?_ | (with_reducible show loadW _ _ _ _; first | refine s.load1 0 rfl rfl ?_ | refine s.load1 1 rfl rfl ?_ | refine s.load1 2 rfl rfl ?_ | refine s.load1 3 rfl rfl ?_ | refine s.load1 4 rfl rfl ?_))
        show binN _ _ _ _ (iv n) (Value.int .i64 dx) _ _
        refine isub (by omega) ?_
        refine iadd (by omega) ?_
        rw [max_e]
        refine s.store1 3 rfl rfl (by show 0 < 1; decide) rfl fun w8 s _ => ?_
        refine ⟨s.at 0 rfl, s.at 2 rfl, ?_⟩
        have s := (s.putX rdy).drop 1
        exact hK' _ _ ⟨hbd2, rfl⟩ (s.less (fun T hT => by simp only [List.mem_cons, List.not_mem_nil, or_false] at hT ⊢; exact .inr hT))
      · rw [if_neg hk] at hK' hbd2
        refine ⟨s.at 0 rfl, s.at 2 rfl, ?_⟩
        have s := (s.putX rdy).drop 1
        exact hK' _ _ ⟨hbd2, rfl⟩ (s.less (fun T hT => by simp only [List.mem_cons, List.not_mem_nil, or_false] at hT ⊢; exact .inr hT))
    · rintro l D ob M _ W ⟨_, rfl⟩ s
      refine s.load1 2 rfl rfl ?_
      refine ⟨s.at 1 rfl, fun W8 hW8 => ?_⟩
      subst hW8
      have s := (s.drop 0).putX (.deferred none)
      rw [looseV_all]
      exact hK _ s.ext

abbrev usesV (n : Int) (l : List (TV × Nat)) : Nat := (l.map eN).countP (useS n)
theorem usesV_snoc (n : Int) (l : List (TV × Nat)) (x : TV × Nat) : usesV n (l ++ [x]) = usesV n l + if useS n (eN x) then 1 else 0 := by
  unfold usesV
  rw [List.map_append, List.countP_append]
  simp [List.countP_cons]
theorem usesV_all (n : Int) (t : TV) : usesV n (t.nodesV 0) = usesL t.e n := by unfold usesV usesL; rw [nodesV_e]
theorem usesV_le (n : Int) (l : List (TV × Nat)) : usesV n l ≤ l.length := by
  unfold usesV
  refine Nat.le_trans List.countP_le_length ?_
  rw [List.length_map]; exact Nat.le_refl _
theorem len_wtS : ∀ l : List (TV × Nat), l.length ≤ wtS l
  | [] => by simp
  | x :: l => by
    have := len_wtS l
    have e : wtS (x :: l) = wtN x + wtS l := by simp [wtS]
    rw [e, List.length_cons]
    unfold wtN
    omega
set_option maxHeartbeats 400000 in
theorem uses_c {w : World} {K : VPost} {t : TV} {m : Int} (h : t.ok w) (hg : GS w) (hsz : t.size ≤ 1000000) (hK : ∀ w', Ext [] w w' → K (.int .i64 (usesR t.e m)) w') : Calls Tryd.prog 22 #[t.v, .int .i64 m] w (retK K) := by
  refine c22_calls _ _ w K ?_
  unfold c22
  refine TV.box h fun b w1 s => ?_
  refine s.box fun bm w2 s _ => ?_
  have s : Sep [] w w2 (rB bm [.int .i64 m] 3 :: rB b t.cells 27 :: []) (rT t :: []) := s
  refine s.loadAll 1 rfl t.cells_len ?_
  refine fnW_of (by kernel_rfl) (tright_c (s.rat 0 rfl) (hg.keep s.ext (by simp)) hsz fun w3 e3 => ?_)
  have s := s.ext0 e3
  refine not_ti ?_
  unfold usesR at hK
  have no : ∀ w', Ext [] w w' → (rightR t.e 4 1099511627776 && decide (0 ≤ m ∧ m ≤ 2199023255552)) = false → K (.int .i64 0) w' := fun w' e hn => by
    have := hK w' e
    rwa [hn] at this
  cases hr : rightR t.e 4 1099511627776 with
  | false =>
    rw [Bool.not_false]
    repeat (first | with_reducible refine gs_tf ?_ | with_reducible refine gs_ft ?_ | with_reducible refine gs_u ?_ | with_reducible refine pick_ti ?_ | with_reducible refine pick_fi ?_ | with_reducible refine ⟨gs_tf ⟨rfl, rfl⟩, ?_⟩ | with_reducible refine ⟨gs_ft ⟨rfl, rfl⟩, ?_⟩ | with_reducible refine ⟨gs_u ⟨rfl, rfl⟩, ?_⟩ | with_reducible refine gs_t ?_ | with_reducible refine gs_f ?_ | with_reducible refine off_i ?_ | with_reducible refine cndT ?_ | with_reducible refine cndF ?_)
    exact no _ s.ext (by rw [hr]; rfl)
  | true =>
    rw [Bool.not_true]
    repeat (first | with_reducible refine gs_tf ?_ | with_reducible refine gs_ft ?_ | with_reducible refine gs_u ?_ | with_reducible refine pick_ti ?_ | with_reducible refine pick_fi ?_ | with_reducible refine ⟨gs_tf ⟨rfl, rfl⟩, ?_⟩ | with_reducible refine ⟨gs_ft ⟨rfl, rfl⟩, ?_⟩ | with_reducible refine ⟨gs_u ⟨rfl, rfl⟩, ?_⟩ | with_reducible refine gs_t ?_ | with_reducible refine gs_f ?_ | with_reducible refine off_i ?_ | with_reducible refine cndT ?_ | with_reducible refine cndF ?_ | (with_reducible show loadW _ _ _ _; first | refine s.load1 0 rfl rfl ?_ | refine s.load1 1 rfl rfl ?_))
    rw [ilss]
    by_cases hm0 : m < 0
    · rw [decide_eq_true hm0]
      repeat (first | with_reducible refine gs_tf ?_ | with_reducible refine gs_ft ?_ | with_reducible refine gs_u ?_ | with_reducible refine pick_ti ?_ | with_reducible refine pick_fi ?_ | with_reducible refine ⟨gs_tf ⟨rfl, rfl⟩, ?_⟩ | with_reducible refine ⟨gs_ft ⟨rfl, rfl⟩, ?_⟩ | with_reducible refine ⟨gs_u ⟨rfl, rfl⟩, ?_⟩ | with_reducible refine gs_t ?_ | with_reducible refine gs_f ?_ | with_reducible refine off_i ?_ | with_reducible refine cndT ?_ | with_reducible refine cndF ?_)
      exact no _ s.ext (by rw [decide_eq_false (by omega), Bool.and_false])
    rw [decide_eq_false hm0]
    repeat (first | with_reducible refine gs_tf ?_ | with_reducible refine gs_ft ?_ | with_reducible refine gs_u ?_ | with_reducible refine pick_ti ?_ | with_reducible refine pick_fi ?_ | with_reducible refine ⟨gs_tf ⟨rfl, rfl⟩, ?_⟩ | with_reducible refine ⟨gs_ft ⟨rfl, rfl⟩, ?_⟩ | with_reducible refine ⟨gs_u ⟨rfl, rfl⟩, ?_⟩ | with_reducible refine gs_t ?_ | with_reducible refine gs_f ?_ | with_reducible refine off_i ?_ | with_reducible refine cndT ?_ | with_reducible refine cndF ?_ | (with_reducible show loadW _ _ _ _; first | refine s.load1 0 rfl rfl ?_ | refine s.load1 1 rfl rfl ?_))
    rw [igtr]
    by_cases hm1 : 2199023255552 < m
    · rw [decide_eq_true hm1]
      repeat (first | with_reducible refine gs_tf ?_ | with_reducible refine gs_ft ?_ | with_reducible refine gs_u ?_ | with_reducible refine pick_ti ?_ | with_reducible refine pick_fi ?_ | with_reducible refine ⟨gs_tf ⟨rfl, rfl⟩, ?_⟩ | with_reducible refine ⟨gs_ft ⟨rfl, rfl⟩, ?_⟩ | with_reducible refine ⟨gs_u ⟨rfl, rfl⟩, ?_⟩ | with_reducible refine gs_t ?_ | with_reducible refine gs_f ?_ | with_reducible refine off_i ?_ | with_reducible refine cndT ?_ | with_reducible refine cndF ?_)
      exact no _ s.ext (by rw [decide_eq_false (by omega), Bool.and_false])
    rw [decide_eq_false hm1]
    rw [hr, decide_eq_true (show 0 ≤ m ∧ m ≤ 2199023255552 by omega)] at hK
    repeat (first | with_reducible refine gs_tf ?_ | with_reducible refine gs_ft ?_ | with_reducible refine gs_u ?_ | with_reducible refine pick_ti ?_ | with_reducible refine pick_fi ?_ | with_reducible refine ⟨gs_tf ⟨rfl, rfl⟩, ?_⟩ | with_reducible refine ⟨gs_ft ⟨rfl, rfl⟩, ?_⟩ | with_reducible refine ⟨gs_u ⟨rfl, rfl⟩, ?_⟩ | with_reducible refine gs_t ?_ | with_reducible refine gs_f ?_ | with_reducible refine off_i ?_ | with_reducible refine cndT ?_ | with_reducible refine cndF ?_)
    have hs3 : t.size ≤ 3000 := by have := (right_vars hr).1; rw [size_e] at this; omega
    refine s.alloc zero_int rfl fun bo w3 s _ => ?_
    refine s.store1 0 rfl rfl (by show 0 < 1; decide) rfl fun w4 s _ => ?_
    have s : Sep [] w w4 (rB bo [.int .i64 0] 3 :: rB bm [.int .i64 m] 3 :: rB b t.cells 27 :: []) (rT t :: []) := s
    refine s.loadAll 2 rfl t.cells_len ?_
    refine fnW_of (by kernel_rfl) (c41_calls _ _ _ ?_)
    unfold c41
    refine s.box fun bt w5 s _ => ?_
    refine mkfunc_i ?_
    have s : Sep [] w w5 (rB bt t.cells 27 :: rB bo [.int .i64 0] 3 :: rB bm [.int .i64 m] 3 :: rB b t.cells 27 :: []) (rT t :: []) := s
    refine rangeNodes_i (t := t) (Q := fun p L => L = rB bo [.int .i64 (usesV m p : Nat)] 3 :: rB bm [.int .i64 m] 3 :: rB b t.cells 27 :: []) (by simp) hs3 s rfl ?_ ?_
    · rintro l D rdy bsy dn x p rest hx M _ W K' rfl s hK'
      have hxm := mem_mid hx
      have hnum := right_num hr hs3 x hxm
      have hxs := nodesV_le t 0 x hxm
      have hus : usesV m p ≤ 3000 := by
        have h1 := usesV_le m p
        have h2 := len_wtS (p ++ [x])
        have h3 := wtS_le hx
        simp only [List.length_append, List.length_singleton] at h2
        omega
      rw [usesV_snoc] at hK'
      obtain ⟨⟨k, n, nm, ls, lv, av, args⟩, dx⟩ := x
      have hok : TV.ok W (TV.mk k n nm ls lv av args) := s.rat 0 rfl
      refine s.alloc zero_term rfl fun q w6 s _ => ?_
      show storeW _ _ (TV.mk k n nm ls lv av args).v w6 _
      refine s.storeAll (vs := [iv k, iv n, sv nm, lv, av]) 0 rfl rfl rfl (TV.one hok) fun w7 s _ => ?_
      have s : Sep [] w w7 (rB q [iv k, iv n, sv nm, lv, av] 27 :: rX l rdy :: rX D dfr :: rB bo [.int .i64 (usesV m p : Nat)] 3 :: rB bm [.int .i64 m] 3 :: rB b t.cells 27 :: M) (rT (TV.mk k n nm ls lv av args) :: rT t :: []) := s
      refine ⟨s.at 1 rfl, s.at 2 rfl, ?_⟩
      have s := s.swap.putX bsy
      have hde : useS m (eN (TV.mk k n nm ls lv av args, dx)) = decide (k = 1 ∧ n = m + dx) := by
        unfold useS
        rw [eN_k, eN_n]; rfl
      rw [hde] at hK'
      have hout : ∀ (W : World) (c : Nat), Sep [] w W (rX l bsy :: rB q [iv k, iv n, sv nm, lv, av] 27 :: rX D dfr :: rB bo [.int .i64 c] 3 :: rB bm [.int .i64 m] 3 :: rB b t.cells 27 :: M) (rT (TV.mk k n nm ls lv av args) :: rT t :: []) → c = usesV m p + (if decide (k = 1 ∧ n = m + dx) then 1 else 0) → K' true (W.putObj l rdy) := by
        rintro W c s rfl
        have s := (s.putX rdy).drop 1
        exact hK' _ _ rfl (s.less (fun T hT => by simp only [List.mem_cons, List.not_mem_nil, or_false] at hT ⊢; exact .inr hT))
      refine bindX_i fun J0 g0 => ?_
      repeat (first | with_reducible refine gs_tf ?_ | with_reducible refine gs_ft ?_ | with_reducible refine gs_u ?_ | with_reducible refine pick_ti ?_ | with_reducible refine pick_fi ?_ | with_reducible refine ⟨gs_tf ⟨rfl, rfl⟩, ?_⟩ | with_reducible refine ⟨gs_ft ⟨rfl, rfl⟩, ?_⟩ | with_reducible refine ⟨gs_u ⟨rfl, rfl⟩, ?_⟩ | with_reducible refine gs_t ?_ | with_reducible refine gs_f ?_ | with_reducible refine off_i ?_ | with_reducible refine cndT ?_ | with_reducible refine cndF ?_ | (with_reducible show loadW _ _ _ _; first | refine s.load1 0 rfl rfl ?_ | refine s.load1 1 rfl rfl ?_ | refine s.load1 2 rfl rfl ?_ | refine s.load1 3 rfl rfl ?_ | refine s.load1 4 rfl rfl ?_))
      rw [ieql]
      by_cases hk : k = 1
      · rw [decide_eq_true hk]
        have hn1 : 0 ≤ n ∧ n ≤ 1099511627776 + 3000 ∧ dx ≤ 3000 := hnum hk
        repeat (first | with_reducible refine gs_tf ?_ | with_reducible refine gs_ft ?_ | with_reducible refine gs_u ?_ | with_reducible refine pick_ti ?_ | with_reducible refine pick_fi ?_ | with_reducible refine ⟨gs_tf ⟨rfl, rfl⟩, ?_⟩ | with_reducible refine ⟨gs_ft ⟨rfl, rfl⟩, ?_⟩ | with_reducible refine ⟨gs_u ⟨rfl, rfl⟩, ?_⟩ | with_reducible refine gs_t ?_ | with_reducible refine gs_f ?_ | with_reducible refine off_i ?_ | with_reducible refine cndT ?_ | with_reducible refine cndF ?_ | (with_reducible show loadW _ _ _ _; first | refine s.load1 0 rfl rfl ?_ | refine s.load1 1 rfl rfl ?_ | refine s.load1 2 rfl rfl ?_ | refine s.load1 3 rfl rfl ?_ | refine s.load1 4 rfl rfl ?_))
        show binN _ _ _ _ (iv m) (Value.int .i64 dx) _ _
        refine iadd (by omega) ?_
        repeat (first | with_reducible refine gs_tf ?_ | with_reducible refine gs_ft ?_ | with_reducible refine gs_u ?_ | with_reducible refine pick_ti ?_ | with_reducible refine pick_fi ?_ | with_reducible refine ⟨gs_tf ⟨rfl, rfl⟩, ?_⟩ | with_reducible refine ⟨gs_ft ⟨rfl, rfl⟩, ?_⟩ | with_reducible refine ⟨gs_u ⟨rfl, rfl⟩, ?_⟩ | with_reducible refine gs_t ?_ | with_reducible refine gs_f ?_ | with_reducible refine off_i ?_ | with_reducible refine cndT ?_ | with_reducible refine cndF ?_)
        rw [ieql]
        repeat (first | with_reducible refine gs_tf ?_ | with_reducible refine gs_ft ?_ | with_reducible refine gs_u ?_ | with_reducible refine pick_ti ?_ | with_reducible refine pick_fi ?_ | with_reducible refine ⟨gs_tf ⟨rfl, rfl⟩, ?_⟩ | with_reducible refine ⟨gs_ft ⟨rfl, rfl⟩, ?_⟩ | with_reducible refine ⟨gs_u ⟨rfl, rfl⟩, ?_⟩ | with_reducible refine gs_t ?_ | with_reducible refine gs_f ?_ | with_reducible refine off_i ?_ | with_reducible refine cndT ?_ | with_reducible refine cndF ?_)
        refine cond_d (fun hn => ?_) (fun hn => ?_)
        · repeat (first | with_reducible refine gs_tf ?_ | with_reducible refine gs_ft ?_ | with_reducible refine gs_u ?_ | with_reducible refine pick_ti ?_ | with_reducible refine pick_fi ?_ | with_reducible refine ⟨gs_tf ⟨rfl, rfl⟩, ?_⟩ | with_reducible refine ⟨gs_ft ⟨rfl, rfl⟩, ?_⟩ | with_reducible refine ⟨gs_u ⟨rfl, rfl⟩, ?_⟩ | with_reducible refine gs_t ?_ | with_reducible refine gs_f ?_ | with_reducible refine off_i ?_ | with_reducible refine cndT ?_ | with_reducible refine cndF ?_ | (with_reducible show loadW _ _ _ _; first | refine s.load1 0 rfl rfl ?_ | refine s.load1 1 rfl rfl ?_ | refine s.load1 2 rfl rfl ?_ | refine s.load1 3 rfl rfl ?_ | refine s.load1 4 rfl rfl ?_))
          refine nadd (y := 1) (by omega) ?_
          refine s.store1 3 rfl rfl (by show 0 < 1; decide) rfl fun w8 s _ => ?_
          refine ⟨s.at 0 rfl, s.at 2 rfl, hout _ _ s ?_⟩
          rw [decide_eq_true ⟨hk, hn⟩]; rfl
        · refine ⟨s.at 0 rfl, s.at 2 rfl, hout _ _ s ?_⟩
          rw [decide_eq_false (fun hh => hn hh.2)]; rfl
      · rw [decide_eq_false hk]
        repeat (first | with_reducible refine gs_tf ?_ | with_reducible refine gs_ft ?_ | with_reducible refine gs_u ?_ | with_reducible refine pick_ti ?_ | with_reducible refine pick_fi ?_ | with_reducible refine ⟨gs_tf ⟨rfl, rfl⟩, ?_⟩ | with_reducible refine ⟨gs_ft ⟨rfl, rfl⟩, ?_⟩ | with_reducible refine ⟨gs_u ⟨rfl, rfl⟩, ?_⟩ | with_reducible refine gs_t ?_ | with_reducible refine gs_f ?_ | with_reducible refine off_i ?_ | with_reducible refine cndT ?_ | with_reducible refine cndF ?_)
        refine ⟨s.at 0 rfl, s.at 2 rfl, hout _ _ s ?_⟩
        rw [decide_eq_false (fun hh => hk hh.1)]; rfl
    · rintro l D ob M _ W rfl s
      refine s.load1 2 rfl rfl ?_
      refine ⟨s.at 1 rfl, fun W8 hW8 => ?_⟩
      subst hW8
      have s := (s.drop 0).putX (.deferred none)
      rw [usesV_all]
      exact hK _ s.ext
end Go.Proofs.YtbaddpnlokmldaaDoor
