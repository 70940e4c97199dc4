/- The document's Right, Any; levels made; law08's variable, constant, Great, same: walks. Conditions: see each. -/
import Derived.Test.YtbaddpnlokmldaaDoorIK
import Derived.Test.YtbaddpnlokmldaaDoorCQ
namespace Go.Proofs.YtbaddpnlokmldaaDoor
open Go
set_option maxRecDepth 100000

theorem rRight_c {w : World} {K : VPost} {t : TV} {p v : Int} (h : t.ok w) (hsz : t.size ≤ 1000000) (hK : ∀ w', Ext [] w w' → K (.bool (rightR t.e p v)) w') : Calls Tryd.prog 42 #[t.v, .int .i64 p, .int .i64 v] w (retK K) := by
  refine c42_calls _ _ _ w K ?_
  unfold c42
  refine TV.box h fun b w1 s => ?_
  have hR : ∀ r : Bool, rightR t.e p v = r → ∀ w', Ext [] w w' → K (.bool r) w' := fun r h w' e => by
    have := hK w' e
    rwa [h] at this
  have hde : rightR t.e p v = (decide (0 ≤ p ∧ p ≤ 4 ∧ 0 ≤ v ∧ v ≤ 1099511627776 ∧ t.size ≤ 3000) && allR t.e p v 0) := by unfold rightR; rw [size_e]
  rw [hde] at hR
  rw [igeq]
  by_cases h1 : 0 ≤ p
  case neg =>
    rw [decide_eq_false h1]
    repeat (first | with_reducible refine gs_tf ?_ | with_reducible refine gs_ft ?_ | with_reducible refine gs_u ?_ | with_reducible refine pick_ti ?_ | with_reducible refine pick_fi ?_ | with_reducible refine ⟨gs_tf ⟨rfl, rfl⟩, ?_⟩ | with_reducible refine ⟨gs_ft ⟨rfl, rfl⟩, ?_⟩ | with_reducible refine ⟨gs_u ⟨rfl, rfl⟩, ?_⟩ | with_reducible refine gs_t ?_ | with_reducible refine gs_f ?_ | with_reducible refine off_i ?_ | with_reducible refine cndT ?_ | with_reducible refine cndF ?_)
    exact hR _ (by rw [decide_eq_false (by omega)]; rfl) _ s.ext
  rw [decide_eq_true h1]
  repeat (first | with_reducible refine gs_tf ?_ | with_reducible refine gs_ft ?_ | with_reducible refine gs_u ?_ | with_reducible refine pick_ti ?_ | with_reducible refine pick_fi ?_ | with_reducible refine ⟨gs_tf ⟨rfl, rfl⟩, ?_⟩ | with_reducible refine ⟨gs_ft ⟨rfl, rfl⟩, ?_⟩ | with_reducible refine ⟨gs_u ⟨rfl, rfl⟩, ?_⟩ | with_reducible refine gs_t ?_ | with_reducible refine gs_f ?_ | with_reducible refine off_i ?_ | with_reducible refine cndT ?_ | with_reducible refine cndF ?_)
  rw [ileq]
  by_cases h2 : p ≤ 4
  case neg =>
    rw [decide_eq_false h2]
    repeat (first | with_reducible refine gs_tf ?_ | with_reducible refine gs_ft ?_ | with_reducible refine gs_u ?_ | with_reducible refine pick_ti ?_ | with_reducible refine pick_fi ?_ | with_reducible refine ⟨gs_tf ⟨rfl, rfl⟩, ?_⟩ | with_reducible refine ⟨gs_ft ⟨rfl, rfl⟩, ?_⟩ | with_reducible refine ⟨gs_u ⟨rfl, rfl⟩, ?_⟩ | with_reducible refine gs_t ?_ | with_reducible refine gs_f ?_ | with_reducible refine off_i ?_ | with_reducible refine cndT ?_ | with_reducible refine cndF ?_)
    exact hR _ (by rw [decide_eq_false (by omega)]; rfl) _ s.ext
  rw [decide_eq_true h2]
  repeat (first | with_reducible refine gs_tf ?_ | with_reducible refine gs_ft ?_ | with_reducible refine gs_u ?_ | with_reducible refine pick_ti ?_ | with_reducible refine pick_fi ?_ | with_reducible refine ⟨gs_tf ⟨rfl, rfl⟩, ?_⟩ | with_reducible refine ⟨gs_ft ⟨rfl, rfl⟩, ?_⟩ | with_reducible refine ⟨gs_u ⟨rfl, rfl⟩, ?_⟩ | with_reducible refine gs_t ?_ | with_reducible refine gs_f ?_ | with_reducible refine off_i ?_ | with_reducible refine cndT ?_ | with_reducible refine cndF ?_)
  rw [igeq]
  by_cases h3 : 0 ≤ v
  case neg =>
    rw [decide_eq_false h3]
    repeat (first | with_reducible refine gs_tf ?_ | with_reducible refine gs_ft ?_ | with_reducible refine gs_u ?_ | with_reducible refine pick_ti ?_ | with_reducible refine pick_fi ?_ | with_reducible refine ⟨gs_tf ⟨rfl, rfl⟩, ?_⟩ | with_reducible refine ⟨gs_ft ⟨rfl, rfl⟩, ?_⟩ | with_reducible refine ⟨gs_u ⟨rfl, rfl⟩, ?_⟩ | with_reducible refine gs_t ?_ | with_reducible refine gs_f ?_ | with_reducible refine off_i ?_ | with_reducible refine cndT ?_ | with_reducible refine cndF ?_)
    exact hR _ (by rw [decide_eq_false (by omega)]; rfl) _ s.ext
  rw [decide_eq_true h3]
  repeat (first | with_reducible refine gs_tf ?_ | with_reducible refine gs_ft ?_ | with_reducible refine gs_u ?_ | with_reducible refine pick_ti ?_ | with_reducible refine pick_fi ?_ | with_reducible refine ⟨gs_tf ⟨rfl, rfl⟩, ?_⟩ | with_reducible refine ⟨gs_ft ⟨rfl, rfl⟩, ?_⟩ | with_reducible refine ⟨gs_u ⟨rfl, rfl⟩, ?_⟩ | with_reducible refine gs_t ?_ | with_reducible refine gs_f ?_ | with_reducible refine off_i ?_ | with_reducible refine cndT ?_ | with_reducible refine cndF ?_)
  rw [ileq]
  by_cases h4 : v ≤ 1099511627776
  case neg =>
    rw [decide_eq_false h4]
    repeat (first | with_reducible refine gs_tf ?_ | with_reducible refine gs_ft ?_ | with_reducible refine gs_u ?_ | with_reducible refine pick_ti ?_ | with_reducible refine pick_fi ?_ | with_reducible refine ⟨gs_tf ⟨rfl, rfl⟩, ?_⟩ | with_reducible refine ⟨gs_ft ⟨rfl, rfl⟩, ?_⟩ | with_reducible refine ⟨gs_u ⟨rfl, rfl⟩, ?_⟩ | with_reducible refine gs_t ?_ | with_reducible refine gs_f ?_ | with_reducible refine off_i ?_ | with_reducible refine cndT ?_ | with_reducible refine cndF ?_)
    exact hR _ (by rw [decide_eq_false (by omega)]; rfl) _ s.ext
  rw [decide_eq_true h4]
  repeat (first | with_reducible refine gs_tf ?_ | with_reducible refine gs_ft ?_ | with_reducible refine gs_u ?_ | with_reducible refine pick_ti ?_ | with_reducible refine pick_fi ?_ | with_reducible refine ⟨gs_tf ⟨rfl, rfl⟩, ?_⟩ | with_reducible refine ⟨gs_ft ⟨rfl, rfl⟩, ?_⟩ | with_reducible refine ⟨gs_u ⟨rfl, rfl⟩, ?_⟩ | with_reducible refine gs_t ?_ | with_reducible refine gs_f ?_ | with_reducible refine off_i ?_ | with_reducible refine cndT ?_ | with_reducible refine cndF ?_)
  refine s.loadAll 0 rfl t.cells_len ?_
  repeat (first | with_reducible refine gs_tf ?_ | with_reducible refine gs_ft ?_ | with_reducible refine gs_u ?_ | with_reducible refine pick_ti ?_ | with_reducible refine pick_fi ?_ | with_reducible refine ⟨gs_tf ⟨rfl, rfl⟩, ?_⟩ | with_reducible refine ⟨gs_ft ⟨rfl, rfl⟩, ?_⟩ | with_reducible refine ⟨gs_u ⟨rfl, rfl⟩, ?_⟩ | with_reducible refine gs_t ?_ | with_reducible refine gs_f ?_ | with_reducible refine off_i ?_ | with_reducible refine cndT ?_ | with_reducible refine cndF ?_)
  refine fnW_of (by kernel_rfl) (nodes_c t (most := 3000) (s.rat 0 rfl) (by omega) fun w2 e2 => ?_)
  have s := s.ext0 e2
  repeat (first | with_reducible refine gs_tf ?_ | with_reducible refine gs_ft ?_ | with_reducible refine gs_u ?_ | with_reducible refine pick_ti ?_ | with_reducible refine pick_fi ?_ | with_reducible refine ⟨gs_tf ⟨rfl, rfl⟩, ?_⟩ | with_reducible refine ⟨gs_ft ⟨rfl, rfl⟩, ?_⟩ | with_reducible refine ⟨gs_u ⟨rfl, rfl⟩, ?_⟩ | with_reducible refine gs_t ?_ | with_reducible refine gs_f ?_ | with_reducible refine off_i ?_ | with_reducible refine cndT ?_ | with_reducible refine cndF ?_)
  refine nleq (y := 3000) ?_
  by_cases h5 : t.size ≤ 3000
  case neg =>
    rw [decide_eq_false (by omega)]
    repeat (first | with_reducible refine gs_tf ?_ | with_reducible refine gs_ft ?_ | with_reducible refine gs_u ?_ | with_reducible refine pick_ti ?_ | with_reducible refine pick_fi ?_ | with_reducible refine ⟨gs_tf ⟨rfl, rfl⟩, ?_⟩ | with_reducible refine ⟨gs_ft ⟨rfl, rfl⟩, ?_⟩ | with_reducible refine ⟨gs_u ⟨rfl, rfl⟩, ?_⟩ | with_reducible refine gs_t ?_ | with_reducible refine gs_f ?_ | with_reducible refine off_i ?_ | with_reducible refine cndT ?_ | with_reducible refine cndF ?_)
    exact hR _ (by rw [decide_eq_false (by omega)]; rfl) _ s.ext
  rw [decide_eq_true (by omega)]
  repeat (first | with_reducible refine gs_tf ?_ | with_reducible refine gs_ft ?_ | with_reducible refine gs_u ?_ | with_reducible refine pick_ti ?_ | with_reducible refine pick_fi ?_ | with_reducible refine ⟨gs_tf ⟨rfl, rfl⟩, ?_⟩ | with_reducible refine ⟨gs_ft ⟨rfl, rfl⟩, ?_⟩ | with_reducible refine ⟨gs_u ⟨rfl, rfl⟩, ?_⟩ | with_reducible refine gs_t ?_ | with_reducible refine gs_f ?_ | with_reducible refine off_i ?_ | with_reducible refine cndT ?_ | with_reducible refine cndF ?_)
  refine s.loadAll 0 rfl t.cells_len ?_
  repeat (first | with_reducible refine gs_tf ?_ | with_reducible refine gs_ft ?_ | with_reducible refine gs_u ?_ | with_reducible refine pick_ti ?_ | with_reducible refine pick_fi ?_ | with_reducible refine ⟨gs_tf ⟨rfl, rfl⟩, ?_⟩ | with_reducible refine ⟨gs_ft ⟨rfl, rfl⟩, ?_⟩ | with_reducible refine ⟨gs_u ⟨rfl, rfl⟩, ?_⟩ | with_reducible refine gs_t ?_ | with_reducible refine gs_f ?_ | with_reducible refine off_i ?_ | with_reducible refine cndT ?_ | with_reducible refine cndF ?_)
  refine fnW_of (by kernel_rfl) (rright_c t p v 0 (s.rat 0 rfl) hsz h3 (by omega) (by omega) fun w3 e3 => ?_)
  repeat (first | with_reducible refine gs_tf ?_ | with_reducible refine gs_ft ?_ | with_reducible refine gs_u ?_ | with_reducible refine pick_ti ?_ | with_reducible refine pick_fi ?_ | with_reducible refine ⟨gs_tf ⟨rfl, rfl⟩, ?_⟩ | with_reducible refine ⟨gs_ft ⟨rfl, rfl⟩, ?_⟩ | with_reducible refine ⟨gs_u ⟨rfl, rfl⟩, ?_⟩ | with_reducible refine gs_t ?_ | with_reducible refine gs_f ?_ | with_reducible refine off_i ?_ | with_reducible refine cndT ?_ | with_reducible refine cndF ?_)
  refine hR _ ?_ _ (s.ext.new e3)
  rw [decide_eq_true ⟨h1, h2, h3, h4, h5⟩, Bool.true_and]
theorem rAny_c {w : World} {K : VPost} {t : TV} (h : t.ok w) (hsz : t.size ≤ 1000000) (hK : ∀ w', Ext [] w w' → K (.bool (rightR t.e 4 1099511627776)) w') : Calls Tryd.prog 23 #[t.v] w (retK K) := by
  refine c23_calls _ w K ?_
  unfold c23
  refine TV.box h fun b w1 s => ?_
  refine s.loadAll 0 rfl t.cells_len ?_
  exact fnW_of (by kernel_rfl) (rRight_c (s.rat 0 rfl) hsz fun w2 e2 => hK _ (s.ext.new e2))

/-! Levels made. -/
def numLv (n : Int) : Lv := ⟨n, -1, -1, -1, -1⟩
theorem zero_level : zeroO Tryd.prog 48 = some (.agg zL.toArray) := by kernel_rfl
theorem str_level : strI Tryd.prog 48 = some ([(0, 1), (1, 4)], zL) := by kernel_rfl
theorem fill_lv (n : Int) : fillL [(0, 1), (1, 4)] zL [(0, iv n), (1, .agg #[iv (-1), iv (-1), iv (-1), iv (-1)])] = some (numLv n).cells := by
  have h1 : ∀ n : Int, (iv n).cells = #[iv n] := fun _ => rfl
  simp [fillL, h1, lspl, zL, numLv, Lv.cells, Value.cells]
theorem run_plus (w : World) : (Instr.build 46 #[(0, .int .i64 (-1)), (1, .int .i64 (-1)), (2, .int .i64 (-1)), (3, .int .i64 (-1))]).run Tryd.prog w = .ok (.agg #[iv (-1), iv (-1), iv (-1), iv (-1)]) w := by kernel_rfl
theorem rnum_c {w : World} {K : VPost} {n : Int} (hK : ∀ w', Ext [] w w' → K (.agg (numLv n).cells.toArray) w') : Calls Tryd.prog 43 #[.int .i64 n] w (retK K) := by
  refine c43_calls _ w K ?_
  unfold c43
  refine (Sep.nil w).alloc zero_level rfl fun b w1 s _ => ?_
  refine insW_ok (run_plus w1) ?_
  refine build_i str_level (fill_lv n) ?_
  refine s.storeAll 0 rfl rfl rfl (lvl_one _) fun w2 s _ => ?_
  refine s.loadAll 0 rfl rfl ?_
  exact hK w2 s.ext
theorem rparam1_c {w : World} {K : VPost} (hK : ∀ w', Ext [] w w' → K (.agg (Lv.mk 0 (-1) 0 (-1) (-1)).cells.toArray) w') : Calls Tryd.prog 26 #[.int .i64 1, .int .i64 0] w (retK K) := by
  refine c26_calls _ _ w K ?_
  unfold c26
  refine (Sep.nil w).alloc zero_level rfl fun b w1 s _ => ?_
  refine fnW_of (by kernel_rfl) (rnum_c fun w2 e2 => ?_)
  have s := s.ext0 e2
  refine s.alloc zero_level rfl fun b5 w3 s _ => ?_
  refine s.storeAll 0 rfl rfl rfl (lvl_one _) fun w4 s _ => ?_
  have s : Sep [] w w4 (rB b5 (numLv (-1)).cells 48 :: rB b zL 48 :: []) [] := s
  rw [ilss, decide_eq_false (by decide)]
  repeat (first | with_reducible refine gs_tf ?_ | with_reducible refine gs_ft ?_ | with_reducible refine gs_u ?_ | with_reducible refine pick_ti ?_ | with_reducible refine pick_fi ?_ | with_reducible refine ⟨gs_tf ⟨rfl, rfl⟩, ?_⟩ | with_reducible refine ⟨gs_ft ⟨rfl, rfl⟩, ?_⟩ | with_reducible refine ⟨gs_u ⟨rfl, rfl⟩, ?_⟩ | with_reducible refine gs_t ?_ | with_reducible refine gs_f ?_ | with_reducible refine off_i ?_ | with_reducible refine cndT ?_ | with_reducible refine cndF ?_)
  rw [igtr, decide_eq_false (by decide)]
  repeat (first | with_reducible refine gs_tf ?_ | with_reducible refine gs_ft ?_ | with_reducible refine gs_u ?_ | with_reducible refine pick_ti ?_ | with_reducible refine pick_fi ?_ | with_reducible refine ⟨gs_tf ⟨rfl, rfl⟩, ?_⟩ | with_reducible refine ⟨gs_ft ⟨rfl, rfl⟩, ?_⟩ | with_reducible refine ⟨gs_u ⟨rfl, rfl⟩, ?_⟩ | with_reducible refine gs_t ?_ | with_reducible refine gs_f ?_ | with_reducible refine off_i ?_ | with_reducible refine cndT ?_ | with_reducible refine cndF ?_)
  rw [ilss, decide_eq_false (by decide)]
  repeat (first | with_reducible refine gs_tf ?_ | with_reducible refine gs_ft ?_ | with_reducible refine gs_u ?_ | with_reducible refine pick_ti ?_ | with_reducible refine pick_fi ?_ | with_reducible refine ⟨gs_tf ⟨rfl, rfl⟩, ?_⟩ | with_reducible refine ⟨gs_ft ⟨rfl, rfl⟩, ?_⟩ | with_reducible refine ⟨gs_u ⟨rfl, rfl⟩, ?_⟩ | with_reducible refine gs_t ?_ | with_reducible refine gs_f ?_ | with_reducible refine off_i ?_ | with_reducible refine cndT ?_ | with_reducible refine cndF ?_)
  rw [igtr, decide_eq_false (by decide)]
  repeat (first | with_reducible refine gs_tf ?_ | with_reducible refine gs_ft ?_ | with_reducible refine gs_u ?_ | with_reducible refine pick_ti ?_ | with_reducible refine pick_fi ?_ | with_reducible refine ⟨gs_tf ⟨rfl, rfl⟩, ?_⟩ | with_reducible refine ⟨gs_ft ⟨rfl, rfl⟩, ?_⟩ | with_reducible refine ⟨gs_u ⟨rfl, rfl⟩, ?_⟩ | with_reducible refine gs_t ?_ | with_reducible refine gs_f ?_ | with_reducible refine off_i ?_ | with_reducible refine cndT ?_ | with_reducible refine cndF ?_)
  refine s.store1 0 rfl rfl (by show 0 < 5; decide) rfl fun w5 s _ => ?_
  repeat (first | with_reducible refine gs_tf ?_ | with_reducible refine gs_ft ?_ | with_reducible refine gs_u ?_ | with_reducible refine pick_ti ?_ | with_reducible refine pick_fi ?_ | with_reducible refine ⟨gs_tf ⟨rfl, rfl⟩, ?_⟩ | with_reducible refine ⟨gs_ft ⟨rfl, rfl⟩, ?_⟩ | with_reducible refine ⟨gs_u ⟨rfl, rfl⟩, ?_⟩ | with_reducible refine gs_t ?_ | with_reducible refine gs_f ?_ | with_reducible refine off_i ?_ | with_reducible refine cndT ?_ | with_reducible refine cndF ?_)
  refine idxA_i (i := 1) (by decide) ?_
  refine s.store1 0 rfl rfl (by show 0 + 1 + 1 * 1 < 5; decide) rfl fun w6 s _ => ?_
  have s : Sep [] w w6 (rB b5 (Lv.mk 0 (-1) 0 (-1) (-1)).cells 48 :: rB b zL 48 :: []) [] := s
  refine s.loadAll 0 rfl rfl ?_
  refine s.storeAll 1 rfl rfl rfl (lvl_one _) fun w7 s _ => ?_
  refine s.loadAll 1 rfl rfl ?_
  exact hK w7 s.ext

/-! Terms without Args. -/
def leafV (k n : Int) (s : Bytes) : TV := .mk k n s [] (.slice none 0 0) (.slice none 0 0) []
theorem i64s {n : Int} (h : -9223372036854775808 ≤ n ∧ n ≤ 9223372036854775807) : i64ok n := h
theorem leaf_ok {w : World} {k n : Int} {s : Bytes} (hk : i64ok k) (hn : i64ok n) (hs : s.length < 2 ^ 60) : (leafV k n s).ok w :=
  tok_iff.2 ⟨hk, hn, hs, (by intro l hl; cases hl), (by show 0 < 2 ^ 50; decide), (by show 0 < 2 ^ 50; decide), ⟨rfl, .inl ⟨rfl, _, _, rfl⟩⟩, rfl, ⟨rfl, .inl ⟨rfl, _, _, rfl⟩⟩, rfl, by intro a ha; cases ha⟩
theorem leaf_foot (k n : Int) (s : Bytes) : (leafV k n s).foot = [] := by
  rw [TV.foot_eq]; rfl
theorem leaf_size (k n : Int) (s : Bytes) : (leafV k n s).size = 1 := rfl
theorem leaf_e (k n : Int) (s : Bytes) : (leafV k n s).e = .mk k n s [] [] := by rw [TV.e_eq]; rfl
theorem Sep.leaf {S : List Nat} {w0 w : World} {L R : List Res} {k n : Int} {b : Bytes} (s : Sep S w0 w L R) (hk : i64ok k) (hn : i64ok n) (hs : b.length < 2 ^ 60) : Sep S w0 w L (rT (leafV k n b) :: R) :=
  s.addR (T := rT (leafV k n b)) (leaf_ok hk hn hs) (by
    intro U _ x _ hm
    have hm : x ∈ (leafV k n b).foot := hm
    rw [leaf_foot] at hm
    cases hm)
theorem fill_var (n : Int) : fillL [(0, 1), (1, 1), (2, 1), (3, 1), (4, 1)] zT [(0, iv 1), (1, iv n)] = some (leafV 1 n []).cells := by
  have h1 : ∀ n : Int, (iv n).cells = #[iv n] := fun _ => rfl
  simp [fillL, h1, lspl, zT, leafV, TV.cells]
theorem fill_con (s : Bytes) : fillL [(0, 1), (1, 1), (2, 1), (3, 1), (4, 1)] zT [(0, iv 4), (2, sv s)] = some (leafV 4 0 s).cells := by
  have h1 : ∀ n : Int, (iv n).cells = #[iv n] := fun _ => rfl
  have h2 : (sv s).cells = #[sv s] := rfl
  simp [fillL, h1, h2, lspl, zT, leafV, TV.cells]
theorem fill_prop : fillL [(0, 1), (1, 1), (2, 1), (3, 1), (4, 1)] zT [(0, iv 2)] = some (leafV 2 0 []).cells := by
  have h1 : ∀ n : Int, (iv n).cells = #[iv n] := fun _ => rfl
  simp [fillL, h1, lspl, zT, leafV, TV.cells]
theorem leaf_one (k n : Int) (s : Bytes) : ∀ x ∈ (leafV k n s).cells, x.oneCell' = true := by
  intro x hx
  simp only [leafV, TV.cells, List.mem_cons, List.not_mem_nil, or_false] at hx
  rcases hx with rfl | rfl | rfl | rfl | rfl <;> rfl
section
variable {S : List Nat} {w0 w : World} {L R : List Res} {K : VPost}
theorem Sep.var (s : Sep S w0 w L R) {n : Int} (hn : i64ok n) (h : ∀ w', Sep S w0 w' L (rT (leafV 1 n []) :: R) → K (leafV 1 n []).v w') : fnW Tryd.prog 24 #[.int .i64 n] w K := by
  refine fnW_of (by kernel_rfl) (c24_calls _ w K ?_)
  unfold c24
  refine s.alloc zero_term rfl fun b w1 s _ => ?_
  refine build_i str_term (fill_var n) ?_
  refine s.storeAll 0 rfl rfl rfl (leaf_one _ _ _) fun w2 s _ => ?_
  refine s.loadAll 0 rfl rfl ?_
  exact h w2 ((s.drop 0).leaf ⟨by decide, by decide⟩ hn (by decide))
theorem Sep.con (s : Sep S w0 w L R) {b : Bytes} (hb : b.length < 2 ^ 60) (h : ∀ w', Sep S w0 w' L (rT (leafV 4 0 b) :: R) → K (leafV 4 0 b).v w') : fnW Tryd.prog 25 #[sv b] w K := by
  refine fnW_of (by kernel_rfl) (c25_calls _ w K ?_)
  unfold c25
  refine s.alloc zero_term rfl fun q w1 s _ => ?_
  refine build_i str_term (fill_con b) ?_
  refine s.storeAll 0 rfl rfl rfl (leaf_one _ _ _) fun w2 s _ => ?_
  refine s.loadAll 0 rfl rfl ?_
  exact h w2 ((s.drop 0).leaf ⟨by decide, by decide⟩ ⟨by decide, by decide⟩ hb)
end
theorem great8_c {w : World} {K : VPost} {t : TV} (h : t.ok w) (hK : ∀ w', Ext [] w w' → K (.bool (decide (3600 < t.size))) w') : Calls Tryd.prog 10 #[t.v] w (retK K) := by
  refine c10_calls _ w K ?_
  unfold c10
  refine TV.box h fun b w1 s => ?_
  refine s.loadAll 0 rfl t.cells_len ?_
  refine fnW_of (by kernel_rfl) (nodes_c t (most := 3600) (s.rat 0 rfl) (by omega) fun w2 e2 => ?_)
  refine ngtr (y := 3600) ?_
  have := hK _ (s.ext.new e2)
  rwa [decide_eq_decide.2 (show 3600 < t.size ↔ 3600 < min t.size (3600 + 1) by omega)] at this
theorem same8_c {w : World} {K : VPost} {x y : Value} {ts us : List TV} (hx : RdSl w x 5 (tcs ts) ts.length) (hy : RdSl w y 5 (tcs us) us.length) (h1 : ∀ t ∈ ts, t.ok w) (h2 : ∀ t ∈ us, t.ok w) (hn : ts.length < 2 ^ 50)
    (hT : ts.map TV.e = us.map TV.e → ∀ w', Ext [] w w' → K (.bool true) w') (hF : ts.map TV.e ≠ us.map TV.e → ∀ w', Ext [] w w' → K (.bool false) w') : Calls Tryd.prog 19 #[x, y] w (retK K) := by
  refine c19_calls _ _ w K ?_
  unfold c19
  rw [hx.lenw, hy.lenw]
  refine nneq (cond_d (fun hne => ?_) (fun hne => ?_))
  · exact hF (fun h => hne (by have := congrArg List.length h; simpa using this)) w (Ext.refl _ _)
  have hle : ts.length = us.length := by omega
  refine bindX_i fun J0 g0 => bindX_i fun J1 g1 => bindX_i fun J2 g2 => ?_
  refine loop_i (fun m fr wr => ∃ i : Nat, m = ts.length - i ∧ i ≤ ts.length ∧ (ts.take i).map TV.e = (us.take i).map TV.e ∧ fr 0 = x ∧ fr 1 = y ∧ fr 5 = .int .i64 i ∧ Ext [] w wr) ts.length ?_ ?_
  · exact ⟨0, rfl, by omega, rfl, rfl, rfl, rfl, Ext.refl _ _⟩
  · rintro m fr wr J ⟨i, rfl, hi, ht, f0, f1, f5, e1⟩ hJ hX
    rw [f0, f1, f5, hx.lenw]
    refine nlss (cond_d (fun hlt => ?_) (fun hlt => ?_))
    · have e2 := e1.new (Ext.drew [] wr)
      generalize wr.drew = wr at *
      have hlt2 : i < us.length := by omega
      obtain ⟨b1, o1, hix1, hld1⟩ := (hx.keep e2 (by simp)).term hlt .i64
      obtain ⟨b2, o2, hix2, hld2⟩ := (hy.keep e2 (by simp)).term hlt2 .i64
      refine hix1 _ ?_
      refine hld1 _ ?_
      refine hix2 _ ?_
      refine hld2 _ ?_
      refine fnW_of (by kernel_rfl) (same_c ts[i] us[i] (TV.keep e2 (h1 _ (List.getElem_mem hlt))) (TV.keep e2 (h2 _ (List.getElem_mem hlt2))) fun w3 e3 => ?_)
      refine not_ti ?_
      by_cases he : ts[i].e = us[i].e
      · rw [sameB_t he, Bool.not_true]
        refine cndF ?_
        refine nadd (y := 1) (by omega) ?_
        refine hJ (ts.length - (i + 1)) _ _ (by omega) ⟨i + 1, rfl, by omega, ?_, f0, f1, rfl, e2.new e3⟩
        rw [es_take hlt, es_take hlt2, ht, he]
      · rw [sameB_f he, Bool.not_false]
        refine cndT ?_
        refine hX _ _ _ (by simp) (g2 _ _ _ (g1 _ _ _ (g0 _ _ _ (hF (fun h => he ?_) _ (e2.new e3)))))
        have h6 : (ts.map TV.e)[i]? = (us.map TV.e)[i]? := by rw [h]
        simpa [hlt, hlt2] using h6
    · obtain rfl : i = ts.length := by omega
      rw [List.take_length, hle, List.take_length] at ht
      exact hX _ _ _ (by simp) (g2 _ _ _ (blk_x (seq_n g1 (hT ht wr e1))))
end Go.Proofs.YtbaddpnlokmldaaDoor
