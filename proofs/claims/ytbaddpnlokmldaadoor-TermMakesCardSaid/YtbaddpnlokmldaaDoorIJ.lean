/- The document's right, Right, Any (ref08): walks. Conditions: at most 10^6 nodes. -/
import Derived.Test.YtbaddpnlokmldaaDoorII
namespace Go.Proofs.YtbaddpnlokmldaaDoor
open Go
set_option maxRecDepth 100000

theorem str_nilN {P : Program} {w : World} {K : VPost} {t : TypeId} {c : Bool} {a : Bytes} (h : K (.bool (!decide (a = []))) w) : binW P .neq t c (sv a) (.string ⟨#[]⟩) w K := str_neq (a := a) (b := []) h
/-- How many levels a node has, as it should. -/
def lvC (k : Int) (n : Nat) : Bool := if k = 3 then decide (n = 1) else if k = 4 then decide (n ≤ 4) else decide (n = 0)
theorem lvsR_any {k n : Int} {s : Bytes} {ls : List Lv} {args : List TM} (p : Int) : lvsR (.mk k n s ls args) p = (lvC k ls.length && !ls.any (lvX p)) := by
  have e : lvsR (.mk k n s ls args) p = (lvC k ls.length && ls.all fun l => lvR l && decide (lvW l ≤ p)) := rfl
  rw [e]
  congr 1
  rw [Bool.eq_iff_iff, List.all_eq_true, Bool.not_eq_true', List.any_eq_false]
  refine forall_congr' fun l => forall_congr' fun _ => ?_
  unfold lvX
  cases lvR l with
  | false => simp
  | true => simp
def numC (k n v : Int) (s : Bytes) : Bool := if k = 1 then decide (0 ≤ n ∧ n < v ∧ s = []) else if k = 4 then decide (n = 0) && wordB s else if k = 9 then decide (0 ≤ n ∧ n ≤ 31) && wordB s else decide (n = 0 ∧ s = [])
set_option maxHeartbeats 2000000 in
theorem rright_c : ∀ (t : TV) (p v : Int) (d : Nat) {w : World} {K : VPost}, t.ok w → t.size ≤ 1000000 → 0 ≤ v → v + t.size ≤ 2 ^ 42 → d + t.size ≤ 2 ^ 42 → (∀ w', Ext [] w w' → K (.bool (allR t.e p v d)) w') → Calls Tryd.prog 62 #[t.v, .int .i64 p, .int .i64 v, .int .i64 d] w (retK K) := by
  refine TV.ind fun k n nm ls lv av args ih p v d w K h hsz hv0 hv hd hK => ?_
  refine c62_calls _ _ _ _ w K ?_
  unfold c62
  refine TV.box h fun b w1 s => ?_
  have hk := tok_iff.1 h
  have hnm : nm.length < 2 ^ 60 := hk.s
  have hz : (TV.mk k n nm ls lv av args).size = 1 + ls.length + TV.sizes args := by rw [TV.size]
  have ha1 : ∀ (w : World) (K : VPost), lenW Tryd.prog (some true) #[25] 3 #[av] w K = K (.int .i64 args.length) w := fun w K => RdSl.lenw hk.ar
  have hl1 : ∀ (w : World) (K : VPost), lenW Tryd.prog (some true) #[24] 3 #[lv] w K = K (.int .i64 ls.length) w := fun w K => RdSl.lenw hk.lr
  have he : (TV.mk k n nm ls lv av args).e = TM.mk k n nm ls (args.map TV.e) := by rw [TV.e_eq]; rfl
  have no : ∀ w', Ext [] w w' → nodeR (TM.mk k n nm ls (args.map TV.e)) p v d = false → K (.bool false) w' := fun w' e hn => by
    have := hK w' e
    rwa [he, allR_args, hn, Bool.false_and] at this
  have hnd : nodeR (TM.mk k n nm ls (args.map TV.e)) p v d = (decide (1 ≤ k ∧ k ≤ 9 ∧ d ≤ 200 ∧ (args.map TV.e).length = argsN k) && numC k n v nm && (lvC k ls.length && !ls.any (lvX p))) := by
    rw [← lvsR_any (n := n) (s := nm) (args := args.map TV.e)]; rfl
  rw [List.length_map] at hnd
  have s : Sep [] w w1 (rB b [iv k, iv n, sv nm, lv, av] 27 :: []) (rT (TV.mk k n nm ls lv av args) :: []) := s
  repeat (first | with_reducible refine gs_tf ?_ | with_reducible refine gs_ft ?_ | with_reducible refine gs_u ?_ | with_reducible refine pick_ti ?_ | with_reducible refine pick_fi ?_ | with_reducible refine ⟨gs_tf ⟨rfl, rfl⟩, ?_⟩ | with_reducible refine ⟨gs_ft ⟨rfl, rfl⟩, ?_⟩ | with_reducible refine ⟨gs_u ⟨rfl, rfl⟩, ?_⟩ | with_reducible refine gs_t ?_ | with_reducible refine gs_f ?_ | with_reducible refine off_i ?_ | with_reducible refine cndT ?_ | with_reducible refine cndF ?_ | (with_reducible show loadW _ _ _ _; first | refine s.load1 0 rfl rfl ?_))
  refine fnW_of (by kernel_rfl) (shape_c ?_)
  rw [extr0, extr1]
  repeat (first | with_reducible refine gs_tf ?_ | with_reducible refine gs_ft ?_ | with_reducible refine gs_u ?_ | with_reducible refine pick_ti ?_ | with_reducible refine pick_fi ?_ | with_reducible refine ⟨gs_tf ⟨rfl, rfl⟩, ?_⟩ | with_reducible refine ⟨gs_ft ⟨rfl, rfl⟩, ?_⟩ | with_reducible refine ⟨gs_u ⟨rfl, rfl⟩, ?_⟩ | with_reducible refine gs_t ?_ | with_reducible refine gs_f ?_ | with_reducible refine off_i ?_ | with_reducible refine cndT ?_ | with_reducible refine cndF ?_ | (with_reducible show loadW _ _ _ _; first | refine s.load1 0 rfl rfl ?_))
  rw [ilss]
  by_cases h1 : k < 1
  · rw [decide_eq_true h1]
    repeat (first | with_reducible refine gs_tf ?_ | with_reducible refine gs_ft ?_ | with_reducible refine gs_u ?_ | with_reducible refine pick_ti ?_ | with_reducible refine pick_fi ?_ | with_reducible refine ⟨gs_tf ⟨rfl, rfl⟩, ?_⟩ | with_reducible refine ⟨gs_ft ⟨rfl, rfl⟩, ?_⟩ | with_reducible refine ⟨gs_u ⟨rfl, rfl⟩, ?_⟩ | with_reducible refine gs_t ?_ | with_reducible refine gs_f ?_ | with_reducible refine off_i ?_ | with_reducible refine cndT ?_ | with_reducible refine cndF ?_)
    exact no _ s.ext (by rw [hnd, decide_eq_false (by omega)]; rfl)
  rw [decide_eq_false h1]
  repeat (first | with_reducible refine gs_tf ?_ | with_reducible refine gs_ft ?_ | with_reducible refine gs_u ?_ | with_reducible refine pick_ti ?_ | with_reducible refine pick_fi ?_ | with_reducible refine ⟨gs_tf ⟨rfl, rfl⟩, ?_⟩ | with_reducible refine ⟨gs_ft ⟨rfl, rfl⟩, ?_⟩ | with_reducible refine ⟨gs_u ⟨rfl, rfl⟩, ?_⟩ | with_reducible refine gs_t ?_ | with_reducible refine gs_f ?_ | with_reducible refine off_i ?_ | with_reducible refine cndT ?_ | with_reducible refine cndF ?_ | (with_reducible show loadW _ _ _ _; first | refine s.load1 0 rfl rfl ?_))
  rw [igtr]
  by_cases h9 : 9 < k
  · rw [decide_eq_true h9]
    repeat (first | with_reducible refine gs_tf ?_ | with_reducible refine gs_ft ?_ | with_reducible refine gs_u ?_ | with_reducible refine pick_ti ?_ | with_reducible refine pick_fi ?_ | with_reducible refine ⟨gs_tf ⟨rfl, rfl⟩, ?_⟩ | with_reducible refine ⟨gs_ft ⟨rfl, rfl⟩, ?_⟩ | with_reducible refine ⟨gs_u ⟨rfl, rfl⟩, ?_⟩ | with_reducible refine gs_t ?_ | with_reducible refine gs_f ?_ | with_reducible refine off_i ?_ | with_reducible refine cndT ?_ | with_reducible refine cndF ?_)
    exact no _ s.ext (by rw [hnd, decide_eq_false (by omega)]; rfl)
  rw [decide_eq_false h9]
  repeat (first | with_reducible refine gs_tf ?_ | with_reducible refine gs_ft ?_ | with_reducible refine gs_u ?_ | with_reducible refine pick_ti ?_ | with_reducible refine pick_fi ?_ | with_reducible refine ⟨gs_tf ⟨rfl, rfl⟩, ?_⟩ | with_reducible refine ⟨gs_ft ⟨rfl, rfl⟩, ?_⟩ | with_reducible refine ⟨gs_u ⟨rfl, rfl⟩, ?_⟩ | with_reducible refine gs_t ?_ | with_reducible refine gs_f ?_ | with_reducible refine off_i ?_ | with_reducible refine cndT ?_ | with_reducible refine cndF ?_ | (with_reducible show loadW _ _ _ _; first | refine s.load1 0 rfl rfl ?_))
  refine ngtr (y := 200) ?_
  by_cases hd2 : 200 < d
  · rw [decide_eq_true hd2]
    repeat (first | with_reducible refine gs_tf ?_ | with_reducible refine gs_ft ?_ | with_reducible refine gs_u ?_ | with_reducible refine pick_ti ?_ | with_reducible refine pick_fi ?_ | with_reducible refine ⟨gs_tf ⟨rfl, rfl⟩, ?_⟩ | with_reducible refine ⟨gs_ft ⟨rfl, rfl⟩, ?_⟩ | with_reducible refine ⟨gs_u ⟨rfl, rfl⟩, ?_⟩ | with_reducible refine gs_t ?_ | with_reducible refine gs_f ?_ | with_reducible refine off_i ?_ | with_reducible refine cndT ?_ | with_reducible refine cndF ?_)
    exact no _ s.ext (by rw [hnd, decide_eq_false (by omega)]; rfl)
  rw [decide_eq_false hd2]
  repeat (first | with_reducible refine gs_tf ?_ | with_reducible refine gs_ft ?_ | with_reducible refine gs_u ?_ | with_reducible refine pick_ti ?_ | with_reducible refine pick_fi ?_ | with_reducible refine ⟨gs_tf ⟨rfl, rfl⟩, ?_⟩ | with_reducible refine ⟨gs_ft ⟨rfl, rfl⟩, ?_⟩ | with_reducible refine ⟨gs_u ⟨rfl, rfl⟩, ?_⟩ | with_reducible refine gs_t ?_ | with_reducible refine gs_f ?_ | with_reducible refine off_i ?_ | with_reducible refine cndT ?_ | with_reducible refine cndF ?_ | (with_reducible show loadW _ _ _ _; first | refine s.load1 0 rfl rfl ?_))
  rw [ha1]
  repeat (first | with_reducible refine gs_tf ?_ | with_reducible refine gs_ft ?_ | with_reducible refine gs_u ?_ | with_reducible refine pick_ti ?_ | with_reducible refine pick_fi ?_ | with_reducible refine ⟨gs_tf ⟨rfl, rfl⟩, ?_⟩ | with_reducible refine ⟨gs_ft ⟨rfl, rfl⟩, ?_⟩ | with_reducible refine ⟨gs_u ⟨rfl, rfl⟩, ?_⟩ | with_reducible refine gs_t ?_ | with_reducible refine gs_f ?_ | with_reducible refine off_i ?_ | with_reducible refine cndT ?_ | with_reducible refine cndF ?_)
  refine nneq ?_
  by_cases hal : args.length = argsN k
  case neg =>
    rw [decide_eq_true (by simpa using hal)]
    repeat (first | with_reducible refine gs_tf ?_ | with_reducible refine gs_ft ?_ | with_reducible refine gs_u ?_ | with_reducible refine pick_ti ?_ | with_reducible refine pick_fi ?_ | with_reducible refine ⟨gs_tf ⟨rfl, rfl⟩, ?_⟩ | with_reducible refine ⟨gs_ft ⟨rfl, rfl⟩, ?_⟩ | with_reducible refine ⟨gs_u ⟨rfl, rfl⟩, ?_⟩ | with_reducible refine gs_t ?_ | with_reducible refine gs_f ?_ | with_reducible refine off_i ?_ | with_reducible refine cndT ?_ | with_reducible refine cndF ?_)
    exact no _ s.ext (by rw [hnd, decide_eq_false (by omega)]; rfl)
  rw [decide_eq_false (by simpa using hal)]
  have hd1 : decide (1 ≤ k ∧ k ≤ 9 ∧ d ≤ 200 ∧ args.length = argsN k) = true := decide_eq_true ⟨by omega, by omega, by omega, hal⟩
  rw [hd1, Bool.true_and] at hnd
  -- the levels' number
  have lvno : lvC k ls.length = false → ∀ w', Ext [] w w' → K (.bool false) w' := fun hc w' e => no w' e (by rw [hnd, hc, Bool.false_and, Bool.and_false])
  have hc4 : lvC k ls.length = true → ¬ 4 < ls.length := by
    unfold lvC
    intro h
    split at h
    · rw [decide_eq_true_eq] at h; omega
    · split at h
      · rw [decide_eq_true_eq] at h; omega
      · rw [decide_eq_true_eq] at h; omega
  repeat (first | with_reducible refine gs_tf ?_ | with_reducible refine gs_ft ?_ | with_reducible refine gs_u ?_ | with_reducible refine pick_ti ?_ | with_reducible refine pick_fi ?_ | with_reducible refine ⟨gs_tf ⟨rfl, rfl⟩, ?_⟩ | with_reducible refine ⟨gs_ft ⟨rfl, rfl⟩, ?_⟩ | with_reducible refine ⟨gs_u ⟨rfl, rfl⟩, ?_⟩ | with_reducible refine gs_t ?_ | with_reducible refine gs_f ?_ | with_reducible refine off_i ?_ | with_reducible refine cndT ?_ | with_reducible refine cndF ?_)
  rw [igeq]
  by_cases h4 : k = 4
  all_goals first
    | (
      have hs4 : shpL k = -1 := by subst h4; rfl
      rw [hs4, decide_eq_false (by omega)]
      have hlv : lvC k ls.length = decide (ls.length ≤ 4) := by subst h4; rfl
      repeat (first | with_reducible refine gs_tf ?_ | with_reducible refine gs_ft ?_ | with_reducible refine gs_u ?_ | with_reducible refine pick_ti ?_ | with_reducible refine pick_fi ?_ | with_reducible refine ⟨gs_tf ⟨rfl, rfl⟩, ?_⟩ | with_reducible refine ⟨gs_ft ⟨rfl, rfl⟩, ?_⟩ | with_reducible refine ⟨gs_u ⟨rfl, rfl⟩, ?_⟩ | with_reducible refine gs_t ?_ | with_reducible refine gs_f ?_ | with_reducible refine off_i ?_ | with_reducible refine cndT ?_ | with_reducible refine cndF ?_ | (with_reducible show loadW _ _ _ _; first | refine s.load1 0 rfl rfl ?_))
      rw [hl1]
      repeat (first | with_reducible refine gs_tf ?_ | with_reducible refine gs_ft ?_ | with_reducible refine gs_u ?_ | with_reducible refine pick_ti ?_ | with_reducible refine pick_fi ?_ | with_reducible refine ⟨gs_tf ⟨rfl, rfl⟩, ?_⟩ | with_reducible refine ⟨gs_ft ⟨rfl, rfl⟩, ?_⟩ | with_reducible refine ⟨gs_u ⟨rfl, rfl⟩, ?_⟩ | with_reducible refine gs_t ?_ | with_reducible refine gs_f ?_ | with_reducible refine off_i ?_ | with_reducible refine cndT ?_ | with_reducible refine cndF ?_)
      refine ngtr (y := 4) ?_
      by_cases h5 : 4 < ls.length
      case pos =>
        rw [decide_eq_true h5]
        repeat (first | with_reducible refine gs_tf ?_ | with_reducible refine gs_ft ?_ | with_reducible refine gs_u ?_ | with_reducible refine pick_ti ?_ | with_reducible refine pick_fi ?_ | with_reducible refine ⟨gs_tf ⟨rfl, rfl⟩, ?_⟩ | with_reducible refine ⟨gs_ft ⟨rfl, rfl⟩, ?_⟩ | with_reducible refine ⟨gs_u ⟨rfl, rfl⟩, ?_⟩ | with_reducible refine gs_t ?_ | with_reducible refine gs_f ?_ | with_reducible refine off_i ?_ | with_reducible refine cndT ?_ | with_reducible refine cndF ?_)
        exact lvno (by rw [hlv, decide_eq_false (by omega)]) _ s.ext
      rw [decide_eq_false h5]
      have hc : lvC k ls.length = true := by rw [hlv, decide_eq_true (by omega)])
    | (
      have hs4 : 0 ≤ shpL k := by unfold shpL; rw [if_neg h4]; split <;> decide
      have hlv : lvC k ls.length = decide ((ls.length : Int) = shpL k) := by
        unfold lvC shpL
        rw [if_neg h4, if_neg h4]
        split <;> (rw [decide_eq_decide]; omega)
      rw [decide_eq_true hs4]
      repeat (first | with_reducible refine gs_tf ?_ | with_reducible refine gs_ft ?_ | with_reducible refine gs_u ?_ | with_reducible refine pick_ti ?_ | with_reducible refine pick_fi ?_ | with_reducible refine ⟨gs_tf ⟨rfl, rfl⟩, ?_⟩ | with_reducible refine ⟨gs_ft ⟨rfl, rfl⟩, ?_⟩ | with_reducible refine ⟨gs_u ⟨rfl, rfl⟩, ?_⟩ | with_reducible refine gs_t ?_ | with_reducible refine gs_f ?_ | with_reducible refine off_i ?_ | with_reducible refine cndT ?_ | with_reducible refine cndF ?_ | (with_reducible show loadW _ _ _ _; first | refine s.load1 0 rfl rfl ?_))
      rw [hl1]
      repeat (first | with_reducible refine gs_tf ?_ | with_reducible refine gs_ft ?_ | with_reducible refine gs_u ?_ | with_reducible refine pick_ti ?_ | with_reducible refine pick_fi ?_ | with_reducible refine ⟨gs_tf ⟨rfl, rfl⟩, ?_⟩ | with_reducible refine ⟨gs_ft ⟨rfl, rfl⟩, ?_⟩ | with_reducible refine ⟨gs_u ⟨rfl, rfl⟩, ?_⟩ | with_reducible refine gs_t ?_ | with_reducible refine gs_f ?_ | with_reducible refine off_i ?_ | with_reducible refine cndT ?_ | with_reducible refine cndF ?_)
      rw [ineq]
      by_cases h5 : (ls.length : Int) = shpL k
      case neg =>
        rw [decide_eq_true (by simpa using h5)]
        repeat (first | with_reducible refine gs_tf ?_ | with_reducible refine gs_ft ?_ | with_reducible refine gs_u ?_ | with_reducible refine pick_ti ?_ | with_reducible refine pick_fi ?_ | with_reducible refine ⟨gs_tf ⟨rfl, rfl⟩, ?_⟩ | with_reducible refine ⟨gs_ft ⟨rfl, rfl⟩, ?_⟩ | with_reducible refine ⟨gs_u ⟨rfl, rfl⟩, ?_⟩ | with_reducible refine gs_t ?_ | with_reducible refine gs_f ?_ | with_reducible refine off_i ?_ | with_reducible refine cndT ?_ | with_reducible refine cndF ?_)
        exact lvno (by rw [hlv, decide_eq_false h5]) _ s.ext
      rw [decide_eq_false (by simpa using h5)]
      have hc : lvC k ls.length = true := by rw [hlv, decide_eq_true h5]
      repeat (first | with_reducible refine gs_tf ?_ | with_reducible refine gs_ft ?_ | with_reducible refine gs_u ?_ | with_reducible refine pick_ti ?_ | with_reducible refine pick_fi ?_ | with_reducible refine ⟨gs_tf ⟨rfl, rfl⟩, ?_⟩ | with_reducible refine ⟨gs_ft ⟨rfl, rfl⟩, ?_⟩ | with_reducible refine ⟨gs_u ⟨rfl, rfl⟩, ?_⟩ | with_reducible refine gs_t ?_ | with_reducible refine gs_f ?_ | with_reducible refine off_i ?_ | with_reducible refine cndT ?_ | with_reducible refine cndF ?_ | (with_reducible show loadW _ _ _ _; first | refine s.load1 0 rfl rfl ?_))
      rw [hl1]
      repeat (first | with_reducible refine gs_tf ?_ | with_reducible refine gs_ft ?_ | with_reducible refine gs_u ?_ | with_reducible refine pick_ti ?_ | with_reducible refine pick_fi ?_ | with_reducible refine ⟨gs_tf ⟨rfl, rfl⟩, ?_⟩ | with_reducible refine ⟨gs_ft ⟨rfl, rfl⟩, ?_⟩ | with_reducible refine ⟨gs_u ⟨rfl, rfl⟩, ?_⟩ | with_reducible refine gs_t ?_ | with_reducible refine gs_f ?_ | with_reducible refine off_i ?_ | with_reducible refine cndT ?_ | with_reducible refine cndF ?_)
      refine ngtr (y := 4) ?_
      rw [decide_eq_false (hc4 hc)])
  all_goals
    rw [hc, Bool.true_and] at hnd
    repeat (first | with_reducible refine gs_tf ?_ | with_reducible refine gs_ft ?_ | with_reducible refine gs_u ?_ | with_reducible refine pick_ti ?_ | with_reducible refine pick_fi ?_ | with_reducible refine ⟨gs_tf ⟨rfl, rfl⟩, ?_⟩ | with_reducible refine ⟨gs_ft ⟨rfl, rfl⟩, ?_⟩ | with_reducible refine ⟨gs_u ⟨rfl, rfl⟩, ?_⟩ | with_reducible refine gs_t ?_ | with_reducible refine gs_f ?_ | with_reducible refine off_i ?_ | with_reducible refine cndT ?_ | with_reducible refine cndF ?_)
    refine bindX_i fun J0 g0 => bindX_i fun J1 g1 => bindX_i fun J2 g2 => ?_
    have tail : ls.any (lvX p) = false → ∀ (fr : Fr) (wr : World), fr 1 = .int .i64 p → fr 2 = .int .i64 v → fr 3 = .int .i64 d → fr 4 = .pointer (some ⟨b, 0, none⟩) → Sep [] w wr (rB b [iv k, iv n, sv nm, lv, av] 27 :: []) (rT (TV.mk k n nm ls lv av args) :: []) → J1 .normal fr wr := by
      intro hany fr wr f1 f2 f3 f4 s
      rw [hany, Bool.not_false, Bool.and_true] at hnd
      have nno : numC k n v nm = false → ∀ w', Ext [] w w' → K (.bool false) w' := fun hc w' e => no w' e (by rw [hnd, hc])
      have hdn : numC k n v nm = if k = 1 then decide (0 ≤ n ∧ n < v ∧ nm = []) else if k = 4 then decide (n = 0) && wordB nm else if k = 9 then decide (0 ≤ n ∧ n ≤ 31) && wordB nm else decide (n = 0 ∧ nm = []) := rfl
      refine seq_n g1 ?_
      rw [f4, f2]
      have hcat : k = 1 ∨ k = 4 ∨ k = 9 ∨ (k ≠ 1 ∧ k ≠ 4 ∧ k ≠ 9) := by omega
      repeat (first | with_reducible refine gs_tf ?_ | with_reducible refine gs_ft ?_ | with_reducible refine gs_u ?_ | with_reducible refine pick_ti ?_ | with_reducible refine pick_fi ?_ | with_reducible refine ⟨gs_tf ⟨rfl, rfl⟩, ?_⟩ | with_reducible refine ⟨gs_ft ⟨rfl, rfl⟩, ?_⟩ | with_reducible refine ⟨gs_u ⟨rfl, rfl⟩, ?_⟩ | with_reducible refine gs_t ?_ | with_reducible refine gs_f ?_ | with_reducible refine off_i ?_ | with_reducible refine cndT ?_ | with_reducible refine cndF ?_ | (with_reducible show loadW _ _ _ _; first | refine s.load1 0 rfl rfl ?_))
      rw [ieql]
      rcases hcat with hk1 | hk1 | hk1 | hk1
      all_goals first
        | (have hq : k = 1 := hk1
           rw [if_pos hq] at hdn
           rw [decide_eq_false (show ¬ k = 4 by omega)]
           repeat (first | with_reducible refine gs_tf ?_ | with_reducible refine gs_ft ?_ | with_reducible refine gs_u ?_ | with_reducible refine pick_ti ?_ | with_reducible refine pick_fi ?_ | with_reducible refine ⟨gs_tf ⟨rfl, rfl⟩, ?_⟩ | with_reducible refine ⟨gs_ft ⟨rfl, rfl⟩, ?_⟩ | with_reducible refine ⟨gs_u ⟨rfl, rfl⟩, ?_⟩ | with_reducible refine gs_t ?_ | with_reducible refine gs_f ?_ | with_reducible refine off_i ?_ | with_reducible refine cndT ?_ | with_reducible refine cndF ?_ | (with_reducible show loadW _ _ _ _; first | refine s.load1 0 rfl rfl ?_))
           rw [ieql, decide_eq_false (show ¬ k = 9 by omega)]
           repeat (first | with_reducible refine gs_tf ?_ | with_reducible refine gs_ft ?_ | with_reducible refine gs_u ?_ | with_reducible refine pick_ti ?_ | with_reducible refine pick_fi ?_ | with_reducible refine ⟨gs_tf ⟨rfl, rfl⟩, ?_⟩ | with_reducible refine ⟨gs_ft ⟨rfl, rfl⟩, ?_⟩ | with_reducible refine ⟨gs_u ⟨rfl, rfl⟩, ?_⟩ | with_reducible refine gs_t ?_ | with_reducible refine gs_f ?_ | with_reducible refine off_i ?_ | with_reducible refine cndT ?_ | with_reducible refine cndF ?_)
           refine not_ti ?_
           rw [Bool.not_false]
           repeat (first | with_reducible refine gs_tf ?_ | with_reducible refine gs_ft ?_ | with_reducible refine gs_u ?_ | with_reducible refine pick_ti ?_ | with_reducible refine pick_fi ?_ | with_reducible refine ⟨gs_tf ⟨rfl, rfl⟩, ?_⟩ | with_reducible refine ⟨gs_ft ⟨rfl, rfl⟩, ?_⟩ | with_reducible refine ⟨gs_u ⟨rfl, rfl⟩, ?_⟩ | with_reducible refine gs_t ?_ | with_reducible refine gs_f ?_ | with_reducible refine off_i ?_ | with_reducible refine cndT ?_ | with_reducible refine cndF ?_ | (with_reducible show loadW _ _ _ _; first | refine s.load1 0 rfl rfl ?_))
           refine str_nilN ?_
           by_cases h6 : nm = []
           case neg =>
             rw [decide_eq_false h6, Bool.not_false]
             repeat (first | with_reducible refine gs_tf ?_ | with_reducible refine gs_ft ?_ | with_reducible refine gs_u ?_ | with_reducible refine pick_ti ?_ | with_reducible refine pick_fi ?_ | with_reducible refine ⟨gs_tf ⟨rfl, rfl⟩, ?_⟩ | with_reducible refine ⟨gs_ft ⟨rfl, rfl⟩, ?_⟩ | with_reducible refine ⟨gs_u ⟨rfl, rfl⟩, ?_⟩ | with_reducible refine gs_t ?_ | with_reducible refine gs_f ?_ | with_reducible refine off_i ?_ | with_reducible refine cndT ?_ | with_reducible refine cndF ?_)
             exact nno (by rw [hdn, decide_eq_false (fun hh => h6 hh.2.2)]) _ s.ext
           rw [decide_eq_true h6, Bool.not_true]
           repeat (first | with_reducible refine gs_tf ?_ | with_reducible refine gs_ft ?_ | with_reducible refine gs_u ?_ | with_reducible refine pick_ti ?_ | with_reducible refine pick_fi ?_ | with_reducible refine ⟨gs_tf ⟨rfl, rfl⟩, ?_⟩ | with_reducible refine ⟨gs_ft ⟨rfl, rfl⟩, ?_⟩ | with_reducible refine ⟨gs_u ⟨rfl, rfl⟩, ?_⟩ | with_reducible refine gs_t ?_ | with_reducible refine gs_f ?_ | with_reducible refine off_i ?_ | with_reducible refine cndT ?_ | with_reducible refine cndF ?_ | (with_reducible show loadW _ _ _ _; first | refine s.load1 0 rfl rfl ?_))
           rw [ilss]
           by_cases h7 : n < 0
           case pos =>
             rw [decide_eq_true h7]
             repeat (first | with_reducible refine gs_tf ?_ | with_reducible refine gs_ft ?_ | with_reducible refine gs_u ?_ | with_reducible refine pick_ti ?_ | with_reducible refine pick_fi ?_ | with_reducible refine ⟨gs_tf ⟨rfl, rfl⟩, ?_⟩ | with_reducible refine ⟨gs_ft ⟨rfl, rfl⟩, ?_⟩ | with_reducible refine ⟨gs_u ⟨rfl, rfl⟩, ?_⟩ | with_reducible refine gs_t ?_ | with_reducible refine gs_f ?_ | with_reducible refine off_i ?_ | with_reducible refine cndT ?_ | with_reducible refine cndF ?_)
             exact nno (by rw [hdn, decide_eq_false (by omega)]) _ s.ext
           rw [decide_eq_false h7]
           repeat (first | with_reducible refine gs_tf ?_ | with_reducible refine gs_ft ?_ | with_reducible refine gs_u ?_ | with_reducible refine pick_ti ?_ | with_reducible refine pick_fi ?_ | with_reducible refine ⟨gs_tf ⟨rfl, rfl⟩, ?_⟩ | with_reducible refine ⟨gs_ft ⟨rfl, rfl⟩, ?_⟩ | with_reducible refine ⟨gs_u ⟨rfl, rfl⟩, ?_⟩ | with_reducible refine gs_t ?_ | with_reducible refine gs_f ?_ | with_reducible refine off_i ?_ | with_reducible refine cndT ?_ | with_reducible refine cndF ?_ | (with_reducible show loadW _ _ _ _; first | refine s.load1 0 rfl rfl ?_))
           rw [ieql, decide_eq_true hq]
           repeat (first | with_reducible refine gs_tf ?_ | with_reducible refine gs_ft ?_ | with_reducible refine gs_u ?_ | with_reducible refine pick_ti ?_ | with_reducible refine pick_fi ?_ | with_reducible refine ⟨gs_tf ⟨rfl, rfl⟩, ?_⟩ | with_reducible refine ⟨gs_ft ⟨rfl, rfl⟩, ?_⟩ | with_reducible refine ⟨gs_u ⟨rfl, rfl⟩, ?_⟩ | with_reducible refine gs_t ?_ | with_reducible refine gs_f ?_ | with_reducible refine off_i ?_ | with_reducible refine cndT ?_ | with_reducible refine cndF ?_ | (with_reducible show loadW _ _ _ _; first | refine s.load1 0 rfl rfl ?_))
           rw [igeq]
           by_cases h8 : v ≤ n
           case pos =>
             rw [decide_eq_true h8]
             repeat (first | with_reducible refine gs_tf ?_ | with_reducible refine gs_ft ?_ | with_reducible refine gs_u ?_ | with_reducible refine pick_ti ?_ | with_reducible refine pick_fi ?_ | with_reducible refine ⟨gs_tf ⟨rfl, rfl⟩, ?_⟩ | with_reducible refine ⟨gs_ft ⟨rfl, rfl⟩, ?_⟩ | with_reducible refine ⟨gs_u ⟨rfl, rfl⟩, ?_⟩ | with_reducible refine gs_t ?_ | with_reducible refine gs_f ?_ | with_reducible refine off_i ?_ | with_reducible refine cndT ?_ | with_reducible refine cndF ?_)
             exact nno (by rw [hdn, decide_eq_false (by omega)]) _ s.ext
           rw [decide_eq_false h8]
           have hnum : numC k n v nm = true := by rw [hdn, decide_eq_true ⟨by omega, by omega, h6⟩]
           repeat (first | with_reducible refine gs_tf ?_ | with_reducible refine gs_ft ?_ | with_reducible refine gs_u ?_ | with_reducible refine pick_ti ?_ | with_reducible refine pick_fi ?_ | with_reducible refine ⟨gs_tf ⟨rfl, rfl⟩, ?_⟩ | with_reducible refine ⟨gs_ft ⟨rfl, rfl⟩, ?_⟩ | with_reducible refine ⟨gs_u ⟨rfl, rfl⟩, ?_⟩ | with_reducible refine gs_t ?_ | with_reducible refine gs_f ?_ | with_reducible refine off_i ?_ | with_reducible refine cndT ?_ | with_reducible refine cndF ?_ | (with_reducible show loadW _ _ _ _; first | refine s.load1 0 rfl rfl ?_))
           rw [ieql, decide_eq_false (show ¬ k = 9 by omega)]
           repeat (first | with_reducible refine gs_tf ?_ | with_reducible refine gs_ft ?_ | with_reducible refine gs_u ?_ | with_reducible refine pick_ti ?_ | with_reducible refine pick_fi ?_ | with_reducible refine ⟨gs_tf ⟨rfl, rfl⟩, ?_⟩ | with_reducible refine ⟨gs_ft ⟨rfl, rfl⟩, ?_⟩ | with_reducible refine ⟨gs_u ⟨rfl, rfl⟩, ?_⟩ | with_reducible refine gs_t ?_ | with_reducible refine gs_f ?_ | with_reducible refine off_i ?_ | with_reducible refine cndT ?_ | with_reducible refine cndF ?_ | (with_reducible show loadW _ _ _ _; first | refine s.load1 0 rfl rfl ?_))
           rw [ineq, decide_eq_false (show ¬ k ≠ 1 by omega)]
           repeat (first | with_reducible refine gs_tf ?_ | with_reducible refine gs_ft ?_ | with_reducible refine gs_u ?_ | with_reducible refine pick_ti ?_ | with_reducible refine pick_fi ?_ | with_reducible refine ⟨gs_tf ⟨rfl, rfl⟩, ?_⟩ | with_reducible refine ⟨gs_ft ⟨rfl, rfl⟩, ?_⟩ | with_reducible refine ⟨gs_u ⟨rfl, rfl⟩, ?_⟩ | with_reducible refine gs_t ?_ | with_reducible refine gs_f ?_ | with_reducible refine off_i ?_ | with_reducible refine cndT ?_ | with_reducible refine cndF ?_)
           skip)
        | (have hq : k = 4 := hk1
           rw [if_neg (show ¬ k = 1 by omega), if_pos hq] at hdn
           rw [decide_eq_true hq]
           repeat (first | with_reducible refine gs_tf ?_ | with_reducible refine gs_ft ?_ | with_reducible refine gs_u ?_ | with_reducible refine pick_ti ?_ | with_reducible refine pick_fi ?_ | with_reducible refine ⟨gs_tf ⟨rfl, rfl⟩, ?_⟩ | with_reducible refine ⟨gs_ft ⟨rfl, rfl⟩, ?_⟩ | with_reducible refine ⟨gs_u ⟨rfl, rfl⟩, ?_⟩ | with_reducible refine gs_t ?_ | with_reducible refine gs_f ?_ | with_reducible refine off_i ?_ | with_reducible refine cndT ?_ | with_reducible refine cndF ?_ | (with_reducible show loadW _ _ _ _; first | refine s.load1 0 rfl rfl ?_))
           refine fnW_of (by kernel_rfl) (rword_c hnm fun w2 e2 => ?_)
           have s := s.ext0 e2
           rw [← word_eq]
           repeat (first | with_reducible refine gs_tf ?_ | with_reducible refine gs_ft ?_ | with_reducible refine gs_u ?_ | with_reducible refine pick_ti ?_ | with_reducible refine pick_fi ?_ | with_reducible refine ⟨gs_tf ⟨rfl, rfl⟩, ?_⟩ | with_reducible refine ⟨gs_ft ⟨rfl, rfl⟩, ?_⟩ | with_reducible refine ⟨gs_u ⟨rfl, rfl⟩, ?_⟩ | with_reducible refine gs_t ?_ | with_reducible refine gs_f ?_ | with_reducible refine off_i ?_ | with_reducible refine cndT ?_ | with_reducible refine cndF ?_)
           refine not_ti ?_
           by_cases h6 : wordB nm = true
           case neg =>
             have h6 : wordB nm = false := by simpa using h6
             rw [h6, Bool.not_false]
             repeat (first | with_reducible refine gs_tf ?_ | with_reducible refine gs_ft ?_ | with_reducible refine gs_u ?_ | with_reducible refine pick_ti ?_ | with_reducible refine pick_fi ?_ | with_reducible refine ⟨gs_tf ⟨rfl, rfl⟩, ?_⟩ | with_reducible refine ⟨gs_ft ⟨rfl, rfl⟩, ?_⟩ | with_reducible refine ⟨gs_u ⟨rfl, rfl⟩, ?_⟩ | with_reducible refine gs_t ?_ | with_reducible refine gs_f ?_ | with_reducible refine off_i ?_ | with_reducible refine cndT ?_ | with_reducible refine cndF ?_)
             exact nno (by rw [hdn, h6, Bool.and_false]) _ s.ext
           rw [h6, Bool.and_true] at hdn
           rw [h6, Bool.not_true]
           repeat (first | with_reducible refine gs_tf ?_ | with_reducible refine gs_ft ?_ | with_reducible refine gs_u ?_ | with_reducible refine pick_ti ?_ | with_reducible refine pick_fi ?_ | with_reducible refine ⟨gs_tf ⟨rfl, rfl⟩, ?_⟩ | with_reducible refine ⟨gs_ft ⟨rfl, rfl⟩, ?_⟩ | with_reducible refine ⟨gs_u ⟨rfl, rfl⟩, ?_⟩ | with_reducible refine gs_t ?_ | with_reducible refine gs_f ?_ | with_reducible refine off_i ?_ | with_reducible refine cndT ?_ | with_reducible refine cndF ?_)
           refine not_ti ?_
           rw [Bool.not_true]
           repeat (first | with_reducible refine gs_tf ?_ | with_reducible refine gs_ft ?_ | with_reducible refine gs_u ?_ | with_reducible refine pick_ti ?_ | with_reducible refine pick_fi ?_ | with_reducible refine ⟨gs_tf ⟨rfl, rfl⟩, ?_⟩ | with_reducible refine ⟨gs_ft ⟨rfl, rfl⟩, ?_⟩ | with_reducible refine ⟨gs_u ⟨rfl, rfl⟩, ?_⟩ | with_reducible refine gs_t ?_ | with_reducible refine gs_f ?_ | with_reducible refine off_i ?_ | with_reducible refine cndT ?_ | with_reducible refine cndF ?_ | (with_reducible show loadW _ _ _ _; first | refine s.load1 0 rfl rfl ?_))
           rw [ilss]
           by_cases h7 : n < 0
           case pos =>
             rw [decide_eq_true h7]
             repeat (first | with_reducible refine gs_tf ?_ | with_reducible refine gs_ft ?_ | with_reducible refine gs_u ?_ | with_reducible refine pick_ti ?_ | with_reducible refine pick_fi ?_ | with_reducible refine ⟨gs_tf ⟨rfl, rfl⟩, ?_⟩ | with_reducible refine ⟨gs_ft ⟨rfl, rfl⟩, ?_⟩ | with_reducible refine ⟨gs_u ⟨rfl, rfl⟩, ?_⟩ | with_reducible refine gs_t ?_ | with_reducible refine gs_f ?_ | with_reducible refine off_i ?_ | with_reducible refine cndT ?_ | with_reducible refine cndF ?_)
             exact nno (by rw [hdn, decide_eq_false (by omega)]) _ s.ext
           rw [decide_eq_false h7]
           repeat (first | with_reducible refine gs_tf ?_ | with_reducible refine gs_ft ?_ | with_reducible refine gs_u ?_ | with_reducible refine pick_ti ?_ | with_reducible refine pick_fi ?_ | with_reducible refine ⟨gs_tf ⟨rfl, rfl⟩, ?_⟩ | with_reducible refine ⟨gs_ft ⟨rfl, rfl⟩, ?_⟩ | with_reducible refine ⟨gs_u ⟨rfl, rfl⟩, ?_⟩ | with_reducible refine gs_t ?_ | with_reducible refine gs_f ?_ | with_reducible refine off_i ?_ | with_reducible refine cndT ?_ | with_reducible refine cndF ?_ | (with_reducible show loadW _ _ _ _; first | refine s.load1 0 rfl rfl ?_))
           rw [ieql, decide_eq_false (show ¬ k = 1 by omega)]
           repeat (first | with_reducible refine gs_tf ?_ | with_reducible refine gs_ft ?_ | with_reducible refine gs_u ?_ | with_reducible refine pick_ti ?_ | with_reducible refine pick_fi ?_ | with_reducible refine ⟨gs_tf ⟨rfl, rfl⟩, ?_⟩ | with_reducible refine ⟨gs_ft ⟨rfl, rfl⟩, ?_⟩ | with_reducible refine ⟨gs_u ⟨rfl, rfl⟩, ?_⟩ | with_reducible refine gs_t ?_ | with_reducible refine gs_f ?_ | with_reducible refine off_i ?_ | with_reducible refine cndT ?_ | with_reducible refine cndF ?_ | (with_reducible show loadW _ _ _ _; first | refine s.load1 0 rfl rfl ?_))
           rw [ieql, decide_eq_false (show ¬ k = 9 by omega)]
           repeat (first | with_reducible refine gs_tf ?_ | with_reducible refine gs_ft ?_ | with_reducible refine gs_u ?_ | with_reducible refine pick_ti ?_ | with_reducible refine pick_fi ?_ | with_reducible refine ⟨gs_tf ⟨rfl, rfl⟩, ?_⟩ | with_reducible refine ⟨gs_ft ⟨rfl, rfl⟩, ?_⟩ | with_reducible refine ⟨gs_u ⟨rfl, rfl⟩, ?_⟩ | with_reducible refine gs_t ?_ | with_reducible refine gs_f ?_ | with_reducible refine off_i ?_ | with_reducible refine cndT ?_ | with_reducible refine cndF ?_ | (with_reducible show loadW _ _ _ _; first | refine s.load1 0 rfl rfl ?_))
           rw [ineq, decide_eq_true (show k ≠ 1 by omega)]
           repeat (first | with_reducible refine gs_tf ?_ | with_reducible refine gs_ft ?_ | with_reducible refine gs_u ?_ | with_reducible refine pick_ti ?_ | with_reducible refine pick_fi ?_ | with_reducible refine ⟨gs_tf ⟨rfl, rfl⟩, ?_⟩ | with_reducible refine ⟨gs_ft ⟨rfl, rfl⟩, ?_⟩ | with_reducible refine ⟨gs_u ⟨rfl, rfl⟩, ?_⟩ | with_reducible refine gs_t ?_ | with_reducible refine gs_f ?_ | with_reducible refine off_i ?_ | with_reducible refine cndT ?_ | with_reducible refine cndF ?_ | (with_reducible show loadW _ _ _ _; first | refine s.load1 0 rfl rfl ?_))
           rw [ineq, decide_eq_true (show k ≠ 9 by omega)]
           repeat (first | with_reducible refine gs_tf ?_ | with_reducible refine gs_ft ?_ | with_reducible refine gs_u ?_ | with_reducible refine pick_ti ?_ | with_reducible refine pick_fi ?_ | with_reducible refine ⟨gs_tf ⟨rfl, rfl⟩, ?_⟩ | with_reducible refine ⟨gs_ft ⟨rfl, rfl⟩, ?_⟩ | with_reducible refine ⟨gs_u ⟨rfl, rfl⟩, ?_⟩ | with_reducible refine gs_t ?_ | with_reducible refine gs_f ?_ | with_reducible refine off_i ?_ | with_reducible refine cndT ?_ | with_reducible refine cndF ?_ | (with_reducible show loadW _ _ _ _; first | refine s.load1 0 rfl rfl ?_))
           rw [ineq]
           by_cases h8 : n = 0
           case neg =>
             rw [decide_eq_true h8]
             repeat (first | with_reducible refine gs_tf ?_ | with_reducible refine gs_ft ?_ | with_reducible refine gs_u ?_ | with_reducible refine pick_ti ?_ | with_reducible refine pick_fi ?_ | with_reducible refine ⟨gs_tf ⟨rfl, rfl⟩, ?_⟩ | with_reducible refine ⟨gs_ft ⟨rfl, rfl⟩, ?_⟩ | with_reducible refine ⟨gs_u ⟨rfl, rfl⟩, ?_⟩ | with_reducible refine gs_t ?_ | with_reducible refine gs_f ?_ | with_reducible refine off_i ?_ | with_reducible refine cndT ?_ | with_reducible refine cndF ?_)
             exact nno (by rw [hdn, decide_eq_false h8]) _ s.ext
           rw [decide_eq_false (by simpa using h8)]
           have hnum : numC k n v nm = true := by rw [hdn, decide_eq_true h8]
           repeat (first | with_reducible refine gs_tf ?_ | with_reducible refine gs_ft ?_ | with_reducible refine gs_u ?_ | with_reducible refine pick_ti ?_ | with_reducible refine pick_fi ?_ | with_reducible refine ⟨gs_tf ⟨rfl, rfl⟩, ?_⟩ | with_reducible refine ⟨gs_ft ⟨rfl, rfl⟩, ?_⟩ | with_reducible refine ⟨gs_u ⟨rfl, rfl⟩, ?_⟩ | with_reducible refine gs_t ?_ | with_reducible refine gs_f ?_ | with_reducible refine off_i ?_ | with_reducible refine cndT ?_ | with_reducible refine cndF ?_)
           skip)
        | (have hq : k = 9 := hk1
           rw [if_neg (show ¬ k = 1 by omega), if_neg (show ¬ k = 4 by omega), if_pos hq] at hdn
           rw [decide_eq_false (show ¬ k = 4 by omega)]
           repeat (first | with_reducible refine gs_tf ?_ | with_reducible refine gs_ft ?_ | with_reducible refine gs_u ?_ | with_reducible refine pick_ti ?_ | with_reducible refine pick_fi ?_ | with_reducible refine ⟨gs_tf ⟨rfl, rfl⟩, ?_⟩ | with_reducible refine ⟨gs_ft ⟨rfl, rfl⟩, ?_⟩ | with_reducible refine ⟨gs_u ⟨rfl, rfl⟩, ?_⟩ | with_reducible refine gs_t ?_ | with_reducible refine gs_f ?_ | with_reducible refine off_i ?_ | with_reducible refine cndT ?_ | with_reducible refine cndF ?_ | (with_reducible show loadW _ _ _ _; first | refine s.load1 0 rfl rfl ?_))
           rw [ieql, decide_eq_true hq]
           repeat (first | with_reducible refine gs_tf ?_ | with_reducible refine gs_ft ?_ | with_reducible refine gs_u ?_ | with_reducible refine pick_ti ?_ | with_reducible refine pick_fi ?_ | with_reducible refine ⟨gs_tf ⟨rfl, rfl⟩, ?_⟩ | with_reducible refine ⟨gs_ft ⟨rfl, rfl⟩, ?_⟩ | with_reducible refine ⟨gs_u ⟨rfl, rfl⟩, ?_⟩ | with_reducible refine gs_t ?_ | with_reducible refine gs_f ?_ | with_reducible refine off_i ?_ | with_reducible refine cndT ?_ | with_reducible refine cndF ?_ | (with_reducible show loadW _ _ _ _; first | refine s.load1 0 rfl rfl ?_))
           refine fnW_of (by kernel_rfl) (rword_c hnm fun w2 e2 => ?_)
           have s := s.ext0 e2
           rw [← word_eq]
           repeat (first | with_reducible refine gs_tf ?_ | with_reducible refine gs_ft ?_ | with_reducible refine gs_u ?_ | with_reducible refine pick_ti ?_ | with_reducible refine pick_fi ?_ | with_reducible refine ⟨gs_tf ⟨rfl, rfl⟩, ?_⟩ | with_reducible refine ⟨gs_ft ⟨rfl, rfl⟩, ?_⟩ | with_reducible refine ⟨gs_u ⟨rfl, rfl⟩, ?_⟩ | with_reducible refine gs_t ?_ | with_reducible refine gs_f ?_ | with_reducible refine off_i ?_ | with_reducible refine cndT ?_ | with_reducible refine cndF ?_)
           refine not_ti ?_
           by_cases h6 : wordB nm = true
           case neg =>
             have h6 : wordB nm = false := by simpa using h6
             rw [h6, Bool.not_false]
             repeat (first | with_reducible refine gs_tf ?_ | with_reducible refine gs_ft ?_ | with_reducible refine gs_u ?_ | with_reducible refine pick_ti ?_ | with_reducible refine pick_fi ?_ | with_reducible refine ⟨gs_tf ⟨rfl, rfl⟩, ?_⟩ | with_reducible refine ⟨gs_ft ⟨rfl, rfl⟩, ?_⟩ | with_reducible refine ⟨gs_u ⟨rfl, rfl⟩, ?_⟩ | with_reducible refine gs_t ?_ | with_reducible refine gs_f ?_ | with_reducible refine off_i ?_ | with_reducible refine cndT ?_ | with_reducible refine cndF ?_)
             exact nno (by rw [hdn, h6, Bool.and_false]) _ s.ext
           rw [h6, Bool.and_true] at hdn
           rw [h6, Bool.not_true]
           repeat (first | with_reducible refine gs_tf ?_ | with_reducible refine gs_ft ?_ | with_reducible refine gs_u ?_ | with_reducible refine pick_ti ?_ | with_reducible refine pick_fi ?_ | with_reducible refine ⟨gs_tf ⟨rfl, rfl⟩, ?_⟩ | with_reducible refine ⟨gs_ft ⟨rfl, rfl⟩, ?_⟩ | with_reducible refine ⟨gs_u ⟨rfl, rfl⟩, ?_⟩ | with_reducible refine gs_t ?_ | with_reducible refine gs_f ?_ | with_reducible refine off_i ?_ | with_reducible refine cndT ?_ | with_reducible refine cndF ?_)
           refine not_ti ?_
           rw [Bool.not_true]
           repeat (first | with_reducible refine gs_tf ?_ | with_reducible refine gs_ft ?_ | with_reducible refine gs_u ?_ | with_reducible refine pick_ti ?_ | with_reducible refine pick_fi ?_ | with_reducible refine ⟨gs_tf ⟨rfl, rfl⟩, ?_⟩ | with_reducible refine ⟨gs_ft ⟨rfl, rfl⟩, ?_⟩ | with_reducible refine ⟨gs_u ⟨rfl, rfl⟩, ?_⟩ | with_reducible refine gs_t ?_ | with_reducible refine gs_f ?_ | with_reducible refine off_i ?_ | with_reducible refine cndT ?_ | with_reducible refine cndF ?_ | (with_reducible show loadW _ _ _ _; first | refine s.load1 0 rfl rfl ?_))
           rw [ilss]
           by_cases h7 : n < 0
           case pos =>
             rw [decide_eq_true h7]
             repeat (first | with_reducible refine gs_tf ?_ | with_reducible refine gs_ft ?_ | with_reducible refine gs_u ?_ | with_reducible refine pick_ti ?_ | with_reducible refine pick_fi ?_ | with_reducible refine ⟨gs_tf ⟨rfl, rfl⟩, ?_⟩ | with_reducible refine ⟨gs_ft ⟨rfl, rfl⟩, ?_⟩ | with_reducible refine ⟨gs_u ⟨rfl, rfl⟩, ?_⟩ | with_reducible refine gs_t ?_ | with_reducible refine gs_f ?_ | with_reducible refine off_i ?_ | with_reducible refine cndT ?_ | with_reducible refine cndF ?_)
             exact nno (by rw [hdn, decide_eq_false (by omega)]) _ s.ext
           rw [decide_eq_false h7]
           repeat (first | with_reducible refine gs_tf ?_ | with_reducible refine gs_ft ?_ | with_reducible refine gs_u ?_ | with_reducible refine pick_ti ?_ | with_reducible refine pick_fi ?_ | with_reducible refine ⟨gs_tf ⟨rfl, rfl⟩, ?_⟩ | with_reducible refine ⟨gs_ft ⟨rfl, rfl⟩, ?_⟩ | with_reducible refine ⟨gs_u ⟨rfl, rfl⟩, ?_⟩ | with_reducible refine gs_t ?_ | with_reducible refine gs_f ?_ | with_reducible refine off_i ?_ | with_reducible refine cndT ?_ | with_reducible refine cndF ?_ | (with_reducible show loadW _ _ _ _; first | refine s.load1 0 rfl rfl ?_))
           rw [ieql, decide_eq_false (show ¬ k = 1 by omega)]
           repeat (first | with_reducible refine gs_tf ?_ | with_reducible refine gs_ft ?_ | with_reducible refine gs_u ?_ | with_reducible refine pick_ti ?_ | with_reducible refine pick_fi ?_ | with_reducible refine ⟨gs_tf ⟨rfl, rfl⟩, ?_⟩ | with_reducible refine ⟨gs_ft ⟨rfl, rfl⟩, ?_⟩ | with_reducible refine ⟨gs_u ⟨rfl, rfl⟩, ?_⟩ | with_reducible refine gs_t ?_ | with_reducible refine gs_f ?_ | with_reducible refine off_i ?_ | with_reducible refine cndT ?_ | with_reducible refine cndF ?_ | (with_reducible show loadW _ _ _ _; first | refine s.load1 0 rfl rfl ?_))
           rw [ieql, decide_eq_true hq]
           repeat (first | with_reducible refine gs_tf ?_ | with_reducible refine gs_ft ?_ | with_reducible refine gs_u ?_ | with_reducible refine pick_ti ?_ | with_reducible refine pick_fi ?_ | with_reducible refine ⟨gs_tf ⟨rfl, rfl⟩, ?_⟩ | with_reducible refine ⟨gs_ft ⟨rfl, rfl⟩, ?_⟩ | with_reducible refine ⟨gs_u ⟨rfl, rfl⟩, ?_⟩ | with_reducible refine gs_t ?_ | with_reducible refine gs_f ?_ | with_reducible refine off_i ?_ | with_reducible refine cndT ?_ | with_reducible refine cndF ?_ | (with_reducible show loadW _ _ _ _; first | refine s.load1 0 rfl rfl ?_))
           rw [igtr]
           by_cases h8 : 31 < n
           case pos =>
             rw [decide_eq_true h8]
             repeat (first | with_reducible refine gs_tf ?_ | with_reducible refine gs_ft ?_ | with_reducible refine gs_u ?_ | with_reducible refine pick_ti ?_ | with_reducible refine pick_fi ?_ | with_reducible refine ⟨gs_tf ⟨rfl, rfl⟩, ?_⟩ | with_reducible refine ⟨gs_ft ⟨rfl, rfl⟩, ?_⟩ | with_reducible refine ⟨gs_u ⟨rfl, rfl⟩, ?_⟩ | with_reducible refine gs_t ?_ | with_reducible refine gs_f ?_ | with_reducible refine off_i ?_ | with_reducible refine cndT ?_ | with_reducible refine cndF ?_)
             exact nno (by rw [hdn, decide_eq_false (by omega)]) _ s.ext
           rw [decide_eq_false h8]
           have hnum : numC k n v nm = true := by rw [hdn, decide_eq_true ⟨by omega, by omega⟩]
           repeat (first | with_reducible refine gs_tf ?_ | with_reducible refine gs_ft ?_ | with_reducible refine gs_u ?_ | with_reducible refine pick_ti ?_ | with_reducible refine pick_fi ?_ | with_reducible refine ⟨gs_tf ⟨rfl, rfl⟩, ?_⟩ | with_reducible refine ⟨gs_ft ⟨rfl, rfl⟩, ?_⟩ | with_reducible refine ⟨gs_u ⟨rfl, rfl⟩, ?_⟩ | with_reducible refine gs_t ?_ | with_reducible refine gs_f ?_ | with_reducible refine off_i ?_ | with_reducible refine cndT ?_ | with_reducible refine cndF ?_ | (with_reducible show loadW _ _ _ _; first | refine s.load1 0 rfl rfl ?_))
           rw [ineq, decide_eq_true (show k ≠ 1 by omega)]
           repeat (first | with_reducible refine gs_tf ?_ | with_reducible refine gs_ft ?_ | with_reducible refine gs_u ?_ | with_reducible refine pick_ti ?_ | with_reducible refine pick_fi ?_ | with_reducible refine ⟨gs_tf ⟨rfl, rfl⟩, ?_⟩ | with_reducible refine ⟨gs_ft ⟨rfl, rfl⟩, ?_⟩ | with_reducible refine ⟨gs_u ⟨rfl, rfl⟩, ?_⟩ | with_reducible refine gs_t ?_ | with_reducible refine gs_f ?_ | with_reducible refine off_i ?_ | with_reducible refine cndT ?_ | with_reducible refine cndF ?_ | (with_reducible show loadW _ _ _ _; first | refine s.load1 0 rfl rfl ?_))
           rw [ineq, decide_eq_false (show ¬ k ≠ 9 by omega)]
           repeat (first | with_reducible refine gs_tf ?_ | with_reducible refine gs_ft ?_ | with_reducible refine gs_u ?_ | with_reducible refine pick_ti ?_ | with_reducible refine pick_fi ?_ | with_reducible refine ⟨gs_tf ⟨rfl, rfl⟩, ?_⟩ | with_reducible refine ⟨gs_ft ⟨rfl, rfl⟩, ?_⟩ | with_reducible refine ⟨gs_u ⟨rfl, rfl⟩, ?_⟩ | with_reducible refine gs_t ?_ | with_reducible refine gs_f ?_ | with_reducible refine off_i ?_ | with_reducible refine cndT ?_ | with_reducible refine cndF ?_)
           skip)
        | (have hq : k ≠ 1 ∧ k ≠ 4 ∧ k ≠ 9 := hk1
           rw [if_neg (show ¬ k = 1 by omega), if_neg (show ¬ k = 4 by omega), if_neg (show ¬ k = 9 by omega)] at hdn
           rw [decide_eq_false (show ¬ k = 4 by omega)]
           repeat (first | with_reducible refine gs_tf ?_ | with_reducible refine gs_ft ?_ | with_reducible refine gs_u ?_ | with_reducible refine pick_ti ?_ | with_reducible refine pick_fi ?_ | with_reducible refine ⟨gs_tf ⟨rfl, rfl⟩, ?_⟩ | with_reducible refine ⟨gs_ft ⟨rfl, rfl⟩, ?_⟩ | with_reducible refine ⟨gs_u ⟨rfl, rfl⟩, ?_⟩ | with_reducible refine gs_t ?_ | with_reducible refine gs_f ?_ | with_reducible refine off_i ?_ | with_reducible refine cndT ?_ | with_reducible refine cndF ?_ | (with_reducible show loadW _ _ _ _; first | refine s.load1 0 rfl rfl ?_))
           rw [ieql, decide_eq_false (show ¬ k = 9 by omega)]
           repeat (first | with_reducible refine gs_tf ?_ | with_reducible refine gs_ft ?_ | with_reducible refine gs_u ?_ | with_reducible refine pick_ti ?_ | with_reducible refine pick_fi ?_ | with_reducible refine ⟨gs_tf ⟨rfl, rfl⟩, ?_⟩ | with_reducible refine ⟨gs_ft ⟨rfl, rfl⟩, ?_⟩ | with_reducible refine ⟨gs_u ⟨rfl, rfl⟩, ?_⟩ | with_reducible refine gs_t ?_ | with_reducible refine gs_f ?_ | with_reducible refine off_i ?_ | with_reducible refine cndT ?_ | with_reducible refine cndF ?_)
           refine not_ti ?_
           rw [Bool.not_false]
           repeat (first | with_reducible refine gs_tf ?_ | with_reducible refine gs_ft ?_ | with_reducible refine gs_u ?_ | with_reducible refine pick_ti ?_ | with_reducible refine pick_fi ?_ | with_reducible refine ⟨gs_tf ⟨rfl, rfl⟩, ?_⟩ | with_reducible refine ⟨gs_ft ⟨rfl, rfl⟩, ?_⟩ | with_reducible refine ⟨gs_u ⟨rfl, rfl⟩, ?_⟩ | with_reducible refine gs_t ?_ | with_reducible refine gs_f ?_ | with_reducible refine off_i ?_ | with_reducible refine cndT ?_ | with_reducible refine cndF ?_ | (with_reducible show loadW _ _ _ _; first | refine s.load1 0 rfl rfl ?_))
           refine str_nilN ?_
           by_cases h6 : nm = []
           case neg =>
             rw [decide_eq_false h6, Bool.not_false]
             repeat (first | with_reducible refine gs_tf ?_ | with_reducible refine gs_ft ?_ | with_reducible refine gs_u ?_ | with_reducible refine pick_ti ?_ | with_reducible refine pick_fi ?_ | with_reducible refine ⟨gs_tf ⟨rfl, rfl⟩, ?_⟩ | with_reducible refine ⟨gs_ft ⟨rfl, rfl⟩, ?_⟩ | with_reducible refine ⟨gs_u ⟨rfl, rfl⟩, ?_⟩ | with_reducible refine gs_t ?_ | with_reducible refine gs_f ?_ | with_reducible refine off_i ?_ | with_reducible refine cndT ?_ | with_reducible refine cndF ?_)
             exact nno (by rw [hdn, decide_eq_false (fun hh => h6 hh.2)]) _ s.ext
           rw [decide_eq_true h6, Bool.not_true]
           repeat (first | with_reducible refine gs_tf ?_ | with_reducible refine gs_ft ?_ | with_reducible refine gs_u ?_ | with_reducible refine pick_ti ?_ | with_reducible refine pick_fi ?_ | with_reducible refine ⟨gs_tf ⟨rfl, rfl⟩, ?_⟩ | with_reducible refine ⟨gs_ft ⟨rfl, rfl⟩, ?_⟩ | with_reducible refine ⟨gs_u ⟨rfl, rfl⟩, ?_⟩ | with_reducible refine gs_t ?_ | with_reducible refine gs_f ?_ | with_reducible refine off_i ?_ | with_reducible refine cndT ?_ | with_reducible refine cndF ?_ | (with_reducible show loadW _ _ _ _; first | refine s.load1 0 rfl rfl ?_))
           rw [ilss]
           by_cases h7 : n < 0
           case pos =>
             rw [decide_eq_true h7]
             repeat (first | with_reducible refine gs_tf ?_ | with_reducible refine gs_ft ?_ | with_reducible refine gs_u ?_ | with_reducible refine pick_ti ?_ | with_reducible refine pick_fi ?_ | with_reducible refine ⟨gs_tf ⟨rfl, rfl⟩, ?_⟩ | with_reducible refine ⟨gs_ft ⟨rfl, rfl⟩, ?_⟩ | with_reducible refine ⟨gs_u ⟨rfl, rfl⟩, ?_⟩ | with_reducible refine gs_t ?_ | with_reducible refine gs_f ?_ | with_reducible refine off_i ?_ | with_reducible refine cndT ?_ | with_reducible refine cndF ?_)
             exact nno (by rw [hdn, decide_eq_false (by omega)]) _ s.ext
           rw [decide_eq_false h7]
           repeat (first | with_reducible refine gs_tf ?_ | with_reducible refine gs_ft ?_ | with_reducible refine gs_u ?_ | with_reducible refine pick_ti ?_ | with_reducible refine pick_fi ?_ | with_reducible refine ⟨gs_tf ⟨rfl, rfl⟩, ?_⟩ | with_reducible refine ⟨gs_ft ⟨rfl, rfl⟩, ?_⟩ | with_reducible refine ⟨gs_u ⟨rfl, rfl⟩, ?_⟩ | with_reducible refine gs_t ?_ | with_reducible refine gs_f ?_ | with_reducible refine off_i ?_ | with_reducible refine cndT ?_ | with_reducible refine cndF ?_ | (with_reducible show loadW _ _ _ _; first | refine s.load1 0 rfl rfl ?_))
           rw [ieql, decide_eq_false (show ¬ k = 1 by omega)]
           repeat (first | with_reducible refine gs_tf ?_ | with_reducible refine gs_ft ?_ | with_reducible refine gs_u ?_ | with_reducible refine pick_ti ?_ | with_reducible refine pick_fi ?_ | with_reducible refine ⟨gs_tf ⟨rfl, rfl⟩, ?_⟩ | with_reducible refine ⟨gs_ft ⟨rfl, rfl⟩, ?_⟩ | with_reducible refine ⟨gs_u ⟨rfl, rfl⟩, ?_⟩ | with_reducible refine gs_t ?_ | with_reducible refine gs_f ?_ | with_reducible refine off_i ?_ | with_reducible refine cndT ?_ | with_reducible refine cndF ?_ | (with_reducible show loadW _ _ _ _; first | refine s.load1 0 rfl rfl ?_))
           rw [ieql, decide_eq_false (show ¬ k = 9 by omega)]
           repeat (first | with_reducible refine gs_tf ?_ | with_reducible refine gs_ft ?_ | with_reducible refine gs_u ?_ | with_reducible refine pick_ti ?_ | with_reducible refine pick_fi ?_ | with_reducible refine ⟨gs_tf ⟨rfl, rfl⟩, ?_⟩ | with_reducible refine ⟨gs_ft ⟨rfl, rfl⟩, ?_⟩ | with_reducible refine ⟨gs_u ⟨rfl, rfl⟩, ?_⟩ | with_reducible refine gs_t ?_ | with_reducible refine gs_f ?_ | with_reducible refine off_i ?_ | with_reducible refine cndT ?_ | with_reducible refine cndF ?_ | (with_reducible show loadW _ _ _ _; first | refine s.load1 0 rfl rfl ?_))
           rw [ineq, decide_eq_true (show k ≠ 1 by omega)]
           repeat (first | with_reducible refine gs_tf ?_ | with_reducible refine gs_ft ?_ | with_reducible refine gs_u ?_ | with_reducible refine pick_ti ?_ | with_reducible refine pick_fi ?_ | with_reducible refine ⟨gs_tf ⟨rfl, rfl⟩, ?_⟩ | with_reducible refine ⟨gs_ft ⟨rfl, rfl⟩, ?_⟩ | with_reducible refine ⟨gs_u ⟨rfl, rfl⟩, ?_⟩ | with_reducible refine gs_t ?_ | with_reducible refine gs_f ?_ | with_reducible refine off_i ?_ | with_reducible refine cndT ?_ | with_reducible refine cndF ?_ | (with_reducible show loadW _ _ _ _; first | refine s.load1 0 rfl rfl ?_))
           rw [ineq, decide_eq_true (show k ≠ 9 by omega)]
           repeat (first | with_reducible refine gs_tf ?_ | with_reducible refine gs_ft ?_ | with_reducible refine gs_u ?_ | with_reducible refine pick_ti ?_ | with_reducible refine pick_fi ?_ | with_reducible refine ⟨gs_tf ⟨rfl, rfl⟩, ?_⟩ | with_reducible refine ⟨gs_ft ⟨rfl, rfl⟩, ?_⟩ | with_reducible refine ⟨gs_u ⟨rfl, rfl⟩, ?_⟩ | with_reducible refine gs_t ?_ | with_reducible refine gs_f ?_ | with_reducible refine off_i ?_ | with_reducible refine cndT ?_ | with_reducible refine cndF ?_ | (with_reducible show loadW _ _ _ _; first | refine s.load1 0 rfl rfl ?_))
           rw [ineq]
           by_cases h8 : n = 0
           case neg =>
             rw [decide_eq_true h8]
             repeat (first | with_reducible refine gs_tf ?_ | with_reducible refine gs_ft ?_ | with_reducible refine gs_u ?_ | with_reducible refine pick_ti ?_ | with_reducible refine pick_fi ?_ | with_reducible refine ⟨gs_tf ⟨rfl, rfl⟩, ?_⟩ | with_reducible refine ⟨gs_ft ⟨rfl, rfl⟩, ?_⟩ | with_reducible refine ⟨gs_u ⟨rfl, rfl⟩, ?_⟩ | with_reducible refine gs_t ?_ | with_reducible refine gs_f ?_ | with_reducible refine off_i ?_ | with_reducible refine cndT ?_ | with_reducible refine cndF ?_)
             exact nno (by rw [hdn, decide_eq_false (fun hh => h8 hh.1)]) _ s.ext
           rw [decide_eq_false (by simpa using h8)]
           have hnum : numC k n v nm = true := by rw [hdn, decide_eq_true ⟨h8, h6⟩]
           repeat (first | with_reducible refine gs_tf ?_ | with_reducible refine gs_ft ?_ | with_reducible refine gs_u ?_ | with_reducible refine pick_ti ?_ | with_reducible refine pick_fi ?_ | with_reducible refine ⟨gs_tf ⟨rfl, rfl⟩, ?_⟩ | with_reducible refine ⟨gs_ft ⟨rfl, rfl⟩, ?_⟩ | with_reducible refine ⟨gs_u ⟨rfl, rfl⟩, ?_⟩ | with_reducible refine gs_t ?_ | with_reducible refine gs_f ?_ | with_reducible refine off_i ?_ | with_reducible refine cndT ?_ | with_reducible refine cndF ?_)
           skip)
      all_goals
        rw [hnum] at hnd
        have hK2 : ∀ w', Ext [] w w' → K (.bool ((List.range args.length).all fun i => match (args.map TV.e)[i]? with | some a => allR a p (v + bndA k i) (d + bndA k i) | none => true)) w' := fun w' e => by
          have := hK w' e
          rwa [he, allR_args, hnd, Bool.true_and, List.length_map] at this
        have hal2 := len_sizes args
        refine bindX_i fun J3 g3 => bindX_i fun J4 g4 => ?_
        refine loop_i (fun m fr wr => ∃ i : Nat, m = args.length - i ∧ i ≤ args.length ∧ ((List.range i).all fun i => match (args.map TV.e)[i]? with | some a => allR a p (v + bndA k i) (d + bndA k i) | none => true) = true ∧ fr 1 = .int .i64 p ∧ fr 2 = .int .i64 v ∧ fr 3 = .int .i64 d ∧ fr 4 = .pointer (some ⟨b, 0, none⟩) ∧ fr 13 = .int .i64 i ∧
          Sep [] w wr (rB b [iv k, iv n, sv nm, lv, av] 27 :: []) (rT (TV.mk k n nm ls lv av args) :: [])) args.length ?_ ?_
        · exact ⟨0, rfl, by omega, rfl, f1, f2, f3, f4, rfl, s⟩
        · rintro m fr wr J ⟨i, rfl, hi, hall, f1, f2, f3, f4, f13, s⟩ hJ hX
          rw [f4, f13]
          repeat (first | with_reducible refine gs_tf ?_ | with_reducible refine gs_ft ?_ | with_reducible refine gs_u ?_ | with_reducible refine pick_ti ?_ | with_reducible refine pick_fi ?_ | with_reducible refine ⟨gs_tf ⟨rfl, rfl⟩, ?_⟩ | with_reducible refine ⟨gs_ft ⟨rfl, rfl⟩, ?_⟩ | with_reducible refine ⟨gs_u ⟨rfl, rfl⟩, ?_⟩ | with_reducible refine gs_t ?_ | with_reducible refine gs_f ?_ | with_reducible refine off_i ?_ | with_reducible refine cndT ?_ | with_reducible refine cndF ?_ | (with_reducible show loadW _ _ _ _; first | refine s.load1 0 rfl rfl ?_))
          rw [ha1]
          refine nlss (cond_d (fun hlt => ?_) (fun hlt => ?_))
          · refine bindX_i fun J5 g5 => bindX_i fun J6 g6 => bindX_i fun J7 g7 => ?_
            repeat (first | with_reducible refine gs_tf ?_ | with_reducible refine gs_ft ?_ | with_reducible refine gs_u ?_ | with_reducible refine pick_ti ?_ | with_reducible refine pick_fi ?_ | with_reducible refine ⟨gs_tf ⟨rfl, rfl⟩, ?_⟩ | with_reducible refine ⟨gs_ft ⟨rfl, rfl⟩, ?_⟩ | with_reducible refine ⟨gs_u ⟨rfl, rfl⟩, ?_⟩ | with_reducible refine gs_t ?_ | with_reducible refine gs_f ?_ | with_reducible refine off_i ?_ | with_reducible refine cndT ?_ | with_reducible refine cndF ?_ | (with_reducible show loadW _ _ _ _; first | refine s.load1 0 rfl rfl ?_))
            have hbl := bnd_le k i
            have hsi := sizes_le (List.getElem_mem hlt)
            have hsp := size_pos args[i]
            have step : ∀ (fr : Fr) (wr : World), fr 1 = .int .i64 p → fr 2 = .int .i64 v → fr 3 = .int .i64 d → fr 4 = .pointer (some ⟨b, 0, none⟩) → fr 13 = .int .i64 i → fr 14 = .int .i64 (bndA k i : Nat) → Sep [] w wr (rB b [iv k, iv n, sv nm, lv, av] 27 :: []) (rT (TV.mk k n nm ls lv av args) :: []) → J7 .normal fr wr := by
              intro fr wr f1 f2 f3 f4 f13 f14 s
              refine seq_n g7 ?_
              rw [f1, f2, f3, f4, f13, f14]
              repeat (first | with_reducible refine gs_tf ?_ | with_reducible refine gs_ft ?_ | with_reducible refine gs_u ?_ | with_reducible refine pick_ti ?_ | with_reducible refine pick_fi ?_ | with_reducible refine ⟨gs_tf ⟨rfl, rfl⟩, ?_⟩ | with_reducible refine ⟨gs_ft ⟨rfl, rfl⟩, ?_⟩ | with_reducible refine ⟨gs_u ⟨rfl, rfl⟩, ?_⟩ | with_reducible refine gs_t ?_ | with_reducible refine gs_f ?_ | with_reducible refine off_i ?_ | with_reducible refine cndT ?_ | with_reducible refine cndF ?_ | (with_reducible show loadW _ _ _ _; first | refine s.load1 0 rfl rfl ?_))
              have ko : TOk wr (TV.mk k n nm ls lv av args) := tok_iff.1 (s.rat 0 rfl)
              obtain ⟨b1, o1, hix, hld⟩ := ko.ar.term hlt .i64
              refine hix _ ?_
              refine hld _ ?_
              refine iadd (by omega) ?_
              refine nadd (by omega) ?_
              refine fnW_of (by kernel_rfl) (ih args[i] (List.getElem_mem hlt) p (v + bndA k i) (d + bndA k i) (ko.a _ (List.getElem_mem hlt)) (by omega) (by omega) (by omega) (by omega) fun w5 e5 => ?_)
              have s := s.ext0 e5
              have hget : (args.map TV.e)[i]? = some args[i].e := by simp [hlt]
              have hcut : ((List.range (i + 1)).all fun i => match (args.map TV.e)[i]? with | some a => allR a p (v + bndA k i) (d + bndA k i) | none => true) = allR args[i].e p (v + bndA k i) (d + bndA k i) := by
                rw [List.range_succ, List.all_append, hall]
                simp [hlt]
              refine not_ti ?_
              cases hr : allR args[i].e p (v + bndA k i) (d + bndA k i) with
              | true =>
                refine cndF ?_
                refine seq_n g5 ?_
                show binN _ _ _ _ (fr 13) _ _ _
                rw [f13]
                refine nadd (y := 1) (by omega) ?_
                exact hJ (args.length - (i + 1)) _ _ (by omega) ⟨i + 1, rfl, by omega, by rw [hcut, hr], f1, f2, f3, f4, rfl, s⟩
              | false =>
                refine cndT ?_
                refine hX _ _ _ (by simp) (g4 _ _ _ (g3 _ _ _ (g0 _ _ _ ?_)))
                have := hK2 w5 s.ext
                have e : ((List.range args.length).all fun i => match (args.map TV.e)[i]? with | some a => allR a p (v + bndA k i) (d + bndA k i) | none => true) = false := by
                  rw [List.all_eq_false]
                  refine ⟨i, List.mem_range.2 hlt, ?_⟩
                  rw [hget]
                  simp [hr]
                rw [e] at this
                exact this
            refine fnW_of (by kernel_rfl) (binds_c ?_)
            refine cond_d (fun hb => ?_) (fun hb => ?_)
            · refine step _ _ f1 f2 f3 f4 f13 ?_ s
              rw [hb]; rfl
            · refine step _ _ f1 f2 f3 f4 f13 ?_ s
              rw [show bndA k i = 0 by omega]; rfl
          · obtain rfl : i = args.length := by omega
            refine hX _ _ _ (by simp) (g4 _ _ _ (blk_x (seq_n g3 ?_)))
            have := hK2 wr s.ext
            rw [hall] at this
            exact this
    refine loop_i (fun m fr wr => ∃ i : Nat, m = ls.length - i ∧ i ≤ ls.length ∧ (ls.take i).any (lvX p) = false ∧ fr 1 = .int .i64 p ∧ fr 2 = .int .i64 v ∧ fr 3 = .int .i64 d ∧ fr 4 = .pointer (some ⟨b, 0, none⟩) ∧ fr 11 = .int .i64 i ∧ Sep [] w wr (rB b [iv k, iv n, sv nm, lv, av] 27 :: []) (rT (TV.mk k n nm ls lv av args) :: [])) ls.length ?_ ?_
    · exact ⟨0, rfl, by omega, rfl, rfl, rfl, rfl, rfl, rfl, s⟩
    · rintro m fr wr J ⟨i, rfl, hi, hany, f1, f2, f3, f4, f11, s⟩ hJ hX
      have hll : ls.length < 2 ^ 50 := hk.ll
      rw [f4, f11]
      repeat (first | with_reducible refine gs_tf ?_ | with_reducible refine gs_ft ?_ | with_reducible refine gs_u ?_ | with_reducible refine pick_ti ?_ | with_reducible refine pick_fi ?_ | with_reducible refine ⟨gs_tf ⟨rfl, rfl⟩, ?_⟩ | with_reducible refine ⟨gs_ft ⟨rfl, rfl⟩, ?_⟩ | with_reducible refine ⟨gs_u ⟨rfl, rfl⟩, ?_⟩ | with_reducible refine gs_t ?_ | with_reducible refine gs_f ?_ | with_reducible refine off_i ?_ | with_reducible refine cndT ?_ | with_reducible refine cndF ?_ | (with_reducible show loadW _ _ _ _; first | refine s.load1 0 rfl rfl ?_))
      rw [hl1]
      refine nlss (cond_d (fun hlt => ?_) (fun hlt => ?_))
      · rw [f1]
        repeat (first | with_reducible refine gs_tf ?_ | with_reducible refine gs_ft ?_ | with_reducible refine gs_u ?_ | with_reducible refine pick_ti ?_ | with_reducible refine pick_fi ?_ | with_reducible refine ⟨gs_tf ⟨rfl, rfl⟩, ?_⟩ | with_reducible refine ⟨gs_ft ⟨rfl, rfl⟩, ?_⟩ | with_reducible refine ⟨gs_u ⟨rfl, rfl⟩, ?_⟩ | with_reducible refine gs_t ?_ | with_reducible refine gs_f ?_ | with_reducible refine off_i ?_ | with_reducible refine cndT ?_ | with_reducible refine cndF ?_ | (with_reducible show loadW _ _ _ _; first | refine s.load1 0 rfl rfl ?_))
        obtain ⟨b1, o1, hix, hld⟩ := (tok_iff.1 (s.rat 0 rfl : TV.ok wr (TV.mk k n nm ls lv av args))).lr.level hlt .i64
        refine hix _ ?_
        refine hld _ ?_
        have bad : lvX p ls[i] = true → ∀ w', Ext [] w w' → K (.bool false) w' := fun hb w' e => by
          refine no w' e ?_
          have : ls.any (lvX p) = true := List.any_eq_true.2 ⟨_, List.getElem_mem hlt, hb⟩
          rw [hnd, this]
          simp
        have ht : (ls.take (i + 1)).any (lvX p) = lvX p ls[i] := by
          rw [List.take_succ_eq_append_getElem hlt, List.any_append, hany]; simp
        refine fnW_of (by kernel_rfl) (rlright_c fun w2 e2 => ?_)
        have s := s.ext0 e2
        refine not_ti ?_
        cases hr : lvR ls[i] with
        | false =>
          have hr2 : lvR (TV.mk k n nm ls lv av args).ls[i] = false := hr
          rw [hr2, Bool.not_false]
          repeat (first | with_reducible refine gs_tf ?_ | with_reducible refine gs_ft ?_ | with_reducible refine gs_u ?_ | with_reducible refine pick_ti ?_ | with_reducible refine pick_fi ?_ | with_reducible refine ⟨gs_tf ⟨rfl, rfl⟩, ?_⟩ | with_reducible refine ⟨gs_ft ⟨rfl, rfl⟩, ?_⟩ | with_reducible refine ⟨gs_u ⟨rfl, rfl⟩, ?_⟩ | with_reducible refine gs_t ?_ | with_reducible refine gs_f ?_ | with_reducible refine off_i ?_ | with_reducible refine cndT ?_ | with_reducible refine cndF ?_)
          exact hX _ _ _ (by simp) (g2 _ _ _ (g1 _ _ _ (g0 _ _ _ (bad (by unfold lvX; rw [hr]; rfl) _ s.ext))))
        | true =>
          have hr2 : lvR (TV.mk k n nm ls lv av args).ls[i] = true := hr
          rw [hr2, Bool.not_true]
          have hx : lvX p ls[i] = decide (p < lvW ls[i]) := by unfold lvX; rw [hr]; rfl
          repeat (first | with_reducible refine gs_tf ?_ | with_reducible refine gs_ft ?_ | with_reducible refine gs_u ?_ | with_reducible refine pick_ti ?_ | with_reducible refine pick_fi ?_ | with_reducible refine ⟨gs_tf ⟨rfl, rfl⟩, ?_⟩ | with_reducible refine ⟨gs_ft ⟨rfl, rfl⟩, ?_⟩ | with_reducible refine ⟨gs_u ⟨rfl, rfl⟩, ?_⟩ | with_reducible refine gs_t ?_ | with_reducible refine gs_f ?_ | with_reducible refine off_i ?_ | with_reducible refine cndT ?_ | with_reducible refine cndF ?_ | (with_reducible show loadW _ _ _ _; first | refine s.load1 0 rfl rfl ?_))
          obtain ⟨b2, o2, hix2, hld2⟩ := (tok_iff.1 (s.rat 0 rfl : TV.ok w2 (TV.mk k n nm ls lv av args))).lr.level hlt .i64
          refine hix2 _ ?_
          repeat (first | with_reducible refine gs_tf ?_ | with_reducible refine gs_ft ?_ | with_reducible refine gs_u ?_ | with_reducible refine pick_ti ?_ | with_reducible refine pick_fi ?_ | with_reducible refine ⟨gs_tf ⟨rfl, rfl⟩, ?_⟩ | with_reducible refine ⟨gs_ft ⟨rfl, rfl⟩, ?_⟩ | with_reducible refine ⟨gs_u ⟨rfl, rfl⟩, ?_⟩ | with_reducible refine gs_t ?_ | with_reducible refine gs_f ?_ | with_reducible refine off_i ?_ | with_reducible refine cndT ?_ | with_reducible refine cndF ?_)
          refine hld2 _ ?_
          repeat (first | with_reducible refine gs_tf ?_ | with_reducible refine gs_ft ?_ | with_reducible refine gs_u ?_ | with_reducible refine pick_ti ?_ | with_reducible refine pick_fi ?_ | with_reducible refine ⟨gs_tf ⟨rfl, rfl⟩, ?_⟩ | with_reducible refine ⟨gs_ft ⟨rfl, rfl⟩, ?_⟩ | with_reducible refine ⟨gs_u ⟨rfl, rfl⟩, ?_⟩ | with_reducible refine gs_t ?_ | with_reducible refine gs_f ?_ | with_reducible refine off_i ?_ | with_reducible refine cndT ?_ | with_reducible refine cndF ?_)
          refine fnW_of (by kernel_rfl) (rlwidth_c fun w3 e3 => ?_)
          have s := s.ext0 e3
          repeat (first | with_reducible refine gs_tf ?_ | with_reducible refine gs_ft ?_ | with_reducible refine gs_u ?_ | with_reducible refine pick_ti ?_ | with_reducible refine pick_fi ?_ | with_reducible refine ⟨gs_tf ⟨rfl, rfl⟩, ?_⟩ | with_reducible refine ⟨gs_ft ⟨rfl, rfl⟩, ?_⟩ | with_reducible refine ⟨gs_u ⟨rfl, rfl⟩, ?_⟩ | with_reducible refine gs_t ?_ | with_reducible refine gs_f ?_ | with_reducible refine off_i ?_ | with_reducible refine cndT ?_ | with_reducible refine cndF ?_)
          rw [igtr]
          repeat (first | with_reducible refine gs_tf ?_ | with_reducible refine gs_ft ?_ | with_reducible refine gs_u ?_ | with_reducible refine pick_ti ?_ | with_reducible refine pick_fi ?_ | with_reducible refine ⟨gs_tf ⟨rfl, rfl⟩, ?_⟩ | with_reducible refine ⟨gs_ft ⟨rfl, rfl⟩, ?_⟩ | with_reducible refine ⟨gs_u ⟨rfl, rfl⟩, ?_⟩ | with_reducible refine gs_t ?_ | with_reducible refine gs_f ?_ | with_reducible refine off_i ?_ | with_reducible refine cndT ?_ | with_reducible refine cndF ?_)
          refine cond_d (fun hp => ?_) (fun hp => ?_)
          · exact hX _ _ _ (by simp) (g2 _ _ _ (g1 _ _ _ (g0 _ _ _ (bad (by rw [hx]; exact decide_eq_true hp) _ s.ext))))
          · refine nadd (y := 1) (by omega) ?_
            exact hJ (ls.length - (i + 1)) _ _ (by omega) ⟨i + 1, rfl, by omega, by rw [ht, hx]; exact decide_eq_false hp, f1, f2, f3, f4, rfl, s⟩
      · obtain rfl : i = ls.length := by omega
        rw [List.take_length] at hany
        exact hX _ _ _ (by simp) (g2 _ _ _ (blk_x (tail hany _ _ f1 f2 f3 f4 s)))
end Go.Proofs.YtbaddpnlokmldaaDoor
