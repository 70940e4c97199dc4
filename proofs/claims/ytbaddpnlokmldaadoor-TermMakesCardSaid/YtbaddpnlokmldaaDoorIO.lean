/- The laws of terms: walks. Condition: the library's bound is a number. -/
import Derived.Test.YtbaddpnlokmldaaDoorIN
namespace Go.Proofs.YtbaddpnlokmldaaDoor
open Go
set_option maxRecDepth 100000

theorem tm_sum : ∀ us : List TM, TM.sizes us = (us.map TM.size).sum := tm_sizes
theorem nodeT_size (k : Int) (a b : TM) : (nodeT k a b).size = 1 + (a.size + b.size) := by
  unfold nodeT
  rw [TM.size, TM.sizes, TM.sizes, TM.sizes, List.length_nil]
  omega
theorem appT_size : ∀ (us : List TM) (f : TM), (appT f us).size = f.size + (us.map fun a => 1 + a.size).sum
  | [], f => by simp [appT]
  | a :: us, f => by
    show (appT (nodeT 5 f a) us).size = _
    rw [appT_size us, nodeT_size, List.map_cons, List.sum_cons]
    omega
theorem bindT_size (k : Int) (f : TM) : ∀ us : List TM, (bindT k f us).size = f.size + (us.map fun a => 1 + a.size).sum
  | [] => by simp [bindT]
  | a :: us => by
    show (nodeT k a (bindT k f us)).size = _
    rw [nodeT_size, bindT_size k f us, List.map_cons, List.sum_cons]
    omega
theorem sum_bounds {m n : Nat} {us : List TM} (h : m + (us.map fun a => 1 + a.size).sum ≤ n) : m ≤ n ∧ (∀ q ∈ us, q.size ≤ n) ∧ us.length ≤ n := by
  refine ⟨by omega, ?_, ?_⟩
  · intro q hq
    have : 1 + q.size ≤ (us.map fun a => 1 + a.size).sum := by
      clear h
      induction us with
      | nil => cases hq
      | cons a r ih =>
        rw [List.map_cons, List.sum_cons]
        rcases List.mem_cons.1 hq with rfl | hq
        · omega
        · have := ih hq; omega
    omega
  · have : us.length ≤ (us.map fun a => 1 + a.size).sum := by
      clear h
      induction us with
      | nil => simp
      | cons a r ih =>
        rw [List.map_cons, List.sum_cons, List.length_cons]
        omega
    omega

theorem wordsLaw_walk {w : World} {K : VPost} {s : Bytes} (hn : s.length < 2 ^ 60) (hg : GS w) (hK : ∀ w', Ext [] w w' → K (.bool true) w') : Calls Tryd.prog 3 #[sv s] w (retK K) := by
  refine c3_calls _ w K ?_
  unfold c3
  refine fnW_of (by kernel_rfl) (alive8_c hg fun w1 e1 => ?_)
  refine not_ti ?_
  refine cndF ?_
  rw [sv_len]
  refine ngtr (y := 500) ?_
  by_cases h : 500 < s.length
  · rw [decide_eq_true h]
    repeat (first | with_reducible refine gs_tf ?_ | with_reducible refine gs_ft ?_ | with_reducible refine gs_u ?_ | with_reducible refine pick_ti ?_ | with_reducible refine pick_fi ?_ | with_reducible refine ⟨gs_tf ⟨rfl, rfl⟩, ?_⟩ | with_reducible refine ⟨gs_ft ⟨rfl, rfl⟩, ?_⟩ | with_reducible refine ⟨gs_u ⟨rfl, rfl⟩, ?_⟩ | with_reducible refine gs_t ?_ | with_reducible refine gs_f ?_ | with_reducible refine off_i ?_ | with_reducible refine cndT ?_ | with_reducible refine cndF ?_)
    exact hK _ e1
  · rw [decide_eq_false h]
    repeat (first | with_reducible refine gs_tf ?_ | with_reducible refine gs_ft ?_ | with_reducible refine gs_u ?_ | with_reducible refine pick_ti ?_ | with_reducible refine pick_fi ?_ | with_reducible refine ⟨gs_tf ⟨rfl, rfl⟩, ?_⟩ | with_reducible refine ⟨gs_ft ⟨rfl, rfl⟩, ?_⟩ | with_reducible refine ⟨gs_u ⟨rfl, rfl⟩, ?_⟩ | with_reducible refine gs_t ?_ | with_reducible refine gs_f ?_ | with_reducible refine off_i ?_ | with_reducible refine cndT ?_ | with_reducible refine cndF ?_)
    refine fnW_of (by kernel_rfl) (word_c hn (hg.keep e1 (by simp)) fun w2 e2 => ?_)
    repeat (first | with_reducible refine gs_tf ?_ | with_reducible refine gs_ft ?_ | with_reducible refine gs_u ?_ | with_reducible refine pick_ti ?_ | with_reducible refine pick_fi ?_ | with_reducible refine ⟨gs_tf ⟨rfl, rfl⟩, ?_⟩ | with_reducible refine ⟨gs_ft ⟨rfl, rfl⟩, ?_⟩ | with_reducible refine ⟨gs_u ⟨rfl, rfl⟩, ?_⟩ | with_reducible refine gs_t ?_ | with_reducible refine gs_f ?_ | with_reducible refine off_i ?_ | with_reducible refine cndT ?_ | with_reducible refine cndF ?_)
    refine fnW_of (by kernel_rfl) (rword_c hn fun w3 e3 => ?_)
    repeat (first | with_reducible refine gs_tf ?_ | with_reducible refine gs_ft ?_ | with_reducible refine gs_u ?_ | with_reducible refine pick_ti ?_ | with_reducible refine pick_fi ?_ | with_reducible refine ⟨gs_tf ⟨rfl, rfl⟩, ?_⟩ | with_reducible refine ⟨gs_ft ⟨rfl, rfl⟩, ?_⟩ | with_reducible refine ⟨gs_u ⟨rfl, rfl⟩, ?_⟩ | with_reducible refine gs_t ?_ | with_reducible refine gs_f ?_ | with_reducible refine off_i ?_ | with_reducible refine cndT ?_ | with_reducible refine cndF ?_)
    refine bool_eql und_boolB ?_
    repeat (first | with_reducible refine gs_tf ?_ | with_reducible refine gs_ft ?_ | with_reducible refine gs_u ?_ | with_reducible refine pick_ti ?_ | with_reducible refine pick_fi ?_ | with_reducible refine ⟨gs_tf ⟨rfl, rfl⟩, ?_⟩ | with_reducible refine ⟨gs_ft ⟨rfl, rfl⟩, ?_⟩ | with_reducible refine ⟨gs_u ⟨rfl, rfl⟩, ?_⟩ | with_reducible refine gs_t ?_ | with_reducible refine gs_f ?_ | with_reducible refine off_i ?_ | with_reducible refine cndT ?_ | with_reducible refine cndF ?_)
    rw [word_eq, beq_self_eq_true]
    exact hK _ ((e1.new e2).new e3)

set_option maxHeartbeats 400000 in
theorem rightsLaw_walk {w : World} {K : VPost} {t : TV} {p v m : Int} (h : t.ok w) (hg : GS w) (hv : i64ok v) (hm : i64ok m) (hK : ∀ w', Ext [] w w' → K (.bool true) w') : Calls Tryd.prog 5 #[t.v, .int .i64 p, .int .i64 v, .int .i64 m] w (retK K) := by
  refine c5_calls _ _ _ _ w K ?_
  unfold c5
  refine TV.box h fun b w1 s => ?_
  have g : ∀ {W : World} {L R : List Res}, Sep [] w W L R → GS W := fun s => hg.keep s.ext (by simp)
  refine fnW_of (by kernel_rfl) (alive8_c (g s) fun w2 e => ?_)
  have s := s.ext0 e
  refine not_ti ?_
  refine cndF ?_
  refine s.loadAll 0 rfl t.cells_len ?_
  refine fnW_of (by kernel_rfl) (great8_c (t := t) (s.rat 0 rfl) fun w3 e => ?_)
  have s := s.ext0 e
  by_cases h1 : 3600 < t.size
  · rw [decide_eq_true h1]
    repeat (first | with_reducible refine gs_tf ?_ | with_reducible refine gs_ft ?_ | with_reducible refine gs_u ?_ | with_reducible refine pick_ti ?_ | with_reducible refine pick_fi ?_ | with_reducible refine ⟨gs_tf ⟨rfl, rfl⟩, ?_⟩ | with_reducible refine ⟨gs_ft ⟨rfl, rfl⟩, ?_⟩ | with_reducible refine ⟨gs_u ⟨rfl, rfl⟩, ?_⟩ | with_reducible refine gs_t ?_ | with_reducible refine gs_f ?_ | with_reducible refine off_i ?_ | with_reducible refine cndT ?_ | with_reducible refine cndF ?_)
    exact hK _ s.ext
  rw [decide_eq_false h1]
  repeat (first | with_reducible refine gs_tf ?_ | with_reducible refine gs_ft ?_ | with_reducible refine gs_u ?_ | with_reducible refine pick_ti ?_ | with_reducible refine pick_fi ?_ | with_reducible refine ⟨gs_tf ⟨rfl, rfl⟩, ?_⟩ | with_reducible refine ⟨gs_ft ⟨rfl, rfl⟩, ?_⟩ | with_reducible refine ⟨gs_u ⟨rfl, rfl⟩, ?_⟩ | with_reducible refine gs_t ?_ | with_reducible refine gs_f ?_ | with_reducible refine off_i ?_ | with_reducible refine cndT ?_ | with_reducible refine cndF ?_)
  rw [ilss]
  by_cases h2 : m < 0
  · rw [decide_eq_true h2]
    repeat (first | with_reducible refine gs_tf ?_ | with_reducible refine gs_ft ?_ | with_reducible refine gs_u ?_ | with_reducible refine pick_ti ?_ | with_reducible refine pick_fi ?_ | with_reducible refine ⟨gs_tf ⟨rfl, rfl⟩, ?_⟩ | with_reducible refine ⟨gs_ft ⟨rfl, rfl⟩, ?_⟩ | with_reducible refine ⟨gs_u ⟨rfl, rfl⟩, ?_⟩ | with_reducible refine gs_t ?_ | with_reducible refine gs_f ?_ | with_reducible refine off_i ?_ | with_reducible refine cndT ?_ | with_reducible refine cndF ?_)
    exact hK _ s.ext
  rw [decide_eq_false h2]
  repeat (first | with_reducible refine gs_tf ?_ | with_reducible refine gs_ft ?_ | with_reducible refine gs_u ?_ | with_reducible refine pick_ti ?_ | with_reducible refine pick_fi ?_ | with_reducible refine ⟨gs_tf ⟨rfl, rfl⟩, ?_⟩ | with_reducible refine ⟨gs_ft ⟨rfl, rfl⟩, ?_⟩ | with_reducible refine ⟨gs_u ⟨rfl, rfl⟩, ?_⟩ | with_reducible refine gs_t ?_ | with_reducible refine gs_f ?_ | with_reducible refine off_i ?_ | with_reducible refine cndT ?_ | with_reducible refine cndF ?_)
  rw [igtr]
  by_cases h3 : 1000 < m
  · rw [decide_eq_true h3]
    repeat (first | with_reducible refine gs_tf ?_ | with_reducible refine gs_ft ?_ | with_reducible refine gs_u ?_ | with_reducible refine pick_ti ?_ | with_reducible refine pick_fi ?_ | with_reducible refine ⟨gs_tf ⟨rfl, rfl⟩, ?_⟩ | with_reducible refine ⟨gs_ft ⟨rfl, rfl⟩, ?_⟩ | with_reducible refine ⟨gs_u ⟨rfl, rfl⟩, ?_⟩ | with_reducible refine gs_t ?_ | with_reducible refine gs_f ?_ | with_reducible refine off_i ?_ | with_reducible refine cndT ?_ | with_reducible refine cndF ?_)
    exact hK _ s.ext
  rw [decide_eq_false h3]
  repeat (first | with_reducible refine gs_tf ?_ | with_reducible refine gs_ft ?_ | with_reducible refine gs_u ?_ | with_reducible refine pick_ti ?_ | with_reducible refine pick_fi ?_ | with_reducible refine ⟨gs_tf ⟨rfl, rfl⟩, ?_⟩ | with_reducible refine ⟨gs_ft ⟨rfl, rfl⟩, ?_⟩ | with_reducible refine ⟨gs_u ⟨rfl, rfl⟩, ?_⟩ | with_reducible refine gs_t ?_ | with_reducible refine gs_f ?_ | with_reducible refine off_i ?_ | with_reducible refine cndT ?_ | with_reducible refine cndF ?_)
  rw [igtr]
  by_cases h4 : 1000 < v
  · rw [decide_eq_true h4]
    repeat (first | with_reducible refine gs_tf ?_ | with_reducible refine gs_ft ?_ | with_reducible refine gs_u ?_ | with_reducible refine pick_ti ?_ | with_reducible refine pick_fi ?_ | with_reducible refine ⟨gs_tf ⟨rfl, rfl⟩, ?_⟩ | with_reducible refine ⟨gs_ft ⟨rfl, rfl⟩, ?_⟩ | with_reducible refine ⟨gs_u ⟨rfl, rfl⟩, ?_⟩ | with_reducible refine gs_t ?_ | with_reducible refine gs_f ?_ | with_reducible refine off_i ?_ | with_reducible refine cndT ?_ | with_reducible refine cndF ?_)
    exact hK _ s.ext
  rw [decide_eq_false h4]
  repeat (first | with_reducible refine gs_tf ?_ | with_reducible refine gs_ft ?_ | with_reducible refine gs_u ?_ | with_reducible refine pick_ti ?_ | with_reducible refine pick_fi ?_ | with_reducible refine ⟨gs_tf ⟨rfl, rfl⟩, ?_⟩ | with_reducible refine ⟨gs_ft ⟨rfl, rfl⟩, ?_⟩ | with_reducible refine ⟨gs_u ⟨rfl, rfl⟩, ?_⟩ | with_reducible refine gs_t ?_ | with_reducible refine gs_f ?_ | with_reducible refine off_i ?_ | with_reducible refine cndT ?_ | with_reducible refine cndF ?_)
  refine s.loadAll 0 rfl t.cells_len ?_
  repeat (first | with_reducible refine gs_tf ?_ | with_reducible refine gs_ft ?_ | with_reducible refine gs_u ?_ | with_reducible refine pick_ti ?_ | with_reducible refine pick_fi ?_ | with_reducible refine ⟨gs_tf ⟨rfl, rfl⟩, ?_⟩ | with_reducible refine ⟨gs_ft ⟨rfl, rfl⟩, ?_⟩ | with_reducible refine ⟨gs_u ⟨rfl, rfl⟩, ?_⟩ | with_reducible refine gs_t ?_ | with_reducible refine gs_f ?_ | with_reducible refine off_i ?_ | with_reducible refine cndT ?_ | with_reducible refine cndF ?_)
  refine fnW_of (by kernel_rfl) (tright_c (t := t) (s.rat 0 rfl) (g s) (by omega) fun w4 e => ?_)
  have s := s.ext0 e
  repeat (first | with_reducible refine gs_tf ?_ | with_reducible refine gs_ft ?_ | with_reducible refine gs_u ?_ | with_reducible refine pick_ti ?_ | with_reducible refine pick_fi ?_ | with_reducible refine ⟨gs_tf ⟨rfl, rfl⟩, ?_⟩ | with_reducible refine ⟨gs_ft ⟨rfl, rfl⟩, ?_⟩ | with_reducible refine ⟨gs_u ⟨rfl, rfl⟩, ?_⟩ | with_reducible refine gs_t ?_ | with_reducible refine gs_f ?_ | with_reducible refine off_i ?_ | with_reducible refine cndT ?_ | with_reducible refine cndF ?_)
  refine not_ti ?_
  cases hr : rightR t.e p v with
  | false =>
    rw [Bool.not_false]
    repeat (first | with_reducible refine gs_tf ?_ | with_reducible refine gs_ft ?_ | with_reducible refine gs_u ?_ | with_reducible refine pick_ti ?_ | with_reducible refine pick_fi ?_ | with_reducible refine ⟨gs_tf ⟨rfl, rfl⟩, ?_⟩ | with_reducible refine ⟨gs_ft ⟨rfl, rfl⟩, ?_⟩ | with_reducible refine ⟨gs_u ⟨rfl, rfl⟩, ?_⟩ | with_reducible refine gs_t ?_ | with_reducible refine gs_f ?_ | with_reducible refine off_i ?_ | with_reducible refine cndT ?_ | with_reducible refine cndF ?_)
    exact hK _ s.ext
  | true =>
    rw [Bool.not_true]
    repeat (first | with_reducible refine gs_tf ?_ | with_reducible refine gs_ft ?_ | with_reducible refine gs_u ?_ | with_reducible refine pick_ti ?_ | with_reducible refine pick_fi ?_ | with_reducible refine ⟨gs_tf ⟨rfl, rfl⟩, ?_⟩ | with_reducible refine ⟨gs_ft ⟨rfl, rfl⟩, ?_⟩ | with_reducible refine ⟨gs_u ⟨rfl, rfl⟩, ?_⟩ | with_reducible refine gs_t ?_ | with_reducible refine gs_f ?_ | with_reducible refine off_i ?_ | with_reducible refine cndT ?_ | with_reducible refine cndF ?_)
    obtain ⟨k1, k2, k3, k4, k5, k6⟩ := rights_law hr (show 0 ≤ m by omega) (by omega) (by omega)
    refine s.loadAll 0 rfl t.cells_len ?_
    refine fnW_of (by kernel_rfl) (loose_c (t := t) (s.rat 0 rfl) (g s) (by omega) fun w5 e => ?_)
    have s := s.ext0 e
    refine s.loadAll 0 rfl t.cells_len ?_
    refine fnW_of (by kernel_rfl) (tright_c (t := t) (s.rat 0 rfl) (g s) (by omega) fun w6 e => ?_)
    have s := s.ext0 e
    rw [k1]
    repeat (first | with_reducible refine gs_tf ?_ | with_reducible refine gs_ft ?_ | with_reducible refine gs_u ?_ | with_reducible refine pick_ti ?_ | with_reducible refine pick_fi ?_ | with_reducible refine ⟨gs_tf ⟨rfl, rfl⟩, ?_⟩ | with_reducible refine ⟨gs_ft ⟨rfl, rfl⟩, ?_⟩ | with_reducible refine ⟨gs_u ⟨rfl, rfl⟩, ?_⟩ | with_reducible refine gs_t ?_ | with_reducible refine gs_f ?_ | with_reducible refine off_i ?_ | with_reducible refine cndT ?_ | with_reducible refine cndF ?_)
    refine s.loadAll 0 rfl t.cells_len ?_
    repeat (first | with_reducible refine gs_tf ?_ | with_reducible refine gs_ft ?_ | with_reducible refine gs_u ?_ | with_reducible refine pick_ti ?_ | with_reducible refine pick_fi ?_ | with_reducible refine ⟨gs_tf ⟨rfl, rfl⟩, ?_⟩ | with_reducible refine ⟨gs_ft ⟨rfl, rfl⟩, ?_⟩ | with_reducible refine ⟨gs_u ⟨rfl, rfl⟩, ?_⟩ | with_reducible refine gs_t ?_ | with_reducible refine gs_f ?_ | with_reducible refine off_i ?_ | with_reducible refine cndT ?_ | with_reducible refine cndF ?_)
    refine iadd (by unfold i64ok at hv; omega) ?_
    repeat (first | with_reducible refine gs_tf ?_ | with_reducible refine gs_ft ?_ | with_reducible refine gs_u ?_ | with_reducible refine pick_ti ?_ | with_reducible refine pick_fi ?_ | with_reducible refine ⟨gs_tf ⟨rfl, rfl⟩, ?_⟩ | with_reducible refine ⟨gs_ft ⟨rfl, rfl⟩, ?_⟩ | with_reducible refine ⟨gs_u ⟨rfl, rfl⟩, ?_⟩ | with_reducible refine gs_t ?_ | with_reducible refine gs_f ?_ | with_reducible refine off_i ?_ | with_reducible refine cndT ?_ | with_reducible refine cndF ?_)
    refine fnW_of (by kernel_rfl) (tright_c (t := t) (s.rat 0 rfl) (g s) (by omega) fun w7 e => ?_)
    have s := s.ext0 e
    rw [k2]
    repeat (first | with_reducible refine gs_tf ?_ | with_reducible refine gs_ft ?_ | with_reducible refine gs_u ?_ | with_reducible refine pick_ti ?_ | with_reducible refine pick_fi ?_ | with_reducible refine ⟨gs_tf ⟨rfl, rfl⟩, ?_⟩ | with_reducible refine ⟨gs_ft ⟨rfl, rfl⟩, ?_⟩ | with_reducible refine ⟨gs_u ⟨rfl, rfl⟩, ?_⟩ | with_reducible refine gs_t ?_ | with_reducible refine gs_f ?_ | with_reducible refine off_i ?_ | with_reducible refine cndT ?_ | with_reducible refine cndF ?_)
    rw [ileq, decide_eq_true k4]
    repeat (first | with_reducible refine gs_tf ?_ | with_reducible refine gs_ft ?_ | with_reducible refine gs_u ?_ | with_reducible refine pick_ti ?_ | with_reducible refine pick_fi ?_ | with_reducible refine ⟨gs_tf ⟨rfl, rfl⟩, ?_⟩ | with_reducible refine ⟨gs_ft ⟨rfl, rfl⟩, ?_⟩ | with_reducible refine ⟨gs_u ⟨rfl, rfl⟩, ?_⟩ | with_reducible refine gs_t ?_ | with_reducible refine gs_f ?_ | with_reducible refine off_i ?_ | with_reducible refine cndT ?_ | with_reducible refine cndF ?_)
    refine s.loadAll 0 rfl t.cells_len ?_
    repeat (first | with_reducible refine gs_tf ?_ | with_reducible refine gs_ft ?_ | with_reducible refine gs_u ?_ | with_reducible refine pick_ti ?_ | with_reducible refine pick_fi ?_ | with_reducible refine ⟨gs_tf ⟨rfl, rfl⟩, ?_⟩ | with_reducible refine ⟨gs_ft ⟨rfl, rfl⟩, ?_⟩ | with_reducible refine ⟨gs_u ⟨rfl, rfl⟩, ?_⟩ | with_reducible refine gs_t ?_ | with_reducible refine gs_f ?_ | with_reducible refine off_i ?_ | with_reducible refine cndT ?_ | with_reducible refine cndF ?_)
    refine fnW_of (by kernel_rfl) (tright_c (t := t) (s.rat 0 rfl) (g s) (by omega) fun w8 e => ?_)
    have s := s.ext0 e
    rw [k5]
    repeat (first | with_reducible refine gs_tf ?_ | with_reducible refine gs_ft ?_ | with_reducible refine gs_u ?_ | with_reducible refine pick_ti ?_ | with_reducible refine pick_fi ?_ | with_reducible refine ⟨gs_tf ⟨rfl, rfl⟩, ?_⟩ | with_reducible refine ⟨gs_ft ⟨rfl, rfl⟩, ?_⟩ | with_reducible refine ⟨gs_u ⟨rfl, rfl⟩, ?_⟩ | with_reducible refine gs_t ?_ | with_reducible refine gs_f ?_ | with_reducible refine off_i ?_ | with_reducible refine cndT ?_ | with_reducible refine cndF ?_)
    rw [ieql]
    by_cases h5 : looseR t.e = 0
    · rw [decide_eq_true h5]
      repeat (first | with_reducible refine gs_tf ?_ | with_reducible refine gs_ft ?_ | with_reducible refine gs_u ?_ | with_reducible refine pick_ti ?_ | with_reducible refine pick_fi ?_ | with_reducible refine ⟨gs_tf ⟨rfl, rfl⟩, ?_⟩ | with_reducible refine ⟨gs_ft ⟨rfl, rfl⟩, ?_⟩ | with_reducible refine ⟨gs_u ⟨rfl, rfl⟩, ?_⟩ | with_reducible refine gs_t ?_ | with_reducible refine gs_f ?_ | with_reducible refine off_i ?_ | with_reducible refine cndT ?_ | with_reducible refine cndF ?_)
      exact hK _ s.ext
    · obtain ⟨k7, k8⟩ := k6 h5
      rw [decide_eq_false h5]
      repeat (first | with_reducible refine gs_tf ?_ | with_reducible refine gs_ft ?_ | with_reducible refine gs_u ?_ | with_reducible refine pick_ti ?_ | with_reducible refine pick_fi ?_ | with_reducible refine ⟨gs_tf ⟨rfl, rfl⟩, ?_⟩ | with_reducible refine ⟨gs_ft ⟨rfl, rfl⟩, ?_⟩ | with_reducible refine ⟨gs_u ⟨rfl, rfl⟩, ?_⟩ | with_reducible refine gs_t ?_ | with_reducible refine gs_f ?_ | with_reducible refine off_i ?_ | with_reducible refine cndT ?_ | with_reducible refine cndF ?_)
      refine s.loadAll 0 rfl t.cells_len ?_
      repeat (first | with_reducible refine gs_tf ?_ | with_reducible refine gs_ft ?_ | with_reducible refine gs_u ?_ | with_reducible refine pick_ti ?_ | with_reducible refine pick_fi ?_ | with_reducible refine ⟨gs_tf ⟨rfl, rfl⟩, ?_⟩ | with_reducible refine ⟨gs_ft ⟨rfl, rfl⟩, ?_⟩ | with_reducible refine ⟨gs_u ⟨rfl, rfl⟩, ?_⟩ | with_reducible refine gs_t ?_ | with_reducible refine gs_f ?_ | with_reducible refine off_i ?_ | with_reducible refine cndT ?_ | with_reducible refine cndF ?_)
      refine isub (by omega) ?_
      repeat (first | with_reducible refine gs_tf ?_ | with_reducible refine gs_ft ?_ | with_reducible refine gs_u ?_ | with_reducible refine pick_ti ?_ | with_reducible refine pick_fi ?_ | with_reducible refine ⟨gs_tf ⟨rfl, rfl⟩, ?_⟩ | with_reducible refine ⟨gs_ft ⟨rfl, rfl⟩, ?_⟩ | with_reducible refine ⟨gs_u ⟨rfl, rfl⟩, ?_⟩ | with_reducible refine gs_t ?_ | with_reducible refine gs_f ?_ | with_reducible refine off_i ?_ | with_reducible refine cndT ?_ | with_reducible refine cndF ?_)
      refine fnW_of (by kernel_rfl) (tright_c (t := t) (s.rat 0 rfl) (g s) (by omega) fun w9 e => ?_)
      have s := s.ext0 e
      rw [k7]
      repeat (first | with_reducible refine gs_tf ?_ | with_reducible refine gs_ft ?_ | with_reducible refine gs_u ?_ | with_reducible refine pick_ti ?_ | with_reducible refine pick_fi ?_ | with_reducible refine ⟨gs_tf ⟨rfl, rfl⟩, ?_⟩ | with_reducible refine ⟨gs_ft ⟨rfl, rfl⟩, ?_⟩ | with_reducible refine ⟨gs_u ⟨rfl, rfl⟩, ?_⟩ | with_reducible refine gs_t ?_ | with_reducible refine gs_f ?_ | with_reducible refine off_i ?_ | with_reducible refine cndT ?_ | with_reducible refine cndF ?_)
      refine not_ti ?_
      rw [Bool.not_false]
      repeat (first | with_reducible refine gs_tf ?_ | with_reducible refine gs_ft ?_ | with_reducible refine gs_u ?_ | with_reducible refine pick_ti ?_ | with_reducible refine pick_fi ?_ | with_reducible refine ⟨gs_tf ⟨rfl, rfl⟩, ?_⟩ | with_reducible refine ⟨gs_ft ⟨rfl, rfl⟩, ?_⟩ | with_reducible refine ⟨gs_u ⟨rfl, rfl⟩, ?_⟩ | with_reducible refine gs_t ?_ | with_reducible refine gs_f ?_ | with_reducible refine off_i ?_ | with_reducible refine cndT ?_ | with_reducible refine cndF ?_)
      refine s.loadAll 0 rfl t.cells_len ?_
      repeat (first | with_reducible refine gs_tf ?_ | with_reducible refine gs_ft ?_ | with_reducible refine gs_u ?_ | with_reducible refine pick_ti ?_ | with_reducible refine pick_fi ?_ | with_reducible refine ⟨gs_tf ⟨rfl, rfl⟩, ?_⟩ | with_reducible refine ⟨gs_ft ⟨rfl, rfl⟩, ?_⟩ | with_reducible refine ⟨gs_u ⟨rfl, rfl⟩, ?_⟩ | with_reducible refine gs_t ?_ | with_reducible refine gs_f ?_ | with_reducible refine off_i ?_ | with_reducible refine cndT ?_ | with_reducible refine cndF ?_)
      refine isub (by omega) ?_
      repeat (first | with_reducible refine gs_tf ?_ | with_reducible refine gs_ft ?_ | with_reducible refine gs_u ?_ | with_reducible refine pick_ti ?_ | with_reducible refine pick_fi ?_ | with_reducible refine ⟨gs_tf ⟨rfl, rfl⟩, ?_⟩ | with_reducible refine ⟨gs_ft ⟨rfl, rfl⟩, ?_⟩ | with_reducible refine ⟨gs_u ⟨rfl, rfl⟩, ?_⟩ | with_reducible refine gs_t ?_ | with_reducible refine gs_f ?_ | with_reducible refine off_i ?_ | with_reducible refine cndT ?_ | with_reducible refine cndF ?_)
      refine fnW_of (by kernel_rfl) (uses_c (t := t) (s.rat 0 rfl) (g s) (by omega) fun w10 e => ?_)
      have s := s.ext0 e
      repeat (first | with_reducible refine gs_tf ?_ | with_reducible refine gs_ft ?_ | with_reducible refine gs_u ?_ | with_reducible refine pick_ti ?_ | with_reducible refine pick_fi ?_ | with_reducible refine ⟨gs_tf ⟨rfl, rfl⟩, ?_⟩ | with_reducible refine ⟨gs_ft ⟨rfl, rfl⟩, ?_⟩ | with_reducible refine ⟨gs_u ⟨rfl, rfl⟩, ?_⟩ | with_reducible refine gs_t ?_ | with_reducible refine gs_f ?_ | with_reducible refine off_i ?_ | with_reducible refine cndT ?_ | with_reducible refine cndF ?_)
      rw [igtr, decide_eq_true k8]
      repeat (first | with_reducible refine gs_tf ?_ | with_reducible refine gs_ft ?_ | with_reducible refine gs_u ?_ | with_reducible refine pick_ti ?_ | with_reducible refine pick_fi ?_ | with_reducible refine ⟨gs_tf ⟨rfl, rfl⟩, ?_⟩ | with_reducible refine ⟨gs_ft ⟨rfl, rfl⟩, ?_⟩ | with_reducible refine ⟨gs_u ⟨rfl, rfl⟩, ?_⟩ | with_reducible refine gs_t ?_ | with_reducible refine gs_f ?_ | with_reducible refine off_i ?_ | with_reducible refine cndT ?_ | with_reducible refine cndF ?_)
      exact hK _ s.ext

set_option maxHeartbeats 400000 in
theorem spinesLaw_walk {w : World} {K : VPost} {t : TV} (h : t.ok w) (hg : GS w) (hK : ∀ w', Ext [] w w' → K (.bool true) w') : Calls Tryd.prog 6 #[t.v] w (retK K) := by
  refine c6_calls _ w K ?_
  unfold c6
  refine TV.box h fun b w1 s => ?_
  have g : ∀ {W : World} {L R : List Res}, Sep [] w W L R → GS W := fun s => hg.keep s.ext (by simp)
  refine fnW_of (by kernel_rfl) (alive8_c (g s) fun w2 e => ?_)
  have s := s.ext0 e
  refine not_ti ?_
  refine cndF ?_
  refine s.loadAll 0 rfl t.cells_len ?_
  refine fnW_of (by kernel_rfl) (great8_c (t := t) (s.rat 0 rfl) fun w3 e => ?_)
  have s := s.ext0 e
  by_cases h1 : 3600 < t.size
  · rw [decide_eq_true h1]
    repeat (first | with_reducible refine gs_tf ?_ | with_reducible refine gs_ft ?_ | with_reducible refine gs_u ?_ | with_reducible refine pick_ti ?_ | with_reducible refine pick_fi ?_ | with_reducible refine ⟨gs_tf ⟨rfl, rfl⟩, ?_⟩ | with_reducible refine ⟨gs_ft ⟨rfl, rfl⟩, ?_⟩ | with_reducible refine ⟨gs_u ⟨rfl, rfl⟩, ?_⟩ | with_reducible refine gs_t ?_ | with_reducible refine gs_f ?_ | with_reducible refine off_i ?_ | with_reducible refine cndT ?_ | with_reducible refine cndF ?_)
    exact hK _ s.ext
  rw [decide_eq_false h1]
  repeat (first | with_reducible refine gs_tf ?_ | with_reducible refine gs_ft ?_ | with_reducible refine gs_u ?_ | with_reducible refine pick_ti ?_ | with_reducible refine pick_fi ?_ | with_reducible refine ⟨gs_tf ⟨rfl, rfl⟩, ?_⟩ | with_reducible refine ⟨gs_ft ⟨rfl, rfl⟩, ?_⟩ | with_reducible refine ⟨gs_u ⟨rfl, rfl⟩, ?_⟩ | with_reducible refine gs_t ?_ | with_reducible refine gs_f ?_ | with_reducible refine off_i ?_ | with_reducible refine cndT ?_ | with_reducible refine cndF ?_)
  refine s.loadAll 0 rfl t.cells_len ?_
  repeat (first | with_reducible refine gs_tf ?_ | with_reducible refine gs_ft ?_ | with_reducible refine gs_u ?_ | with_reducible refine pick_ti ?_ | with_reducible refine pick_fi ?_ | with_reducible refine ⟨gs_tf ⟨rfl, rfl⟩, ?_⟩ | with_reducible refine ⟨gs_ft ⟨rfl, rfl⟩, ?_⟩ | with_reducible refine ⟨gs_u ⟨rfl, rfl⟩, ?_⟩ | with_reducible refine gs_t ?_ | with_reducible refine gs_f ?_ | with_reducible refine off_i ?_ | with_reducible refine cndT ?_ | with_reducible refine cndF ?_)
  refine fnW_of (by kernel_rfl) (rAny_c (t := t) (s.rat 0 rfl) (by omega) fun w4 e => ?_)
  have s := s.ext0 e
  repeat (first | with_reducible refine gs_tf ?_ | with_reducible refine gs_ft ?_ | with_reducible refine gs_u ?_ | with_reducible refine pick_ti ?_ | with_reducible refine pick_fi ?_ | with_reducible refine ⟨gs_tf ⟨rfl, rfl⟩, ?_⟩ | with_reducible refine ⟨gs_ft ⟨rfl, rfl⟩, ?_⟩ | with_reducible refine ⟨gs_u ⟨rfl, rfl⟩, ?_⟩ | with_reducible refine gs_t ?_ | with_reducible refine gs_f ?_ | with_reducible refine off_i ?_ | with_reducible refine cndT ?_ | with_reducible refine cndF ?_)
  refine not_ti ?_
  cases hr : rightR t.e 4 1099511627776 with
  | false =>
    rw [Bool.not_false]
    repeat (first | with_reducible refine gs_tf ?_ | with_reducible refine gs_ft ?_ | with_reducible refine gs_u ?_ | with_reducible refine pick_ti ?_ | with_reducible refine pick_fi ?_ | with_reducible refine ⟨gs_tf ⟨rfl, rfl⟩, ?_⟩ | with_reducible refine ⟨gs_ft ⟨rfl, rfl⟩, ?_⟩ | with_reducible refine ⟨gs_u ⟨rfl, rfl⟩, ?_⟩ | with_reducible refine gs_t ?_ | with_reducible refine gs_f ?_ | with_reducible refine off_i ?_ | with_reducible refine cndT ?_ | with_reducible refine cndF ?_)
    exact hK _ s.ext
  | true =>
    rw [Bool.not_true]
    repeat (first | with_reducible refine gs_tf ?_ | with_reducible refine gs_ft ?_ | with_reducible refine gs_u ?_ | with_reducible refine pick_ti ?_ | with_reducible refine pick_fi ?_ | with_reducible refine ⟨gs_tf ⟨rfl, rfl⟩, ?_⟩ | with_reducible refine ⟨gs_ft ⟨rfl, rfl⟩, ?_⟩ | with_reducible refine ⟨gs_u ⟨rfl, rfl⟩, ?_⟩ | with_reducible refine gs_t ?_ | with_reducible refine gs_f ?_ | with_reducible refine off_i ?_ | with_reducible refine cndT ?_ | with_reducible refine cndF ?_)
    have hpl := right_plain hr
    obtain ⟨p1, p2⟩ := spine_app t.e hpl
    obtain ⟨q1, q2⟩ := strip_bind 7 (.inr rfl) t.e hpl
    obtain ⟨r1, r2⟩ := strip_bind 6 (.inl rfl) t.e hpl
    have hts : t.e.size ≤ 3600 := by rw [size_e]; omega
    refine s.loadAll 0 rfl t.cells_len ?_
    refine s.spined (by simp) (by omega) fun hd l x w5 hhe hle _ s => ?_
    rw [extr0, extr1]
    refine s.alloc zero_term rfl fun b3 w6 s _ => ?_
    refine s.storeAll (vs := hd.cells) 0 rfl hd.cells_len rfl (TV.one (s.rat 0 rfl)) fun w7 s _ => ?_
    have s : Sep [] w w7 (rB b3 hd.cells 27 :: rB b t.cells 27 :: []) (rT hd :: rTs l :: rRT x l :: rT t :: []) := s
    refine s.loadAll 1 rfl t.cells_len ?_
    refine s.stripped (by simp) (by omega) fun bo tys y w8 hbe hte _ s => ?_
    rw [extr0, extr1]
    refine s.alloc zero_term rfl fun b6 w9 s _ => ?_
    refine s.storeAll (vs := bo.cells) 0 rfl bo.cells_len rfl (TV.one (s.rat 0 rfl)) fun w10 s _ => ?_
    have s : Sep [] w w10 (rB b6 bo.cells 27 :: rB b3 hd.cells 27 :: rB b t.cells 27 :: []) (rT bo :: rTs tys :: rRT y tys :: rT hd :: rTs l :: rRT x l :: rT t :: []) := s
    refine s.loadAll 2 rfl t.cells_len ?_
    refine s.stripped (by simp) (by omega) fun d c z w11 hde hce _ s => ?_
    rw [extr0, extr1]
    refine s.alloc zero_term rfl fun b8 w12 s _ => ?_
    refine s.storeAll (vs := d.cells) 0 rfl d.cells_len rfl (TV.one (s.rat 0 rfl)) fun w13 s _ => ?_
    have s : Sep [] w w13 (rB b8 d.cells 27 :: rB b6 bo.cells 27 :: rB b3 hd.cells 27 :: rB b t.cells 27 :: []) (rT d :: rTs c :: rRT z c :: rT bo :: rTs tys :: rRT y tys :: rT hd :: rTs l :: rRT x l :: rT t :: []) := s
    have s := s.drew
    generalize w13.drew = w13 at *
    have hps : ∀ (a : TM) (us : List TM), appT a us = t.e → a.size ≤ 3600 ∧ (∀ q ∈ us, q.size ≤ 3600) ∧ us.length ≤ 3600 := by
      intro a us he
      have : (appT a us).size ≤ 3600 := by rw [he]; exact hts
      have h2 := appT_size us a
      rw [h2] at this
      exact sum_bounds this
    have hbs : ∀ (k : Int) (a : TM) (us : List TM), bindT k a us = t.e → a.size ≤ 3600 ∧ (∀ q ∈ us, q.size ≤ 3600) ∧ us.length ≤ 3600 := by
      intro k a us he
      have : (bindT k a us).size ≤ 3600 := by rw [he]; exact hts
      have h2 := bindT_size k a us
      rw [h2] at this
      exact sum_bounds this
    have up : ∀ {ts : List TV} {us : List TM}, ts.map TV.e = us → (∀ q ∈ us, q.size ≤ 3600) → ∀ t ∈ ts, t.size ≤ 1000000 := by
      intro ts us he hq t ht
      have := hq t.e (by rw [← he]; exact List.mem_map_of_mem ht)
      rw [size_e] at this
      omega
    have ln : ∀ {ts : List TV} {us : List TM}, ts.map TV.e = us → us.length ≤ 3600 → ts.length < 2 ^ 50 := by
      intro ts us he hq
      have := congrArg List.length he
      rw [List.length_map] at this
      omega
    obtain ⟨a1, a2, a3⟩ := hps _ _ p1
    obtain ⟨b1, b2, b3'⟩ := hbs _ _ _ q1
    obtain ⟨c1, c2, c3⟩ := hbs _ _ _ r1
    refine s.loadAll 2 rfl hd.cells_len ?_
    refine s.loadAll 3 rfl t.cells_len ?_
    refine s.apped (f := hd) (ts := l) (by simp) (by rw [← size_e, hhe]; omega) (s.rd (rRT x l) (by simp)) (s.rd (rTs l) (by simp)) (up hle a2) (ln hle a3) fun o w14 ho s => ?_
    refine ⟨s.loadAll 3 rfl t.cells_len ⟨rfl, rfl⟩, ?_⟩
    refine fnW_of (by kernel_rfl) (same_c o t (s.rat 0 rfl) (s.rd (rT t) (by simp)) fun w15 e => ?_)
    have s := s.ext0 e
    rw [sameB_t (by rw [ho, hhe, hle, p1])]
    repeat (first | with_reducible refine gs_tf ?_ | with_reducible refine gs_ft ?_ | with_reducible refine gs_u ?_ | with_reducible refine pick_ti ?_ | with_reducible refine pick_fi ?_ | with_reducible refine ⟨gs_tf ⟨rfl, rfl⟩, ?_⟩ | with_reducible refine ⟨gs_ft ⟨rfl, rfl⟩, ?_⟩ | with_reducible refine ⟨gs_u ⟨rfl, rfl⟩, ?_⟩ | with_reducible refine gs_t ?_ | with_reducible refine gs_f ?_ | with_reducible refine off_i ?_ | with_reducible refine cndT ?_ | with_reducible refine cndF ?_)
    refine s.loadAll 1 rfl bo.cells_len ?_
    repeat (first | with_reducible refine gs_tf ?_ | with_reducible refine gs_ft ?_ | with_reducible refine gs_u ?_ | with_reducible refine pick_ti ?_ | with_reducible refine pick_fi ?_ | with_reducible refine ⟨gs_tf ⟨rfl, rfl⟩, ?_⟩ | with_reducible refine ⟨gs_ft ⟨rfl, rfl⟩, ?_⟩ | with_reducible refine ⟨gs_u ⟨rfl, rfl⟩, ?_⟩ | with_reducible refine gs_t ?_ | with_reducible refine gs_f ?_ | with_reducible refine off_i ?_ | with_reducible refine cndT ?_ | with_reducible refine cndF ?_)
    refine s.loadAll 3 rfl t.cells_len ?_
    repeat (first | with_reducible refine gs_tf ?_ | with_reducible refine gs_ft ?_ | with_reducible refine gs_u ?_ | with_reducible refine pick_ti ?_ | with_reducible refine pick_fi ?_ | with_reducible refine ⟨gs_tf ⟨rfl, rfl⟩, ?_⟩ | with_reducible refine ⟨gs_ft ⟨rfl, rfl⟩, ?_⟩ | with_reducible refine ⟨gs_u ⟨rfl, rfl⟩, ?_⟩ | with_reducible refine gs_t ?_ | with_reducible refine gs_f ?_ | with_reducible refine off_i ?_ | with_reducible refine cndT ?_ | with_reducible refine cndF ?_)
    refine s.bound (f := bo) (ts := tys) ⟨by decide, by decide⟩ (by simp) (by rw [← size_e, hbe]; omega) (s.rd (rRT y tys) (by simp)) (s.rd (rTs tys) (by simp)) (up hte b2) (ln hte b3') fun o2 w16 ho2 s => ?_
    refine ⟨gs_t (s.loadAll 3 rfl t.cells_len ⟨rfl, rfl⟩), ?_⟩
    repeat (first | with_reducible refine gs_tf ?_ | with_reducible refine gs_ft ?_ | with_reducible refine gs_u ?_ | with_reducible refine pick_ti ?_ | with_reducible refine pick_fi ?_ | with_reducible refine ⟨gs_tf ⟨rfl, rfl⟩, ?_⟩ | with_reducible refine ⟨gs_ft ⟨rfl, rfl⟩, ?_⟩ | with_reducible refine ⟨gs_u ⟨rfl, rfl⟩, ?_⟩ | with_reducible refine gs_t ?_ | with_reducible refine gs_f ?_ | with_reducible refine off_i ?_ | with_reducible refine cndT ?_ | with_reducible refine cndF ?_)
    refine fnW_of (by kernel_rfl) (same_c o2 t (s.rat 0 rfl) (s.rd (rT t) (by simp)) fun w17 e => ?_)
    have s := s.ext0 e
    rw [sameB_t (by rw [ho2, hbe, hte, q1])]
    repeat (first | with_reducible refine gs_tf ?_ | with_reducible refine gs_ft ?_ | with_reducible refine gs_u ?_ | with_reducible refine pick_ti ?_ | with_reducible refine pick_fi ?_ | with_reducible refine ⟨gs_tf ⟨rfl, rfl⟩, ?_⟩ | with_reducible refine ⟨gs_ft ⟨rfl, rfl⟩, ?_⟩ | with_reducible refine ⟨gs_u ⟨rfl, rfl⟩, ?_⟩ | with_reducible refine gs_t ?_ | with_reducible refine gs_f ?_ | with_reducible refine off_i ?_ | with_reducible refine cndT ?_ | with_reducible refine cndF ?_)
    refine s.loadAll 0 rfl d.cells_len ?_
    repeat (first | with_reducible refine gs_tf ?_ | with_reducible refine gs_ft ?_ | with_reducible refine gs_u ?_ | with_reducible refine pick_ti ?_ | with_reducible refine pick_fi ?_ | with_reducible refine ⟨gs_tf ⟨rfl, rfl⟩, ?_⟩ | with_reducible refine ⟨gs_ft ⟨rfl, rfl⟩, ?_⟩ | with_reducible refine ⟨gs_u ⟨rfl, rfl⟩, ?_⟩ | with_reducible refine gs_t ?_ | with_reducible refine gs_f ?_ | with_reducible refine off_i ?_ | with_reducible refine cndT ?_ | with_reducible refine cndF ?_)
    refine s.loadAll 3 rfl t.cells_len ?_
    repeat (first | with_reducible refine gs_tf ?_ | with_reducible refine gs_ft ?_ | with_reducible refine gs_u ?_ | with_reducible refine pick_ti ?_ | with_reducible refine pick_fi ?_ | with_reducible refine ⟨gs_tf ⟨rfl, rfl⟩, ?_⟩ | with_reducible refine ⟨gs_ft ⟨rfl, rfl⟩, ?_⟩ | with_reducible refine ⟨gs_u ⟨rfl, rfl⟩, ?_⟩ | with_reducible refine gs_t ?_ | with_reducible refine gs_f ?_ | with_reducible refine off_i ?_ | with_reducible refine cndT ?_ | with_reducible refine cndF ?_)
    refine s.bound (f := d) (ts := c) ⟨by decide, by decide⟩ (by simp) (by rw [← size_e, hde]; omega) (s.rd (rRT z c) (by simp)) (s.rd (rTs c) (by simp)) (up hce c2) (ln hce c3) fun o3 w18 ho3 s => ?_
    refine ⟨gs_t (s.loadAll 3 rfl t.cells_len ⟨rfl, rfl⟩), ?_⟩
    repeat (first | with_reducible refine gs_tf ?_ | with_reducible refine gs_ft ?_ | with_reducible refine gs_u ?_ | with_reducible refine pick_ti ?_ | with_reducible refine pick_fi ?_ | with_reducible refine ⟨gs_tf ⟨rfl, rfl⟩, ?_⟩ | with_reducible refine ⟨gs_ft ⟨rfl, rfl⟩, ?_⟩ | with_reducible refine ⟨gs_u ⟨rfl, rfl⟩, ?_⟩ | with_reducible refine gs_t ?_ | with_reducible refine gs_f ?_ | with_reducible refine off_i ?_ | with_reducible refine cndT ?_ | with_reducible refine cndF ?_)
    refine fnW_of (by kernel_rfl) (same_c o3 t (s.rat 0 rfl) (s.rd (rT t) (by simp)) fun w19 e => ?_)
    have s := s.ext0 e
    rw [sameB_t (by rw [ho3, hde, hce, r1])]
    repeat (first | with_reducible refine gs_tf ?_ | with_reducible refine gs_ft ?_ | with_reducible refine gs_u ?_ | with_reducible refine pick_ti ?_ | with_reducible refine pick_fi ?_ | with_reducible refine ⟨gs_tf ⟨rfl, rfl⟩, ?_⟩ | with_reducible refine ⟨gs_ft ⟨rfl, rfl⟩, ?_⟩ | with_reducible refine ⟨gs_u ⟨rfl, rfl⟩, ?_⟩ | with_reducible refine gs_t ?_ | with_reducible refine gs_f ?_ | with_reducible refine off_i ?_ | with_reducible refine cndT ?_ | with_reducible refine cndF ?_)
    have kk : ∀ {u : TV} {a : TM}, u.e = a → u.k = a.k := by
      intro u a he
      rw [← he, TV.e_eq]; rfl
    refine s.load1 (v := iv hd.k) 2 rfl (by rw [TV.cells_eq]; rfl) ?_
    repeat (first | with_reducible refine gs_tf ?_ | with_reducible refine gs_ft ?_ | with_reducible refine gs_u ?_ | with_reducible refine pick_ti ?_ | with_reducible refine pick_fi ?_ | with_reducible refine ⟨gs_tf ⟨rfl, rfl⟩, ?_⟩ | with_reducible refine ⟨gs_ft ⟨rfl, rfl⟩, ?_⟩ | with_reducible refine ⟨gs_u ⟨rfl, rfl⟩, ?_⟩ | with_reducible refine gs_t ?_ | with_reducible refine gs_f ?_ | with_reducible refine off_i ?_ | with_reducible refine cndT ?_ | with_reducible refine cndF ?_)
    rw [ineq, decide_eq_true (by rw [kk hhe]; exact p2)]
    repeat (first | with_reducible refine gs_tf ?_ | with_reducible refine gs_ft ?_ | with_reducible refine gs_u ?_ | with_reducible refine pick_ti ?_ | with_reducible refine pick_fi ?_ | with_reducible refine ⟨gs_tf ⟨rfl, rfl⟩, ?_⟩ | with_reducible refine ⟨gs_ft ⟨rfl, rfl⟩, ?_⟩ | with_reducible refine ⟨gs_u ⟨rfl, rfl⟩, ?_⟩ | with_reducible refine gs_t ?_ | with_reducible refine gs_f ?_ | with_reducible refine off_i ?_ | with_reducible refine cndT ?_ | with_reducible refine cndF ?_)
    refine s.load1 (v := iv bo.k) 1 rfl (by rw [TV.cells_eq]; rfl) ?_
    repeat (first | with_reducible refine gs_tf ?_ | with_reducible refine gs_ft ?_ | with_reducible refine gs_u ?_ | with_reducible refine pick_ti ?_ | with_reducible refine pick_fi ?_ | with_reducible refine ⟨gs_tf ⟨rfl, rfl⟩, ?_⟩ | with_reducible refine ⟨gs_ft ⟨rfl, rfl⟩, ?_⟩ | with_reducible refine ⟨gs_u ⟨rfl, rfl⟩, ?_⟩ | with_reducible refine gs_t ?_ | with_reducible refine gs_f ?_ | with_reducible refine off_i ?_ | with_reducible refine cndT ?_ | with_reducible refine cndF ?_)
    rw [ineq, decide_eq_true (by rw [kk hbe]; exact q2)]
    repeat (first | with_reducible refine gs_tf ?_ | with_reducible refine gs_ft ?_ | with_reducible refine gs_u ?_ | with_reducible refine pick_ti ?_ | with_reducible refine pick_fi ?_ | with_reducible refine ⟨gs_tf ⟨rfl, rfl⟩, ?_⟩ | with_reducible refine ⟨gs_ft ⟨rfl, rfl⟩, ?_⟩ | with_reducible refine ⟨gs_u ⟨rfl, rfl⟩, ?_⟩ | with_reducible refine gs_t ?_ | with_reducible refine gs_f ?_ | with_reducible refine off_i ?_ | with_reducible refine cndT ?_ | with_reducible refine cndF ?_)
    refine s.load1 (v := iv d.k) 0 rfl (by rw [TV.cells_eq]; rfl) ?_
    repeat (first | with_reducible refine gs_tf ?_ | with_reducible refine gs_ft ?_ | with_reducible refine gs_u ?_ | with_reducible refine pick_ti ?_ | with_reducible refine pick_fi ?_ | with_reducible refine ⟨gs_tf ⟨rfl, rfl⟩, ?_⟩ | with_reducible refine ⟨gs_ft ⟨rfl, rfl⟩, ?_⟩ | with_reducible refine ⟨gs_u ⟨rfl, rfl⟩, ?_⟩ | with_reducible refine gs_t ?_ | with_reducible refine gs_f ?_ | with_reducible refine off_i ?_ | with_reducible refine cndT ?_ | with_reducible refine cndF ?_)
    rw [ineq, decide_eq_true (by rw [kk hde]; exact r2)]
    repeat (first | with_reducible refine gs_tf ?_ | with_reducible refine gs_ft ?_ | with_reducible refine gs_u ?_ | with_reducible refine pick_ti ?_ | with_reducible refine pick_fi ?_ | with_reducible refine ⟨gs_tf ⟨rfl, rfl⟩, ?_⟩ | with_reducible refine ⟨gs_ft ⟨rfl, rfl⟩, ?_⟩ | with_reducible refine ⟨gs_u ⟨rfl, rfl⟩, ?_⟩ | with_reducible refine gs_t ?_ | with_reducible refine gs_f ?_ | with_reducible refine off_i ?_ | with_reducible refine cndT ?_ | with_reducible refine cndF ?_)
    exact hK _ s.ext
end Go.Proofs.YtbaddpnlokmldaaDoor
