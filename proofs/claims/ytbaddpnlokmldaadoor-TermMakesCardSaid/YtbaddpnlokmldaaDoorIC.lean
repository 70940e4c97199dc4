/- Levels looked at; what is right of a node, of all nodes: walks. Conditions: at most 10^6 nodes. -/
import Derived.Test.YtbaddpnlokmldaaDoorIB
namespace Go.Proofs.YtbaddpnlokmldaaDoor
open Go
set_option maxRecDepth 100000

def Lv.ps (l : Lv) : List Int := [l.p0, l.p1, l.p2, l.p3]
theorem ixv4 {w : World} {K : VPost} {l : Lv} {i : Nat} (hi : i < 4) (h : K (iv (l.ps[i]'(by simpa [Lv.ps] using hi))) w) : ixvW (.arr 4 false 1) (.agg [iv l.p0, iv l.p1, iv l.p2, iv l.p3].toArray) (.int .i64 i) w K := by
  refine ⟨by omega, by omega, ?_⟩
  have hk : i = 0 ∨ i = 1 ∨ i = 2 ∨ i = 3 := by omega
  rcases hk with rfl | rfl | rfl | rfl <;> exact ⟨_, rfl, h⟩
theorem lvR_ps (l : Lv) : lvR l = (l.ps.all (fun n => decide (-1 ≤ n ∧ n ≤ l.base)) && decide (0 ≤ l.base ∧ l.base ≤ 100)) := by
  rw [Bool.eq_iff_iff]
  unfold lvR Lv.ps
  simp only [List.all_cons, List.all_nil, Bool.and_true, Bool.and_eq_true, decide_eq_true_eq]
  constructor
  · rintro ⟨h1, h2, h3, h4, h5, h6⟩; exact ⟨⟨h3, h4, h5, h6⟩, h1, h2⟩
  · rintro ⟨⟨h3, h4, h5, h6⟩, h1, h2⟩; exact ⟨h1, h2, h3, h4, h5, h6⟩
theorem lright_c {w : World} {K : VPost} {l : Lv} (hK : ∀ w', Ext [] w w' → K (.bool (lvR l)) w') : Calls Tryd.prog 69 #[.agg l.cells.toArray] w (retK K) := by
  refine c69_calls _ w K ?_
  unfold c69
  refine (Sep.nil w).box fun b w1 s _ => ?_
  have s : Sep [] w w1 (rB b l.cells 48 :: []) [] := s
  refine bindX_i fun J0 g0 => bindX_i fun J1 g1 => ?_
  refine off_i ?_
  refine s.loadN 0 rfl (by show 0 + 1 + 4 ≤ 5; omega) ?_
  show bindX _ _
  refine bindX_i fun J2 g2 => ?_
  refine loop_i (fun m fr wr => ∃ i : Nat, m = 4 - i ∧ i ≤ 4 ∧ (l.ps.take i).all (fun n => decide (-1 ≤ n ∧ n ≤ l.base)) = true ∧ fr 1 = .pointer (some ⟨b, 0, none⟩) ∧ fr 6 = .agg [iv l.p0, iv l.p1, iv l.p2, iv l.p3].toArray ∧ fr 7 = .int .i64 i ∧ wr = w1) 4 ?_ ?_
  · exact ⟨0, rfl, by omega, rfl, rfl, rfl, rfl, rfl⟩
  · rintro m fr wr J ⟨i, rfl, hi, ha, f1, f6, f7, rfl⟩ hJ hX
    rw [f1, f6, f7]
    refine nlss (y := 4) (cond_d (fun hlt => ?_) (fun hlt => ?_))
    · refine ixv4 hlt ?_
      have hl : i < l.ps.length := hlt
      have ht : (l.ps.take (i + 1)).all (fun n => decide (-1 ≤ n ∧ n ≤ l.base)) = decide (-1 ≤ l.ps[i] ∧ l.ps[i] ≤ l.base) := by
        rw [List.take_succ_eq_append_getElem hl, List.all_append, ha]; simp
      have no : ¬ (-1 ≤ l.ps[i] ∧ l.ps[i] ≤ l.base) → K (.bool false) wr := fun hn => by
        have := hK wr s.ext
        rw [lvR_ps] at this
        have e : l.ps.all (fun n => decide (-1 ≤ n ∧ n ≤ l.base)) = false := by
          rw [List.all_eq_false]
          exact ⟨l.ps[i], List.getElem_mem hl, by simpa using hn⟩
        rwa [e] at this
      rw [ilss]
      by_cases h1 : l.ps[i] < -1
      · rw [decide_eq_true h1]
        repeat (first | with_reducible refine gs_tf ?_ | with_reducible refine gs_ft ?_ | with_reducible refine gs_u ?_ | with_reducible refine pick_ti ?_ | with_reducible refine pick_fi ?_ | with_reducible refine ⟨gs_tf ⟨rfl, rfl⟩, ?_⟩ | with_reducible refine ⟨gs_ft ⟨rfl, rfl⟩, ?_⟩ | with_reducible refine ⟨gs_u ⟨rfl, rfl⟩, ?_⟩ | with_reducible refine gs_t ?_ | with_reducible refine gs_f ?_ | with_reducible refine off_i ?_ | with_reducible refine cndT ?_ | with_reducible refine cndF ?_)
        exact hX _ _ _ (by simp) (g2 _ _ _ (g1 _ _ _ (g0 _ _ _ (no (by omega)))))
      · rw [decide_eq_false h1]
        repeat (first | with_reducible refine gs_tf ?_ | with_reducible refine gs_ft ?_ | with_reducible refine gs_u ?_ | with_reducible refine pick_ti ?_ | with_reducible refine pick_fi ?_ | with_reducible refine ⟨gs_tf ⟨rfl, rfl⟩, ?_⟩ | with_reducible refine ⟨gs_ft ⟨rfl, rfl⟩, ?_⟩ | with_reducible refine ⟨gs_u ⟨rfl, rfl⟩, ?_⟩ | with_reducible refine gs_t ?_ | with_reducible refine gs_f ?_ | with_reducible refine off_i ?_ | with_reducible refine cndT ?_ | with_reducible refine cndF ?_)
        refine s.load1 (v := iv l.base) 0 rfl rfl ?_
        repeat (first | with_reducible refine gs_tf ?_ | with_reducible refine gs_ft ?_ | with_reducible refine gs_u ?_ | with_reducible refine pick_ti ?_ | with_reducible refine pick_fi ?_ | with_reducible refine ⟨gs_tf ⟨rfl, rfl⟩, ?_⟩ | with_reducible refine ⟨gs_ft ⟨rfl, rfl⟩, ?_⟩ | with_reducible refine ⟨gs_u ⟨rfl, rfl⟩, ?_⟩ | with_reducible refine gs_t ?_ | with_reducible refine gs_f ?_ | with_reducible refine off_i ?_ | with_reducible refine cndT ?_ | with_reducible refine cndF ?_)
        rw [igtr]
        repeat (first | with_reducible refine gs_tf ?_ | with_reducible refine gs_ft ?_ | with_reducible refine gs_u ?_ | with_reducible refine pick_ti ?_ | with_reducible refine pick_fi ?_ | with_reducible refine ⟨gs_tf ⟨rfl, rfl⟩, ?_⟩ | with_reducible refine ⟨gs_ft ⟨rfl, rfl⟩, ?_⟩ | with_reducible refine ⟨gs_u ⟨rfl, rfl⟩, ?_⟩ | with_reducible refine gs_t ?_ | with_reducible refine gs_f ?_ | with_reducible refine off_i ?_ | with_reducible refine cndT ?_ | with_reducible refine cndF ?_)
        refine cond_d (fun h2 => ?_) (fun h2 => ?_)
        · exact hX _ _ _ (by simp) (g2 _ _ _ (g1 _ _ _ (g0 _ _ _ (no (by omega)))))
        · refine nadd (y := 1) (by omega) ?_
          exact hJ (4 - (i + 1)) _ _ (by omega) ⟨i + 1, rfl, by omega, by rw [ht]; simp; omega, f1, f6, rfl, rfl⟩
    · obtain rfl : i = 4 := by omega
      refine hX _ _ _ (by simp) (g2 _ _ _ (blk_x (seq_n g1 ?_)))
      show offW _ (fr 1) _ _
      rw [f1]
      have e : l.ps.all (fun n => decide (-1 ≤ n ∧ n ≤ l.base)) = true := ha
      have hR := hK wr s.ext
      rw [lvR_ps, e, Bool.true_and] at hR
      repeat (first | with_reducible refine gs_tf ?_ | with_reducible refine gs_ft ?_ | with_reducible refine gs_u ?_ | with_reducible refine pick_ti ?_ | with_reducible refine pick_fi ?_ | with_reducible refine ⟨gs_tf ⟨rfl, rfl⟩, ?_⟩ | with_reducible refine ⟨gs_ft ⟨rfl, rfl⟩, ?_⟩ | with_reducible refine ⟨gs_u ⟨rfl, rfl⟩, ?_⟩ | with_reducible refine gs_t ?_ | with_reducible refine gs_f ?_ | with_reducible refine off_i ?_ | with_reducible refine cndT ?_ | with_reducible refine cndF ?_ | (with_reducible show loadW _ _ _ _; first | refine s.load1 0 rfl rfl ?_))
      rw [igeq]
      by_cases h1 : 0 ≤ l.base
      · rw [decide_eq_true h1]
        repeat (first | with_reducible refine gs_tf ?_ | with_reducible refine gs_ft ?_ | with_reducible refine gs_u ?_ | with_reducible refine pick_ti ?_ | with_reducible refine pick_fi ?_ | with_reducible refine ⟨gs_tf ⟨rfl, rfl⟩, ?_⟩ | with_reducible refine ⟨gs_ft ⟨rfl, rfl⟩, ?_⟩ | with_reducible refine ⟨gs_u ⟨rfl, rfl⟩, ?_⟩ | with_reducible refine gs_t ?_ | with_reducible refine gs_f ?_ | with_reducible refine off_i ?_ | with_reducible refine cndT ?_ | with_reducible refine cndF ?_)
        show offW _ (fr 1) _ _
        rw [f1]
        repeat (first | with_reducible refine gs_tf ?_ | with_reducible refine gs_ft ?_ | with_reducible refine gs_u ?_ | with_reducible refine pick_ti ?_ | with_reducible refine pick_fi ?_ | with_reducible refine ⟨gs_tf ⟨rfl, rfl⟩, ?_⟩ | with_reducible refine ⟨gs_ft ⟨rfl, rfl⟩, ?_⟩ | with_reducible refine ⟨gs_u ⟨rfl, rfl⟩, ?_⟩ | with_reducible refine gs_t ?_ | with_reducible refine gs_f ?_ | with_reducible refine off_i ?_ | with_reducible refine cndT ?_ | with_reducible refine cndF ?_ | (with_reducible show loadW _ _ _ _; first | refine s.load1 0 rfl rfl ?_))
        rw [ileq]
        repeat (first | with_reducible refine gs_tf ?_ | with_reducible refine gs_ft ?_ | with_reducible refine gs_u ?_ | with_reducible refine pick_ti ?_ | with_reducible refine pick_fi ?_ | with_reducible refine ⟨gs_tf ⟨rfl, rfl⟩, ?_⟩ | with_reducible refine ⟨gs_ft ⟨rfl, rfl⟩, ?_⟩ | with_reducible refine ⟨gs_u ⟨rfl, rfl⟩, ?_⟩ | with_reducible refine gs_t ?_ | with_reducible refine gs_f ?_ | with_reducible refine off_i ?_ | with_reducible refine cndT ?_ | with_reducible refine cndF ?_)
        rw [decide_eq_decide.2 (show (l.base ≤ 100) ↔ (0 ≤ l.base ∧ l.base ≤ 100) by simp [h1])]
        exact hR
      · rw [decide_eq_false h1]
        repeat (first | with_reducible refine gs_tf ?_ | with_reducible refine gs_ft ?_ | with_reducible refine gs_u ?_ | with_reducible refine pick_ti ?_ | with_reducible refine pick_fi ?_ | with_reducible refine ⟨gs_tf ⟨rfl, rfl⟩, ?_⟩ | with_reducible refine ⟨gs_ft ⟨rfl, rfl⟩, ?_⟩ | with_reducible refine ⟨gs_u ⟨rfl, rfl⟩, ?_⟩ | with_reducible refine gs_t ?_ | with_reducible refine gs_f ?_ | with_reducible refine off_i ?_ | with_reducible refine cndT ?_ | with_reducible refine cndF ?_)
        rw [decide_eq_false (by omega)] at hR
        exact hR
def lvWi (l : Lv) : Nat → Int
  | 0 => 0
  | i + 1 => if l.ps.getD i (-1) > -1 then i + 1 else lvWi l i
theorem lvWi_4 (l : Lv) : lvWi l 4 = lvW l := by
  simp [lvWi, lvW, Lv.ps]
theorem lwidth_c {w : World} {K : VPost} {l : Lv} (hK : ∀ w', Ext [] w w' → K (.int .i64 (lvW l)) w') : Calls Tryd.prog 70 #[.agg l.cells.toArray] w (retK K) := by
  refine c70_calls _ w K ?_
  unfold c70
  refine (Sep.nil w).box fun b w1 s _ => ?_
  have s : Sep [] w w1 (rB b l.cells 48 :: []) [] := s
  refine bindX_i fun J0 g0 => bindX_i fun J1 g1 => ?_
  refine off_i ?_
  refine s.loadN 0 rfl (by show 0 + 1 + 4 ≤ 5; omega) ?_
  show bindX _ _
  refine bindX_i fun J2 g2 => ?_
  refine loop_i (fun m fr wr => ∃ i : Nat, m = 4 - i ∧ i ≤ 4 ∧ fr 3 = .int .i64 (lvWi l i) ∧ fr 7 = .agg [iv l.p0, iv l.p1, iv l.p2, iv l.p3].toArray ∧ fr 8 = .int .i64 i ∧ wr = w1) 4 ?_ ?_
  · exact ⟨0, rfl, by omega, rfl, rfl, rfl, rfl⟩
  · rintro m fr wr J ⟨i, rfl, hi, f3, f7, f8, rfl⟩ hJ hX
    rw [f7, f8]
    refine nlss (y := 4) (cond_d (fun hlt => ?_) (fun hlt => ?_))
    · refine bindX_i fun J3 g3 => bindX_i fun J4 g4 => ?_
      refine ixv4 hlt ?_
      have hl : i < l.ps.length := hlt
      have hg : l.ps.getD i (-1) = l.ps[i] := by rw [List.getD_eq_getElem?_getD, List.getElem?_eq_getElem hl]; rfl
      rw [igtr]
      refine cond_d (fun h1 => ?_) (fun h1 => ?_)
      · refine nadd (y := 1) (by omega) ?_
        refine seq_n g3 ?_
        show binN _ _ _ _ (fr 8) _ _ _
        rw [f8]
        refine nadd (y := 1) (by omega) ?_
        refine hJ (4 - (i + 1)) _ _ (by omega) ⟨i + 1, rfl, by omega, ?_, f7, rfl, rfl⟩
        show Value.int .i64 _ = Value.int .i64 _
        rw [lvWi, hg, if_pos h1]
        rfl
      · refine seq_n g3 ?_
        show binN _ _ _ _ (fr 8) _ _ _
        rw [f8]
        refine nadd (y := 1) (by omega) ?_
        refine hJ (4 - (i + 1)) _ _ (by omega) ⟨i + 1, rfl, by omega, ?_, f7, rfl, rfl⟩
        show fr 3 = Value.int .i64 _
        rw [lvWi, hg, if_neg h1]
        exact f3
    · obtain rfl : i = 4 := by omega
      refine hX _ _ _ (by simp) (g2 _ _ _ (blk_x (seq_n g1 ?_)))
      show K (fr 3) _
      rw [f3, lvWi_4]
      exact hK wr s.ext
/-- Are a level's parts, or its parameters, wrong? -/
def lvX (p : Int) (l : Lv) : Bool := !lvR l || decide (p < lvW l)
theorem leveled1_c {w : World} {K : VPost} {l : Lv} {bp : Nat} {p : Int} (hp : RBlk w bp [.int .i64 p]) (hK : ∀ w', Ext [] w w' → K (.bool (lvX p l)) w') : Calls Tryd.prog 68 #[.agg l.cells.toArray, .pointer (some ⟨bp, 0, none⟩)] w (retK K) := by
  refine c68_calls _ _ w K ?_
  unfold c68
  refine (Sep.nil w).box fun b w1 s _ => ?_
  have s : Sep [] w w1 (rB b l.cells 48 :: []) [] := s
  have s := s.drew
  generalize w1.drew = w1 at *
  refine s.loadAll 0 rfl rfl ?_
  refine fnW_of (by kernel_rfl) (lright_c fun w2 e2 => ?_)
  have s := s.ext0 e2
  refine not_ti ?_
  unfold lvX at hK
  cases hr : lvR l with
  | false =>
    rw [hr] at hK
    rw [Bool.not_false]
    repeat (first | with_reducible refine gs_tf ?_ | with_reducible refine gs_ft ?_ | with_reducible refine gs_u ?_ | with_reducible refine pick_ti ?_ | with_reducible refine pick_fi ?_ | with_reducible refine ⟨gs_tf ⟨rfl, rfl⟩, ?_⟩ | with_reducible refine ⟨gs_ft ⟨rfl, rfl⟩, ?_⟩ | with_reducible refine ⟨gs_u ⟨rfl, rfl⟩, ?_⟩ | with_reducible refine gs_t ?_ | with_reducible refine gs_f ?_ | with_reducible refine off_i ?_ | with_reducible refine cndT ?_ | with_reducible refine cndF ?_)
    exact hK w2 s.ext
  | true =>
    rw [hr] at hK
    rw [Bool.not_true]
    repeat (first | with_reducible refine gs_tf ?_ | with_reducible refine gs_ft ?_ | with_reducible refine gs_u ?_ | with_reducible refine pick_ti ?_ | with_reducible refine pick_fi ?_ | with_reducible refine ⟨gs_tf ⟨rfl, rfl⟩, ?_⟩ | with_reducible refine ⟨gs_ft ⟨rfl, rfl⟩, ?_⟩ | with_reducible refine ⟨gs_u ⟨rfl, rfl⟩, ?_⟩ | with_reducible refine gs_t ?_ | with_reducible refine gs_f ?_ | with_reducible refine off_i ?_ | with_reducible refine cndT ?_ | with_reducible refine cndF ?_)
    refine s.loadAll 0 rfl rfl ?_
    repeat (first | with_reducible refine gs_tf ?_ | with_reducible refine gs_ft ?_ | with_reducible refine gs_u ?_ | with_reducible refine pick_ti ?_ | with_reducible refine pick_fi ?_ | with_reducible refine ⟨gs_tf ⟨rfl, rfl⟩, ?_⟩ | with_reducible refine ⟨gs_ft ⟨rfl, rfl⟩, ?_⟩ | with_reducible refine ⟨gs_u ⟨rfl, rfl⟩, ?_⟩ | with_reducible refine gs_t ?_ | with_reducible refine gs_f ?_ | with_reducible refine off_i ?_ | with_reducible refine cndT ?_ | with_reducible refine cndF ?_)
    refine load1 (o := 0) (v := .int .i64 p) (hp.keep s.ext (by simp)) rfl ?_
    repeat (first | with_reducible refine gs_tf ?_ | with_reducible refine gs_ft ?_ | with_reducible refine gs_u ?_ | with_reducible refine pick_ti ?_ | with_reducible refine pick_fi ?_ | with_reducible refine ⟨gs_tf ⟨rfl, rfl⟩, ?_⟩ | with_reducible refine ⟨gs_ft ⟨rfl, rfl⟩, ?_⟩ | with_reducible refine ⟨gs_u ⟨rfl, rfl⟩, ?_⟩ | with_reducible refine gs_t ?_ | with_reducible refine gs_f ?_ | with_reducible refine off_i ?_ | with_reducible refine cndT ?_ | with_reducible refine cndF ?_)
    refine fnW_of (by kernel_rfl) (lwidth_c fun w3 e3 => ?_)
    have s := s.ext0 e3
    refine ⟨gs_f (load1 (o := 0) (v := .int .i64 p) (hp.keep s.ext (by simp)) rfl ⟨rfl, rfl⟩), ?_⟩
    repeat (first | with_reducible refine gs_tf ?_ | with_reducible refine gs_ft ?_ | with_reducible refine gs_u ?_ | with_reducible refine pick_ti ?_ | with_reducible refine pick_fi ?_ | with_reducible refine ⟨gs_tf ⟨rfl, rfl⟩, ?_⟩ | with_reducible refine ⟨gs_ft ⟨rfl, rfl⟩, ?_⟩ | with_reducible refine ⟨gs_u ⟨rfl, rfl⟩, ?_⟩ | with_reducible refine gs_t ?_ | with_reducible refine gs_f ?_ | with_reducible refine off_i ?_ | with_reducible refine cndT ?_ | with_reducible refine cndF ?_)
    rw [igtr]
    repeat (first | with_reducible refine gs_tf ?_ | with_reducible refine gs_ft ?_ | with_reducible refine gs_u ?_ | with_reducible refine pick_ti ?_ | with_reducible refine pick_fi ?_ | with_reducible refine ⟨gs_tf ⟨rfl, rfl⟩, ?_⟩ | with_reducible refine ⟨gs_ft ⟨rfl, rfl⟩, ?_⟩ | with_reducible refine ⟨gs_u ⟨rfl, rfl⟩, ?_⟩ | with_reducible refine gs_t ?_ | with_reducible refine gs_f ?_ | with_reducible refine off_i ?_ | with_reducible refine cndT ?_ | with_reducible refine cndF ?_)
    exact hK w3 s.ext
theorem lindexF_c {w : World} {K : VPost} {x fv : Value} {ls : List Lv} (pr : Lv → Bool) (hx : RdSl w x 5 (lcs ls) ls.length) (hn : ls.length < 2 ^ 50)
    (hf : ∀ l ∈ ls, ∀ w' K', Ext [] w w' → (∀ w'', Ext [] w' w'' → K' (.bool (pr l)) w'') → dynW Tryd.prog fv #[.agg l.cells.toArray] w' K')
    (hT : ls.any pr = true → ∀ (i : Nat) w', Ext [] w w' → K (.int .i64 i) w') (hF : ls.any pr = false → ∀ w', Ext [] w w' → K (.int .i64 (-1)) w') : Calls Tryd.prog 92 #[x, fv] w (retK K) := by
  refine c92_calls _ _ w K ?_
  unfold c92
  refine bindX_i fun J0 g0 => bindX_i fun J1 g1 => ?_
  rw [hx.lenw]
  refine bindX_i fun J2 g2 => ?_
  refine loop_i (fun m fr wr => ∃ i : Nat, m = ls.length - i ∧ i ≤ ls.length ∧ (ls.take i).any pr = false ∧ fr 0 = x ∧ fr 1 = fv ∧ fr 7 = .int .i64 ls.length ∧ fr 8 = .int .i64 i ∧ Ext [] w wr) ls.length ?_ ?_
  · exact ⟨0, rfl, by omega, rfl, rfl, rfl, rfl, rfl, Ext.refl _ _⟩
  · rintro m fr wr J ⟨i, rfl, hi, ha, f0, f1, f7, f8, e1⟩ hJ hX
    rw [f7, f8]
    refine nlss (cond_d (fun hlt => ?_) (fun hlt => ?_))
    · rw [f0, f1]
      obtain ⟨b1, o1, hix, hld⟩ := (hx.keep e1 (by simp)).level hlt .i64
      refine hix _ ?_
      refine hld _ ?_
      refine hf ls[i] (List.getElem_mem hlt) wr _ e1 fun w2 e2 => ?_
      have ht : (ls.take (i + 1)).any pr = pr ls[i] := by
        rw [List.take_succ_eq_append_getElem hlt, List.any_append, ha]; simp
      cases hp : pr ls[i] with
      | true =>
        refine cndT ?_
        exact hX _ _ _ (by simp) (g2 _ _ _ (g1 _ _ _ (g0 _ _ _ (hT (List.any_eq_true.2 ⟨_, List.getElem_mem hlt, hp⟩) i _ (e1.new e2)))))
      | false =>
        refine cndF ?_
        refine nadd (y := 1) (by omega) ?_
        exact hJ (ls.length - (i + 1)) _ _ (by omega) ⟨i + 1, rfl, by omega, by rw [ht, hp], f0, f1, f7, rfl, e1.new e2⟩
    · obtain rfl : i = ls.length := by omega
      rw [List.take_length] at ha
      exact hX _ _ _ (by simp) (g2 _ _ _ (blk_x (seq_n g1 (hF ha wr e1))))
theorem lcontainsF_c {w : World} {K : VPost} {x fv : Value} {ls : List Lv} (pr : Lv → Bool) (hx : RdSl w x 5 (lcs ls) ls.length) (hn : ls.length < 2 ^ 50)
    (hf : ∀ l ∈ ls, ∀ w' K', Ext [] w w' → (∀ w'', Ext [] w' w'' → K' (.bool (pr l)) w'') → dynW Tryd.prog fv #[.agg l.cells.toArray] w' K')
    (hK : ∀ w', Ext [] w w' → K (.bool (ls.any pr)) w') : Calls Tryd.prog 71 #[x, fv] w (retK K) := by
  refine c71_calls _ _ w K ?_
  unfold c71
  refine fnW_of (by kernel_rfl) (lindexF_c pr hx hn hf (fun h i w1 e1 => ?_) (fun h w1 e1 => ?_))
  · rw [igeq, decide_eq_true (by omega)]
    have := hK w1 e1
    rwa [h] at this
  · rw [igeq, decide_eq_false (by omega)]
    have := hK w1 e1
    rwa [h] at this

theorem form_one (a b c : Int) : ∀ x ∈ formC a b c, x.oneCell' = true := by
  intro x hx
  simp only [List.mem_cons, List.not_mem_nil, or_false] at hx
  rcases hx with rfl | rfl | rfl <;> rfl
theorem zero_form : zeroO Tryd.prog 77 = some (.agg (formC 0 0 0).toArray) := by kernel_rfl
theorem lvsR_eq {k n : Int} {s : Bytes} {ls : List Lv} {args : List TM} (p : Int) (h1 : 1 ≤ k) (h9 : k ≤ 9) : lvsR (.mk k n s ls args) p = (!(decide (levN k < ls.length) || decide (k = 3 ∧ ls.length = 0)) && !ls.any (lvX p)) := by
  have e : lvsR (.mk k n s ls args) p = ((if k = 3 then decide (ls.length = 1) else if k = 4 then decide (ls.length ≤ 4) else decide (ls.length = 0)) && ls.all fun l => lvR l && decide (lvW l ≤ p)) := rfl
  rw [e, Bool.eq_iff_iff]
  unfold levN
  simp only [Bool.and_eq_true, Bool.not_eq_true', Bool.or_eq_false_iff, decide_eq_false_iff_not]
  refine and_congr ?_ ?_
  · by_cases h3 : k = 3
    · rw [if_pos h3, if_pos h3, decide_eq_true_eq]; omega
    · rw [if_neg h3, if_neg h3]
      by_cases h4 : k = 4
      · rw [if_pos h4, if_pos h4, decide_eq_true_eq]; omega
      · rw [if_neg h4, if_neg h4, decide_eq_true_eq]; omega
  · rw [List.all_eq_true, List.any_eq_false]
    refine forall_congr' fun l => forall_congr' fun _ => ?_
    unfold lvX
    cases lvR l with
    | false => simp
    | true => simp
set_option maxHeartbeats 400000 in
theorem leveled_c {w : World} {K : VPost} {t : TV} {p : Int} (h : t.ok w) (h1 : 1 ≤ t.k) (h9 : t.k ≤ 9) (hK : ∀ w', Ext [] w w' → K (.bool (lvsR t.e p)) w') : Calls Tryd.prog 58 #[t.v, .int .i64 p] w (retK K) := by
  obtain ⟨k, n, nm, ls, lv, av, args⟩ := t
  have h1 : 1 ≤ k := h1
  have h9 : k ≤ 9 := h9
  refine c58_calls _ _ w K ?_
  unfold c58
  refine TV.box h fun b w1 s => ?_
  refine s.box fun bp w2 s _ => ?_
  have s : Sep [] w w2 (rB bp [.int .i64 p] 3 :: rB b [iv k, iv n, sv nm, lv, av] 27 :: []) (rT (TV.mk k n nm ls lv av args) :: []) := s
  have hk := tok_iff.1 h
  have hl1 : ∀ (w : World) (K : VPost), lenW Tryd.prog (some true) #[24] 3 #[lv] w K = K (.int .i64 ls.length) w := fun w K => RdSl.lenw hk.lr
  have s := s.drew
  generalize w2.drew = w2 at *
  repeat (first | with_reducible refine gs_tf ?_ | with_reducible refine gs_ft ?_ | with_reducible refine gs_u ?_ | with_reducible refine pick_ti ?_ | with_reducible refine pick_fi ?_ | with_reducible refine ⟨gs_tf ⟨rfl, rfl⟩, ?_⟩ | with_reducible refine ⟨gs_ft ⟨rfl, rfl⟩, ?_⟩ | with_reducible refine ⟨gs_u ⟨rfl, rfl⟩, ?_⟩ | with_reducible refine gs_t ?_ | with_reducible refine gs_f ?_ | with_reducible refine off_i ?_ | with_reducible refine cndT ?_ | with_reducible refine cndF ?_ | (with_reducible show loadW _ _ _ _; first | refine s.load1 0 rfl rfl ?_ | refine s.load1 1 rfl rfl ?_))
  refine bindV_i fun J8 h8 => ?_
  have hR : ∀ r : Bool, lvsR (TV.mk k n nm ls lv av args).e p = r → ∀ w', Ext [] w w' → K (.bool r) w' := fun r h w' e => by
    have := hK w' e
    rwa [h] at this
  rw [TV.e_eq] at hR
  have hde := lvsR_eq (n := n) (s := nm) (ls := ls) (args := args.map TV.e) p h1 h9
  have tail : ∀ (x : Value) (b5 : Nat) (w3 : World), Sep [] w w3 (rB b5 (formC 0 0 0) 77 :: rB bp [.int .i64 p] 3 :: rB b [iv k, iv n, sv nm, lv, av] 27 :: []) (rT (TV.mk k n nm ls lv av args) :: []) →
      J8 x (.agg (formC (argsN k) (levN k) (bndN k)).toArray) (.pointer (some ⟨b5, 0, none⟩)) w3 := by
    intro x b5 w3 s
    rw [h8]
    refine s.storeAll 0 rfl rfl rfl (form_one _ _ _) fun w4 s _ => ?_
    have s : Sep [] w w4 (rB b5 (formC (argsN k) (levN k) (bndN k)) 77 :: rB bp [.int .i64 p] 3 :: rB b [iv k, iv n, sv nm, lv, av] 27 :: []) (rT (TV.mk k n nm ls lv av args) :: []) := s
    repeat (first | with_reducible refine gs_tf ?_ | with_reducible refine gs_ft ?_ | with_reducible refine gs_u ?_ | with_reducible refine pick_ti ?_ | with_reducible refine pick_fi ?_ | with_reducible refine ⟨gs_tf ⟨rfl, rfl⟩, ?_⟩ | with_reducible refine ⟨gs_ft ⟨rfl, rfl⟩, ?_⟩ | with_reducible refine ⟨gs_u ⟨rfl, rfl⟩, ?_⟩ | with_reducible refine gs_t ?_ | with_reducible refine gs_f ?_ | with_reducible refine off_i ?_ | with_reducible refine cndT ?_ | with_reducible refine cndF ?_ | (with_reducible show loadW _ _ _ _; first | refine s.load1 0 rfl rfl ?_ | refine s.load1 1 rfl rfl ?_ | refine s.load1 2 rfl rfl ?_))
    rw [hl1]
    repeat (first | with_reducible refine gs_tf ?_ | with_reducible refine gs_ft ?_ | with_reducible refine gs_u ?_ | with_reducible refine pick_ti ?_ | with_reducible refine pick_fi ?_ | with_reducible refine ⟨gs_tf ⟨rfl, rfl⟩, ?_⟩ | with_reducible refine ⟨gs_ft ⟨rfl, rfl⟩, ?_⟩ | with_reducible refine ⟨gs_u ⟨rfl, rfl⟩, ?_⟩ | with_reducible refine gs_t ?_ | with_reducible refine gs_f ?_ | with_reducible refine off_i ?_ | with_reducible refine cndT ?_ | with_reducible refine cndF ?_ | (with_reducible show loadW _ _ _ _; first | refine s.load1 0 rfl rfl ?_ | refine s.load1 1 rfl rfl ?_ | refine s.load1 2 rfl rfl ?_))
    rw [igtr]
    have rest : ¬ ((levN k : Int) < ls.length) → ¬ (k = 3 ∧ ls.length = 0) → insW Tryd.prog (Instr.makeFunc (.func 68) #[] #[.pointer (some ⟨bp, 0, none⟩)]) w4 fun t28_47 w48 => offW (some 3) (.pointer (some ⟨b, 0, none⟩)) w48 fun t29_49 w50 => loadW (some (false, 1)) t29_49 w50 fun t30_51 w52 => fnW Tryd.prog 71 #[t30_51, t28_47] w52 fun t32_53 w54 => unN Tryd.prog .not t32_53 w54 fun t33_55 w56 => K t33_55 w56 := by
      intro h2 h3
      refine mkfunc_i ?_
      repeat (first | with_reducible refine gs_tf ?_ | with_reducible refine gs_ft ?_ | with_reducible refine gs_u ?_ | with_reducible refine pick_ti ?_ | with_reducible refine pick_fi ?_ | with_reducible refine ⟨gs_tf ⟨rfl, rfl⟩, ?_⟩ | with_reducible refine ⟨gs_ft ⟨rfl, rfl⟩, ?_⟩ | with_reducible refine ⟨gs_u ⟨rfl, rfl⟩, ?_⟩ | with_reducible refine gs_t ?_ | with_reducible refine gs_f ?_ | with_reducible refine off_i ?_ | with_reducible refine cndT ?_ | with_reducible refine cndF ?_ | (with_reducible show loadW _ _ _ _; first | refine s.load1 0 rfl rfl ?_ | refine s.load1 1 rfl rfl ?_ | refine s.load1 2 rfl rfl ?_))
      have ko : TOk w4 (TV.mk k n nm ls lv av args) := tok_iff.1 (s.rat 0 rfl)
      refine fnW_of (by kernel_rfl) (lcontainsF_c (lvX p) ko.lr ko.ll (fun l hl w' K' e' hK' => ?_) fun w5 e5 => ?_)
      · show fnW Tryd.prog 68 #[.agg l.cells.toArray, .pointer (some ⟨bp, 0, none⟩)] w' K'
        exact fnW_of (by kernel_rfl) (leveled1_c (Blk.r ((s.ext0 e').at 1 rfl)) hK')
      · refine not_ti ?_
        refine hR _ ?_ w5 (s.ext.new e5)
        show lvsR (TM.mk k n nm ls (args.map TV.e)) p = _
        rw [hde, decide_eq_false (by omega), decide_eq_false h3]
        rfl
    have no : (levN k : Int) < ls.length ∨ (k = 3 ∧ ls.length = 0) → K (.bool false) w4 := fun hn => by
      refine hR _ ?_ w4 s.ext
      show lvsR (TM.mk k n nm ls (args.map TV.e)) p = _
      rw [hde]
      have e : (decide (levN k < ls.length) || decide (k = 3 ∧ ls.length = 0)) = true := by
        rw [Bool.or_eq_true, decide_eq_true_eq, decide_eq_true_eq]
        rcases hn with hn | hn
        · left; omega
        · exact .inr hn
      rw [e]; rfl
    by_cases h2 : (levN k : Int) < ls.length
    · rw [decide_eq_true h2]
      repeat (first | with_reducible refine gs_tf ?_ | with_reducible refine gs_ft ?_ | with_reducible refine gs_u ?_ | with_reducible refine pick_ti ?_ | with_reducible refine pick_fi ?_ | with_reducible refine ⟨gs_tf ⟨rfl, rfl⟩, ?_⟩ | with_reducible refine ⟨gs_ft ⟨rfl, rfl⟩, ?_⟩ | with_reducible refine ⟨gs_u ⟨rfl, rfl⟩, ?_⟩ | with_reducible refine gs_t ?_ | with_reducible refine gs_f ?_ | with_reducible refine off_i ?_ | with_reducible refine cndT ?_ | with_reducible refine cndF ?_)
      exact no (.inl h2)
    · rw [decide_eq_false h2]
      repeat (first | with_reducible refine gs_tf ?_ | with_reducible refine gs_ft ?_ | with_reducible refine gs_u ?_ | with_reducible refine pick_ti ?_ | with_reducible refine pick_fi ?_ | with_reducible refine ⟨gs_tf ⟨rfl, rfl⟩, ?_⟩ | with_reducible refine ⟨gs_ft ⟨rfl, rfl⟩, ?_⟩ | with_reducible refine ⟨gs_u ⟨rfl, rfl⟩, ?_⟩ | with_reducible refine gs_t ?_ | with_reducible refine gs_f ?_ | with_reducible refine off_i ?_ | with_reducible refine cndT ?_ | with_reducible refine cndF ?_ | (with_reducible show loadW _ _ _ _; first | refine s.load1 0 rfl rfl ?_ | refine s.load1 1 rfl rfl ?_ | refine s.load1 2 rfl rfl ?_))
      rw [ieql]
      by_cases h3 : k = 3
      · rw [decide_eq_true h3]
        repeat (first | with_reducible refine gs_tf ?_ | with_reducible refine gs_ft ?_ | with_reducible refine gs_u ?_ | with_reducible refine pick_ti ?_ | with_reducible refine pick_fi ?_ | with_reducible refine ⟨gs_tf ⟨rfl, rfl⟩, ?_⟩ | with_reducible refine ⟨gs_ft ⟨rfl, rfl⟩, ?_⟩ | with_reducible refine ⟨gs_u ⟨rfl, rfl⟩, ?_⟩ | with_reducible refine gs_t ?_ | with_reducible refine gs_f ?_ | with_reducible refine off_i ?_ | with_reducible refine cndT ?_ | with_reducible refine cndF ?_ | (with_reducible show loadW _ _ _ _; first | refine s.load1 0 rfl rfl ?_ | refine s.load1 1 rfl rfl ?_ | refine s.load1 2 rfl rfl ?_))
        rw [hl1]
        repeat (first | with_reducible refine gs_tf ?_ | with_reducible refine gs_ft ?_ | with_reducible refine gs_u ?_ | with_reducible refine pick_ti ?_ | with_reducible refine pick_fi ?_ | with_reducible refine ⟨gs_tf ⟨rfl, rfl⟩, ?_⟩ | with_reducible refine ⟨gs_ft ⟨rfl, rfl⟩, ?_⟩ | with_reducible refine ⟨gs_u ⟨rfl, rfl⟩, ?_⟩ | with_reducible refine gs_t ?_ | with_reducible refine gs_f ?_ | with_reducible refine off_i ?_ | with_reducible refine cndT ?_ | with_reducible refine cndF ?_ | (with_reducible show loadW _ _ _ _; first | refine s.load1 0 rfl rfl ?_ | refine s.load1 1 rfl rfl ?_ | refine s.load1 2 rfl rfl ?_))
        refine neql (y := 0) ?_
        repeat (first | with_reducible refine gs_tf ?_ | with_reducible refine gs_ft ?_ | with_reducible refine gs_u ?_ | with_reducible refine pick_ti ?_ | with_reducible refine pick_fi ?_ | with_reducible refine ⟨gs_tf ⟨rfl, rfl⟩, ?_⟩ | with_reducible refine ⟨gs_ft ⟨rfl, rfl⟩, ?_⟩ | with_reducible refine ⟨gs_u ⟨rfl, rfl⟩, ?_⟩ | with_reducible refine gs_t ?_ | with_reducible refine gs_f ?_ | with_reducible refine off_i ?_ | with_reducible refine cndT ?_ | with_reducible refine cndF ?_)
        refine cond_d (fun h4 => ?_) (fun h4 => ?_)
        · exact no (.inr ⟨h3, h4⟩)
        · exact rest h2 (fun hh => h4 hh.2)
      · rw [decide_eq_false h3]
        repeat (first | with_reducible refine gs_tf ?_ | with_reducible refine gs_ft ?_ | with_reducible refine gs_u ?_ | with_reducible refine pick_ti ?_ | with_reducible refine pick_fi ?_ | with_reducible refine ⟨gs_tf ⟨rfl, rfl⟩, ?_⟩ | with_reducible refine ⟨gs_ft ⟨rfl, rfl⟩, ?_⟩ | with_reducible refine ⟨gs_u ⟨rfl, rfl⟩, ?_⟩ | with_reducible refine gs_t ?_ | with_reducible refine gs_f ?_ | with_reducible refine off_i ?_ | with_reducible refine cndT ?_ | with_reducible refine cndF ?_)
        exact rest h2 (fun hh => h3 hh.1)
  refine ⟨?_, ?_⟩
  · refine fnW_of (by kernel_rfl) (forms_c fun w3 e3 => ?_)
    have s := s.ext0 e3
    refine ⟨s.load1 1 rfl rfl ⟨rfl, rfl⟩, ?_⟩
    refine form_ix h1 h9 ?_
    refine s.alloc zero_form rfl fun b5 w4 s _ => ?_
    refine ⟨s.load1 2 rfl rfl ⟨rfl, rfl⟩, ?_⟩
    exact tail _ b5 w4 s
  · refine s.alloc zero_form rfl fun b5 w4 s _ => ?_
    refine ⟨s.load1 2 rfl rfl ⟨rfl, rfl⟩, ?_⟩
    refine fnW_of (by kernel_rfl) (forms_c fun w5 e5 => ?_)
    have s := s.ext0 e5
    refine ⟨s.load1 2 rfl rfl ⟨rfl, rfl⟩, ?_⟩
    refine form_ix h1 h9 ?_
    exact tail _ b5 w5 s
end Go.Proofs.YtbaddpnlokmldaaDoor
