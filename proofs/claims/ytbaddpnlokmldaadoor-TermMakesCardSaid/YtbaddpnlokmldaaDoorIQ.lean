/- The law TermMakes: walk. Condition: the library's bound is a number. -/
import Derived.Test.YtbaddpnlokmldaaDoorIO
namespace Go.Proofs.YtbaddpnlokmldaaDoor
open Go
set_option maxRecDepth 100000

theorem tcs_cut {ts : List TV} {a k : Nat} (h : a + k ≤ ts.length) : ((tcs ts).drop (a * 5)).take (k * 5) = tcs ((ts.drop a).take k) := by
  have hl : ∀ l : List TV, (tcs l).length = l.length * 5 := by
    intro l
    induction l with
    | nil => rfl
    | cons t r ih =>
      have e : tcs (t :: r) = t.cells ++ tcs r := rfl
      rw [e, List.length_append, ih, t.cells_len, List.length_cons]; omega
  have h1 : tcs ts = tcs (ts.take a) ++ tcs (ts.drop a) := by unfold tcs; rw [← List.flatMap_append, List.take_append_drop]
  have h2 : tcs (ts.drop a) = tcs ((ts.drop a).take k) ++ tcs ((ts.drop a).drop k) := by unfold tcs; rw [← List.flatMap_append, List.take_append_drop]
  have h3 : (tcs (ts.take a)).length = a * 5 := by rw [hl, List.length_take, Nat.min_eq_left (by omega)]
  have h4 : (tcs ((ts.drop a).take k)).length = k * 5 := by rw [hl, List.length_take, List.length_drop, Nat.min_eq_left (by omega)]
  rw [h1, ← h3, List.drop_left, h2, ← h4, List.take_left]
theorem sum_le {us : List TM} {n : Nat} (h : ∀ q ∈ us, q.size ≤ n) : (us.map fun a => 1 + a.size).sum ≤ us.length * (1 + n) := by
  induction us with
  | nil => simp
  | cons a r ih =>
    have h1 := h a (by simp)
    have h2 := ih fun q hq => h q (by simp [hq])
    rw [List.map_cons, List.sum_cons, List.length_cons, Nat.add_mul, Nat.one_mul]
    omega
theorem spine_len : ∀ t : TM, (spineT t).2.length ≤ t.size :=
  TM.ind fun k n s ls args ih => by
    match args, ih with
    | [], _ => rw [spineT]; simp; intro f a h; cases h
    | [x], _ => rw [spineT]; simp; intro f a h; cases h
    | [x, y], ih =>
      rw [spineT]
      split
      · have h1 := ih x (by simp)
        rw [TM.size, TM.sizes, TM.sizes, TM.sizes]
        simp only [List.length_append, List.length_singleton]
        have h2 : 1 ≤ y.size := by cases y; rw [TM.size]; omega
        omega
      · simp
    | x :: y :: z :: r, _ => rw [spineT]; simp; intro f a h; cases h
set_option maxHeartbeats 1000000 in
theorem makesLaw_walk {w : World} {K : VPost} {f : TV} {x : Value} {ts : List TV} {kd : Int} (h : f.ok w) (hg : GS w) (hx : RdSl w x 5 (tcs ts) ts.length) (hts : ∀ t ∈ ts, t.ok w) (htn : ts.length < 2 ^ 50) (hkd : i64ok kd) (hK : ∀ w', Ext [] w w' → K (.bool true) w') : Calls Tryd.prog 4 #[f.v, x, .int .i64 kd] w (retK K) := by
  refine c4_calls _ _ _ w K ?_
  unfold c4
  refine TV.box h fun b w1 s => ?_
  have g : ∀ {W : World} {L R : List Res}, Sep [] w W L R → GS W := fun s => hg.keep s.ext (by simp)
  have s := s.addBase (T := rRT x ts) hx
  have s := s.addBase (T := rTs ts) hts
  have s : Sep [] w w1 (rB b f.cells 27 :: []) (rTs ts :: rRT x ts :: rT f :: []) := s
  have rx : ∀ {W : World} {L R : List Res}, Sep [] w W L R → RdSl W x 5 (tcs ts) ts.length := fun s => hx.keep s.ext (by simp)
  have tx : ∀ {W : World} {L R : List Res}, Sep [] w W L R → ∀ t ∈ ts, t.ok W := fun s t ht => TV.keep s.ext (hts t ht)
  have lx : ∀ (w : World) (K : VPost), lenW Tryd.prog (some true) #[25] 3 #[x] w K = K (.int .i64 ts.length) w := fun w K => RdSl.lenw hx
  refine fnW_of (by kernel_rfl) (alive8_c (g s) fun w2 e => ?_)
  have s := s.ext0 e
  refine not_ti ?_
  refine cndF ?_
  refine s.loadAll 0 rfl f.cells_len ?_
  refine fnW_of (by kernel_rfl) (great8_c (t := f) (s.rat 2 rfl) fun w3 e => ?_)
  have s := s.ext0 e
  by_cases h1 : 3600 < f.size
  · rw [decide_eq_true h1]
    repeat (first | with_reducible refine gs_tf ?_ | with_reducible refine gs_ft ?_ | with_reducible refine gs_u ?_ | with_reducible refine pick_ti ?_ | with_reducible refine pick_fi ?_ | with_reducible refine ⟨gs_tf ⟨rfl, rfl⟩, ?_⟩ | with_reducible refine ⟨gs_ft ⟨rfl, rfl⟩, ?_⟩ | with_reducible refine ⟨gs_u ⟨rfl, rfl⟩, ?_⟩ | with_reducible refine gs_t ?_ | with_reducible refine gs_f ?_ | with_reducible refine off_i ?_ | with_reducible refine cndT ?_ | with_reducible refine cndF ?_)
    exact hK _ s.ext
  rw [decide_eq_false h1]
  repeat (first | with_reducible refine gs_tf ?_ | with_reducible refine gs_ft ?_ | with_reducible refine gs_u ?_ | with_reducible refine pick_ti ?_ | with_reducible refine pick_fi ?_ | with_reducible refine ⟨gs_tf ⟨rfl, rfl⟩, ?_⟩ | with_reducible refine ⟨gs_ft ⟨rfl, rfl⟩, ?_⟩ | with_reducible refine ⟨gs_u ⟨rfl, rfl⟩, ?_⟩ | with_reducible refine gs_t ?_ | with_reducible refine gs_f ?_ | with_reducible refine off_i ?_ | with_reducible refine cndT ?_ | with_reducible refine cndF ?_)
  rw [lx]
  repeat (first | with_reducible refine gs_tf ?_ | with_reducible refine gs_ft ?_ | with_reducible refine gs_u ?_ | with_reducible refine pick_ti ?_ | with_reducible refine pick_fi ?_ | with_reducible refine ⟨gs_tf ⟨rfl, rfl⟩, ?_⟩ | with_reducible refine ⟨gs_ft ⟨rfl, rfl⟩, ?_⟩ | with_reducible refine ⟨gs_u ⟨rfl, rfl⟩, ?_⟩ | with_reducible refine gs_t ?_ | with_reducible refine gs_f ?_ | with_reducible refine off_i ?_ | with_reducible refine cndT ?_ | with_reducible refine cndF ?_)
  refine ngtr (y := 8) ?_
  repeat (first | with_reducible refine gs_tf ?_ | with_reducible refine gs_ft ?_ | with_reducible refine gs_u ?_ | with_reducible refine pick_ti ?_ | with_reducible refine pick_fi ?_ | with_reducible refine ⟨gs_tf ⟨rfl, rfl⟩, ?_⟩ | with_reducible refine ⟨gs_ft ⟨rfl, rfl⟩, ?_⟩ | with_reducible refine ⟨gs_u ⟨rfl, rfl⟩, ?_⟩ | with_reducible refine gs_t ?_ | with_reducible refine gs_f ?_ | with_reducible refine off_i ?_ | with_reducible refine cndT ?_ | with_reducible refine cndF ?_)
  refine cond_d (fun h8 => ?_) (fun h8 => ?_)
  · exact hK _ s.ext
  refine bindX_i fun J0 g0 => bindX_i fun J1 g1 => bindX_i fun J2 g2 => ?_
  refine loop_i (fun m fr wr => ∃ i : Nat, m = ts.length - i ∧ i ≤ ts.length ∧ (∀ t ∈ ts.take i, t.size ≤ 400) ∧ fr 1 = x ∧ fr 2 = .int .i64 kd ∧ fr 3 = .pointer (some ⟨b, 0, none⟩) ∧ fr 7 = .int .i64 i ∧ Sep [] w wr (rB b f.cells 27 :: []) (rTs ts :: rRT x ts :: rT f :: [])) ts.length ?_ ?_
  · exact ⟨0, rfl, by omega, by simp, rfl, rfl, rfl, rfl, s⟩
  · rintro m fr wr J ⟨i, rfl, hi, hsm, f1, f2, f3, f7, s⟩ hJ hX
    rw [f1, f7, lx]
    refine nlss (cond_d (fun hlt => ?_) (fun hlt => ?_))
    · obtain ⟨b1, o1, hix, hld⟩ := (rx s).term hlt .i64
      refine hix _ ?_
      refine hld _ ?_
      refine fnW_of (by kernel_rfl) (nodes_c ts[i] (most := 400) (tx s _ (List.getElem_mem hlt)) (by omega) fun w4 e => ?_)
      have s := s.ext0 e
      refine ngtr (y := 400) (cond_d (fun hb => ?_) (fun hb => ?_))
      · exact hX _ _ _ (by simp) (g2 _ _ _ (g1 _ _ _ (g0 _ _ _ (hK _ s.ext))))
      · refine nadd (y := 1) (by omega) ?_
        refine hJ (ts.length - (i + 1)) _ _ (by omega) ⟨i + 1, rfl, by omega, ?_, f1, f2, f3, rfl, s⟩
        rw [List.take_succ_eq_append_getElem hlt]
        intro t ht
        rcases List.mem_append.1 ht with ht | ht
        · exact hsm t ht
        · rw [List.mem_singleton] at ht
          subst ht
          omega
    · obtain rfl : i = ts.length := by omega
      rw [List.take_length] at hsm
      refine hX _ _ _ (by simp) (g2 _ _ _ (blk_x (seq_n g1 ?_)))
      clear J hJ hX
      have k1 : ∀ (fr : Fr), fr 1 = x → fr 2 = .int .i64 kd → fr 3 = .pointer (some ⟨b, 0, none⟩) → True := fun _ _ _ _ => trivial
      clear k1
      show loadW _ (fr 3) _ fun t37 w23 => fnW _ _ #[t37, fr 1] w23 _
      rw [f3, f1]
      have hss : ∀ t ∈ ts, t.size ≤ 1000000 := fun t ht => by have := hsm t ht; omega
      have hus : ∀ q ∈ ts.map TV.e, q.size ≤ 400 := by
        intro q hq
        obtain ⟨t, ht, rfl⟩ := List.mem_map.1 hq
        rw [size_e]
        exact hsm t ht
      have hsum := sum_le hus
      rw [List.length_map] at hsum
      have hsum2 : ((ts.map TV.e).map fun a => 1 + a.size).sum ≤ 4000 := by
        have : ts.length * (1 + 400) ≤ 8 * 401 := Nat.mul_le_mul_right 401 (by omega)
        omega
      refine s.loadAll 0 rfl f.cells_len ?_
      refine s.apped (f := f) (ts := ts) (by simp) (by omega) (rx s) (tx s) hss htn fun a w5 hae s => ?_
      have has : a.size ≤ 8000 := by rw [← size_e, hae, appT_size, size_e]; omega
      refine s.alloc zero_term rfl fun b8 w6 s _ => ?_
      refine s.storeAll (vs := a.cells) 0 rfl a.cells_len rfl (TV.one (s.rat 0 rfl)) fun w7 s _ => ?_
      show loadW _ (fr 3) _ fun t41 w30 => fnW _ _ #[fr 2, t41, fr 1] w30 _
      rw [f3, f1, f2]
      have s : Sep [] w w7 (rB b8 a.cells 27 :: rB b f.cells 27 :: []) (rT a :: rTs ts :: rRT x ts :: rT f :: []) := s
      refine s.loadAll 1 rfl f.cells_len ?_
      refine s.bound (f := f) (ts := ts) hkd (by simp) (by omega) (rx s) (tx s) hss htn fun bo w8 hbe s => ?_
      have hbs : bo.size ≤ 8000 := by rw [← size_e, hbe, bindT_size, size_e]; omega
      refine s.alloc zero_term rfl fun b9 w9 s _ => ?_
      refine s.storeAll (vs := bo.cells) 0 rfl bo.cells_len rfl (TV.one (s.rat 0 rfl)) fun w10 s _ => ?_
      have s : Sep [] w w10 (rB b9 bo.cells 27 :: rB b8 a.cells 27 :: rB b f.cells 27 :: []) (rT bo :: rT a :: rTs ts :: rRT x ts :: rT f :: []) := s
      have s := s.drew
      generalize w10.drew = w10 at *
      refine s.loadAll 1 rfl a.cells_len ?_
      show loadW _ (fr 3) _ fun t45 w39 => fnW _ _ #[t45, fr 1] w39 _
      rw [f3, f1]
      refine s.loadAll 2 rfl f.cells_len ?_
      refine s.rapped (f := f) (ts := ts) (by simp) (by omega) (rx s) (tx s) hss htn fun a2 w11 hae2 s => ?_
      refine ⟨s.loadAll 1 rfl a.cells_len ⟨rfl, rfl⟩, ?_⟩
      refine fnW_of (by kernel_rfl) (same_c a a2 (s.rd (rT a) (by simp)) (s.rat 0 rfl) fun w12 e => ?_)
      have s := s.ext0 e
      rw [sameB_t (by rw [hae, hae2])]
      refine not_ti ?_
      rw [Bool.not_true]
      repeat (first | with_reducible refine gs_tf ?_ | with_reducible refine gs_ft ?_ | with_reducible refine gs_u ?_ | with_reducible refine pick_ti ?_ | with_reducible refine pick_fi ?_ | with_reducible refine ⟨gs_tf ⟨rfl, rfl⟩, ?_⟩ | with_reducible refine ⟨gs_ft ⟨rfl, rfl⟩, ?_⟩ | with_reducible refine ⟨gs_u ⟨rfl, rfl⟩, ?_⟩ | with_reducible refine gs_t ?_ | with_reducible refine gs_f ?_ | with_reducible refine off_i ?_ | with_reducible refine cndT ?_ | with_reducible refine cndF ?_)
      refine s.loadAll 0 rfl bo.cells_len ?_
      repeat (first | with_reducible refine gs_tf ?_ | with_reducible refine gs_ft ?_ | with_reducible refine gs_u ?_ | with_reducible refine pick_ti ?_ | with_reducible refine pick_fi ?_ | with_reducible refine ⟨gs_tf ⟨rfl, rfl⟩, ?_⟩ | with_reducible refine ⟨gs_ft ⟨rfl, rfl⟩, ?_⟩ | with_reducible refine ⟨gs_u ⟨rfl, rfl⟩, ?_⟩ | with_reducible refine gs_t ?_ | with_reducible refine gs_f ?_ | with_reducible refine off_i ?_ | with_reducible refine cndT ?_ | with_reducible refine cndF ?_)
      show loadW _ (fr 3) _ _
      rw [f3]
      refine s.loadAll 2 rfl f.cells_len ?_
      repeat (first | with_reducible refine gs_tf ?_ | with_reducible refine gs_ft ?_ | with_reducible refine gs_u ?_ | with_reducible refine pick_ti ?_ | with_reducible refine pick_fi ?_ | with_reducible refine ⟨gs_tf ⟨rfl, rfl⟩, ?_⟩ | with_reducible refine ⟨gs_ft ⟨rfl, rfl⟩, ?_⟩ | with_reducible refine ⟨gs_u ⟨rfl, rfl⟩, ?_⟩ | with_reducible refine gs_t ?_ | with_reducible refine gs_f ?_ | with_reducible refine off_i ?_ | with_reducible refine cndT ?_ | with_reducible refine cndF ?_)
      show fnW _ _ #[fr 2, f.v, fr 1] _ _
      rw [f2, f1]
      refine s.rbound (f := f) (ts := ts) hkd (by simp) (by omega) (rx s) (tx s) hss htn fun bo2 w13 hbe2 s => ?_
      refine ⟨gs_f (s.loadAll 0 rfl bo.cells_len ⟨rfl, rfl⟩), ?_⟩
      repeat (first | with_reducible refine gs_tf ?_ | with_reducible refine gs_ft ?_ | with_reducible refine gs_u ?_ | with_reducible refine pick_ti ?_ | with_reducible refine pick_fi ?_ | with_reducible refine ⟨gs_tf ⟨rfl, rfl⟩, ?_⟩ | with_reducible refine ⟨gs_ft ⟨rfl, rfl⟩, ?_⟩ | with_reducible refine ⟨gs_u ⟨rfl, rfl⟩, ?_⟩ | with_reducible refine gs_t ?_ | with_reducible refine gs_f ?_ | with_reducible refine off_i ?_ | with_reducible refine cndT ?_ | with_reducible refine cndF ?_)
      refine fnW_of (by kernel_rfl) (same_c bo bo2 (s.rd (rT bo) (by simp)) (s.rat 0 rfl) fun w14 e => ?_)
      have s := s.ext0 e
      rw [sameB_t (by rw [hbe, hbe2])]
      repeat (first | with_reducible refine gs_tf ?_ | with_reducible refine gs_ft ?_ | with_reducible refine gs_u ?_ | with_reducible refine pick_ti ?_ | with_reducible refine pick_fi ?_ | with_reducible refine ⟨gs_tf ⟨rfl, rfl⟩, ?_⟩ | with_reducible refine ⟨gs_ft ⟨rfl, rfl⟩, ?_⟩ | with_reducible refine ⟨gs_u ⟨rfl, rfl⟩, ?_⟩ | with_reducible refine gs_t ?_ | with_reducible refine gs_f ?_ | with_reducible refine off_i ?_ | with_reducible refine cndT ?_ | with_reducible refine cndF ?_)
      refine not_ti ?_
      rw [Bool.not_true]
      repeat (first | with_reducible refine gs_tf ?_ | with_reducible refine gs_ft ?_ | with_reducible refine gs_u ?_ | with_reducible refine pick_ti ?_ | with_reducible refine pick_fi ?_ | with_reducible refine ⟨gs_tf ⟨rfl, rfl⟩, ?_⟩ | with_reducible refine ⟨gs_ft ⟨rfl, rfl⟩, ?_⟩ | with_reducible refine ⟨gs_u ⟨rfl, rfl⟩, ?_⟩ | with_reducible refine gs_t ?_ | with_reducible refine gs_f ?_ | with_reducible refine off_i ?_ | with_reducible refine cndT ?_ | with_reducible refine cndF ?_)
      refine s.loadAll 1 rfl a.cells_len ?_
      refine s.spined (t := a) (by simp) (by omega) fun hd l y w15 hhe hle hyc s => ?_
      rw [hae, spine_of_app] at hhe hle
      rw [extr0, extr1]
      refine s.alloc zero_term rfl fun b10 w16 s _ => ?_
      refine s.storeAll (vs := hd.cells) 0 rfl hd.cells_len rfl (TV.one (s.rat 0 rfl)) fun w17 s _ => ?_
      have s : Sep [] w w17 (rB b10 hd.cells 27 :: rB b9 bo.cells 27 :: rB b8 a.cells 27 :: rB b f.cells 27 :: []) (rT hd :: rTs l :: rRT y l :: rT bo2 :: rT a2 :: rT bo :: rT a :: rTs ts :: rRT x ts :: rT f :: []) := s
      show loadW _ (fr 3) _ _
      rw [f3]
      refine s.loadAll 3 rfl f.cells_len ?_
      refine s.spined (t := f) (by simp) (by omega) fun gd l0 z w18 hge h0e hzc s => ?_
      rw [extr0, extr1]
      refine s.alloc zero_term rfl fun b12 w19 s _ => ?_
      refine s.storeAll (vs := gd.cells) 0 rfl gd.cells_len rfl (TV.one (s.rat 0 rfl)) fun w20 s _ => ?_
      have s : Sep [] w w20 (rB b12 gd.cells 27 :: rB b10 hd.cells 27 :: rB b9 bo.cells 27 :: rB b8 a.cells 27 :: rB b f.cells 27 :: []) (rT gd :: rTs l0 :: rRT z l0 :: rT hd :: rTs l :: rRT y l :: rT bo2 :: rT a2 :: rT bo :: rT a :: rTs ts :: rRT x ts :: rT f :: []) := s
      refine s.loadAll 2 rfl bo.cells_len ?_
      show fnW _ _ #[bo.v, fr 2] _ _
      rw [f2]
      refine s.stripped (t := bo) (by simp) (by omega) fun bd tys q w21 hde hte hqc s => ?_
      rw [hbe, strip_of_bind] at hde hte
      rw [extr0, extr1]
      refine s.alloc zero_term rfl fun b15 w22 s _ => ?_
      refine s.storeAll (vs := bd.cells) 0 rfl bd.cells_len rfl (TV.one (s.rat 0 rfl)) fun w23 s _ => ?_
      have s : Sep [] w w23 (rB b15 bd.cells 27 :: rB b12 gd.cells 27 :: rB b10 hd.cells 27 :: rB b9 bo.cells 27 :: rB b8 a.cells 27 :: rB b f.cells 27 :: []) (rT bd :: rTs tys :: rRT q tys :: rT gd :: rTs l0 :: rRT z l0 :: rT hd :: rTs l :: rRT y l :: rT bo2 :: rT a2 :: rT bo :: rT a :: rTs ts :: rRT x ts :: rT f :: []) := s
      have ll : l.length = l0.length + ts.length := by
        have h1 := congrArg List.length hle
        have h2 := congrArg List.length h0e
        rw [List.length_map] at h1 h2
        rw [h1, List.length_append, List.length_map, h2]
      have lt : ts.length ≤ tys.length := by
        have h1 := congrArg List.length hte
        rw [List.length_map, List.length_append, List.length_map] at h1
        omega
      have ry : ∀ {W : World} {L R : List Res}, Sep [] w W L R → rRT y l ∈ R → RdSl W y 5 (tcs l) l.length := fun s h => s.rd (rRT y l) h
      have rz : ∀ {W : World} {L R : List Res}, Sep [] w W L R → rRT z l0 ∈ R → RdSl W z 5 (tcs l0) l0.length := fun s h => s.rd (rRT z l0) h
      have rq : ∀ {W : World} {L R : List Res}, Sep [] w W L R → rRT q tys ∈ R → RdSl W q 5 (tcs tys) tys.length := fun s h => s.rd (rRT q tys) h
      refine s.loadAll 2 rfl hd.cells_len ?_
      refine s.loadAll 1 rfl gd.cells_len ?_
      refine fnW_of (by kernel_rfl) (same_c hd gd (s.rd (rT hd) (by simp)) (s.rd (rT gd) (by simp)) fun w24 e => ?_)
      have s := s.ext0 e
      rw [sameB_t (by rw [hhe, hge])]
      refine not_ti ?_
      rw [Bool.not_true]
      repeat (first | with_reducible refine gs_tf ?_ | with_reducible refine gs_ft ?_ | with_reducible refine gs_u ?_ | with_reducible refine pick_ti ?_ | with_reducible refine pick_fi ?_ | with_reducible refine ⟨gs_tf ⟨rfl, rfl⟩, ?_⟩ | with_reducible refine ⟨gs_ft ⟨rfl, rfl⟩, ?_⟩ | with_reducible refine ⟨gs_u ⟨rfl, rfl⟩, ?_⟩ | with_reducible refine gs_t ?_ | with_reducible refine gs_f ?_ | with_reducible refine off_i ?_ | with_reducible refine cndT ?_ | with_reducible refine cndF ?_)
      rw [(ry s (by simp)).lenw]
      repeat (first | with_reducible refine gs_tf ?_ | with_reducible refine gs_ft ?_ | with_reducible refine gs_u ?_ | with_reducible refine pick_ti ?_ | with_reducible refine pick_fi ?_ | with_reducible refine ⟨gs_tf ⟨rfl, rfl⟩, ?_⟩ | with_reducible refine ⟨gs_ft ⟨rfl, rfl⟩, ?_⟩ | with_reducible refine ⟨gs_u ⟨rfl, rfl⟩, ?_⟩ | with_reducible refine gs_t ?_ | with_reducible refine gs_f ?_ | with_reducible refine off_i ?_ | with_reducible refine cndT ?_ | with_reducible refine cndF ?_)
      rw [(rz s (by simp)).lenw]
      repeat (first | with_reducible refine gs_tf ?_ | with_reducible refine gs_ft ?_ | with_reducible refine gs_u ?_ | with_reducible refine pick_ti ?_ | with_reducible refine pick_fi ?_ | with_reducible refine ⟨gs_tf ⟨rfl, rfl⟩, ?_⟩ | with_reducible refine ⟨gs_ft ⟨rfl, rfl⟩, ?_⟩ | with_reducible refine ⟨gs_u ⟨rfl, rfl⟩, ?_⟩ | with_reducible refine gs_t ?_ | with_reducible refine gs_f ?_ | with_reducible refine off_i ?_ | with_reducible refine cndT ?_ | with_reducible refine cndF ?_)
      show lenW _ _ _ _ #[fr 1] _ _
      rw [f1, lx]
      repeat (first | with_reducible refine gs_tf ?_ | with_reducible refine gs_ft ?_ | with_reducible refine gs_u ?_ | with_reducible refine pick_ti ?_ | with_reducible refine pick_fi ?_ | with_reducible refine ⟨gs_tf ⟨rfl, rfl⟩, ?_⟩ | with_reducible refine ⟨gs_ft ⟨rfl, rfl⟩, ?_⟩ | with_reducible refine ⟨gs_u ⟨rfl, rfl⟩, ?_⟩ | with_reducible refine gs_t ?_ | with_reducible refine gs_f ?_ | with_reducible refine off_i ?_ | with_reducible refine cndT ?_ | with_reducible refine cndF ?_)
      have hl60 : l0.length ≤ 8000 := by
        have h2 := congrArg List.length h0e
        rw [List.length_map] at h2
        have h3 := spine_len f.e
        rw [size_e] at h3
        omega
      refine nadd (by omega) ?_
      repeat (first | with_reducible refine gs_tf ?_ | with_reducible refine gs_ft ?_ | with_reducible refine gs_u ?_ | with_reducible refine pick_ti ?_ | with_reducible refine pick_fi ?_ | with_reducible refine ⟨gs_tf ⟨rfl, rfl⟩, ?_⟩ | with_reducible refine ⟨gs_ft ⟨rfl, rfl⟩, ?_⟩ | with_reducible refine ⟨gs_u ⟨rfl, rfl⟩, ?_⟩ | with_reducible refine gs_t ?_ | with_reducible refine gs_f ?_ | with_reducible refine off_i ?_ | with_reducible refine cndT ?_ | with_reducible refine cndF ?_)
      refine nneq ?_
      rw [decide_eq_false (by omega)]
      repeat (first | with_reducible refine gs_tf ?_ | with_reducible refine gs_ft ?_ | with_reducible refine gs_u ?_ | with_reducible refine pick_ti ?_ | with_reducible refine pick_fi ?_ | with_reducible refine ⟨gs_tf ⟨rfl, rfl⟩, ?_⟩ | with_reducible refine ⟨gs_ft ⟨rfl, rfl⟩, ?_⟩ | with_reducible refine ⟨gs_u ⟨rfl, rfl⟩, ?_⟩ | with_reducible refine gs_t ?_ | with_reducible refine gs_f ?_ | with_reducible refine off_i ?_ | with_reducible refine cndT ?_ | with_reducible refine cndF ?_)
      rw [(rq s (by simp)).lenw]
      repeat (first | with_reducible refine gs_tf ?_ | with_reducible refine gs_ft ?_ | with_reducible refine gs_u ?_ | with_reducible refine pick_ti ?_ | with_reducible refine pick_fi ?_ | with_reducible refine ⟨gs_tf ⟨rfl, rfl⟩, ?_⟩ | with_reducible refine ⟨gs_ft ⟨rfl, rfl⟩, ?_⟩ | with_reducible refine ⟨gs_u ⟨rfl, rfl⟩, ?_⟩ | with_reducible refine gs_t ?_ | with_reducible refine gs_f ?_ | with_reducible refine off_i ?_ | with_reducible refine cndT ?_ | with_reducible refine cndF ?_)
      show lenW _ _ _ _ #[fr 1] _ _
      rw [f1, lx]
      repeat (first | with_reducible refine gs_tf ?_ | with_reducible refine gs_ft ?_ | with_reducible refine gs_u ?_ | with_reducible refine pick_ti ?_ | with_reducible refine pick_fi ?_ | with_reducible refine ⟨gs_tf ⟨rfl, rfl⟩, ?_⟩ | with_reducible refine ⟨gs_ft ⟨rfl, rfl⟩, ?_⟩ | with_reducible refine ⟨gs_u ⟨rfl, rfl⟩, ?_⟩ | with_reducible refine gs_t ?_ | with_reducible refine gs_f ?_ | with_reducible refine off_i ?_ | with_reducible refine cndT ?_ | with_reducible refine cndF ?_)
      refine nlss ?_
      rw [decide_eq_false (by omega)]
      repeat (first | with_reducible refine gs_tf ?_ | with_reducible refine gs_ft ?_ | with_reducible refine gs_u ?_ | with_reducible refine pick_ti ?_ | with_reducible refine pick_fi ?_ | with_reducible refine ⟨gs_tf ⟨rfl, rfl⟩, ?_⟩ | with_reducible refine ⟨gs_ft ⟨rfl, rfl⟩, ?_⟩ | with_reducible refine ⟨gs_u ⟨rfl, rfl⟩, ?_⟩ | with_reducible refine gs_t ?_ | with_reducible refine gs_f ?_ | with_reducible refine off_i ?_ | with_reducible refine cndT ?_ | with_reducible refine cndF ?_)
      rw [(rz s (by simp)).lenw]
      refine (ry s (by simp)).cut hyc (l := l0.length) (h := l.length) rfl rfl (by omega) (by omega) fun y2 hy2 _ _ _ => ?_
      rw [tcs_cut (by omega)] at hy2
      have hy3 : (l.drop l0.length).take (l.length - l0.length) = l.drop l0.length := List.take_of_length_le (by rw [List.length_drop]; exact Nat.le_refl _)
      rw [hy3, show l.length - l0.length = (l.drop l0.length).length by rw [List.length_drop]] at hy2
      show fnW _ _ #[y2, fr 1] _ _
      rw [f1]
      have okl : ∀ t ∈ l.drop l0.length, t.ok w24 := fun t ht => s.rd (rTs l) (by simp) t (List.mem_of_mem_drop ht)
      have heq1 : (l.drop l0.length).map TV.e = ts.map TV.e := by
        rw [List.map_drop, hle]
        have h2 := congrArg List.length h0e
        rw [List.length_map] at h2
        rw [h2, List.drop_left]
      refine fnW_of (by kernel_rfl) (same8_c hy2 (rx s) okl (tx s) (by rw [List.length_drop]; omega) (fun _ w25 e => ?_) (fun hn => absurd heq1 hn))
      have s := s.ext0 e
      repeat (first | with_reducible refine gs_tf ?_ | with_reducible refine gs_ft ?_ | with_reducible refine gs_u ?_ | with_reducible refine pick_ti ?_ | with_reducible refine pick_fi ?_ | with_reducible refine ⟨gs_tf ⟨rfl, rfl⟩, ?_⟩ | with_reducible refine ⟨gs_ft ⟨rfl, rfl⟩, ?_⟩ | with_reducible refine ⟨gs_u ⟨rfl, rfl⟩, ?_⟩ | with_reducible refine gs_t ?_ | with_reducible refine gs_f ?_ | with_reducible refine off_i ?_ | with_reducible refine cndT ?_ | with_reducible refine cndF ?_)
      show lenW _ _ _ _ #[fr 1] _ _
      rw [f1, lx]
      repeat (first | with_reducible refine gs_tf ?_ | with_reducible refine gs_ft ?_ | with_reducible refine gs_u ?_ | with_reducible refine pick_ti ?_ | with_reducible refine pick_fi ?_ | with_reducible refine ⟨gs_tf ⟨rfl, rfl⟩, ?_⟩ | with_reducible refine ⟨gs_ft ⟨rfl, rfl⟩, ?_⟩ | with_reducible refine ⟨gs_u ⟨rfl, rfl⟩, ?_⟩ | with_reducible refine gs_t ?_ | with_reducible refine gs_f ?_ | with_reducible refine off_i ?_ | with_reducible refine cndT ?_ | with_reducible refine cndF ?_)
      refine (rq s (by simp)).cut hqc (l := 0) (h := ts.length) rfl rfl (by omega) lt fun q2 hq2 _ _ _ => ?_
      rw [tcs_cut (by omega), List.drop_zero, Nat.sub_zero] at hq2
      have lq : (tys.take ts.length).length = ts.length := by rw [List.length_take]; omega
      rw [show RdSl w25 q2 5 (tcs (tys.take ts.length)) ts.length = RdSl w25 q2 5 (tcs (tys.take ts.length)) (tys.take ts.length).length by rw [lq]] at hq2
      repeat (first | with_reducible refine gs_tf ?_ | with_reducible refine gs_ft ?_ | with_reducible refine gs_u ?_ | with_reducible refine pick_ti ?_ | with_reducible refine pick_fi ?_ | with_reducible refine ⟨gs_tf ⟨rfl, rfl⟩, ?_⟩ | with_reducible refine ⟨gs_ft ⟨rfl, rfl⟩, ?_⟩ | with_reducible refine ⟨gs_u ⟨rfl, rfl⟩, ?_⟩ | with_reducible refine gs_t ?_ | with_reducible refine gs_f ?_ | with_reducible refine off_i ?_ | with_reducible refine cndT ?_ | with_reducible refine cndF ?_)
      show fnW _ _ #[q2, fr 1] _ _
      rw [f1]
      have okq : ∀ t ∈ tys.take ts.length, t.ok w25 := fun t ht => s.rd (rTs tys) (by simp) t (List.mem_of_mem_take ht)
      have heq2 : (tys.take ts.length).map TV.e = ts.map TV.e := by
        rw [List.map_take, hte]
        have h2 : (ts.map TV.e).length = ts.length := List.length_map ..
        rw [← h2, List.take_left]
      refine fnW_of (by kernel_rfl) (same8_c hq2 (rx s) okq (tx s) (by rw [lq]; omega) (fun _ w26 e => ?_) (fun hn => absurd heq2 hn))
      have s := s.ext0 e
      repeat (first | with_reducible refine gs_tf ?_ | with_reducible refine gs_ft ?_ | with_reducible refine gs_u ?_ | with_reducible refine pick_ti ?_ | with_reducible refine pick_fi ?_ | with_reducible refine ⟨gs_tf ⟨rfl, rfl⟩, ?_⟩ | with_reducible refine ⟨gs_ft ⟨rfl, rfl⟩, ?_⟩ | with_reducible refine ⟨gs_u ⟨rfl, rfl⟩, ?_⟩ | with_reducible refine gs_t ?_ | with_reducible refine gs_f ?_ | with_reducible refine off_i ?_ | with_reducible refine cndT ?_ | with_reducible refine cndF ?_)
      show offW _ (fr 3) _ _
      rw [f3]
      repeat (first | with_reducible refine gs_tf ?_ | with_reducible refine gs_ft ?_ | with_reducible refine gs_u ?_ | with_reducible refine pick_ti ?_ | with_reducible refine pick_fi ?_ | with_reducible refine ⟨gs_tf ⟨rfl, rfl⟩, ?_⟩ | with_reducible refine ⟨gs_ft ⟨rfl, rfl⟩, ?_⟩ | with_reducible refine ⟨gs_u ⟨rfl, rfl⟩, ?_⟩ | with_reducible refine gs_t ?_ | with_reducible refine gs_f ?_ | with_reducible refine off_i ?_ | with_reducible refine cndT ?_ | with_reducible refine cndF ?_)
      refine s.load1 (v := iv f.k) 5 rfl (by rw [TV.cells_eq]; rfl) ?_
      repeat (first | with_reducible refine gs_tf ?_ | with_reducible refine gs_ft ?_ | with_reducible refine gs_u ?_ | with_reducible refine pick_ti ?_ | with_reducible refine pick_fi ?_ | with_reducible refine ⟨gs_tf ⟨rfl, rfl⟩, ?_⟩ | with_reducible refine ⟨gs_ft ⟨rfl, rfl⟩, ?_⟩ | with_reducible refine ⟨gs_u ⟨rfl, rfl⟩, ?_⟩ | with_reducible refine gs_t ?_ | with_reducible refine gs_f ?_ | with_reducible refine off_i ?_ | with_reducible refine cndT ?_ | with_reducible refine cndF ?_)
      show binN _ _ _ _ _ (fr 2) _ _
      rw [f2, ieql]
      by_cases hfk : f.k = kd
      · rw [decide_eq_true hfk]
        repeat (first | with_reducible refine gs_tf ?_ | with_reducible refine gs_ft ?_ | with_reducible refine gs_u ?_ | with_reducible refine pick_ti ?_ | with_reducible refine pick_fi ?_ | with_reducible refine ⟨gs_tf ⟨rfl, rfl⟩, ?_⟩ | with_reducible refine ⟨gs_ft ⟨rfl, rfl⟩, ?_⟩ | with_reducible refine ⟨gs_u ⟨rfl, rfl⟩, ?_⟩ | with_reducible refine gs_t ?_ | with_reducible refine gs_f ?_ | with_reducible refine off_i ?_ | with_reducible refine cndT ?_ | with_reducible refine cndF ?_)
        exact hK _ s.ext
      · rw [decide_eq_false hfk]
        repeat (first | with_reducible refine gs_tf ?_ | with_reducible refine gs_ft ?_ | with_reducible refine gs_u ?_ | with_reducible refine pick_ti ?_ | with_reducible refine pick_fi ?_ | with_reducible refine ⟨gs_tf ⟨rfl, rfl⟩, ?_⟩ | with_reducible refine ⟨gs_ft ⟨rfl, rfl⟩, ?_⟩ | with_reducible refine ⟨gs_u ⟨rfl, rfl⟩, ?_⟩ | with_reducible refine gs_t ?_ | with_reducible refine gs_f ?_ | with_reducible refine off_i ?_ | with_reducible refine cndT ?_ | with_reducible refine cndF ?_)
        refine s.loadAll 0 rfl bd.cells_len ?_
        repeat (first | with_reducible refine gs_tf ?_ | with_reducible refine gs_ft ?_ | with_reducible refine gs_u ?_ | with_reducible refine pick_ti ?_ | with_reducible refine pick_fi ?_ | with_reducible refine ⟨gs_tf ⟨rfl, rfl⟩, ?_⟩ | with_reducible refine ⟨gs_ft ⟨rfl, rfl⟩, ?_⟩ | with_reducible refine ⟨gs_u ⟨rfl, rfl⟩, ?_⟩ | with_reducible refine gs_t ?_ | with_reducible refine gs_f ?_ | with_reducible refine off_i ?_ | with_reducible refine cndT ?_ | with_reducible refine cndF ?_)
        show loadW _ (fr 3) _ _
        rw [f3]
        refine s.loadAll 5 rfl f.cells_len ?_
        repeat (first | with_reducible refine gs_tf ?_ | with_reducible refine gs_ft ?_ | with_reducible refine gs_u ?_ | with_reducible refine pick_ti ?_ | with_reducible refine pick_fi ?_ | with_reducible refine ⟨gs_tf ⟨rfl, rfl⟩, ?_⟩ | with_reducible refine ⟨gs_ft ⟨rfl, rfl⟩, ?_⟩ | with_reducible refine ⟨gs_u ⟨rfl, rfl⟩, ?_⟩ | with_reducible refine gs_t ?_ | with_reducible refine gs_f ?_ | with_reducible refine off_i ?_ | with_reducible refine cndT ?_ | with_reducible refine cndF ?_)
        have hso : stripT kd f.e = ([], f.e) := strip_other (by
          rw [TV.e_eq]; exact hfk)
        refine fnW_of (by kernel_rfl) (same_c bd f (s.rd (rT bd) (by simp)) (s.rd (rT f) (by simp)) fun w27 e => ?_)
        have s := s.ext0 e
        rw [sameB_t (by rw [hde, hso])]
        repeat (first | with_reducible refine gs_tf ?_ | with_reducible refine gs_ft ?_ | with_reducible refine gs_u ?_ | with_reducible refine pick_ti ?_ | with_reducible refine pick_fi ?_ | with_reducible refine ⟨gs_tf ⟨rfl, rfl⟩, ?_⟩ | with_reducible refine ⟨gs_ft ⟨rfl, rfl⟩, ?_⟩ | with_reducible refine ⟨gs_u ⟨rfl, rfl⟩, ?_⟩ | with_reducible refine gs_t ?_ | with_reducible refine gs_f ?_ | with_reducible refine off_i ?_ | with_reducible refine cndT ?_ | with_reducible refine cndF ?_)
        exact hK _ s.ext
end Go.Proofs.YtbaddpnlokmldaaDoor
