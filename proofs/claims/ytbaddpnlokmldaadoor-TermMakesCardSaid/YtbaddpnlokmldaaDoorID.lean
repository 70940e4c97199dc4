/- A term's nodes gone over: visit, Nodes; all, Right: walks. Conditions: at most 10^6 nodes. -/
import Derived.Test.YtbaddpnlokmldaaDoorIC
namespace Go.Proofs.YtbaddpnlokmldaaDoor
open Go
set_option maxRecDepth 100000

mutual
def TV.nodesV : TV → Nat → List (TV × Nat)
  | .mk k n s ls lv av args, d => (.mk k n s ls lv av args, d) :: TV.nodesVA k args 0 d
def TV.nodesVA (k : Int) : List TV → Nat → Nat → List (TV × Nat)
  | [], _, _ => []
  | a :: r, i, d => a.nodesV (d + bndA k i) ++ TV.nodesVA k r (i + 1) d
end
theorem nodesV_eq (t : TV) (d : Nat) : t.nodesV d = (t, d) :: TV.nodesVA t.k t.args 0 d := by cases t; rw [TV.nodesV]; rfl
abbrev eN (x : TV × Nat) : TM × Nat := (x.1.e, x.2)
theorem nodesV_e : ∀ (t : TV) (d : Nat), (t.nodesV d).map eN = t.e.nodesL d :=
  TV.ind fun k n s ls lv av args ih d => by
    rw [TV.e_eq, TV.nodesV, TM.nodesL, List.map_cons]
    congr 1
    · show (TV.e _, d) = _
      rw [TV.e_eq]
    · suffices H : ∀ (l : List TV), (∀ a ∈ l, a ∈ args) → ∀ i, (TV.nodesVA k l i d).map eN = TM.nodesA k (l.map TV.e) i d from H args (fun _ h => h) 0
      intro l
      induction l with
      | nil => intro _ i; rfl
      | cons a r ihl =>
        intro hl i
        rw [TV.nodesVA, List.map_append, ih a (hl a (by simp)), ihl (fun b hb => hl b (by simp [hb]))]
        rfl
theorem nodesVA_app (k : Int) (d : Nat) : ∀ (a b : List TV) (i : Nat), TV.nodesVA k (a ++ b) i d = TV.nodesVA k a i d ++ TV.nodesVA k b (i + a.length) d
  | [], b, i => rfl
  | x :: a, b, i => by
    rw [List.cons_append, TV.nodesVA, TV.nodesVA, nodesVA_app k d a b, List.append_assoc, List.length_cons, show i + 1 + a.length = i + (a.length + 1) by omega]
theorem nodesVA_take {k : Int} {d : Nat} {ts : List TV} {i : Nat} (hi : i < ts.length) : TV.nodesVA k (ts.take (i + 1)) 0 d = TV.nodesVA k (ts.take i) 0 d ++ ts[i].nodesV (d + bndA k i) := by
  rw [List.take_succ_eq_append_getElem hi, nodesVA_app, List.length_take, Nat.min_eq_left (by omega), Nat.zero_add, TV.nodesVA, TV.nodesVA, List.append_nil]
theorem nodesVA_mem {k : Int} {x : TV × Nat} : ∀ {l : List TV} {i d : Nat}, x ∈ TV.nodesVA k l i d ↔ ∃ (j : Nat) (a : TV), l[j]? = some a ∧ x ∈ a.nodesV (d + bndA k (i + j))
  | [], i, d => by simp [TV.nodesVA]
  | a :: r, i, d => by
    rw [TV.nodesVA, List.mem_append, nodesVA_mem (l := r)]
    constructor
    · rintro (h | ⟨j, b, h1, h2⟩)
      · exact ⟨0, a, rfl, h⟩
      · exact ⟨j + 1, b, h1, by rw [show i + (j + 1) = i + 1 + j by omega]; exact h2⟩
    · rintro ⟨j, b, h1, h2⟩
      cases j with
      | zero => simp at h1; subst h1; exact .inl h2
      | succ j => exact .inr ⟨j, b, h1, by rw [show i + 1 + j = i + (j + 1) by omega]; exact h2⟩
theorem bnd_le (k : Int) (i : Nat) : bndA k i ≤ 1 := by unfold bndA; split <;> omega
/-- A node's depth, and that it stands in the term. -/
theorem nodesV_le : ∀ (t : TV) (d : Nat), ∀ x ∈ t.nodesV d, x.2 + x.1.size ≤ d + t.size ∧ d ≤ x.2 :=
  TV.ind fun k n s ls lv av args ih d x hx => by
    rw [nodesV_eq] at hx
    rcases List.mem_cons.1 hx with rfl | hx
    · exact ⟨Nat.le_refl _, Nat.le_refl _⟩
    · obtain ⟨j, a, h1, h2⟩ := nodesVA_mem.1 hx
      have hm : a ∈ args := List.mem_of_getElem? h1
      have := ih a hm _ x h2
      have hb := bnd_le (TV.mk k n s ls lv av args).k (0 + j)
      have hs := sizes_le hm
      have hz : (TV.mk k n s ls lv av args).size = 1 + ls.length + TV.sizes args := by rw [TV.size]
      omega

set_option maxHeartbeats 800000 in
theorem visit_c {fv : Value} {T : List Nat} {I : List (TV × Nat) → World → Prop} {F : World → Prop} (hI : ∀ p W W', I p W → Ext [] W W' → I p W') : ∀ (t : TV) (d : Nat) (pre : List (TV × Nat)) {W : World} {K : VPost}, I pre W → (∀ b ∈ T, b < W.heap.size) → (∀ p W, I p W → t.ok W) → t.size ≤ 1000000 → d + t.size ≤ 2 ^ 40 →
    (∀ x p rest, p ++ x :: rest = pre ++ t.nodesV d → ∀ W K', I p W → (∀ W', Ext T W W' → I (p ++ [x]) W' → K' (.bool true) W') → (∀ W', Ext T W W' → F W' → K' (.bool false) W') → dynW Tryd.prog fv #[x.1.v, .int .i64 x.2] W K') →
    (∀ W', Ext T W W' → I (pre ++ t.nodesV d) W' → K (.bool true) W') → (∀ W', Ext T W W' → F W' → K (.bool false) W') → Calls Tryd.prog 44 #[t.v, .int .i64 d, fv] W (retK K) := by
  refine TV.ind fun k n nm ls lv av args ih d pre W K hin hT hok hsz hd hY hKt hKf => ?_
  refine c44_calls _ _ _ W K ?_
  unfold c44
  refine boxW_i fun b W1 hb0 e1 hb hb1 => ?_
  have hb : Blk W1 b [iv k, iv n, sv nm, lv, av] 27 := hb
  have hbT : b ∉ T := fun h => by have := hT b h; omega
  have hszz : 1 + ls.length + TV.sizes args ≤ 1000000 := by rw [TV.size] at hsz; exact hsz
  have hd2 : d + (1 + ls.length + TV.sizes args) ≤ 2 ^ 40 := by rw [TV.size] at hd; exact hd
  have hk := tok_iff.1 (hok _ _ hin)
  have ha1 : ∀ (w : World) (K : VPost), lenW Tryd.prog (some true) #[25] 3 #[av] w K = K (.int .i64 args.length) w := fun w K => RdSl.lenw hk.ar
  have hnv : (TV.mk k n nm ls lv av args).nodesV d = (TV.mk k n nm ls lv av args, d) :: TV.nodesVA k args 0 d := by rw [TV.nodesV]
  refine loadAll hb.r rfl ?_
  refine hY (TV.mk k n nm ls lv av args, d) pre (TV.nodesVA k args 0 d) (by rw [hnv]) W1 _ (hI _ _ _ hin e1) (fun W2 e2 hi2 => ?_) (fun W2 e2 hf2 => ?_)
  · refine not_ti ?_
    refine cndF ?_
    refine bindX_i fun J0 g0 => bindX_i fun J1 g1 => ?_
    refine off_i ?_
    have hb2 : Blk W2 b [iv k, iv n, sv nm, lv, av] 27 := hb.keep e2 hbT
    refine load1 (v := av) hb2.r rfl ?_
    rw [ha1]
    refine bindX_i fun J2 g2 => ?_
    have e12 : Ext T W W2 := (e1.mono (by simp)).step e2 (fun x hx _ => hx)
    refine loop_i (fun m fr wr => ∃ i : Nat, m = args.length - i ∧ i ≤ args.length ∧ fr 1 = .int .i64 d ∧ fr 2 = fv ∧ fr 3 = .pointer (some ⟨b, 0, none⟩) ∧ fr 15 = av ∧ fr 16 = .int .i64 args.length ∧ fr 17 = .int .i64 i ∧ Ext T W wr ∧ Blk wr b [iv k, iv n, sv nm, lv, av] 27 ∧ I (pre ++ (TV.mk k n nm ls lv av args, d) :: TV.nodesVA k (args.take i) 0 d) wr) args.length ?_ ?_
    · exact ⟨0, rfl, by omega, rfl, rfl, rfl, rfl, rfl, rfl, e12, hb2, hi2⟩
    · rintro m fr wr J ⟨i, rfl, hi, f1, f2, f3, f15, f16, f17, e3, hb3, hinv⟩ hJ hX
      have hal2 := len_sizes args
      rw [f16, f17]
      refine nlss (cond_d (fun hlt => ?_) (fun hlt => ?_))
      · rw [f15, f3, f1, f2]
        have ko : TOk wr (TV.mk k n nm ls lv av args) := tok_iff.1 (hok _ _ hinv)
        obtain ⟨b1, o1, hix, hld⟩ := ko.ar.term hlt .i64
        refine hix _ ?_
        refine hld _ ?_
        have hao : args[i].ok wr := ko.a _ (List.getElem_mem hlt)
        refine (Sep.nil wr).alloc zero_term rfl fun q w2 s _ => ?_
        refine s.storeAll (vs := args[i].cells) 0 rfl args[i].cells_len rfl (TV.one hao) fun w3 s _ => ?_
        have s : Sep [] wr w3 (rB q args[i].cells 27 :: []) [] := s
        have s := s.drew
        generalize w3.drew = w3 at *
        refine s.loadAll 0 rfl args[i].cells_len ?_
        refine off_i ?_
        refine load1 (v := iv k) (hb3.keep s.ext (by simp)).r rfl ?_
        refine fnW_of (by kernel_rfl) (deeper_c fun w4 e4 => ?_)
        have s := s.ext0 e4
        refine ⟨s.loadAll 0 rfl args[i].cells_len ⟨rfl, rfl⟩, ?_⟩
        have hbl := bnd_le k i
        have hsi := sizes_le (List.getElem_mem hlt)
        refine nadd (by omega) ?_
        have e34 : Ext T W w4 := e3.new s.ext
        have hTw : ∀ b ∈ T, b < w4.heap.size := fun x hx => Nat.lt_of_lt_of_le (hT x hx) e34.size
        refine fnW_of (by kernel_rfl) (ih args[i] (List.getElem_mem hlt) (d + bndA k i) (pre ++ (TV.mk k n nm ls lv av args, d) :: TV.nodesVA k (args.take i) 0 d) (hI _ _ _ hinv s.ext) hTw (fun p W hp => (tok_iff.1 (hok p W hp)).a _ (List.getElem_mem hlt)) (by omega) (by omega) (fun x p rest hx => hY x p (rest ++ TV.nodesVA k (args.drop (i + 1)) (i + 1) d) ?_) (fun W5 e5 hi5 => ?_) (fun W5 e5 hf5 => ?_))
        · rw [hnv, ← List.cons_append, ← List.append_assoc, hx]
          have hsp : args = args.take i ++ args[i] :: args.drop (i + 1) := by rw [← List.drop_eq_getElem_cons hlt, List.take_append_drop]
          have hal : (args.take i).length = i := by rw [List.length_take]; omega
          have e : TV.nodesVA k args 0 d = TV.nodesVA k (args.take i) 0 d ++ (args[i].nodesV (d + bndA k i) ++ TV.nodesVA k (args.drop (i + 1)) (i + 1) d) := by
            conv => lhs; rw [hsp]
            rw [nodesVA_app, hal, Nat.zero_add, TV.nodesVA]
          rw [e]
          simp
        · refine not_ti ?_
          refine cndF ?_
          refine nadd (y := 1) (by omega) ?_
          refine hJ (args.length - (i + 1)) _ _ (by omega) ⟨i + 1, rfl, by omega, f1, f2, f3, f15, f16, rfl, e34.step e5 (fun x hx _ => hx), (hb3.keep s.ext (by simp)).keep e5 hbT, ?_⟩
          rw [nodesVA_take hlt]
          rw [List.append_assoc, List.cons_append] at hi5
          exact hi5
        · refine not_ti ?_
          refine cndT ?_
          exact hX _ _ _ (by simp) (g2 _ _ _ (g1 _ _ _ (g0 _ _ _ (hKf _ (e34.step e5 (fun x hx _ => hx)) hf5))))
      · obtain rfl : i = args.length := by omega
        rw [List.take_length] at hinv
        refine hX _ _ _ (by simp) (g2 _ _ _ (blk_x (seq_n g1 (hKt _ e3 ?_))))
        rw [hnv]
        exact hinv
  · refine not_ti ?_
    refine cndT ?_
    exact hKf _ ((e1.mono (by simp)).step e2 (fun x hx _ => hx)) hf2

/-! Nodes. -/
def wtN (x : TV × Nat) : Nat := 1 + x.1.ls.length
def wtS (l : List (TV × Nat)) : Nat := (l.map wtN).sum
theorem wtS_app (a b : List (TV × Nat)) : wtS (a ++ b) = wtS a + wtS b := by simp [wtS]
theorem wtS_nodes : ∀ (t : TV) (d : Nat), wtS (t.nodesV d) = t.size :=
  TV.ind fun k n s ls lv av args ih d => by
    rw [TV.nodesV, TV.size]
    have H : ∀ (l : List TV), (∀ a ∈ l, a ∈ args) → ∀ i, wtS (TV.nodesVA k l i d) = TV.sizes l := by
      intro l
      induction l with
      | nil => intro _ i; rfl
      | cons a r ihl =>
        intro hl i
        rw [TV.nodesVA, wtS_app, ih a (hl a (by simp)), ihl (fun b hb => hl b (by simp [hb])), TV.sizes]
    have := H args (fun _ h => h) 0
    simp only [wtS, List.map_cons, List.sum_cons] at this ⊢
    rw [this]; rfl
theorem nodes1_c {w : World} {K : VPost} {S : List Nat} {w0 : World} {L R : List Res} {t : TV} {d : Value} {bn n : Nat} (s : Sep S w0 w (rB bn [.int .i64 n] 3 :: L) (rT t :: R)) (hn : n + t.size ≤ 2 ^ 50)
    (hK : ∀ w', Sep S w0 w' (rB bn [.int .i64 (n + (1 + t.ls.length) : Nat)] 3 :: L) (rT t :: R) → K (.bool (decide (n + (1 + t.ls.length) ≤ 3000))) w') : Calls Tryd.prog 45 #[t.v, d, .pointer (some ⟨bn, 0, none⟩)] w (retK K) := by
  obtain ⟨k, m, nm, ls, lv, av, args⟩ := t
  have h : TV.ok w (TV.mk k m nm ls lv av args) := s.rat 0 rfl
  have hk := tok_iff.1 h
  have hl1 : ∀ (w : World) (K : VPost), lenW Tryd.prog (some true) #[24] 3 #[lv] w K = K (.int .i64 ls.length) w := fun w K => RdSl.lenw hk.lr
  have hz : (TV.mk k m nm ls lv av args).size = 1 + ls.length + TV.sizes args := by rw [TV.size]
  refine c45_calls _ _ _ w K ?_
  unfold c45
  refine s.box fun b w1 s _ => ?_
  have s : Sep S w0 w1 (rB b [iv k, iv m, sv nm, lv, av] 27 :: rB bn [.int .i64 n] 3 :: L) (rT (TV.mk k m nm ls lv av args) :: R) := s
  repeat (first | with_reducible refine gs_tf ?_ | with_reducible refine gs_ft ?_ | with_reducible refine gs_u ?_ | with_reducible refine pick_ti ?_ | with_reducible refine pick_fi ?_ | with_reducible refine ⟨gs_tf ⟨rfl, rfl⟩, ?_⟩ | with_reducible refine ⟨gs_ft ⟨rfl, rfl⟩, ?_⟩ | with_reducible refine ⟨gs_u ⟨rfl, rfl⟩, ?_⟩ | with_reducible refine gs_t ?_ | with_reducible refine gs_f ?_ | with_reducible refine off_i ?_ | with_reducible refine cndT ?_ | with_reducible refine cndF ?_ | (with_reducible show loadW _ _ _ _; first | refine s.load1 0 rfl rfl ?_ | refine s.load1 1 rfl rfl ?_))
  rw [hl1]
  refine nadd (x := 1) (by omega) ?_
  refine nadd (by omega) ?_
  refine s.store1 1 rfl rfl (by show 0 < 1; decide) rfl fun w2 s _ => ?_
  repeat (first | with_reducible refine gs_tf ?_ | with_reducible refine gs_ft ?_ | with_reducible refine gs_u ?_ | with_reducible refine pick_ti ?_ | with_reducible refine pick_fi ?_ | with_reducible refine ⟨gs_tf ⟨rfl, rfl⟩, ?_⟩ | with_reducible refine ⟨gs_ft ⟨rfl, rfl⟩, ?_⟩ | with_reducible refine ⟨gs_u ⟨rfl, rfl⟩, ?_⟩ | with_reducible refine gs_t ?_ | with_reducible refine gs_f ?_ | with_reducible refine off_i ?_ | with_reducible refine cndT ?_ | with_reducible refine cndF ?_ | (with_reducible show loadW _ _ _ _; first | refine s.load1 0 rfl rfl ?_ | refine s.load1 1 rfl rfl ?_))
  refine nleq (y := 3000) ?_
  exact hK _ (s.drop 0)
theorem wtS_le {t : TV} {p rest : List (TV × Nat)} {x : TV × Nat} (h : p ++ x :: rest = t.nodesV 0) : wtS (p ++ [x]) ≤ t.size := by
  have e : t.size = wtS (p ++ [x]) + wtS rest := by rw [← wtS_nodes t 0, ← h, show p ++ x :: rest = (p ++ [x]) ++ rest by simp, wtS_app]
  omega
theorem Sep.node {S : List Nat} {w0 w : World} {L R : List Res} {t : TV} {d : Nat} {x : TV × Nat} (s : Sep S w0 w L R) (ht : rT t ∈ R) (hx : x ∈ t.nodesV d) : Sep S w0 w L (rT x.1 :: R) := by
  have H : ∀ (t : TV) (d : Nat), x ∈ t.nodesV d → t.ok w → x.1.ok w ∧ ∀ b ∈ x.1.foot, b ∈ t.foot :=
    TV.ind fun k n nm ls lv av args ih d hx h => by
      rw [nodesV_eq] at hx
      rcases List.mem_cons.1 hx with rfl | hx
      · exact ⟨h, fun b hb => hb⟩
      · obtain ⟨j, a, h1, h2⟩ := nodesVA_mem.1 hx
        have hm : a ∈ args := List.mem_of_getElem? h1
        obtain ⟨h3, h4⟩ := ih a hm _ h2 ((tok_iff.1 h).a a hm)
        refine ⟨h3, fun b hb => ?_⟩
        rw [TV.foot_eq]
        simp only [List.mem_append]
        exact .inr (.inr (foots_mem.2 ⟨a, hm, h4 b hb⟩))
  obtain ⟨h1, h2⟩ := H t d hx (s.rd (rT t) ht)
  exact s.part ht (T := rT x.1) h1 h2
theorem mem_mid {α : Type} {p rest l : List α} {x : α} (h : p ++ x :: rest = l) : x ∈ l := by rw [← h]; simp
theorem wtS_one (p : List (TV × Nat)) (x : TV × Nat) : wtS (p ++ [x]) = wtS p + (1 + x.1.ls.length) := by rw [wtS_app]; simp [wtS, wtN]
theorem tnodes_c {w : World} {K : VPost} {t : TV} (h : t.ok w) (hs : t.size ≤ 1000000) (hK : ∀ w', Ext [] w w' → K (.int .i64 (min t.size 3001 : Nat)) w') : Calls Tryd.prog 27 #[t.v] w (retK K) := by
  refine c27_calls _ w K ?_
  unfold c27
  refine TV.box h fun b w1 s => ?_
  refine s.alloc zero_int rfl fun bn w2 s hbn => ?_
  refine s.store1 0 rfl rfl (by show 0 < 1; decide) rfl fun w3 s _ => ?_
  have s : Sep [] w w3 (rB bn [.int .i64 0] 3 :: rB b t.cells 27 :: []) (rT t :: []) := s
  refine s.loadAll 1 rfl t.cells_len ?_
  refine mkfunc_i ?_
  have fin : ∀ (m : Nat) (W : World), Sep [] w W (rB bn [.int .i64 m] 3 :: rB b t.cells 27 :: []) (rT t :: []) → min m 3001 = min t.size 3001 → loadW (some (false, 1)) (.pointer (some ⟨bn, 0, none⟩)) W fun t7_11 w12 => insW Tryd.prog (Builtin.min_ #[3, 3] 3 #[t7_11, .int .i64 3001]) w12 fun t8_13 w14 => K t8_13 w14 := by
    intro m W s he
    refine s.load1 0 rfl rfl ?_
    rw [min_e, show min (m : Int) 3001 = ((min m 3001 : Nat) : Int) by omega, he]
    exact hK W s.ext
  refine fnW_of (by kernel_rfl) (visit_c (T := [bn]) (I := fun p W => wtS p ≤ 3000 ∧ Sep [] w W (rB bn [.int .i64 (wtS p : Nat)] 3 :: rB b t.cells 27 :: []) (rT t :: [])) (F := fun W => ∃ m : Nat, 3000 < m ∧ m ≤ t.size ∧ Sep [] w W (rB bn [.int .i64 m] 3 :: rB b t.cells 27 :: []) (rT t :: [])) (fun p W W' hp e => ⟨hp.1, hp.2.ext0 e⟩) t 0 [] ⟨by simp [wtS], s⟩ ?_ (fun p W hp => hp.2.rat 0 rfl) hs (by omega) ?_ ?_ ?_)
  · intro x hx
    rw [List.mem_singleton] at hx
    subst hx
    exact Blk.lt (s.at 0 rfl)
  · intro x p rest hx W K' hp hT hF
    rw [List.nil_append] at hx
    have hxm : x ∈ t.nodesV 0 := mem_mid hx
    have hle := wtS_le hx
    have hxs := nodesV_le t 0 x hxm
    have s2 := hp.2.node (t := t) (by simp) hxm
    show fnW Tryd.prog 45 #[x.1.v, .int .i64 x.2, .pointer (some ⟨bn, 0, none⟩)] W K'
    have s3 : Sep [bn] W W (rB bn [.int .i64 (wtS p : Nat)] 3 :: []) (rT x.1 :: []) := Sep.one1 (T := rB bn [.int .i64 (wtS p : Nat)] 3) (U := rT x.1) (s2.at 0 rfl) (s2.rat 0 rfl) (fun b hb => s2.disR _ (by simp) _ (by simp) b hb)
    refine fnW_of (by kernel_rfl) (nodes1_c s3 (by omega) fun W' s4 => ?_)
    have hu : Sep [] w W' (rB bn [.int .i64 (wtS p + (1 + x.1.ls.length) : Nat)] 3 :: rB b t.cells 27 :: []) (rT t :: []) := hp.2.upd 0 rfl (T := rB bn [.int .i64 (wtS p : Nat)] 3) (T' := rB bn [.int .i64 (wtS p + (1 + x.1.ls.length) : Nat)] 3) (s4.at 0 rfl) s4.ext (fun b hb => .inl hb)
    rw [wtS_one] at hle hT
    by_cases hc : wtS p + (1 + x.1.ls.length) ≤ 3000
    · rw [decide_eq_true hc]
      exact hT W' s4.ext ⟨hc, hu⟩
    · rw [decide_eq_false hc]
      exact hF W' s4.ext ⟨_, by omega, hle, hu⟩
  · rintro W' _ ⟨h1, s⟩
    rw [List.nil_append, wtS_nodes] at s h1
    exact fin _ W' s rfl
  · rintro W' _ ⟨m, h1, h2, s⟩
    exact fin m W' s (by omega)
end Go.Proofs.YtbaddpnlokmldaaDoor
