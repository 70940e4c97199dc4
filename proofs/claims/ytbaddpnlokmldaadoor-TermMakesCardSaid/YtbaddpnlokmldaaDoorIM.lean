/- law08's alive: walk. Condition: the library's bound is a number. -/
import Derived.Test.YtbaddpnlokmldaaDoorIL
namespace Go.Proofs.YtbaddpnlokmldaaDoor
open Go
set_option maxRecDepth 100000

/-- Two things read, as one. -/
def Res.two (T U : Res) : Res := ⟨T.foot ++ U.foot, fun w => T.holds w ∧ U.holds w, fun {_} h b hb => by
  rcases List.mem_append.1 hb with hb | hb
  · exact T.lt h.1 b hb
  · exact U.lt h.2 b hb, fun {_ _ _} h e hd => ⟨T.keep h.1 e fun b hb => hd b (List.mem_append_left _ hb), U.keep h.2 e fun b hb => hd b (List.mem_append_right _ hb)⟩⟩
section
variable {S : List Nat} {w0 w : World} {L R : List Res} {K : VPost}
theorem Sep.addN2 {T U : Res} {w' : World} (s : Sep S w0 w L R) (hT : T.holds w') (hU : U.holds w') (e : Ext [] w w') (hf : ∀ b ∈ T.foot, w.heap.size ≤ b) (hg : ∀ b ∈ U.foot, w.heap.size ≤ b) : Sep S w0 w' L (T :: U :: R) := by
  have s1 := s.addN (T := Res.two T U) ⟨hT, hU⟩ e (fun b hb => by
    rcases List.mem_append.1 hb with hb | hb
    · exact hf b hb
    · exact hg b hb)
  have s2 := s1.part (U := Res.two T U) (T := U) (by simp) hU (fun b hb => List.mem_append_right _ hb)
  have s3 := s2.part (U := Res.two T U) (T := T) (by simp) hT (fun b hb => List.mem_append_left _ hb)
  exact s3.less (fun X hX => by
    simp only [List.mem_cons] at hX ⊢
    rcases hX with h | h | h
    · exact .inl h
    · exact .inr (.inl h)
    · exact .inr (.inr (.inr h)))
theorem Sep.addN3 {T U V : Res} {w' : World} (s : Sep S w0 w L R) (hT : T.holds w') (hU : U.holds w') (hV : V.holds w') (e : Ext [] w w') (hf : ∀ b ∈ T.foot, w.heap.size ≤ b) (hg : ∀ b ∈ U.foot, w.heap.size ≤ b) (hk : ∀ b ∈ V.foot, w.heap.size ≤ b) : Sep S w0 w' L (T :: U :: V :: R) := by
  have s1 := s.addN2 (T := T) (U := Res.two U V) hT ⟨hU, hV⟩ e hf (fun b hb => by
    rcases List.mem_append.1 hb with hb | hb
    · exact hg b hb
    · exact hk b hb)
  have s2 := s1.part (U := Res.two U V) (T := V) (by simp) hV (fun b hb => List.mem_append_right _ hb)
  have s3 := s2.part (U := Res.two U V) (T := U) (by simp) hU (fun b hb => List.mem_append_left _ hb)
  exact s3.less (fun X hX => by
    simp only [List.mem_cons] at hX ⊢
    rcases hX with h | h | h | h
    · exact .inr (.inr (.inl h))
    · exact .inl h
    · exact .inr (.inl h)
    · exact .inr (.inr (.inr (.inr h))))
abbrev rRT (x : Value) (ts : List TV) : Res := rR x 5 (tcs ts) ts.length
theorem rd_fresh {x : Value} {ts : List TV} {m : Nat} (h : ∀ b ∈ slB x, m ≤ b) : ∀ b ∈ (rRT x ts).foot, m ≤ b := fun b hb => h b (rdB_slB' b hb)
theorem Sep.stripped {t : TV} {kd : Int} (s : Sep S w0 w L R) (ht : rT t ∈ R) (hsz : t.size ≤ 1000000) (h : ∀ (o : TV) (ts : List TV) (x : Value) w', o.e = (stripT kd t.e).2 → ts.map TV.e = (stripT kd t.e).1 → capOk x → Sep S w0 w' L (rT o :: rTs ts :: rRT x ts :: R) → K (.tuple #[x, o.v]) w') : fnW Tryd.prog 18 #[t.v, .int .i64 kd] w K :=
  fnW_of (by kernel_rfl) (strip_c (s.rd (rT t) ht) hsz fun o ts x w' ho hts hok hof htok htf hx hxf e => h o ts x w' ho hts hx.cap (s.addN3 (T := rT o) (U := rTs ts) (V := rRT x ts) hok htok hx.rd e hof htf (rd_fresh hxf)))
theorem Sep.spined {t : TV} (s : Sep S w0 w L R) (ht : rT t ∈ R) (hsz : t.size ≤ 1000000) (h : ∀ (o : TV) (ts : List TV) (x : Value) w', o.e = (spineT t.e).1 → ts.map TV.e = (spineT t.e).2 → capOk x → Sep S w0 w' L (rT o :: rTs ts :: rRT x ts :: R) → K (.tuple #[o.v, x]) w') : fnW Tryd.prog 17 #[t.v] w K :=
  fnW_of (by kernel_rfl) (spine_c (s.rd (rT t) ht) hsz fun o ts x w' ho hts hok hof htok htf hx hxf e => h o ts x w' ho hts hx.cap (s.addN3 (T := rT o) (U := rTs ts) (V := rRT x ts) hok htok hx.rd e hof htf (rd_fresh hxf)))
theorem Sep.apped {f : TV} {x : Value} {ts : List TV} (s : Sep S w0 w L R) (hf : rT f ∈ R) (hfs : f.size ≤ 1000000) (hx : RdSl w x 5 (tcs ts) ts.length) (hts : ∀ t ∈ ts, t.ok w) (hss : ∀ t ∈ ts, t.size ≤ 1000000) (hn : ts.length < 2 ^ 50) (h : ∀ (o : TV) w', o.e = appT f.e (ts.map TV.e) → Sep S w0 w' L (rT o :: R) → K o.v w') : fnW Tryd.prog 12 #[f.v, x] w K :=
  fnW_of (by kernel_rfl) (app_c (s.rd (rT f) hf) hfs hx hts hss hn fun o w' ho hok hof e => h o w' ho (s.addN (T := rT o) hok e hof))
theorem Sep.rapped {f : TV} {x : Value} {ts : List TV} (s : Sep S w0 w L R) (hf : rT f ∈ R) (hfs : f.size ≤ 1000000) (hx : RdSl w x 5 (tcs ts) ts.length) (hts : ∀ t ∈ ts, t.ok w) (hss : ∀ t ∈ ts, t.size ≤ 1000000) (hn : ts.length < 2 ^ 50) (h : ∀ (o : TV) w', o.e = appT f.e (ts.map TV.e) → Sep S w0 w' L (rT o :: R) → K o.v w') : fnW Tryd.prog 15 #[f.v, x] w K :=
  fnW_of (by kernel_rfl) (rapp_c (s.rd (rT f) hf) hfs hx hts hss hn fun o w' ho hok hof e => h o w' ho (s.addN (T := rT o) hok e hof))
theorem Sep.rbound {f : TV} {x : Value} {ts : List TV} {kd : Int} (s : Sep S w0 w L R) (hk : i64ok kd) (hf : rT f ∈ R) (hfs : f.size ≤ 1000000) (hx : RdSl w x 5 (tcs ts) ts.length) (hts : ∀ t ∈ ts, t.ok w) (hss : ∀ t ∈ ts, t.size ≤ 1000000) (hn : ts.length < 2 ^ 50) (h : ∀ (o : TV) w', o.e = bindT kd f.e (ts.map TV.e) → Sep S w0 w' L (rT o :: R) → K o.v w') : fnW Tryd.prog 16 #[.int .i64 kd, f.v, x] w K :=
  fnW_of (by kernel_rfl) (rbind_c hk (s.rd (rT f) hf) hfs hx hts hss hn fun o w' ho hok hof e => h o w' ho (s.addN (T := rT o) hok e hof))
theorem Sep.bound {f : TV} {x : Value} {ts : List TV} {kd : Int} (s : Sep S w0 w L R) (hk : i64ok kd) (hf : rT f ∈ R) (hfs : f.size ≤ 1000000) (hx : RdSl w x 5 (tcs ts) ts.length) (hts : ∀ t ∈ ts, t.ok w) (hss : ∀ t ∈ ts, t.size ≤ 1000000) (hn : ts.length < 2 ^ 50) (h : ∀ (o : TV) w', o.e = bindT kd f.e (ts.map TV.e) → Sep S w0 w' L (rT o :: R) → K o.v w') : fnW Tryd.prog 13 #[.int .i64 kd, f.v, x] w K :=
  fnW_of (by kernel_rfl) (bind_c hk (s.rd (rT f) hf) hfs hx hts hss hn fun o w' ho hok hof e => h o w' ho (s.addN (T := rT o) hok e hof))
end
theorem size_of_e {t : TV} {e : TM} {n : Nat} (h : t.e = e) (hn : e.size = n) : t.size = n := by rw [← size_e, h, hn]

abbrev propV : TV := leafV 2 0 []
abbrev pE : TM := .mk 7 0 [] [] [.mk 2 0 [] [] [], .mk 7 0 [] [] [.mk 1 0 [] [] [], .mk 1 1 [] [] []]]
abbrev uL : Lv := ⟨0, -1, 0, -1, -1⟩
abbrev uE : TM := .mk 3 0 [] [uL] []
theorem two_ok {w : World} {a b : TV} (ha : a.ok w) (hb : b.ok w) : ∀ t ∈ [a, b], t.ok w := by
  intro t ht
  simp only [List.mem_cons, List.not_mem_nil, or_false] at ht
  rcases ht with rfl | rfl
  · exact ha
  · exact hb
theorem fill_type {v : Value} (hv : v.cells = #[v]) : fillL [(0, 1), (1, 1), (2, 1), (3, 1), (4, 1)] zT [(0, iv 3), (3, v)] = some [iv 3, iv 0, sv [], v, .slice none 0 0] := by
  have h1 : ∀ n : Int, (iv n).cells = #[iv n] := fun _ => rfl
  simp [fillL, h1, hv, lspl, zT]
def typeV (v : Value) : TV := .mk 3 0 [] [uL] v (.slice none 0 0) []
theorem typeV_e (v : Value) : (typeV v).e = uE := by rw [TV.e_eq]; rfl
theorem typeV_ok {w : World} {v : Value} (h : OwnAt w v 48 5 (lcs [uL]) [uL].length) : (typeV v).ok w :=
  tok_iff.2 ⟨(⟨by decide, by decide⟩ : i64ok 3), (⟨by decide, by decide⟩ : i64ok 0), (by show 0 < 2 ^ 60; decide), (by
    intro l hl
    have hl : l ∈ [uL] := hl
    rw [List.mem_singleton] at hl
    subst hl
    exact ⟨⟨by decide, by decide⟩, ⟨by decide, by decide⟩, ⟨by decide, by decide⟩, ⟨by decide, by decide⟩, ⟨by decide, by decide⟩⟩), (by show 1 < 2 ^ 50; decide), (by show 0 < 2 ^ 50; decide), h.rd, h.cap, ⟨rfl, .inl ⟨rfl, _, _, rfl⟩⟩, rfl, by intro a ha; cases ha⟩
theorem w_ab1 : wordB [97, 46, 98, 95, 49] = true := by decide +kernel
theorem w_prop : wordB [80, 114, 111, 112] = false := by decide +kernel
theorem w_adot : wordB [97, 46] = false := by decide +kernel
theorem r_p : rightR pE 0 0 = true := by decide +kernel
theorem r_v1 : rightR (.mk 1 1 [] [] []) 0 1 = false := by decide +kernel
theorem r_u2 : rightR uE 2 0 = true := by decide +kernel
theorem r_u1 : rightR uE 1 0 = false := by decide +kernel
theorem l_v2 : looseR (.mk 1 2 [] [] []) = 3 := by decide +kernel
theorem u_p : usesR pE 0 = 0 := by decide +kernel
theorem c_ba : constsL (appT (.mk 4 0 [98] [] []) [.mk 4 0 [97] [] []]) = [[97], [98]] := by
  have : namesL ((appT (.mk 4 0 [98] [] []) [.mk 4 0 [97] [] []]).nodesL 0) = [[98], [97]] := by decide +kernel
  have h2 : sortX [[98], [97]] = [[97], [98]] := by
    unfold sortX
    simp [List.mergeSort, List.MergeSort.Internal.splitInTwo, List.merge]
    try decide
  unfold constsL
  rw [this, h2]
  decide +kernel
theorem one_ok {w : World} {a : TV} (ha : a.ok w) : ∀ t ∈ [a], t.ok w := by
  intro t ht
  rw [List.mem_singleton] at ht
  subst ht
  exact ha
theorem leaf2 {a b : TV} (ha : a.size ≤ 1000000) (hb : b.size ≤ 1000000) : ∀ t ∈ [a, b], t.size ≤ 1000000 := by
  intro t ht
  simp only [List.mem_cons, List.not_mem_nil, or_false] at ht
  rcases ht with rfl | rfl
  · exact ha
  · exact hb
theorem leaf1 {a : TV} (ha : a.size ≤ 1000000) : ∀ t ∈ [a], t.size ≤ 1000000 := by
  intro t ht
  rw [List.mem_singleton] at ht
  subst ht
  exact ha

set_option maxHeartbeats 4000000 in
theorem alive8_c {w : World} {K : VPost} (hg : GS w) (hK : ∀ w', Ext [] w w' → K (.bool true) w') : Calls Tryd.prog 7 #[] w (retK K) := by
  refine c7_calls w K ?_
  unfold c7
  refine build_i str_term fill_prop ?_
  have s := (Sep.nil w).leaf (k := 2) (n := 0) (b := []) ⟨by decide, by decide⟩ ⟨by decide, by decide⟩ (by decide)
  refine s.alloc zero_term rfl fun b1 w1 s _ => ?_
  refine s.storeAll 0 rfl rfl rfl (leaf_one _ _ _) fun w2 s _ => ?_
  have s : Sep [] w w2 (rB b1 propV.cells 27 :: []) (rT propV :: []) := s
  have s := s.drew
  generalize w2.drew = w2 at *
  refine s.loadAll 0 rfl rfl ?_
  refine bindV_i fun J7 h7 => ?_
  have tail7 : ∀ (x1 x2 x3 vl : Value) (p : TV) (b2 : Nat) (W : World), p.e = pE → Sep [] w W (rOT vl [propV, leafV 1 0 []] :: rB b1 propV.cells 27 :: rB b2 zT 27 :: []) (rT p :: rT (leafV 1 0 []) :: rT (leafV 1 1 []) :: rT propV :: []) → J7 x1 x2 x3 p.v (.pointer (some ⟨b2, 0, none⟩)) W := by
    intro x1 x2 x3 vl p b2 W hp s
    have hps : p.size = 5 := size_of_e hp rfl
    rw [h7]
    have s := (s.drop 0).swap
    refine s.storeAll (vs := p.cells) 0 rfl p.cells_len rfl (TV.one (s.rat 0 rfl)) fun w3 s _ => ?_
    have s : Sep [] w w3 (rB b2 p.cells 27 :: rB b1 propV.cells 27 :: []) (rT p :: []) := s.less (fun T hT => by simp only [List.mem_cons, List.not_mem_nil, or_false] at hT ⊢; exact .inl hT)
    refine s.loadAll 0 rfl p.cells_len ?_
    refine s.stripped (by simp) (by omega) fun o ts x w4 ho hts _ s => ?_
    rw [hp] at ho hts
    have ho : o.e = .mk 1 1 [] [] [] := ho
    have hts : ts.length = 2 := by have := congrArg List.length hts; rw [List.length_map] at this; exact this
    rw [extr0, extr1]
    refine s.alloc zero_term rfl fun b4 w5 s _ => ?_
    refine s.storeAll (vs := o.cells) 0 rfl o.cells_len rfl (TV.one (s.rat 0 rfl)) fun w6 s _ => ?_
    have s : Sep [] w w6 (rB b4 o.cells 27 :: rB b2 p.cells 27 :: rB b1 propV.cells 27 :: []) (rT o :: rTs ts :: rRT x ts :: rT p :: []) := s
    have s := s.drew
    generalize w6.drew = w6 at *
    have s := s.leaf (k := 2) (n := 0) (b := []) ⟨by decide, by decide⟩ ⟨by decide, by decide⟩ (by decide)
    have s : Sep [] w w6 (rB b1 propV.cells 27 :: rB b4 o.cells 27 :: rB b2 p.cells 27 :: []) (rT propV :: rT o :: rTs ts :: rRT x ts :: rT p :: []) := s.toFront 2 rfl
    refine s.loadAll 0 rfl rfl ?_
    refine bindV_i fun J29 h29 => ?_
    have tail29 : ∀ (x1 x2 x3 x4 x5 x6 y vl : Value) (a h : TV) (us : List TV) (b5 : Nat) (W : World), h.e = .mk 4 0 [102] [] [] → us.length = 2 → Sep [] w W (rOT vl [propV, leafV 1 2 []] :: rB b1 propV.cells 27 :: rB b4 o.cells 27 :: rB b2 p.cells 27 :: rB b5 zT 27 :: []) (rT h :: rTs us :: rRT y us :: rT a :: rT (leafV 1 2 []) :: rT (leafV 4 0 [102]) :: rT propV :: rT o :: rTs ts :: rRT x ts :: rT p :: []) → J29 x1 x2 x3 x4 x5 x6 h.v y (.pointer (some ⟨b5, 0, none⟩)) W := by
      intro x1 x2 x3 x4 x5 x6 y vl a h us b5 W hh hus s
      rw [h29]
      refine s.storeAll (vs := h.cells) 4 rfl h.cells_len rfl (TV.one (s.rat 0 rfl)) fun w7 s _ => ?_
      have hhn : h.s = [102] := by rw [TV.e_eq] at hh; injection hh
      refine fnW_of (by kernel_rfl) (rparam1_c fun w8 e8 => ?_)
      have s := s.ext0 e8
      refine s.litL1 uL fun lvv w9 s => ?_
      have olv : OwnAt w9 lvv 48 5 (lcs [uL]) [uL].length := s.at 0 rfl
      refine build_i str_term (fill_type (slice_one olv.rd).2) ?_
      have s := s.freeze 0 rfl (T' := rT (typeV lvv)) (typeV_ok olv) (fun b hb => by
        have hb : b ∈ (typeV lvv).foot := hb
        rw [TV.foot_eq] at hb
        simp only [List.mem_append] at hb
        rcases hb with hb | hb | hb
        · exact rdB_slB' b hb
        · simp [typeV, TV.av, TV.args, rdB] at hb
        · simp [typeV, TV.args, TV.foots] at hb)
      refine s.alloc zero_term rfl fun b7 w10 s _ => ?_
      refine s.storeAll (vs := (typeV lvv).cells) 0 rfl rfl rfl (TV.one (s.rat 0 rfl)) fun w11 s _ => ?_
      have s : Sep [] w w11 (rB b7 (typeV lvv).cells 27 :: rOT vl [propV, leafV 1 2 []] :: rB b1 propV.cells 27 :: rB b4 o.cells 27 :: rB b2 p.cells 27 :: rB b5 h.cells 27 :: []) (rT (typeV lvv) :: rT h :: rTs us :: rRT y us :: rT a :: rT (leafV 1 2 []) :: rT (leafV 4 0 [102]) :: rT propV :: rT o :: rTs ts :: rRT x ts :: rT p :: []) := s
      have s := s.drew
      generalize w11.drew = w11 at *
      have hg' : ∀ {W : World} {L R : List Res}, Sep [] w W L R → GS W := fun s => hg.keep s.ext (by simp)
      refine s.loadAll 4 rfl p.cells_len ?_
      refine fnW_of (by kernel_rfl) (tright_c (t := p) (s.rd (rT p) (by simp)) (hg' s) (by omega) fun w12 e => ?_)
      have s := s.ext0 e
      rw [hp, r_p]
      repeat (first | with_reducible refine gs_tf ?_ | with_reducible refine gs_ft ?_ | with_reducible refine gs_u ?_ | with_reducible refine pick_ti ?_ | with_reducible refine pick_fi ?_ | with_reducible refine ⟨gs_tf ⟨rfl, rfl⟩, ?_⟩ | with_reducible refine ⟨gs_ft ⟨rfl, rfl⟩, ?_⟩ | with_reducible refine ⟨gs_u ⟨rfl, rfl⟩, ?_⟩ | with_reducible refine gs_t ?_ | with_reducible refine gs_f ?_ | with_reducible refine off_i ?_ | with_reducible refine cndT ?_ | with_reducible refine cndF ?_)
      refine s.var ⟨by decide, by decide⟩ fun w13 s => ?_
      repeat (first | with_reducible refine gs_tf ?_ | with_reducible refine gs_ft ?_ | with_reducible refine gs_u ?_ | with_reducible refine pick_ti ?_ | with_reducible refine pick_fi ?_ | with_reducible refine ⟨gs_tf ⟨rfl, rfl⟩, ?_⟩ | with_reducible refine ⟨gs_ft ⟨rfl, rfl⟩, ?_⟩ | with_reducible refine ⟨gs_u ⟨rfl, rfl⟩, ?_⟩ | with_reducible refine gs_t ?_ | with_reducible refine gs_f ?_ | with_reducible refine off_i ?_ | with_reducible refine cndT ?_ | with_reducible refine cndF ?_)
      refine fnW_of (by kernel_rfl) (tright_c (t := leafV 1 1 []) (s.rat 0 rfl) (hg' s) (by decide) fun w14 e => ?_)
      have s := (s.ext0 e)
      repeat (first | with_reducible refine gs_tf ?_ | with_reducible refine gs_ft ?_ | with_reducible refine gs_u ?_ | with_reducible refine pick_ti ?_ | with_reducible refine pick_fi ?_ | with_reducible refine ⟨gs_tf ⟨rfl, rfl⟩, ?_⟩ | with_reducible refine ⟨gs_ft ⟨rfl, rfl⟩, ?_⟩ | with_reducible refine ⟨gs_u ⟨rfl, rfl⟩, ?_⟩ | with_reducible refine gs_t ?_ | with_reducible refine gs_f ?_ | with_reducible refine off_i ?_ | with_reducible refine cndT ?_ | with_reducible refine cndF ?_)
      rw [leaf_e, r_v1]
      refine not_ti ?_
      rw [Bool.not_false]
      repeat (first | with_reducible refine gs_tf ?_ | with_reducible refine gs_ft ?_ | with_reducible refine gs_u ?_ | with_reducible refine pick_ti ?_ | with_reducible refine pick_fi ?_ | with_reducible refine ⟨gs_tf ⟨rfl, rfl⟩, ?_⟩ | with_reducible refine ⟨gs_ft ⟨rfl, rfl⟩, ?_⟩ | with_reducible refine ⟨gs_u ⟨rfl, rfl⟩, ?_⟩ | with_reducible refine gs_t ?_ | with_reducible refine gs_f ?_ | with_reducible refine off_i ?_ | with_reducible refine cndT ?_ | with_reducible refine cndF ?_)
      refine s.loadAll 0 rfl rfl ?_
      repeat (first | with_reducible refine gs_tf ?_ | with_reducible refine gs_ft ?_ | with_reducible refine gs_u ?_ | with_reducible refine pick_ti ?_ | with_reducible refine pick_fi ?_ | with_reducible refine ⟨gs_tf ⟨rfl, rfl⟩, ?_⟩ | with_reducible refine ⟨gs_ft ⟨rfl, rfl⟩, ?_⟩ | with_reducible refine ⟨gs_u ⟨rfl, rfl⟩, ?_⟩ | with_reducible refine gs_t ?_ | with_reducible refine gs_f ?_ | with_reducible refine off_i ?_ | with_reducible refine cndT ?_ | with_reducible refine cndF ?_)
      refine fnW_of (by kernel_rfl) (tright_c (t := typeV lvv) (s.rd (rT (typeV lvv)) (by simp)) (hg' s) (by show 2 ≤ 1000000; decide) fun w15 e => ?_)
      have s := (s.ext0 e)
      rw [typeV_e, r_u2]
      repeat (first | with_reducible refine gs_tf ?_ | with_reducible refine gs_ft ?_ | with_reducible refine gs_u ?_ | with_reducible refine pick_ti ?_ | with_reducible refine pick_fi ?_ | with_reducible refine ⟨gs_tf ⟨rfl, rfl⟩, ?_⟩ | with_reducible refine ⟨gs_ft ⟨rfl, rfl⟩, ?_⟩ | with_reducible refine ⟨gs_u ⟨rfl, rfl⟩, ?_⟩ | with_reducible refine gs_t ?_ | with_reducible refine gs_f ?_ | with_reducible refine off_i ?_ | with_reducible refine cndT ?_ | with_reducible refine cndF ?_)
      refine s.loadAll 0 rfl rfl ?_
      repeat (first | with_reducible refine gs_tf ?_ | with_reducible refine gs_ft ?_ | with_reducible refine gs_u ?_ | with_reducible refine pick_ti ?_ | with_reducible refine pick_fi ?_ | with_reducible refine ⟨gs_tf ⟨rfl, rfl⟩, ?_⟩ | with_reducible refine ⟨gs_ft ⟨rfl, rfl⟩, ?_⟩ | with_reducible refine ⟨gs_u ⟨rfl, rfl⟩, ?_⟩ | with_reducible refine gs_t ?_ | with_reducible refine gs_f ?_ | with_reducible refine off_i ?_ | with_reducible refine cndT ?_ | with_reducible refine cndF ?_)
      refine fnW_of (by kernel_rfl) (tright_c (t := typeV lvv) (s.rd (rT (typeV lvv)) (by simp)) (hg' s) (by show 2 ≤ 1000000; decide) fun w16 e => ?_)
      have s := (s.ext0 e)
      repeat (first | with_reducible refine gs_tf ?_ | with_reducible refine gs_ft ?_ | with_reducible refine gs_u ?_ | with_reducible refine pick_ti ?_ | with_reducible refine pick_fi ?_ | with_reducible refine ⟨gs_tf ⟨rfl, rfl⟩, ?_⟩ | with_reducible refine ⟨gs_ft ⟨rfl, rfl⟩, ?_⟩ | with_reducible refine ⟨gs_u ⟨rfl, rfl⟩, ?_⟩ | with_reducible refine gs_t ?_ | with_reducible refine gs_f ?_ | with_reducible refine off_i ?_ | with_reducible refine cndT ?_ | with_reducible refine cndF ?_)
      rw [typeV_e, r_u1]
      refine not_ti ?_
      rw [Bool.not_false]
      repeat (first | with_reducible refine gs_tf ?_ | with_reducible refine gs_ft ?_ | with_reducible refine gs_u ?_ | with_reducible refine pick_ti ?_ | with_reducible refine pick_fi ?_ | with_reducible refine ⟨gs_tf ⟨rfl, rfl⟩, ?_⟩ | with_reducible refine ⟨gs_ft ⟨rfl, rfl⟩, ?_⟩ | with_reducible refine ⟨gs_u ⟨rfl, rfl⟩, ?_⟩ | with_reducible refine gs_t ?_ | with_reducible refine gs_f ?_ | with_reducible refine off_i ?_ | with_reducible refine cndT ?_ | with_reducible refine cndF ?_)
      rw [(s.rd (rRT x ts) (by simp) : RdSl _ x 5 (tcs ts) ts.length).lenw]
      repeat (first | with_reducible refine gs_tf ?_ | with_reducible refine gs_ft ?_ | with_reducible refine gs_u ?_ | with_reducible refine pick_ti ?_ | with_reducible refine pick_fi ?_ | with_reducible refine ⟨gs_tf ⟨rfl, rfl⟩, ?_⟩ | with_reducible refine ⟨gs_ft ⟨rfl, rfl⟩, ?_⟩ | with_reducible refine ⟨gs_u ⟨rfl, rfl⟩, ?_⟩ | with_reducible refine gs_t ?_ | with_reducible refine gs_f ?_ | with_reducible refine off_i ?_ | with_reducible refine cndT ?_ | with_reducible refine cndF ?_)
      refine neql (y := 2) ?_
      rw [hts, decide_eq_true rfl]
      repeat (first | with_reducible refine gs_tf ?_ | with_reducible refine gs_ft ?_ | with_reducible refine gs_u ?_ | with_reducible refine pick_ti ?_ | with_reducible refine pick_fi ?_ | with_reducible refine ⟨gs_tf ⟨rfl, rfl⟩, ?_⟩ | with_reducible refine ⟨gs_ft ⟨rfl, rfl⟩, ?_⟩ | with_reducible refine ⟨gs_u ⟨rfl, rfl⟩, ?_⟩ | with_reducible refine gs_t ?_ | with_reducible refine gs_f ?_ | with_reducible refine off_i ?_ | with_reducible refine cndT ?_ | with_reducible refine cndF ?_)
      refine s.loadAll 3 rfl o.cells_len ?_
      repeat (first | with_reducible refine gs_tf ?_ | with_reducible refine gs_ft ?_ | with_reducible refine gs_u ?_ | with_reducible refine pick_ti ?_ | with_reducible refine pick_fi ?_ | with_reducible refine ⟨gs_tf ⟨rfl, rfl⟩, ?_⟩ | with_reducible refine ⟨gs_ft ⟨rfl, rfl⟩, ?_⟩ | with_reducible refine ⟨gs_u ⟨rfl, rfl⟩, ?_⟩ | with_reducible refine gs_t ?_ | with_reducible refine gs_f ?_ | with_reducible refine off_i ?_ | with_reducible refine cndT ?_ | with_reducible refine cndF ?_)
      refine s.var ⟨by decide, by decide⟩ fun w17 s => ?_
      refine ⟨gs_t (s.loadAll 3 rfl o.cells_len ⟨rfl, rfl⟩), ?_⟩
      repeat (first | with_reducible refine gs_tf ?_ | with_reducible refine gs_ft ?_ | with_reducible refine gs_u ?_ | with_reducible refine pick_ti ?_ | with_reducible refine pick_fi ?_ | with_reducible refine ⟨gs_tf ⟨rfl, rfl⟩, ?_⟩ | with_reducible refine ⟨gs_ft ⟨rfl, rfl⟩, ?_⟩ | with_reducible refine ⟨gs_u ⟨rfl, rfl⟩, ?_⟩ | with_reducible refine gs_t ?_ | with_reducible refine gs_f ?_ | with_reducible refine off_i ?_ | with_reducible refine cndT ?_ | with_reducible refine cndF ?_)
      refine fnW_of (by kernel_rfl) (same_c o (leafV 1 1 []) (s.rd (rT o) (by simp)) (s.rat 0 rfl) fun w18 e => ?_)
      have s := (s.ext0 e)
      rw [sameB_t (by rw [ho, leaf_e])]
      repeat (first | with_reducible refine gs_tf ?_ | with_reducible refine gs_ft ?_ | with_reducible refine gs_u ?_ | with_reducible refine pick_ti ?_ | with_reducible refine pick_fi ?_ | with_reducible refine ⟨gs_tf ⟨rfl, rfl⟩, ?_⟩ | with_reducible refine ⟨gs_ft ⟨rfl, rfl⟩, ?_⟩ | with_reducible refine ⟨gs_u ⟨rfl, rfl⟩, ?_⟩ | with_reducible refine gs_t ?_ | with_reducible refine gs_f ?_ | with_reducible refine off_i ?_ | with_reducible refine cndT ?_ | with_reducible refine cndF ?_)
      refine s.load1 (v := sv h.s) 5 rfl (by rw [TV.cells_eq]; rfl) ?_
      repeat (first | with_reducible refine gs_tf ?_ | with_reducible refine gs_ft ?_ | with_reducible refine gs_u ?_ | with_reducible refine pick_ti ?_ | with_reducible refine pick_fi ?_ | with_reducible refine ⟨gs_tf ⟨rfl, rfl⟩, ?_⟩ | with_reducible refine ⟨gs_ft ⟨rfl, rfl⟩, ?_⟩ | with_reducible refine ⟨gs_u ⟨rfl, rfl⟩, ?_⟩ | with_reducible refine gs_t ?_ | with_reducible refine gs_f ?_ | with_reducible refine off_i ?_ | with_reducible refine cndT ?_ | with_reducible refine cndF ?_)
      rw [hhn]
      refine str_eql (a := [102]) (b := [102]) ⟨rfl, ?_⟩
      rw [decide_eq_true rfl]
      repeat (first | with_reducible refine gs_tf ?_ | with_reducible refine gs_ft ?_ | with_reducible refine gs_u ?_ | with_reducible refine pick_ti ?_ | with_reducible refine pick_fi ?_ | with_reducible refine ⟨gs_tf ⟨rfl, rfl⟩, ?_⟩ | with_reducible refine ⟨gs_ft ⟨rfl, rfl⟩, ?_⟩ | with_reducible refine ⟨gs_u ⟨rfl, rfl⟩, ?_⟩ | with_reducible refine gs_t ?_ | with_reducible refine gs_f ?_ | with_reducible refine off_i ?_ | with_reducible refine cndT ?_ | with_reducible refine cndF ?_)
      rw [(s.rd (rRT y us) (by simp) : RdSl _ y 5 (tcs us) us.length).lenw]
      repeat (first | with_reducible refine gs_tf ?_ | with_reducible refine gs_ft ?_ | with_reducible refine gs_u ?_ | with_reducible refine pick_ti ?_ | with_reducible refine pick_fi ?_ | with_reducible refine ⟨gs_tf ⟨rfl, rfl⟩, ?_⟩ | with_reducible refine ⟨gs_ft ⟨rfl, rfl⟩, ?_⟩ | with_reducible refine ⟨gs_u ⟨rfl, rfl⟩, ?_⟩ | with_reducible refine gs_t ?_ | with_reducible refine gs_f ?_ | with_reducible refine off_i ?_ | with_reducible refine cndT ?_ | with_reducible refine cndF ?_)
      refine neql (y := 2) ?_
      rw [hus, decide_eq_true rfl]
      repeat (first | with_reducible refine gs_tf ?_ | with_reducible refine gs_ft ?_ | with_reducible refine gs_u ?_ | with_reducible refine pick_ti ?_ | with_reducible refine pick_fi ?_ | with_reducible refine ⟨gs_tf ⟨rfl, rfl⟩, ?_⟩ | with_reducible refine ⟨gs_ft ⟨rfl, rfl⟩, ?_⟩ | with_reducible refine ⟨gs_u ⟨rfl, rfl⟩, ?_⟩ | with_reducible refine gs_t ?_ | with_reducible refine gs_f ?_ | with_reducible refine off_i ?_ | with_reducible refine cndT ?_ | with_reducible refine cndF ?_)
      refine s.loadAll 4 rfl p.cells_len ?_
      repeat (first | with_reducible refine gs_tf ?_ | with_reducible refine gs_ft ?_ | with_reducible refine gs_u ?_ | with_reducible refine pick_ti ?_ | with_reducible refine pick_fi ?_ | with_reducible refine ⟨gs_tf ⟨rfl, rfl⟩, ?_⟩ | with_reducible refine ⟨gs_ft ⟨rfl, rfl⟩, ?_⟩ | with_reducible refine ⟨gs_u ⟨rfl, rfl⟩, ?_⟩ | with_reducible refine gs_t ?_ | with_reducible refine gs_f ?_ | with_reducible refine off_i ?_ | with_reducible refine cndT ?_ | with_reducible refine cndF ?_)
      refine fnW_of (by kernel_rfl) (tnodes_c (t := p) (s.rd (rT p) (by simp)) (by omega) fun w19 e => ?_)
      have s := (s.ext0 e)
      repeat (first | with_reducible refine gs_tf ?_ | with_reducible refine gs_ft ?_ | with_reducible refine gs_u ?_ | with_reducible refine pick_ti ?_ | with_reducible refine pick_fi ?_ | with_reducible refine ⟨gs_tf ⟨rfl, rfl⟩, ?_⟩ | with_reducible refine ⟨gs_ft ⟨rfl, rfl⟩, ?_⟩ | with_reducible refine ⟨gs_u ⟨rfl, rfl⟩, ?_⟩ | with_reducible refine gs_t ?_ | with_reducible refine gs_f ?_ | with_reducible refine off_i ?_ | with_reducible refine cndT ?_ | with_reducible refine cndF ?_)
      rw [hps]
      refine neql (x := 5) (y := 5) ?_
      rw [decide_eq_true rfl]
      repeat (first | with_reducible refine gs_tf ?_ | with_reducible refine gs_ft ?_ | with_reducible refine gs_u ?_ | with_reducible refine pick_ti ?_ | with_reducible refine pick_fi ?_ | with_reducible refine ⟨gs_tf ⟨rfl, rfl⟩, ?_⟩ | with_reducible refine ⟨gs_ft ⟨rfl, rfl⟩, ?_⟩ | with_reducible refine ⟨gs_u ⟨rfl, rfl⟩, ?_⟩ | with_reducible refine gs_t ?_ | with_reducible refine gs_f ?_ | with_reducible refine off_i ?_ | with_reducible refine cndT ?_ | with_reducible refine cndF ?_)
      refine s.var ⟨by decide, by decide⟩ fun w20 s => ?_
      repeat (first | with_reducible refine gs_tf ?_ | with_reducible refine gs_ft ?_ | with_reducible refine gs_u ?_ | with_reducible refine pick_ti ?_ | with_reducible refine pick_fi ?_ | with_reducible refine ⟨gs_tf ⟨rfl, rfl⟩, ?_⟩ | with_reducible refine ⟨gs_ft ⟨rfl, rfl⟩, ?_⟩ | with_reducible refine ⟨gs_u ⟨rfl, rfl⟩, ?_⟩ | with_reducible refine gs_t ?_ | with_reducible refine gs_f ?_ | with_reducible refine off_i ?_ | with_reducible refine cndT ?_ | with_reducible refine cndF ?_)
      refine fnW_of (by kernel_rfl) (loose_c (t := leafV 1 2 []) (s.rat 0 rfl) (hg' s) (by decide) fun w21 e => ?_)
      have s := (s.ext0 e)
      repeat (first | with_reducible refine gs_tf ?_ | with_reducible refine gs_ft ?_ | with_reducible refine gs_u ?_ | with_reducible refine pick_ti ?_ | with_reducible refine pick_fi ?_ | with_reducible refine ⟨gs_tf ⟨rfl, rfl⟩, ?_⟩ | with_reducible refine ⟨gs_ft ⟨rfl, rfl⟩, ?_⟩ | with_reducible refine ⟨gs_u ⟨rfl, rfl⟩, ?_⟩ | with_reducible refine gs_t ?_ | with_reducible refine gs_f ?_ | with_reducible refine off_i ?_ | with_reducible refine cndT ?_ | with_reducible refine cndF ?_)
      rw [leaf_e, l_v2, ieql, decide_eq_true rfl]
      repeat (first | with_reducible refine gs_tf ?_ | with_reducible refine gs_ft ?_ | with_reducible refine gs_u ?_ | with_reducible refine pick_ti ?_ | with_reducible refine pick_fi ?_ | with_reducible refine ⟨gs_tf ⟨rfl, rfl⟩, ?_⟩ | with_reducible refine ⟨gs_ft ⟨rfl, rfl⟩, ?_⟩ | with_reducible refine ⟨gs_u ⟨rfl, rfl⟩, ?_⟩ | with_reducible refine gs_t ?_ | with_reducible refine gs_f ?_ | with_reducible refine off_i ?_ | with_reducible refine cndT ?_ | with_reducible refine cndF ?_)
      show fnW _ _ #[sv [97, 46, 98, 95, 49]] _ _
      refine fnW_of (by kernel_rfl) (word_c (by decide) (hg' s) fun w22 e => ?_)
      have s := (s.ext0 e)
      rw [w_ab1]
      repeat (first | with_reducible refine gs_tf ?_ | with_reducible refine gs_ft ?_ | with_reducible refine gs_u ?_ | with_reducible refine pick_ti ?_ | with_reducible refine pick_fi ?_ | with_reducible refine ⟨gs_tf ⟨rfl, rfl⟩, ?_⟩ | with_reducible refine ⟨gs_ft ⟨rfl, rfl⟩, ?_⟩ | with_reducible refine ⟨gs_u ⟨rfl, rfl⟩, ?_⟩ | with_reducible refine gs_t ?_ | with_reducible refine gs_f ?_ | with_reducible refine off_i ?_ | with_reducible refine cndT ?_ | with_reducible refine cndF ?_)
      show fnW _ _ #[sv [80, 114, 111, 112]] _ _
      refine fnW_of (by kernel_rfl) (word_c (by decide) (hg' s) fun w23 e => ?_)
      have s := (s.ext0 e)
      repeat (first | with_reducible refine gs_tf ?_ | with_reducible refine gs_ft ?_ | with_reducible refine gs_u ?_ | with_reducible refine pick_ti ?_ | with_reducible refine pick_fi ?_ | with_reducible refine ⟨gs_tf ⟨rfl, rfl⟩, ?_⟩ | with_reducible refine ⟨gs_ft ⟨rfl, rfl⟩, ?_⟩ | with_reducible refine ⟨gs_u ⟨rfl, rfl⟩, ?_⟩ | with_reducible refine gs_t ?_ | with_reducible refine gs_f ?_ | with_reducible refine off_i ?_ | with_reducible refine cndT ?_ | with_reducible refine cndF ?_)
      rw [w_prop]
      refine not_ti ?_
      rw [Bool.not_false]
      repeat (first | with_reducible refine gs_tf ?_ | with_reducible refine gs_ft ?_ | with_reducible refine gs_u ?_ | with_reducible refine pick_ti ?_ | with_reducible refine pick_fi ?_ | with_reducible refine ⟨gs_tf ⟨rfl, rfl⟩, ?_⟩ | with_reducible refine ⟨gs_ft ⟨rfl, rfl⟩, ?_⟩ | with_reducible refine ⟨gs_u ⟨rfl, rfl⟩, ?_⟩ | with_reducible refine gs_t ?_ | with_reducible refine gs_f ?_ | with_reducible refine off_i ?_ | with_reducible refine cndT ?_ | with_reducible refine cndF ?_)
      show fnW _ _ #[sv [97, 46]] _ _
      refine fnW_of (by kernel_rfl) (word_c (by decide) (hg' s) fun w24 e => ?_)
      have s := (s.ext0 e)
      repeat (first | with_reducible refine gs_tf ?_ | with_reducible refine gs_ft ?_ | with_reducible refine gs_u ?_ | with_reducible refine pick_ti ?_ | with_reducible refine pick_fi ?_ | with_reducible refine ⟨gs_tf ⟨rfl, rfl⟩, ?_⟩ | with_reducible refine ⟨gs_ft ⟨rfl, rfl⟩, ?_⟩ | with_reducible refine ⟨gs_u ⟨rfl, rfl⟩, ?_⟩ | with_reducible refine gs_t ?_ | with_reducible refine gs_f ?_ | with_reducible refine off_i ?_ | with_reducible refine cndT ?_ | with_reducible refine cndF ?_)
      rw [w_adot]
      refine not_ti ?_
      rw [Bool.not_false]
      repeat (first | with_reducible refine gs_tf ?_ | with_reducible refine gs_ft ?_ | with_reducible refine gs_u ?_ | with_reducible refine pick_ti ?_ | with_reducible refine pick_fi ?_ | with_reducible refine ⟨gs_tf ⟨rfl, rfl⟩, ?_⟩ | with_reducible refine ⟨gs_ft ⟨rfl, rfl⟩, ?_⟩ | with_reducible refine ⟨gs_u ⟨rfl, rfl⟩, ?_⟩ | with_reducible refine gs_t ?_ | with_reducible refine gs_f ?_ | with_reducible refine off_i ?_ | with_reducible refine cndT ?_ | with_reducible refine cndF ?_)
      refine s.loadAll 4 rfl p.cells_len ?_
      repeat (first | with_reducible refine gs_tf ?_ | with_reducible refine gs_ft ?_ | with_reducible refine gs_u ?_ | with_reducible refine pick_ti ?_ | with_reducible refine pick_fi ?_ | with_reducible refine ⟨gs_tf ⟨rfl, rfl⟩, ?_⟩ | with_reducible refine ⟨gs_ft ⟨rfl, rfl⟩, ?_⟩ | with_reducible refine ⟨gs_u ⟨rfl, rfl⟩, ?_⟩ | with_reducible refine gs_t ?_ | with_reducible refine gs_f ?_ | with_reducible refine off_i ?_ | with_reducible refine cndT ?_ | with_reducible refine cndF ?_)
      refine s.loadAll 4 rfl p.cells_len ?_
      repeat (first | with_reducible refine gs_tf ?_ | with_reducible refine gs_ft ?_ | with_reducible refine gs_u ?_ | with_reducible refine pick_ti ?_ | with_reducible refine pick_fi ?_ | with_reducible refine ⟨gs_tf ⟨rfl, rfl⟩, ?_⟩ | with_reducible refine ⟨gs_ft ⟨rfl, rfl⟩, ?_⟩ | with_reducible refine ⟨gs_u ⟨rfl, rfl⟩, ?_⟩ | with_reducible refine gs_t ?_ | with_reducible refine gs_f ?_ | with_reducible refine off_i ?_ | with_reducible refine cndT ?_ | with_reducible refine cndF ?_)
      refine fnW_of (by kernel_rfl) (clone_c p (s.rd (rT p) (by simp)) (by omega) fun p2 w25 he hok _ e => ?_)
      have s := (s.ext0 e)
      refine ⟨gs_t (s.loadAll 4 rfl p.cells_len ⟨rfl, rfl⟩), ?_⟩
      repeat (first | with_reducible refine gs_tf ?_ | with_reducible refine gs_ft ?_ | with_reducible refine gs_u ?_ | with_reducible refine pick_ti ?_ | with_reducible refine pick_fi ?_ | with_reducible refine ⟨gs_tf ⟨rfl, rfl⟩, ?_⟩ | with_reducible refine ⟨gs_ft ⟨rfl, rfl⟩, ?_⟩ | with_reducible refine ⟨gs_u ⟨rfl, rfl⟩, ?_⟩ | with_reducible refine gs_t ?_ | with_reducible refine gs_f ?_ | with_reducible refine off_i ?_ | with_reducible refine cndT ?_ | with_reducible refine cndF ?_)
      refine fnW_of (by kernel_rfl) (tsame_c p p2 (s.rd (rT p) (by simp)) hok fun w26 e => ?_)
      have s := (s.ext0 e)
      rw [sameB_t he.symm]
      repeat (first | with_reducible refine gs_tf ?_ | with_reducible refine gs_ft ?_ | with_reducible refine gs_u ?_ | with_reducible refine pick_ti ?_ | with_reducible refine pick_fi ?_ | with_reducible refine ⟨gs_tf ⟨rfl, rfl⟩, ?_⟩ | with_reducible refine ⟨gs_ft ⟨rfl, rfl⟩, ?_⟩ | with_reducible refine ⟨gs_u ⟨rfl, rfl⟩, ?_⟩ | with_reducible refine gs_t ?_ | with_reducible refine gs_f ?_ | with_reducible refine off_i ?_ | with_reducible refine cndT ?_ | with_reducible refine cndF ?_)
      refine s.loadAll 4 rfl p.cells_len ?_
      repeat (first | with_reducible refine gs_tf ?_ | with_reducible refine gs_ft ?_ | with_reducible refine gs_u ?_ | with_reducible refine pick_ti ?_ | with_reducible refine pick_fi ?_ | with_reducible refine ⟨gs_tf ⟨rfl, rfl⟩, ?_⟩ | with_reducible refine ⟨gs_ft ⟨rfl, rfl⟩, ?_⟩ | with_reducible refine ⟨gs_u ⟨rfl, rfl⟩, ?_⟩ | with_reducible refine gs_t ?_ | with_reducible refine gs_f ?_ | with_reducible refine off_i ?_ | with_reducible refine cndT ?_ | with_reducible refine cndF ?_)
      refine fnW_of (by kernel_rfl) (uses_c (t := p) (s.rd (rT p) (by simp)) (hg' s) (by omega) fun w27 e => ?_)
      have s := (s.ext0 e)
      repeat (first | with_reducible refine gs_tf ?_ | with_reducible refine gs_ft ?_ | with_reducible refine gs_u ?_ | with_reducible refine pick_ti ?_ | with_reducible refine pick_fi ?_ | with_reducible refine ⟨gs_tf ⟨rfl, rfl⟩, ?_⟩ | with_reducible refine ⟨gs_ft ⟨rfl, rfl⟩, ?_⟩ | with_reducible refine ⟨gs_u ⟨rfl, rfl⟩, ?_⟩ | with_reducible refine gs_t ?_ | with_reducible refine gs_f ?_ | with_reducible refine off_i ?_ | with_reducible refine cndT ?_ | with_reducible refine cndF ?_)
      rw [hp, u_p, ieql, decide_eq_true rfl]
      repeat (first | with_reducible refine gs_tf ?_ | with_reducible refine gs_ft ?_ | with_reducible refine gs_u ?_ | with_reducible refine pick_ti ?_ | with_reducible refine pick_fi ?_ | with_reducible refine ⟨gs_tf ⟨rfl, rfl⟩, ?_⟩ | with_reducible refine ⟨gs_ft ⟨rfl, rfl⟩, ?_⟩ | with_reducible refine ⟨gs_u ⟨rfl, rfl⟩, ?_⟩ | with_reducible refine gs_t ?_ | with_reducible refine gs_f ?_ | with_reducible refine off_i ?_ | with_reducible refine cndT ?_ | with_reducible refine cndF ?_)
      have e27 := s.ext
      clear s
      refine bindV_i fun J163 h163 => ?_
      have tail163 : ∀ (x1 x2 x3 x4 cv sl : Value) (W : World), Ext [] w W → RdSl W cv 1 (svs [[97], [98]]) 2 → RdSl W sl 1 (svs [[97], [98]]) 2 → J163 x1 x2 x3 x4 cv sl W := by
        intro x1 x2 x3 x4 cv sl W e hc hs
        rw [h163]
        repeat (first | with_reducible refine gs_tf ?_ | with_reducible refine gs_ft ?_ | with_reducible refine gs_u ?_ | with_reducible refine pick_ti ?_ | with_reducible refine pick_fi ?_ | with_reducible refine ⟨gs_tf ⟨rfl, rfl⟩, ?_⟩ | with_reducible refine ⟨gs_ft ⟨rfl, rfl⟩, ?_⟩ | with_reducible refine ⟨gs_u ⟨rfl, rfl⟩, ?_⟩ | with_reducible refine gs_t ?_ | with_reducible refine gs_f ?_ | with_reducible refine off_i ?_ | with_reducible refine cndT ?_ | with_reducible refine cndF ?_)
        refine fnW_of (by kernel_rfl) (sameTexts_c (ps := [[97], [98]]) (qs := [[97], [98]]) hc hs (by decide) fun w28 e28 => ?_)
        rw [decide_eq_true rfl]
        repeat (first | with_reducible refine gs_tf ?_ | with_reducible refine gs_ft ?_ | with_reducible refine gs_u ?_ | with_reducible refine pick_ti ?_ | with_reducible refine pick_fi ?_ | with_reducible refine ⟨gs_tf ⟨rfl, rfl⟩, ?_⟩ | with_reducible refine ⟨gs_ft ⟨rfl, rfl⟩, ?_⟩ | with_reducible refine ⟨gs_u ⟨rfl, rfl⟩, ?_⟩ | with_reducible refine gs_t ?_ | with_reducible refine gs_f ?_ | with_reducible refine off_i ?_ | with_reducible refine cndT ?_ | with_reducible refine cndF ?_)
        exact hK _ (e.new e28)
      have s := (Sep.nil w).ext0 e27
      repeat' first
        | with_reducible refine gs_t ?_
        | (with_reducible show J163 _ _ _ _ _ _ _
           exact tail163 _ _ _ _ _ _ _ s.ext (s.rd (rR _ 1 (svs [[97], [98]]) 2) (by simp)) (OwnAt.rd (s.own (rOX _ [[97], [98]]) (by simp))))
        | (with_reducible show fnW _ 25 #[.string ⟨#[98]⟩] _ _
           refine s.con (b := [98]) (by decide) fun w5 s => ?_)
        | (with_reducible show fnW _ 25 #[.string ⟨#[97]⟩] _ _
           refine s.con (b := [97]) (by decide) fun w5 s => ?_)
        | (with_reducible show insW _ (Instr.buildSlice 25 _ _) _ _
           refine s.litT1 (leafV 4 0 [97]) fun vl w5 s => ?_)
        | (with_reducible show insW _ (Instr.buildSlice 52 _ _) _ _
           refine s.litX [[97], [98]] rfl rfl (by decide) fun sl w5 s => ?_
           have s := s.toBack)
        | (with_reducible show fnW _ 12 _ _ _
           refine s.apped (f := leafV 4 0 [98]) (ts := [leafV 4 0 [97]]) (by simp) (by decide) (OwnAt.rd (s.at 0 rfl)) (one_ok (s.rd (rT (leafV 4 0 [97])) (by simp))) (leaf1 (by decide)) (by decide) fun q w5 hq s => ?_
           have hqe : q.e = appT (.mk 4 0 [98] [] []) [.mk 4 0 [97] [] []] := by
             rw [hq, leaf_e]
             show appT _ [(leafV 4 0 [97]).e] = _
             rw [leaf_e])
        | (with_reducible show fnW _ 31 _ _ _
           refine fnW_of (by kernel_rfl) (consts_c (t := q) (s.rd (rT q) (by simp)) (by rw [size_of_e hqe rfl]; decide) fun cv w5 hcv hfc e => ?_)
           rw [hqe, c_ba] at hcv
           have s := s.addN (T := rR cv 1 (svs [[97], [98]]) 2) hcv.rd e (fun b hb => hfc b (rdB_slB' (ys := svs [[97], [98]]) b hb)))
        | with_reducible refine ⟨?_, ?_⟩
    repeat' first
      | (with_reducible show J29 _ _ _ _ _ _ _ _ _ _
         exact tail29 _ _ _ _ _ _ _ _ _ _ _ _ _ hh hus s)
      | (with_reducible show (loadW _ _ _ _) ∧ _
         first
           | refine ⟨s.loadAll 0 rfl rfl ⟨rfl, rfl⟩, ?_⟩
           | refine ⟨s.loadAll 1 rfl rfl ⟨rfl, rfl⟩, ?_⟩)
      | (with_reducible show fnW _ 25 _ _ _
         refine s.con (b := [102]) (by decide) fun w5 s => ?_)
      | (with_reducible show fnW _ 24 _ _ _
         refine s.var (n := 2) ⟨by decide, by decide⟩ fun w5 s => ?_)
      | (with_reducible show insW _ (Instr.buildSlice 25 _ _) _ _
         refine s.litT2 propV (leafV 1 2 []) fun vl w5 s => ?_)
      | (with_reducible show fnW _ 12 _ _ _
         refine s.apped (f := leafV 4 0 [102]) (ts := [propV, leafV 1 2 []]) (by simp) (by decide) (OwnAt.rd (s.at 0 rfl)) (two_ok (s.rd (rT propV) (by simp)) (s.rd (rT (leafV 1 2 [])) (by simp))) (leaf2 (by decide) (by decide)) (by decide) fun a w5 ha s => ?_
         have hae : a.e = appT (.mk 4 0 [102] [] []) [.mk 2 0 [] [] [], .mk 1 2 [] [] []] := by
           rw [ha, leaf_e]
           show appT _ [(leafV 2 0 []).e, (leafV 1 2 []).e] = _
           rw [leaf_e, leaf_e])
      | (with_reducible show fnW _ 17 _ _ _
         refine s.spined (by simp) (by rw [size_of_e hae rfl]; decide) fun h us y w5 hh hus _ s => ?_
         rw [hae] at hh hus
         replace hh : h.e = .mk 4 0 [102] [] [] := hh
         replace hus : us.length = 2 := by
           have := congrArg List.length hus
           rw [List.length_map] at this
           exact this
         rw [extr0, extr1])
      | (with_reducible show allocW _ _ _ _
         refine s.alloc zero_term rfl fun b5 w5 s _ => ?_
         have s := s.toBack)
      | with_reducible refine ⟨?_, ?_⟩
  repeat' first
    | (with_reducible show J7 _ _ _ _ _ _
       exact tail7 _ _ _ _ _ _ _ hp s)
    | (with_reducible show (loadW _ _ _ _) ∧ _
       first
         | refine ⟨s.loadAll 0 rfl rfl ⟨rfl, rfl⟩, ?_⟩
         | refine ⟨s.loadAll 1 rfl rfl ⟨rfl, rfl⟩, ?_⟩)
    | (with_reducible show fnW _ 24 #[.int .i64 1] _ _
       refine s.var (n := 1) ⟨by decide, by decide⟩ fun w5 s => ?_)
    | (with_reducible show fnW _ 24 #[.int .i64 0] _ _
       refine s.var (n := 0) ⟨by decide, by decide⟩ fun w5 s => ?_)
    | (with_reducible show insW _ (Instr.buildSlice 25 _ _) _ _
       refine s.litT2 propV (leafV 1 0 []) fun vl w5 s => ?_)
    | (with_reducible show fnW _ 13 _ _ _
       refine s.bound (kd := 7) (f := leafV 1 1 []) (ts := [propV, leafV 1 0 []]) ⟨by decide, by decide⟩ (by simp) (by decide) (OwnAt.rd (s.at 0 rfl)) (two_ok (s.rd (rT propV) (by simp)) (s.rd (rT (leafV 1 0 [])) (by simp))) (leaf2 (by decide) (by decide)) (by decide) fun p w5 hp s => ?_
       replace hp : p.e = pE := by
         rw [hp, leaf_e]
         show bindT 7 _ [(leafV 2 0 []).e, (leafV 1 0 []).e] = _
         rw [leaf_e, leaf_e]
         rfl)
    | (with_reducible show allocW _ _ _ _
       refine s.alloc zero_term rfl fun b2 w5 s _ => ?_
       have s := s.toBack)
    | with_reducible refine ⟨?_, ?_⟩
end Go.Proofs.YtbaddpnlokmldaaDoor
