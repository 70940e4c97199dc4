/- Terms put together: App, Bind (ref08, term): walks. Conditions: each at most 10^6 nodes. -/
import Derived.Test.YtbaddpnlokmldaaDoorI4
namespace Go.Proofs.YtbaddpnlokmldaaDoor
open Go
set_option maxRecDepth 100000

/-- A node of two Args, without more. -/
def nodeT (k : Int) (a b : TM) : TM := .mk k 0 [] [] [a, b]
def appT (f : TM) (l : List TM) : TM := l.foldl (fun o a => nodeT 5 o a) f
def bindT (k : Int) (b : TM) (l : List TM) : TM := l.foldr (fun a o => nodeT k a o) b
def nodeV (k : Int) (v : Value) (a b : TV) : TV := .mk k 0 [] [] (.slice none 0 0) v [a, b]
theorem nodeV_e (k : Int) (v : Value) (a b : TV) : (nodeV k v a b).e = nodeT k a.e b.e := by
  rw [TV.e_eq]; rfl
theorem appT_snoc (f : TM) (l : List TM) (a : TM) : appT f (l ++ [a]) = nodeT 5 (appT f l) a := by simp [appT]

section
variable {S : List Nat} {w0 w : World} {L R : List Res} {K : VPost}
/-- A node over two terms, one slice of which is one's own. -/
theorem Sep.mkNode {k : Int} {v : Value} {a b : TV} (s : Sep S w0 w (rOT v [a, b] :: L) R) (hk : i64ok k) (ha : rT a ∈ R) (hb : rT b ∈ R) : Sep S w0 w L (rT (nodeV k v a b) :: R) := by
  have o : OwnAt w v 27 5 (tcs [a, b]) 2 := s.at 0 rfl
  have s1 : Sep S w0 w L (rR v 5 (tcs [a, b]) 2 :: R) := s.freeze 0 rfl (T' := rR v 5 (tcs [a, b]) 2) o.rd (fun x hx => rdB_slB' x hx)
  have hargs : ∀ t ∈ (nodeV k v a b).args, t.ok w := by
    intro t ht
    have ht : t ∈ [a, b] := ht
    simp only [List.mem_cons, List.not_mem_nil, or_false] at ht
    rcases ht with rfl | rfl
    · exact s.rd (rT t) ha
    · exact s.rd (rT t) hb
  have hok : (nodeV k v a b).ok w := tok_iff.2 { k := hk, n := ⟨(by show (_ : Int) ≤ 0; decide), (by show (0 : Int) ≤ _; decide)⟩, s := (by show 0 < 2 ^ 60; decide), l := (by intro l hl; cases hl), ll := (by show 0 < 2 ^ 50; decide), al := (by show 2 < 2 ^ 50; decide), lr := ⟨rfl, .inl ⟨rfl, _, _, rfl⟩⟩, lc := rfl, ar := o.rd, ac := o.cap, a := hargs }
  have s2 : Sep S w0 w L (rT (nodeV k v a b) :: rR v 5 (tcs [a, b]) 2 :: R) := s1.addR (T := rT (nodeV k v a b)) hok fun U hU x hx hm => by
      have hm : x ∈ (nodeV k v a b).foot := hm
      rw [TV.foot_eq] at hm
      simp only [List.mem_append] at hm
      rcases hm with hm | hm | hm
      · simp [nodeV, TV.lv, TV.ls, rdB] at hm
      · exact s1.disR U hU (rR v 5 (tcs [a, b]) 2) (by simp) x hx hm
      · obtain ⟨t, ht, hm2⟩ := foots_mem.1 hm
        have ht : t ∈ [a, b] := ht
        simp only [List.mem_cons, List.not_mem_nil, or_false] at ht
        rcases ht with rfl | rfl
        · exact s1.disR U hU (rT t) (by simp [ha]) x hx hm2
        · exact s1.disR U hU (rT t) (by simp [hb]) x hx hm2
  exact s2.less (fun T hT => by
    rcases List.mem_cons.1 hT with rfl | hT
    · simp
    · simp [hT])
end
theorem nodeV_fresh {k : Int} {v : Value} {a b : TV} {m : Nat} (hv : ∀ x ∈ slB v, m ≤ x) (ha : ∀ x ∈ a.foot, m ≤ x) (hb : ∀ x ∈ b.foot, m ≤ x) : ∀ x ∈ (nodeV k v a b).foot, m ≤ x := by
  intro x hm
  rw [TV.foot_eq] at hm
  simp only [List.mem_append] at hm
  rcases hm with hm | hm | hm
  · simp [nodeV, TV.lv, TV.ls, rdB] at hm
  · exact hv x (rdB_slB' x hm)
  · obtain ⟨t, ht, hm2⟩ := foots_mem.1 hm
    have ht : t ∈ [a, b] := ht
    simp only [List.mem_cons, List.not_mem_nil, or_false] at ht
    rcases ht with rfl | rfl
    · exact ha x hm2
    · exact hb x hm2

theorem es_take {ts : List TV} {i : Nat} (hi : i < ts.length) : (ts.take (i + 1)).map TV.e = (ts.take i).map TV.e ++ [ts[i].e] := by
  rw [List.take_succ_eq_append_getElem hi, List.map_append]; rfl

set_option maxHeartbeats 400000 in
theorem rapp_c {w : World} {K : VPost} {f : TV} {x : Value} {ts : List TV} (hf : f.ok w) (hfs : f.size ≤ 1000000) (hx : RdSl w x 5 (tcs ts) ts.length) (hts : ∀ t ∈ ts, t.ok w) (hss : ∀ t ∈ ts, t.size ≤ 1000000) (hn : ts.length < 2 ^ 50)
    (hK : ∀ (o : TV) w', o.e = appT f.e (ts.map TV.e) → o.ok w' → (∀ b ∈ o.foot, w.heap.size ≤ b) → Ext [] w w' → K o.v w') : Calls Tryd.prog 15 #[f.v, x] w (retK K) := by
  refine c15_calls _ _ w K ?_
  unfold c15
  refine TV.box hf fun b w1 s => ?_
  refine s.alloc zero_term rfl fun r w2 s _ => ?_
  have s : Sep [] w w2 (rB r zT 27 :: rB b f.cells 27 :: []) (rT f :: []) := s
  refine s.loadAll 1 rfl f.cells_len ?_
  refine fnW_of (by kernel_rfl) (copy_c f (TV.keep s.ext hf) hfs fun f' w3 he hok hft e3 => ?_)
  have hft2 : ∀ b ∈ f'.foot, w.heap.size ≤ b := fun b hb => Nat.le_trans s.ext.size (hft b hb)
  have s := s.madeT hok e3 hft
  refine s.alloc zero_term rfl fun q w4 s _ => ?_
  refine s.storeAll (vs := f'.cells) 0 rfl f'.cells_len rfl (TV.one (s.rd (rT f') (by simp))) fun w5 s _ => ?_
  have s : Sep [] w w5 (rB q f'.cells 27 :: rB r zT 27 :: rB b f.cells 27 :: []) (rT f' :: []) := (s.less (fun T hT => by
    rw [List.mem_singleton] at hT
    subst hT; simp))
  refine bindX_i fun J0 g0 => bindX_i fun J1 g1 => bindX_i fun J2 g2 => ?_
  refine loop_i (fun m fr wr => ∃ (i : Nat) (o : TV), m = ts.length - i ∧ i ≤ ts.length ∧ fr 1 = x ∧ fr 4 = .pointer (some ⟨r, 0, none⟩) ∧ fr 5 = .pointer (some ⟨q, 0, none⟩) ∧ fr 6 = .int .i64 i ∧ o.e = appT f.e ((ts.take i).map TV.e) ∧ (∀ b ∈ o.foot, w.heap.size ≤ b) ∧
    Sep [] w wr (rB q o.cells 27 :: rB r zT 27 :: rB b f.cells 27 :: []) (rT o :: [])) ts.length ?_ ?_
  · exact ⟨0, f', rfl, by omega, rfl, rfl, rfl, rfl, he, hft2, s⟩
  · rintro m fr wr J ⟨i, o, rfl, hi, f1, f4, f5, f6, heq, hfr, s⟩ hJ hX
    rw [f1, f5, f6, hx.lenw]
    refine nlss (cond_d (fun hlt => ?_) (fun hlt => ?_))
    · have s := s.drew
      generalize wr.drew = wr at *
      refine s.loadAll 0 rfl o.cells_len ?_
      obtain ⟨b1, o1, hix1, hld1⟩ := (hx.keep s.ext (by simp)).term hlt .i64
      refine hix1 _ ?_
      refine hld1 _ ?_
      refine fnW_of (by kernel_rfl) (copy_c ts[i] (TV.keep s.ext (hts _ (List.getElem_mem hlt))) (hss _ (List.getElem_mem hlt)) fun a w6 hea hoka hfa e6 => ?_)
      have hfa2 : ∀ b ∈ a.foot, w.heap.size ≤ b := fun b hb => Nat.le_trans s.ext.size (hfa b hb)
      have s := s.madeT hoka e6 hfa
      refine ⟨s.loadAll 0 rfl o.cells_len ⟨rfl, rfl⟩, ?_⟩
      refine s.litT2 o a fun vl w7 s => ?_
      have hvl := s.fresh 0 rfl
      have o2 : OwnAt w7 vl 27 5 (tcs [o, a]) 2 := s.at 0 rfl
      have s := s.mkNode (k := 5) ⟨by decide, by decide⟩ (by simp) (by simp)
      refine build_i str_term (fill_node 5 (slice_one o2.rd).2) ?_
      refine s.storeAll (vs := (nodeV 5 vl o a).cells) 0 rfl rfl o.cells_len (TV.one (s.rd (rT (nodeV 5 vl o a)) (by simp))) fun w8 s _ => ?_
      refine nadd (y := 1) (by omega) ?_
      refine hJ (ts.length - (i + 1)) _ _ (by omega) ⟨i + 1, nodeV 5 vl o a, rfl, by omega, f1, f4, f5, rfl, ?_, nodeV_fresh hvl hfr hfa2, s.less (fun T hT => ?_)⟩
      · rw [es_take hlt, appT_snoc, nodeV_e, heq, hea]
      · rw [List.mem_singleton] at hT
        subst hT; simp
    · obtain rfl : i = ts.length := by omega
      rw [List.take_length] at heq
      refine hX _ _ _ (by simp) (g2 _ _ _ (blk_x (seq_n g1 ?_)))
      show loadW _ (fr 5) _ _
      rw [f5]
      refine s.loadAll 0 rfl o.cells_len ?_
      show storeW _ (fr 4) _ _ _
      rw [f4]
      refine s.storeAll (vs := o.cells) 1 rfl o.cells_len rfl (TV.one (s.rd (rT o) (by simp))) fun w8 s _ => ?_
      show loadW _ (fr 4) _ _
      rw [f4]
      refine s.loadAll 1 rfl o.cells_len ?_
      exact hK o w8 heq (s.rd (rT o) (by simp)) hfr s.ext

set_option maxHeartbeats 400000 in
theorem app_c {w : World} {K : VPost} {f : TV} {x : Value} {ts : List TV} (hf : f.ok w) (hfs : f.size ≤ 1000000) (hx : RdSl w x 5 (tcs ts) ts.length) (hts : ∀ t ∈ ts, t.ok w) (hss : ∀ t ∈ ts, t.size ≤ 1000000) (hn : ts.length < 2 ^ 50)
    (hK : ∀ (o : TV) w', o.e = appT f.e (ts.map TV.e) → o.ok w' → (∀ b ∈ o.foot, w.heap.size ≤ b) → Ext [] w w' → K o.v w') : Calls Tryd.prog 12 #[f.v, x] w (retK K) := by
  refine c12_calls _ _ w K ?_
  unfold c12
  refine TV.box hf fun b w1 s => ?_
  refine s.alloc zero_term rfl fun r w2 s _ => ?_
  have s : Sep [] w w2 (rB r zT 27 :: rB b f.cells 27 :: []) (rT f :: []) := s
  refine s.loadAll 1 rfl f.cells_len ?_
  refine fnW_of (by kernel_rfl) (clone_c f (TV.keep s.ext hf) hfs fun f' w3 he hok hft e3 => ?_)
  have hft2 : ∀ b ∈ f'.foot, w.heap.size ≤ b := fun b hb => Nat.le_trans s.ext.size (hft b hb)
  have s := s.madeT hok e3 hft
  refine s.alloc zero_term rfl fun q w4 s _ => ?_
  refine s.storeAll (vs := f'.cells) 0 rfl f'.cells_len rfl (TV.one (s.rd (rT f') (by simp))) fun w5 s _ => ?_
  have s : Sep [] w w5 (rB q f'.cells 27 :: rB r zT 27 :: rB b f.cells 27 :: []) (rT f' :: []) := (s.less (fun T hT => by
    rw [List.mem_singleton] at hT
    subst hT; simp))
  refine bindX_i fun J0 g0 => bindX_i fun J1 g1 => ?_
  rw [hx.lenw]
  refine bindX_i fun J2 g2 => ?_
  refine loop_i (fun m fr wr => ∃ (i : Nat) (o : TV), m = ts.length - i ∧ i ≤ ts.length ∧ fr 10 = x ∧ fr 11 = .int .i64 ts.length ∧ fr 4 = .pointer (some ⟨r, 0, none⟩) ∧ fr 5 = .pointer (some ⟨q, 0, none⟩) ∧ fr 12 = .int .i64 i ∧ o.e = appT f.e ((ts.take i).map TV.e) ∧ (∀ b ∈ o.foot, w.heap.size ≤ b) ∧
    Sep [] w wr (rB q o.cells 27 :: rB r zT 27 :: rB b f.cells 27 :: []) (rT o :: [])) ts.length ?_ ?_
  · exact ⟨0, f', rfl, by omega, rfl, rfl, rfl, rfl, rfl, he, hft2, s⟩
  · rintro m fr wr J ⟨i, o, rfl, hi, f10, f11, f4, f5, f12, heq, hfr, s⟩ hJ hX
    rw [f10, f11, f5, f12]
    refine nlss (cond_d (fun hlt => ?_) (fun hlt => ?_))
    · obtain ⟨b1, o1, hix1, hld1⟩ := (hx.keep s.ext (by simp)).term hlt .i64
      refine hix1 _ ?_
      refine hld1 _ ?_
      have hao : ts[i].ok wr := TV.keep s.ext (hts _ (List.getElem_mem hlt))
      refine s.alloc zero_term rfl fun p w2 s _ => ?_
      refine s.storeAll (vs := ts[i].cells) 0 rfl ts[i].cells_len rfl (TV.one hao) fun w3 s _ => ?_
      have s : Sep [] w w3 (rB p ts[i].cells 27 :: rB q o.cells 27 :: rB r zT 27 :: rB b f.cells 27 :: []) (rT o :: []) := s
      have s := s.drew
      generalize w3.drew = w3 at *
      refine s.loadAll 1 rfl o.cells_len ?_
      refine s.loadAll 0 rfl ts[i].cells_len ?_
      refine fnW_of (by kernel_rfl) (clone_c ts[i] (TV.keep s.ext (hts _ (List.getElem_mem hlt))) (hss _ (List.getElem_mem hlt)) fun a w6 hea hoka hfa e6 => ?_)
      have hfa2 : ∀ b ∈ a.foot, w.heap.size ≤ b := fun b hb => Nat.le_trans s.ext.size (hfa b hb)
      have s := (s.madeT hoka e6 hfa).drop 0
      have s : Sep [] w w6 (rB q o.cells 27 :: rB r zT 27 :: rB b f.cells 27 :: []) (rT a :: rT o :: []) := s
      refine ⟨s.loadAll 0 rfl o.cells_len ⟨rfl, rfl⟩, ?_⟩
      refine s.litT2 o a fun vl w7 s => ?_
      have hvl := s.fresh 0 rfl
      have o2 : OwnAt w7 vl 27 5 (tcs [o, a]) 2 := s.at 0 rfl
      have s := s.mkNode (k := 5) ⟨by decide, by decide⟩ (by simp) (by simp)
      refine build_i str_term (fill_node 5 (slice_one o2.rd).2) ?_
      refine s.storeAll (vs := (nodeV 5 vl o a).cells) 0 rfl rfl o.cells_len (TV.one (s.rd (rT (nodeV 5 vl o a)) (by simp))) fun w8 s _ => ?_
      refine nadd (y := 1) (by omega) ?_
      refine hJ (ts.length - (i + 1)) _ _ (by omega) ⟨i + 1, nodeV 5 vl o a, rfl, by omega, f10, f11, f4, f5, rfl, ?_, nodeV_fresh hvl hfr hfa2, s.less (fun T hT => ?_)⟩
      · rw [es_take hlt, appT_snoc, nodeV_e, heq, hea]
      · rw [List.mem_singleton] at hT
        subst hT; simp
    · obtain rfl : i = ts.length := by omega
      rw [List.take_length] at heq
      refine hX _ _ _ (by simp) (g2 _ _ _ (blk_x (seq_n g1 ?_)))
      show loadW _ (fr 5) _ _
      rw [f5]
      refine s.loadAll 0 rfl o.cells_len ?_
      show storeW _ (fr 4) _ _ _
      rw [f4]
      refine s.storeAll (vs := o.cells) 1 rfl o.cells_len rfl (TV.one (s.rd (rT o) (by simp))) fun w8 s _ => ?_
      show loadW _ (fr 4) _ _
      rw [f4]
      refine s.loadAll 1 rfl o.cells_len ?_
      exact hK o w8 heq (s.rd (rT o) (by simp)) hfr s.ext

theorem bindT_drop {k : Int} {b : TM} {ts : List TV} {q : Nat} (hq : q < ts.length) : bindT k b ((ts.drop q).map TV.e) = nodeT k ts[q].e (bindT k b ((ts.drop (q + 1)).map TV.e)) := by
  rw [List.drop_eq_getElem_cons hq, List.map_cons]; rfl

set_option maxHeartbeats 400000 in
theorem rbind_c {w : World} {K : VPost} {kd : Int} {f : TV} {x : Value} {ts : List TV} (hkd : i64ok kd) (hf : f.ok w) (hfs : f.size ≤ 1000000) (hx : RdSl w x 5 (tcs ts) ts.length) (hts : ∀ t ∈ ts, t.ok w) (hss : ∀ t ∈ ts, t.size ≤ 1000000) (hn : ts.length < 2 ^ 50)
    (hK : ∀ (o : TV) w', o.e = bindT kd f.e (ts.map TV.e) → o.ok w' → (∀ b ∈ o.foot, w.heap.size ≤ b) → Ext [] w w' → K o.v w') : Calls Tryd.prog 16 #[.int .i64 kd, f.v, x] w (retK K) := by
  refine c16_calls _ _ _ w K ?_
  unfold c16
  refine TV.box hf fun b w1 s => ?_
  refine s.alloc zero_term rfl fun r w2 s _ => ?_
  have s : Sep [] w w2 (rB r zT 27 :: rB b f.cells 27 :: []) (rT f :: []) := s
  refine s.loadAll 1 rfl f.cells_len ?_
  refine fnW_of (by kernel_rfl) (copy_c f (TV.keep s.ext hf) hfs fun f' w3 he hok hft e3 => ?_)
  have hft2 : ∀ b ∈ f'.foot, w.heap.size ≤ b := fun b hb => Nat.le_trans s.ext.size (hft b hb)
  have s := s.madeT hok e3 hft
  refine s.alloc zero_term rfl fun q w4 s _ => ?_
  refine s.storeAll (vs := f'.cells) 0 rfl f'.cells_len rfl (TV.one (s.rd (rT f') (by simp))) fun w5 s _ => ?_
  have s : Sep [] w w5 (rB q f'.cells 27 :: rB r zT 27 :: rB b f.cells 27 :: []) (rT f' :: []) := (s.less (fun T hT => by
    rw [List.mem_singleton] at hT
    subst hT; simp))
  refine bindX_i fun J0 g0 => bindX_i fun J1 g1 => ?_
  rw [hx.lenw]
  refine isub (by omega) ?_
  refine bindX_i fun J2 g2 => ?_
  refine loop_i (fun m fr wr => ∃ (i : Nat) (o : TV), m = i ∧ i ≤ ts.length ∧ fr 0 = .int .i64 kd ∧ fr 2 = x ∧ fr 6 = .pointer (some ⟨r, 0, none⟩) ∧ fr 7 = .pointer (some ⟨q, 0, none⟩) ∧ fr 8 = .int .i64 ((i : Int) - 1) ∧ o.e = bindT kd f.e ((ts.drop i).map TV.e) ∧ (∀ b ∈ o.foot, w.heap.size ≤ b) ∧
    Sep [] w wr (rB q o.cells 27 :: rB r zT 27 :: rB b f.cells 27 :: []) (rT o :: [])) ts.length ?_ ?_
  · exact ⟨ts.length, f', rfl, Nat.le_refl _, rfl, rfl, rfl, rfl, rfl, by rw [List.drop_length]; exact he, hft2, s⟩
  · rintro m fr wr J ⟨i, o, rfl, hi, f0, f2, f6, f7, f8, heq, hfr, s⟩ hJ hX
    rw [f0, f2, f7, f8, igeq]
    refine cond_d (fun hlt => ?_) (fun hlt => ?_)
    · obtain ⟨i, rfl⟩ : ∃ j, m = j + 1 := ⟨m - 1, by omega⟩
      have hlt : i < ts.length := by omega
      have hi1 : ((i + 1 : Nat) : Int) - 1 = (i : Int) := by omega
      rw [hi1]
      have s := s.drew
      generalize wr.drew = wr at *
      obtain ⟨b1, o1, hix1, hld1⟩ := (hx.keep s.ext (by simp)).term hlt .i64
      refine hix1 _ ?_
      refine hld1 _ ?_
      refine s.loadAll 0 rfl o.cells_len ?_
      refine fnW_of (by kernel_rfl) (copy_c ts[i] (TV.keep s.ext (hts _ (List.getElem_mem hlt))) (hss _ (List.getElem_mem hlt)) fun a w6 hea hoka hfa e6 => ?_)
      have hfa2 : ∀ b ∈ a.foot, w.heap.size ≤ b := fun b hb => Nat.le_trans s.ext.size (hfa b hb)
      have s := s.madeT hoka e6 hfa
      refine ⟨s.loadAll 0 rfl o.cells_len ⟨rfl, rfl⟩, ?_⟩
      refine s.litT2 a o fun vl w7 s => ?_
      have hvl := s.fresh 0 rfl
      have o2 : OwnAt w7 vl 27 5 (tcs [a, o]) 2 := s.at 0 rfl
      have s := s.mkNode (k := kd) hkd (by simp) (by simp)
      refine build_i str_term (fill_node kd (slice_one o2.rd).2) ?_
      refine s.storeAll (vs := (nodeV kd vl a o).cells) 0 rfl rfl o.cells_len (TV.one (s.rd (rT (nodeV kd vl a o)) (by simp))) fun w8 s _ => ?_
      refine isub (by omega) ?_
      refine hJ i _ _ (by omega) ⟨i, nodeV kd vl a o, rfl, by omega, f0, f2, f6, f7, rfl, ?_, nodeV_fresh hvl hfa2 hfr, s.less (fun T hT => ?_)⟩
      · rw [bindT_drop hlt, nodeV_e, heq, hea]
      · rw [List.mem_singleton] at hT
        subst hT; simp
    · obtain rfl : m = 0 := by omega
      rw [List.drop_zero] at heq
      refine hX _ _ _ (by simp) (g2 _ _ _ (blk_x (seq_n g1 ?_)))
      show loadW _ (fr 7) _ _
      rw [f7]
      refine s.loadAll 0 rfl o.cells_len ?_
      show storeW _ (fr 6) _ _ _
      rw [f6]
      refine s.storeAll (vs := o.cells) 1 rfl o.cells_len rfl (TV.one (s.rd (rT o) (by simp))) fun w8 s _ => ?_
      show loadW _ (fr 6) _ _
      rw [f6]
      refine s.loadAll 1 rfl o.cells_len ?_
      exact hK o w8 heq (s.rd (rT o) (by simp)) hfr s.ext
end Go.Proofs.YtbaddpnlokmldaaDoor
