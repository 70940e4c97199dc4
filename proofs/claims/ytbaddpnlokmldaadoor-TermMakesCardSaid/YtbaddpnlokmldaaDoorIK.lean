/- slices of texts, sorted and made compact; term.Consts: walk. Conditions: at most 3000 nodes. -/
import Derived.Test.YtbaddpnlokmldaaDoorIJ
import Derived.Shelf.Slices.In.SortNone
namespace Go.Proofs.YtbaddpnlokmldaaDoor
open Go
set_option maxRecDepth 100000

theorem cells_put (cs : List Value) (o : Nat) (d : List Bytes) (h : o + d.length ≤ cs.length) : Sort.putCells encStr o d.toArray cs.toArray = (lspl cs o (svs d)).toArray := by
  apply Array.ext_getElem?
  intro k
  unfold Sort.putCells
  rw [Array.getElem?_mapIdx, List.getElem?_toArray, List.getElem?_toArray, lspl_at _ _ _ _ (by rw [List.length_map]; exact h), List.length_map]
  simp only [List.size_toArray]
  by_cases h1 : k < o
  · rw [if_pos h1]
    cases cs[k]? with
    | none => rfl
    | some x => simp; omega
  · rw [if_neg h1]
    by_cases h2 : k < o + d.length
    · rw [if_pos h2, List.getElem?_eq_getElem (show k < cs.length by omega)]
      have h3 : k - o < d.length := by omega
      simp only [Option.map_some]
      rw [if_pos ⟨by omega, h2⟩, List.getElem?_map, List.getElem?_eq_getElem h3]
      simp [h3]
      rfl
    · rw [if_neg h2]
      cases cs[k]? with
      | none => rfl
      | some x => simp; omega
theorem put_block {w : World} {b o n : Nat} {cs : List Value} {t : TypeId} {d : List Bytes} {os : Array Obj} (hb : Blk w b cs t) (h : o + d.length ≤ cs.length) : Blk (Sort.grow (Sort.putRow encStr (Sort.ahead w n) b o d.toArray) os) b (lspl cs o (svs d)) t ∧ Ext [b] w (Sort.grow (Sort.putRow encStr (Sort.ahead w n) b o d.toArray) os) := by
  have hlt := hb.lt
  have hm : (Sort.putRow encStr (Sort.ahead w n) b o d.toArray).heap = w.heap.modify b (Sort.onCells (Sort.putCells encStr o d.toArray)) := rfl
  have hsz : (w.heap.modify b (Sort.onCells (Sort.putCells encStr o d.toArray))).size = w.heap.size := by simp
  have hg : ∀ k, k < w.heap.size → (Sort.grow (Sort.putRow encStr (Sort.ahead w n) b o d.toArray) os).heap[k]? = if b = k then w.heap[k]?.map (Sort.onCells (Sort.putCells encStr o d.toArray)) else w.heap[k]? := by
    intro k hk
    show ((Sort.putRow encStr (Sort.ahead w n) b o d.toArray).heap ++ os)[k]? = _
    rw [hm, Array.getElem?_append_left (by rw [hsz]; exact hk), Array.getElem?_modify]
  refine ⟨?_, rfl, rfl, rfl, ?_, fun k hk hn => ?_⟩
  · unfold Blk at hb ⊢
    rw [hg b hlt, if_pos rfl, hb]
    simp only [Option.map_some, Sort.onCells]
    rw [cells_put cs o d h]
  · show w.heap.size ≤ ((Sort.putRow encStr (Sort.ahead w n) b o d.toArray).heap ++ os).size
    rw [hm, Array.size_append, hsz]
    omega
  · rw [hg k hk, if_neg (fun e => hn (by simp [e]))]

section
variable {S : List Nat} {w0 w : World} {L R : List Res} {K : VPost}
theorem own_texts {w : World} {v : Value} {ss : List Bytes} (h : OwnAt w v 9 1 (svs ss) ss.length) (hne : ss ≠ []) : ∃ b o c cs, v = .slice (some ⟨b, o, none⟩) ss.length c ∧ Blk w b cs 9 ∧ (cs.drop o).take ss.length = svs ss ∧ o + c ≤ cs.length ∧ ss.length ≤ c := by
  rcases h with ⟨_, h1, _⟩ | ⟨b, o, c, cs, h1, h2, h3, h4, h5, h6⟩
  · exact absurd (List.length_eq_zero_iff.1 h1) hne
  · exact ⟨b, o, c, cs, h1, h2, by rw [Nat.mul_one] at h4; exact h4, by rw [Nat.mul_one] at h5; exact h5, h6⟩
theorem holds_texts {w : World} {b o c : Nat} {cs : List Value} {ss : List Bytes} {t : TypeId} (hb : Blk w b cs t) (h : (cs.drop o).take ss.length = svs ss) (hc : o + c ≤ cs.length) (hn : ss.length ≤ c) : Sort.Holds encStr w b o ss.toArray := by
  intro j hj
  have hj : j < ss.length := hj
  have hv : cs[o + j]? = some (sv ss[j]) := by
    have := congrArg (·[j]?) h
    simp only [List.getElem?_take, hj, if_true, List.getElem?_drop] at this
    rw [this]
    simp [hj]
  refine ⟨?_, ?_⟩
  · unfold World.cell?
    rw [hb]
    simp [hv, hj]
    rfl
  · unfold World.frozen?
    rw [hb]
    simp
def sortX (ss : List Bytes) : List Bytes := ss.mergeSort fun x y => decide (x ≤ y)
theorem sortX_len (ss : List Bytes) : (sortX ss).length = ss.length := by unfold sortX; simp
theorem Sep.sortTexts {v : Value} {ss : List Bytes} (s : Sep S w0 w L R) (i : Nat) (hL : L[i]? = some (rOX v ss)) (hn : ss.length < 2 ^ 50) (h : ∀ w', Sep S w0 w' (L.set i (rOX v (sortX ss))) R → K (.tuple #[]) w') : fnW Tryd.prog 49 #[v] w K := by
  have ho : OwnAt w v 9 1 (svs ss) ss.length := s.at i hL
  by_cases hne : ss = []
  · subst hne
    obtain ⟨a, c, rfl⟩ := ho.rd.len
    have hs := Any.slices_Sort_string_none lays190 a c w
    refine fnW_of (by kernel_rfl) (hs.mono fun e w' he => ?_)
    obtain ⟨rfl, rfl⟩ := he
    refine retK_i ?_
    have e0 : sortX [] = [] := by unfold sortX; simp
    refine h w' (s.upd i hL (T' := rOX _ (sortX [])) ?_ (Ext.refl _ _) (fun b hb => .inl hb))
    rw [e0]
    exact ho
  · obtain ⟨b, o, c, cs, rfl, hb, ht, hc, hcl⟩ := own_texts ho hne
    have hs := slices_Sort_string b o c ss w (holds_texts hb ht hc hcl) hb.lt (by omega)
    refine fnW_of (by kernel_rfl) (hs.mono fun e w' he => ?_)
    obtain ⟨rfl, n, os, rfl⟩ := he
    refine retK_i ?_
    have hl : (sortX ss).length = ss.length := sortX_len ss
    obtain ⟨h1, h2⟩ := put_block (o := o) (n := n) (os := os) (d := sortX ss) hb (by rw [hl]; omega)
    refine h _ (s.upd i hL (T' := rOX _ (sortX ss)) ?_ h2 (fun b hb => .inl hb))
    refine .inr ⟨b, o, c, _, by rw [hl], h1, by rw [List.length_map, Nat.mul_one], ?_, ?_, by omega⟩
    · apply List.ext_getElem?
      intro j
      rw [Nat.mul_one, List.getElem?_take, List.getElem?_drop, lspl_at _ _ _ _ (by rw [List.length_map, hl]; omega), List.length_map]
      by_cases hj : j < (sortX ss).length
      · rw [if_pos hj, if_neg (by omega), if_pos (by omega), show o + j - o = j by omega]
      · rw [if_neg hj, List.getElem?_eq_none]
        rw [List.length_map]; omega
    · rw [lspl_len _ _ _ (by rw [List.length_map, hl]; omega)]
      omega
theorem Sep.compactTexts {v : Value} {ss : List Bytes} (s : Sep S w0 w L R) (i : Nat) (hL : L[i]? = some (rOX v ss)) (hn : ss.length < 2 ^ 50) (hle : (Lib.compact ss).length ≤ ss.length) (h : ∀ v' w', Sep S w0 w' (L.set i (rOX v' (Lib.compact ss))) R → K v' w') : fnW Tryd.prog 50 #[v] w K := by
  have ho : OwnAt w v 9 1 (svs ss) ss.length := s.at i hL
  by_cases hne : ss = []
  · subst hne
    obtain ⟨a, c, rfl⟩ := ho.rd.len
    have hs := Any.slices_Compact_string_empty lays194 a c w
    refine fnW_of (by kernel_rfl) (hs.mono fun e w' he => ?_)
    obtain ⟨rfl, rfl⟩ := he
    refine retK_i ?_
    have e0 : Lib.compact ([] : List Bytes) = [] := rfl
    refine h _ w' (s.upd i hL (T' := rOX _ (Lib.compact [])) ?_ (Ext.refl _ _) (fun b hb => .inl hb))
    rw [e0]
    exact ho
  · obtain ⟨b, o, c, cs, rfl, hb, ht, hc, hcl⟩ := own_texts ho hne
    have hs := slices_Compact_string b o c ss w (holds_texts hb ht hc hcl) (by omega) hcl
    refine fnW_of (by kernel_rfl) (hs.mono fun e w' he => ?_)
    obtain ⟨rfl, n, rfl⟩ := he
    refine retK_i ?_
    have hl : (Lib.compact ss ++ List.replicate (ss.length - (Lib.compact ss).length) []).length = ss.length := by
      rw [List.length_append, List.length_replicate]; omega
    obtain ⟨h1, h2⟩ := put_block (o := o) (n := n) (os := #[]) (d := Lib.compact ss ++ List.replicate (ss.length - (Lib.compact ss).length) []) hb (by rw [hl]; omega)
    rw [Sort.grow_empty] at h1 h2
    refine h _ _ (s.upd i hL (T' := rOX _ (Lib.compact ss)) ?_ h2 (fun b hb => .inl hb))
    refine .inr ⟨b, o, c, _, rfl, h1, by rw [List.length_map, Nat.mul_one], ?_, ?_, by omega⟩
    · apply List.ext_getElem?
      intro j
      rw [Nat.mul_one, List.getElem?_take, List.getElem?_drop, lspl_at _ _ _ _ (by rw [List.length_map, hl]; omega), List.length_map]
      by_cases hj : j < (Lib.compact ss).length
      · rw [if_pos hj, if_neg (by omega), if_pos (by omega), show o + j - o = j by omega, List.getElem?_map, List.getElem?_map, List.getElem?_append_left hj]
      · rw [if_neg hj, List.getElem?_eq_none]
        rw [List.length_map]; omega
    · rw [lspl_len _ _ _ (by rw [List.length_map, hl]; omega)]
      omega
end
theorem compact_len (ss : List Bytes) : (Lib.compact ss).length ≤ ss.length := by
  unfold Lib.compact Lib.compactUpTo
  rw [List.length_map]
  refine Nat.le_trans (List.length_filter_le _ _) ?_
  rw [List.length_range]; exact Nat.le_refl _
/-- The names that stand in nodes. -/
def nameS (x : TM × Nat) : Bool := decide (x.1.k = 4 ∨ x.1.k = 9)
def namesL (l : List (TM × Nat)) : List Bytes := (l.filter nameS).map (·.1.s)
def constsL (t : TM) : List Bytes := Lib.compact (sortX (namesL (t.nodesL 0)))
abbrev namesV (l : List (TV × Nat)) : List Bytes := namesL (l.map eN)
theorem namesV_snoc (l : List (TV × Nat)) (x : TV × Nat) : namesV (l ++ [x]) = namesV l ++ if nameS (eN x) then [(eN x).1.s] else [] := by
  unfold namesV namesL
  rw [List.map_append, List.filter_append, List.map_append]
  congr 1
  show (List.filter nameS [eN x]).map _ = _
  cases h : nameS (eN x) <;> simp [h]
theorem eN_s (x : TV × Nat) : (eN x).1.s = x.1.s := by
  show x.1.e.s = _
  rw [TV.e_eq]; rfl
theorem namesV_le (l : List (TV × Nat)) : (namesV l).length ≤ l.length := by
  unfold namesV namesL
  rw [List.length_map]
  refine Nat.le_trans (List.length_filter_le _ _) ?_
  rw [List.length_map]; exact Nat.le_refl _
theorem zero_texts : zeroO Tryd.prog 52 = some (.slice none 0 0) := by kernel_rfl
set_option maxHeartbeats 800000 in
theorem consts_c {w : World} {K : VPost} {t : TV} (h : t.ok w) (hsz : t.size ≤ 3000) (hK : ∀ v w', OwnAt w' v 9 1 (svs (constsL t.e)) (constsL t.e).length → (∀ b ∈ slB v, w.heap.size ≤ b) → Ext [] w w' → K v w') : Calls Tryd.prog 31 #[t.v] w (retK K) := by
  refine c31_calls _ w K ?_
  unfold c31
  refine TV.box h fun b w1 s => ?_
  refine s.alloc zero_texts rfl fun bo w2 s _ => ?_
  have s : Sep [] w w2 (rB bo [.slice none 0 0] 52 :: rB b t.cells 27 :: []) (rT t :: []) := s
  refine s.loadAll 1 rfl t.cells_len ?_
  refine fnW_of (by kernel_rfl) (c41_calls _ _ _ ?_)
  unfold c41
  refine s.box fun bt w5 s _ => ?_
  refine mkfunc_i ?_
  have s : Sep [] w w5 (rB bt t.cells 27 :: rB bo [.slice none 0 0] 52 :: rB b t.cells 27 :: []) (rT t :: []) := s
  have s := (s.add (T := rOX (.slice none 0 0) []) (.inl ⟨rfl, rfl, rfl⟩) (Ext.refl _ _) (by simp [rO, slB])).swap
  refine rangeNodes_i (t := t) (Q := fun p L => ∃ v, L = rOX v (namesV p) :: rB bo [v] 52 :: rB b t.cells 27 :: []) (by simp) hsz s ⟨_, rfl⟩ ?_ ?_
  · rintro l D rdy bsy dn x p rest hx M _ W K' ⟨v, rfl⟩ s hK'
    have hxm := mem_mid hx
    have hps : (namesV p).length ≤ 3000 := by
      have h1 := namesV_le p
      have h2 := len_wtS (p ++ [x])
      have h3 := wtS_le hx
      simp only [List.length_append, List.length_singleton] at h2
      omega
    rw [namesV_snoc] at hK'
    obtain ⟨⟨k, n, nm, ls, lv, av, args⟩, dx⟩ := x
    have hok : TV.ok W (TV.mk k n nm ls lv av args) := s.rat 0 rfl
    refine s.alloc zero_term rfl fun q w6 s _ => ?_
    show storeW _ _ (TV.mk k n nm ls lv av args).v w6 _
    refine s.storeAll (vs := [iv k, iv n, sv nm, lv, av]) 0 rfl rfl rfl (TV.one hok) fun w7 s _ => ?_
    have s : Sep [] w w7 (rB q [iv k, iv n, sv nm, lv, av] 27 :: rX l rdy :: rX D dfr :: rOX v (namesV p) :: rB bo [v] 52 :: rB b t.cells 27 :: M) (rT (TV.mk k n nm ls lv av args) :: rT t :: []) := s
    refine ⟨s.at 1 rfl, s.at 2 rfl, ?_⟩
    have s := s.swap.putX bsy
    have hde : nameS (eN (TV.mk k n nm ls lv av args, dx)) = decide (k = 4 ∨ k = 9) := by
      unfold nameS
      rw [eN_k]; rfl
    have hs0 : (eN (TV.mk k n nm ls lv av args, dx)).1.s = nm := eN_s _
    rw [hde, hs0] at hK'
    have yes : ∀ (W : World), (k = 4 ∨ k = 9) → Sep [] w W (rX l bsy :: rB q [iv k, iv n, sv nm, lv, av] 27 :: rX D dfr :: rOX v (namesV p) :: rB bo [v] 52 :: rB b t.cells 27 :: M) (rT (TV.mk k n nm ls lv av args) :: rT t :: []) →
        loadW (some (false, 1)) (.pointer (some ⟨bo, 0, none⟩)) W fun t17_31 w32 => offW (some 2) (.pointer (some ⟨q, 0, none⟩)) w32 fun t18_33 w34 => loadW (some (false, 1)) t18_33 w34 fun t19_35 w36 => insW Tryd.prog (Instr.buildSlice 52 1 #[(0, t19_35)]) w36 fun t20_37 w38 => insW Tryd.prog (Builtin.append_ #[52, 52] 52 #[t17_31, t20_37]) w38 fun t21_39 w40 => storeW (some (false, 1)) (.pointer (some ⟨bo, 0, none⟩)) t21_39 w40 fun w41 => w41.heap[l]? = some bsy ∧ w41.heap[D]? = some dfr ∧ K' true (w41.putObj l rdy) := by
      intro W hk s
      refine s.load1 (v := v) 4 rfl rfl ?_
      repeat (first | with_reducible refine gs_tf ?_ | with_reducible refine gs_ft ?_ | with_reducible refine gs_u ?_ | with_reducible refine pick_ti ?_ | with_reducible refine pick_fi ?_ | with_reducible refine ⟨gs_tf ⟨rfl, rfl⟩, ?_⟩ | with_reducible refine ⟨gs_ft ⟨rfl, rfl⟩, ?_⟩ | with_reducible refine ⟨gs_u ⟨rfl, rfl⟩, ?_⟩ | with_reducible refine gs_t ?_ | with_reducible refine gs_f ?_ | with_reducible refine off_i ?_ | with_reducible refine cndT ?_ | with_reducible refine cndF ?_ | (with_reducible show loadW _ _ _ _; first | refine s.load1 0 rfl rfl ?_ | refine s.load1 1 rfl rfl ?_ | refine s.load1 2 rfl rfl ?_ | refine s.load1 3 rfl rfl ?_ | refine s.load1 4 rfl rfl ?_ | refine s.load1 5 rfl rfl ?_))
      refine s.litX [nm] rfl rfl (by simp) fun vl w8 s => ?_
      refine s.apX (v := v) (ss := namesV p) (us := [nm]) 4 rfl (OwnAt.rd (s.at 0 rfl)) (by simp; omega) fun v2 w9 s => ?_
      have s := s.drop 0
      have hv2 : RdSl w9 v2 1 (svs (namesV p ++ [nm])) (namesV p ++ [nm]).length := OwnAt.rd (s.at 3 rfl)
      refine s.store1 4 rfl (slice_one hv2).2 (by show 0 < 1; decide) (slice_one hv2).1 fun w10 s _ => ?_
      refine ⟨s.at 0 rfl, s.at 2 rfl, ?_⟩
      have s := (s.putX rdy).drop 1
      rw [decide_eq_true hk, if_pos rfl] at hK'
      exact hK' _ _ ⟨v2, rfl⟩ (s.less (fun T hT => by simp only [List.mem_cons, List.not_mem_nil, or_false] at hT ⊢; exact .inr hT))
    refine bindX_i fun J0 g0 => ?_
    repeat (first | with_reducible refine gs_tf ?_ | with_reducible refine gs_ft ?_ | with_reducible refine gs_u ?_ | with_reducible refine pick_ti ?_ | with_reducible refine pick_fi ?_ | with_reducible refine ⟨gs_tf ⟨rfl, rfl⟩, ?_⟩ | with_reducible refine ⟨gs_ft ⟨rfl, rfl⟩, ?_⟩ | with_reducible refine ⟨gs_u ⟨rfl, rfl⟩, ?_⟩ | with_reducible refine gs_t ?_ | with_reducible refine gs_f ?_ | with_reducible refine off_i ?_ | with_reducible refine cndT ?_ | with_reducible refine cndF ?_ | (with_reducible show loadW _ _ _ _; first | refine s.load1 0 rfl rfl ?_ | refine s.load1 1 rfl rfl ?_ | refine s.load1 2 rfl rfl ?_ | refine s.load1 3 rfl rfl ?_ | refine s.load1 4 rfl rfl ?_ | refine s.load1 5 rfl rfl ?_))
    rw [ieql]
    by_cases h4 : k = 4
    · rw [decide_eq_true h4]
      repeat (first | with_reducible refine gs_tf ?_ | with_reducible refine gs_ft ?_ | with_reducible refine gs_u ?_ | with_reducible refine pick_ti ?_ | with_reducible refine pick_fi ?_ | with_reducible refine ⟨gs_tf ⟨rfl, rfl⟩, ?_⟩ | with_reducible refine ⟨gs_ft ⟨rfl, rfl⟩, ?_⟩ | with_reducible refine ⟨gs_u ⟨rfl, rfl⟩, ?_⟩ | with_reducible refine gs_t ?_ | with_reducible refine gs_f ?_ | with_reducible refine off_i ?_ | with_reducible refine cndT ?_ | with_reducible refine cndF ?_)
      exact yes _ (.inl h4) s
    · rw [decide_eq_false h4]
      repeat (first | with_reducible refine gs_tf ?_ | with_reducible refine gs_ft ?_ | with_reducible refine gs_u ?_ | with_reducible refine pick_ti ?_ | with_reducible refine pick_fi ?_ | with_reducible refine ⟨gs_tf ⟨rfl, rfl⟩, ?_⟩ | with_reducible refine ⟨gs_ft ⟨rfl, rfl⟩, ?_⟩ | with_reducible refine ⟨gs_u ⟨rfl, rfl⟩, ?_⟩ | with_reducible refine gs_t ?_ | with_reducible refine gs_f ?_ | with_reducible refine off_i ?_ | with_reducible refine cndT ?_ | with_reducible refine cndF ?_ | (with_reducible show loadW _ _ _ _; first | refine s.load1 0 rfl rfl ?_ | refine s.load1 1 rfl rfl ?_ | refine s.load1 2 rfl rfl ?_ | refine s.load1 3 rfl rfl ?_ | refine s.load1 4 rfl rfl ?_ | refine s.load1 5 rfl rfl ?_))
      rw [ieql]
      repeat (first | with_reducible refine gs_tf ?_ | with_reducible refine gs_ft ?_ | with_reducible refine gs_u ?_ | with_reducible refine pick_ti ?_ | with_reducible refine pick_fi ?_ | with_reducible refine ⟨gs_tf ⟨rfl, rfl⟩, ?_⟩ | with_reducible refine ⟨gs_ft ⟨rfl, rfl⟩, ?_⟩ | with_reducible refine ⟨gs_u ⟨rfl, rfl⟩, ?_⟩ | with_reducible refine gs_t ?_ | with_reducible refine gs_f ?_ | with_reducible refine off_i ?_ | with_reducible refine cndT ?_ | with_reducible refine cndF ?_)
      refine cond_d (fun h9 => ?_) (fun h9 => ?_)
      · exact yes _ (.inr h9) s
      · refine ⟨s.at 0 rfl, s.at 2 rfl, ?_⟩
        have s := (s.putX rdy).drop 1
        rw [decide_eq_false (by omega), if_neg (by decide), List.append_nil] at hK'
        exact hK' _ _ ⟨v, rfl⟩ (s.less (fun T hT => by simp only [List.mem_cons, List.not_mem_nil, or_false] at hT ⊢; exact .inr hT))
  · rintro l D ob M _ W ⟨v, rfl⟩ s
    have hlen : (namesV (t.nodesV 0)).length ≤ 3000 := by
      have h1 := namesV_le (t.nodesV 0)
      have h2 := len_wtS (t.nodesV 0)
      rw [wtS_nodes] at h2
      omega
    have hnames : namesV (t.nodesV 0) = namesL (t.e.nodesL 0) := by unfold namesV; rw [nodesV_e]
    refine s.load1 (v := v) 3 rfl rfl ?_
    refine s.sortTexts 2 rfl (by omega) fun w2 s => ?_
    have s : Sep [] w w2 (rX l ob :: rX D dfr :: rOX v (sortX (namesV (t.nodesV 0))) :: rB bo [v] 52 :: rB b t.cells 27 :: M) (rT t :: []) := s
    refine s.load1 (v := v) 3 rfl rfl ?_
    refine s.compactTexts 2 rfl (by rw [sortX_len]; omega) (compact_len _) fun v2 w3 s => ?_
    refine ⟨s.at 1 rfl, fun W8 hW8 => ?_⟩
    subst hW8
    have s := (s.drop 0).putX (.deferred none)
    rw [hnames] at s
    exact hK v2 _ (s.at 1 rfl) (s.fresh 1 rfl) s.ext
end Go.Proofs.YtbaddpnlokmldaaDoor
