/- Terms made: literal and appended slices of them; ref00's CopyTerm, term.Clone: walks. Condition: at most 10^6 nodes. -/
import Derived.Test.YtbaddpnlokmldaaDoorI1
import Derived.Test.YtbaddpnlokmldaaDoorCI
import Derived.Test.YtbaddpnlokmldaaDoorCK
namespace Go.Proofs.YtbaddpnlokmldaaDoor
open Go
set_option maxRecDepth 100000

theorem und_terms : Tryd.prog.underlying 25 = some (.slice 27) := by kernel_rfl
theorem und_levels : Tryd.prog.underlying 24 = some (.slice 48) := by kernel_rfl
def zT : List Value := [iv 0, iv 0, sv [], .slice none 0 0, .slice none 0 0]
def zL : List Value := [iv 0, iv 0, iv 0, iv 0, iv 0]
theorem ty_term : tyI Tryd.prog 27 = some (.agg zT.toArray, 5, 80) := by kernel_rfl
theorem ty_level : tyI Tryd.prog 48 = some (.agg zL.toArray, 5, 40) := by kernel_rfl
theorem zero_term : zeroO Tryd.prog 27 = some (.agg zT.toArray) := by kernel_rfl
theorem str_term : strI Tryd.prog 27 = some ([(0, 1), (1, 1), (2, 1), (3, 1), (4, 1)], zT) := by kernel_rfl
theorem slice_one {w : World} {v : Value} {s m : Nat} {ys : List Value} (h : RdSl w v s ys m) : v.oneCell' = true ∧ v.cells = #[v] := by
  obtain ⟨a, c, rfl⟩ := h.len
  exact ⟨rfl, rfl⟩
theorem TV.one {w : World} {t : TV} (h : t.ok w) : ∀ x ∈ t.cells, x.oneCell' = true := by
  have h := tok_iff.1 h
  intro x hx
  rw [TV.cells_eq] at hx
  simp only [List.mem_cons, List.not_mem_nil, or_false] at hx
  rcases hx with rfl | rfl | rfl | rfl | rfl
  · rfl
  · rfl
  · rfl
  · exact (slice_one h.lr).1
  · exact (slice_one h.ar).1
theorem lvl_one (l : Lv) : ∀ x ∈ l.cells, x.oneCell' = true := by
  intro x hx
  simp only [Lv.cells, List.mem_cons, List.not_mem_nil, or_false] at hx
  rcases hx with rfl | rfl | rfl | rfl | rfl <;> rfl
theorem fill_head (k n : Int) (nm : Bytes) : fillL [(0, 1), (1, 1), (2, 1), (3, 1), (4, 1)] zT [(0, iv k), (1, iv n), (2, sv nm)] = some [iv k, iv n, sv nm, .slice none 0 0, .slice none 0 0] := by
  have h1 : ∀ n : Int, (iv n).cells = #[iv n] := fun _ => rfl
  have h2 : (sv nm).cells = #[sv nm] := rfl
  simp [fillL, h1, h2, lspl, zT]
theorem fill_node (k : Int) {v : Value} (hv : v.cells = #[v]) : fillL [(0, 1), (1, 1), (2, 1), (3, 1), (4, 1)] zT [(0, iv k), (4, v)] = some [iv k, iv 0, sv [], .slice none 0 0, v] := by
  have h1 : ∀ n : Int, (iv n).cells = #[iv n] := fun _ => rfl
  simp [fillL, h1, hv, lspl, zT]

section
variable {S : List Nat} {w0 w : World} {L R : List Res} {K : VPost}
abbrev rOT (v : Value) (ts : List TV) : Res := rO v 27 5 (tcs ts) ts.length
abbrev rOL (v : Value) (ls : List Lv) : Res := rO v 48 5 (lcs ls) ls.length
/-- A literal slice of terms. -/
theorem Sep.litT (s : Sep S w0 w L R) (ts : List TV) {parts : List (Nat × Value)} (hp : parts = enumV 0 (ts.map TV.v)) (hl : ts.length ≤ 1000) (h : ∀ v' w', Sep S w0 w' (rOT v' ts :: L) R → K v' w') : insW Tryd.prog (Instr.buildSlice 25 ts.length parts.toArray) w K := by
  obtain ⟨ti, hti, htz, hts, htb⟩ := tyI_spec ty_term
  have hf : ∀ ts : List TV, flatV (ts.map TV.v) = tcs ts := by
    intro ts
    induction ts with
    | nil => rfl
    | cons t r ih =>
      have e : flatV ((t :: r).map TV.v) = t.v.cells.toList ++ flatV (r.map TV.v) := by simp [flatV]
      rw [e, ih]; rfl
  have := s.lit (K := K) (vs := ts.map TV.v) und_terms hti htz hp (by
    intro y hy
    obtain ⟨t, _, rfl⟩ := List.mem_map.1 hy
    rw [hts]
    show t.cells.toArray.size = 5
    rw [List.size_toArray, TV.cells_len]) (by rw [hts, List.length_map]; omega) (fun t w1 s1 _ _ => by
    rw [hts, hf, List.length_map] at s1
    exact h t w1 s1)
  rw [List.length_map] at this
  exact this
theorem Sep.litT1 (s : Sep S w0 w L R) (t : TV) (h : ∀ v' w', Sep S w0 w' (rOT v' [t] :: L) R → K v' w') : insW Tryd.prog (Instr.buildSlice 25 1 #[(0, t.v)]) w K := s.litT [t] rfl (by simp) h
theorem Sep.litT2 (s : Sep S w0 w L R) (t u : TV) (h : ∀ v' w', Sep S w0 w' (rOT v' [t, u] :: L) R → K v' w') : insW Tryd.prog (Instr.buildSlice 25 2 #[(0, t.v), (1, u.v)]) w K := s.litT [t, u] rfl (by simp) h
theorem Sep.apT {v x : Value} {ts us : List TV} (s : Sep S w0 w L R) (i : Nat) (hL : L[i]? = some (rOT v ts)) (hx : RdSl w x 5 (tcs us) us.length) (hu : ∀ u ∈ us, u.ok w) (hn : ts.length + us.length ≤ 10000000)
    (h : ∀ v' w', Sep S w0 w' (L.set i (rOT v' (ts ++ us))) R → K v' w') : insW Tryd.prog (Builtin.append_ #[25, 25] 25 #[v, x]) w K := by
  obtain ⟨ti, hti, htz, hts, htb⟩ := tyI_spec ty_term
  refine s.appendO (v := v) (n := ts.length) (m := us.length) (ys := tcs us) (xs := tcs ts) i (by rw [hts]; exact hL) und_terms und_terms hti htz (by rw [hts]; rfl) (by rw [htb]; decide) (by rw [hts]; exact hx) (fun y hy => by
    obtain ⟨u, hm, hy⟩ := List.mem_flatMap.1 hy
    exact TV.one (hu u hm) y hy) (by rw [htb]; omega) fun v' w' s => ?_
  have e : tcs ts ++ tcs us = tcs (ts ++ us) := by simp [tcs]
  rw [hts, e, ← List.length_append] at s
  exact h v' w' s
theorem Sep.litL1 (s : Sep S w0 w L R) (l : Lv) (h : ∀ v' w', Sep S w0 w' (rOL v' [l] :: L) R → K v' w') : insW Tryd.prog (Instr.buildSlice 24 1 #[(0, .agg l.cells.toArray)]) w K := by
  obtain ⟨ti, hti, htz, hts, htb⟩ := tyI_spec ty_level
  refine s.lit (vs := [.agg l.cells.toArray]) und_levels hti htz rfl (by intro y hy; rw [List.mem_singleton] at hy; subst hy; rw [hts]; rfl) (by rw [hts]; simp) fun t w1 s1 _ _ => h t w1 ?_
  have e : flatV [.agg l.cells.toArray] = lcs [l] := by simp [flatV, Value.cells, lcs]
  rw [hts, e] at s1
  exact s1
theorem Sep.litL0 (s : Sep S w0 w L R) (h : ∀ v' w', Sep S w0 w' (rOL v' [] :: L) R → K v' w') : insW Tryd.prog (Instr.buildSlice 24 0 #[]) w K := by
  obtain ⟨ti, hti, htz, hts, htb⟩ := tyI_spec ty_level
  exact s.lit (vs := []) und_levels hti htz rfl (by simp) (by simp) fun t w1 s1 _ _ => h t w1 (by rw [hts] at s1; exact s1)
theorem Sep.apL {v x : Value} {ls ms : List Lv} (s : Sep S w0 w L R) (i : Nat) (hL : L[i]? = some (rOL v ls)) (hx : RdSl w x 5 (lcs ms) ms.length) (hn : ls.length + ms.length ≤ 10000000)
    (h : ∀ v' w', Sep S w0 w' (L.set i (rOL v' (ls ++ ms))) R → K v' w') : insW Tryd.prog (Builtin.append_ #[24, 24] 24 #[v, x]) w K := by
  obtain ⟨ti, hti, htz, hts, htb⟩ := tyI_spec ty_level
  refine s.appendO (v := v) (n := ls.length) (m := ms.length) (ys := lcs ms) (xs := lcs ls) i (by rw [hts]; exact hL) und_levels und_levels hti htz (by rw [hts]; rfl) (by rw [htb]; decide) (by rw [hts]; exact hx) (fun y hy => by
    obtain ⟨u, hm, hy⟩ := List.mem_flatMap.1 hy
    exact lvl_one u y hy) (by rw [htb]; omega) fun v' w' s => ?_
  have e : lcs ls ++ lcs ms = lcs (ls ++ ms) := by simp [lcs]
  rw [hts, e, ← List.length_append] at s
  exact h v' w' s
/-- A term more among those that are read. -/
theorem Sep.growT {t : TV} {ts : List TV} (s : Sep S w0 w L R) (h : rTs ts ∈ R) (ht : rT t ∈ R) : Sep S w0 w L (rTs (ts ++ [t]) :: R) := by
  refine s.addR (T := rTs (ts ++ [t])) (fun u hu => ?_) (fun V hV b hb hm => ?_)
  · rcases List.mem_append.1 hu with hu | hu
    · exact s.rd (rTs ts) h u hu
    · rw [List.mem_singleton] at hu
      subst hu
      exact s.rd (rT u) ht
  · obtain ⟨u, hu, hm2⟩ := foots_mem.1 hm
    rcases List.mem_append.1 hu with hu | hu
    · exact s.disR V hV (rTs ts) h b hb (foots_mem.2 ⟨u, hu, hm2⟩)
    · rw [List.mem_singleton] at hu
      subst hu
      exact s.disR V hV (rT u) ht b hb hm2
theorem Sep.noTerms (s : Sep S w0 w L R) : Sep S w0 w L (rTs [] :: R) := s.addR (T := rTs []) (fun u hu => by cases hu) (by intro U _ b _ hm; simp [rTs, TV.foots] at hm)
/-- What was made anew is read from now on. -/
theorem Sep.madeT {t : TV} {w' : World} (s : Sep S w0 w L R) (h : t.ok w') (e : Ext [] w w') (hf : ∀ b ∈ t.foot, w.heap.size ≤ b) : Sep S w0 w' L (rT t :: R) :=
  (s.add (T := rT t) h e hf).freeze 0 rfl (T' := rT t) h (fun b hb => hb)
end
theorem rdB_slB' {v : Value} {ys : List Value} : ∀ b ∈ rdB v ys, b ∈ slB v := by
  intro b hb
  unfold rdB at hb
  split at hb
  · cases hb
  · exact hb
/-- A term, all of which is new. -/
theorem term_new {w' : World} {k n : Int} {nm : Bytes} {ls : List Lv} {lv av : Value} {args : List TV} (hk : i64ok k) (hn : i64ok n) (hs : nm.length < 2 ^ 60) (hl : ∀ l ∈ ls, l.ok) (hll : ls.length < 2 ^ 50) (hal : args.length < 2 ^ 50)
    (h1 : OwnAt w' lv 48 5 (lcs ls) ls.length) (h2 : OwnAt w' av 27 5 (tcs args) args.length) (h3 : ∀ a ∈ args, a.ok w') : (TV.mk k n nm ls lv av args).ok w' :=
  tok_iff.2 ⟨hk, hn, hs, hl, hll, hal, h1.rd, h1.cap, h2.rd, h2.cap, h3⟩

set_option maxHeartbeats 1000000 in
theorem copy_c : ∀ (t : TV) {w : World} {K : VPost}, t.ok w → t.size ≤ 1000000 → (∀ (t' : TV) w', t'.e = t.e → t'.ok w' → (∀ b ∈ t'.foot, w.heap.size ≤ b) → Ext [] w w' → K t'.v w') → Calls Tryd.prog 38 #[t.v] w (retK K) := by
  refine TV.ind fun k n nm ls lv av args ih w K h hsz hK => ?_
  refine c38_calls _ w K ?_
  unfold c38
  refine TV.box h fun b w1 s => ?_
  have hk := tok_iff.1 h
  have hszz : 1 + ls.length + TV.sizes args ≤ 1000000 := by rw [TV.size] at hsz; exact hsz
  have hal2 := len_sizes args
  have hl1 : ∀ (w : World) (K : VPost), lenW Tryd.prog (some true) #[24] 3 #[lv] w K = K (.int .i64 ls.length) w := fun w K => RdSl.lenw hk.lr
  have ha1 : ∀ (w : World) (K : VPost), lenW Tryd.prog (some true) #[25] 3 #[av] w K = K (.int .i64 args.length) w := fun w K => RdSl.lenw hk.ar
  refine s.alloc zero_term rfl fun r w2 s _ => ?_
  refine off_i ?_
  refine s.load1 (v := iv k) 1 rfl rfl ?_
  refine off_i ?_
  refine s.load1 (v := iv n) 1 rfl rfl ?_
  refine off_i ?_
  refine s.load1 (v := sv nm) 1 rfl rfl ?_
  refine build_i str_term (fill_head k n nm) ?_
  refine s.alloc zero_term rfl fun o w3 s _ => ?_
  refine s.storeAll 0 rfl rfl rfl (by
    intro x hx
    simp only [List.mem_cons, List.not_mem_nil, or_false] at hx
    rcases hx with rfl | rfl | rfl | rfl | rfl <;> rfl) fun w4 s _ => ?_
  have s := s.add (T := rOT (.slice none 0 0) []) (.inl ⟨rfl, rfl, rfl⟩) (Ext.refl _ _) (by simp [rO, slB])
  have s := s.add (T := rOL (.slice none 0 0) []) (.inl ⟨rfl, rfl, rfl⟩) (Ext.refl _ _) (by simp [rO, slB])
  have s := s.noTerms
  have s : Sep [] w w4 (rOL (.slice none 0 0) [] :: rOT (.slice none 0 0) [] :: rB o [iv k, iv n, sv nm, .slice none 0 0, .slice none 0 0] 27 :: rB r zT 27 :: rB b (TV.mk k n nm ls lv av args).cells 27 :: []) (rTs [] :: rT (TV.mk k n nm ls lv av args) :: []) := s
  refine bindX_i fun J0 g0 => bindX_i fun J1 g1 => bindX_i fun J2 g2 => ?_
  -- the Args, behind the Levels
  have args_c : ∀ (fr : Fr) (wr : World) (v1 : Value), fr 1 = .pointer (some ⟨b, 0, none⟩) → fr 2 = .pointer (some ⟨r, 0, none⟩) → fr 3 = .pointer (some ⟨o, 0, none⟩) →
      Sep [] w wr (rOL v1 ls :: rOT (.slice none 0 0) [] :: rB o [iv k, iv n, sv nm, v1, .slice none 0 0] 27 :: rB r zT 27 :: rB b (TV.mk k n nm ls lv av args).cells 27 :: []) (rTs [] :: rT (TV.mk k n nm ls lv av args) :: []) → J1 .normal fr wr := by
    intro fr wr v1 k1 k2 k3 s
    refine seq_n g1 ?_
    refine bindX_i fun J3 g3 => bindX_i fun J4 g4 => ?_
    refine loop_i (fun m fr wr => ∃ (i : Nat) (v2 : Value) (ts : List TV), m = args.length - i ∧ i ≤ args.length ∧ fr 1 = .pointer (some ⟨b, 0, none⟩) ∧ fr 2 = .pointer (some ⟨r, 0, none⟩) ∧ fr 3 = .pointer (some ⟨o, 0, none⟩) ∧ fr 5 = .int .i64 i ∧ ts.map TV.e = (args.take i).map TV.e ∧ (∀ b ∈ TV.foots ts, w.heap.size ≤ b) ∧
      Sep [] w wr (rOL v1 ls :: rOT v2 ts :: rB o [iv k, iv n, sv nm, v1, v2] 27 :: rB r zT 27 :: rB b (TV.mk k n nm ls lv av args).cells 27 :: []) (rTs ts :: rT (TV.mk k n nm ls lv av args) :: [])) args.length ?_ ?_
    · exact ⟨0, .slice none 0 0, [], rfl, by omega, k1, k2, k3, rfl, rfl, by simp [TV.foots], s⟩
    · rintro m fr wr J ⟨i, v2, ts, rfl, hi, f1, f2, f3, f5, heq, hfr, s⟩ hJ hX
      have htl : ts.length = i := by
        have := congrArg List.length heq
        rw [List.length_map, List.length_map, List.length_take] at this
        omega
      rw [f1, f3, f5]
      refine off_i ?_
      refine s.load1 (v := av) 4 rfl rfl ?_
      rw [ha1]
      refine nlss (cond_d (fun hlt => ?_) (fun hlt => ?_))
      · have s := s.drew
        generalize wr.drew = wr at *
        have ko : TOk wr (TV.mk k n nm ls lv av args) := tok_iff.1 (s.rat 1 rfl)
        refine off_i ?_
        refine s.load1 (v := v2) 2 rfl rfl ?_
        refine off_i ?_
        refine s.load1 (v := av) 4 rfl rfl ?_
        obtain ⟨b1, o1, hix1, hld1⟩ := ko.ar.term hlt .i64
        refine hix1 _ ?_
        refine hld1 _ ?_
        have hsi := sizes_le (List.getElem_mem hlt)
        refine fnW_of (by kernel_rfl) (ih args[i] (List.getElem_mem hlt) (ko.a _ (List.getElem_mem hlt)) (by show args[i].size ≤ _; omega) fun t' w5 he hok hfoot e5 => ?_)
        have hfoot2 : ∀ b ∈ t'.foot, w.heap.size ≤ b := fun b hb => Nat.le_trans s.ext.size (hfoot b hb)
        have s := s.madeT hok e5 hfoot
        refine ⟨s.load1 (v := v2) 2 rfl rfl ⟨rfl, rfl⟩, ?_⟩
        refine s.litT1 t' fun vl w6 s => ?_
        refine ⟨s.load1 (v := v2) 3 rfl rfl ⟨rfl, rfl⟩, ?_⟩
        refine s.apT (v := v2) (ts := ts) (us := [t']) 2 rfl (OwnAt.rd (s.at 0 rfl)) (fun u hu => by rw [List.mem_singleton] at hu; subst hu; exact s.rd (rT u) (by simp)) (by simp; omega) fun v3 w7 s => ?_
        have s := (s.drop 0).growT (t := t') (ts := ts) (by simp) (by simp)
        refine off_i ?_
        refine s.store1 2 rfl ((slice_one (OwnAt.rd (s.at 1 rfl))).2) (by show 4 < 5; decide) ((slice_one (OwnAt.rd (s.at 1 rfl))).1) fun w8 s _ => ?_
        refine nadd (y := 1) (by omega) ?_
        refine hJ (args.length - (i + 1)) _ _ (by omega) ⟨i + 1, v3, ts ++ [t'], rfl, by omega, f1, f2, f3, rfl, ?_, ?_, s.less (fun T hT => ?_)⟩
        · rw [List.take_succ_eq_append_getElem hlt, List.map_append, List.map_append, heq]
          simp [he]
        · intro b hb
          obtain ⟨u, hu, hb2⟩ := foots_mem.1 hb
          rcases List.mem_append.1 hu with hu | hu
          · exact hfr b (foots_mem.2 ⟨u, hu, hb2⟩)
          · rw [List.mem_singleton] at hu
            subst hu
            exact hfoot2 b hb2
        · simp only [List.mem_cons, List.not_mem_nil, or_false] at hT
          rcases hT with rfl | rfl <;> simp
      · obtain rfl : i = args.length := by omega
        rw [List.take_length] at heq
        refine hX _ _ _ (by simp) (g4 _ _ _ (blk_x (seq_n g3 ?_)))
        show loadW _ (fr 3) _ _
        rw [f3]
        refine s.loadAll 2 rfl rfl ?_
        show storeW _ (fr 2) _ _ _
        rw [f2]
        refine s.storeAll 3 rfl rfl rfl (by
          intro x hx
          simp only [List.mem_cons, List.not_mem_nil, or_false] at hx
          rcases hx with rfl | rfl | rfl | rfl | rfl
          · rfl
          · rfl
          · rfl
          · exact (slice_one (OwnAt.rd (s.at 0 rfl))).1
          · exact (slice_one (OwnAt.rd (s.at 1 rfl))).1) fun w8 s _ => ?_
        show loadW _ (fr 2) _ _
        rw [f2]
        refine s.loadAll 3 rfl rfl ?_
        have o1 : OwnAt w8 v1 48 5 (lcs ls) ls.length := s.at 0 rfl
        have o2 : OwnAt w8 v2 27 5 (tcs ts) ts.length := s.at 1 rfl
        refine hK (TV.mk k n nm ls v1 v2 ts) w8 ?_ (term_new hk.k hk.n hk.s hk.l hk.ll (by rw [htl]; exact hk.al) o1 o2 (fun a ha => s.rd (rTs ts) (by simp) a ha)) ?_ s.ext
        · rw [TV.e_eq, TV.e_eq (TV.mk k n nm ls lv av args)]
          show TM.mk k n nm ls (ts.map TV.e) = TM.mk k n nm ls (args.map TV.e)
          rw [heq]
        · intro b hb
          rw [TV.foot_eq] at hb
          simp only [List.mem_append] at hb
          rcases hb with hb | hb | hb
          · exact s.fresh 0 rfl b (rdB_slB' b hb)
          · exact s.fresh 1 rfl b (rdB_slB' b hb)
          · exact hfr b hb
  refine loop_i (fun m fr wr => ∃ (i : Nat) (v1 : Value), m = ls.length - i ∧ i ≤ ls.length ∧ fr 1 = .pointer (some ⟨b, 0, none⟩) ∧ fr 2 = .pointer (some ⟨r, 0, none⟩) ∧ fr 3 = .pointer (some ⟨o, 0, none⟩) ∧ fr 4 = .int .i64 i ∧
    Sep [] w wr (rOL v1 (ls.take i) :: rOT (.slice none 0 0) [] :: rB o [iv k, iv n, sv nm, v1, .slice none 0 0] 27 :: rB r zT 27 :: rB b (TV.mk k n nm ls lv av args).cells 27 :: []) (rTs [] :: rT (TV.mk k n nm ls lv av args) :: [])) ls.length ?_ ?_
  · exact ⟨0, .slice none 0 0, rfl, by omega, rfl, rfl, rfl, rfl, s⟩
  · rintro m fr wr J ⟨i, v1, rfl, hi, f1, f2, f3, f4, s⟩ hJ hX
    rw [f1, f3, f4]
    refine off_i ?_
    refine s.load1 (v := lv) 4 rfl rfl ?_
    rw [hl1]
    refine nlss (cond_d (fun hlt => ?_) (fun hlt => ?_))
    · have s := s.drew
      generalize wr.drew = wr at *
      have ko : TOk wr (TV.mk k n nm ls lv av args) := tok_iff.1 (s.rat 1 rfl)
      refine off_i ?_
      refine s.load1 (v := v1) 2 rfl rfl ?_
      refine off_i ?_
      refine s.load1 (v := lv) 4 rfl rfl ?_
      obtain ⟨b1, o1, hix1, hld1⟩ := ko.lr.level hlt .i64
      refine hix1 _ ?_
      refine hld1 _ ?_
      refine s.litL1 _ fun vl w6 s => ?_
      refine ⟨s.load1 (v := v1) 3 rfl rfl ⟨rfl, rfl⟩, ?_⟩
      refine s.apL (v := v1) (ls := ls.take i) (ms := [ls[i]]) 1 rfl (OwnAt.rd (s.at 0 rfl)) (by rw [List.length_take]; simp; omega) fun v3 w7 s => ?_
      have s := s.drop 0
      have htk : ls.take i ++ [ls[i]] = ls.take (i + 1) := (List.take_succ_eq_append_getElem hlt).symm
      rw [htk] at s
      refine off_i ?_
      refine s.store1 2 rfl ((slice_one (OwnAt.rd (s.at 0 rfl))).2) (by show 3 < 5; decide) ((slice_one (OwnAt.rd (s.at 0 rfl))).1) fun w8 s _ => ?_
      refine nadd (y := 1) (by omega) ?_
      exact hJ (ls.length - (i + 1)) _ _ (by omega) ⟨i + 1, v3, rfl, by omega, f1, f2, f3, rfl, s⟩
    · obtain rfl : i = ls.length := by omega
      rw [List.take_length] at s
      exact hX _ _ _ (by simp) (g2 _ _ _ (blk_x (args_c _ wr v1 f1 f2 f3 s)))
end Go.Proofs.YtbaddpnlokmldaaDoor
