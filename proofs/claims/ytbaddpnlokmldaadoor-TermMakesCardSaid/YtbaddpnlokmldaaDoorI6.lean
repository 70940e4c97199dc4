/- slices.Reverse of terms, term.Spine, term.Strip, law08's same: walks. Conditions: at most 10^6 nodes. -/
import Derived.Test.YtbaddpnlokmldaaDoorI5
namespace Go.Proofs.YtbaddpnlokmldaaDoor
open Go
set_option maxRecDepth 100000

section
variable {S : List Nat} {w0 w : World} {L R : List Res} {K : VPost}
theorem Sep.atT {v : Value} {ts : List TV} (s : Sep S w0 w L R) (i : Nat) (hL : L[i]? = some (rOT v ts)) {k : Nat} (hk : k < ts.length) (kk : IntKind) :
    ∃ b o, (∀ K : VPost, K (.pointer (some ⟨b, o, none⟩)) w → idxW (some (none, 5)) v (.int kk k) w K) ∧ (∀ K : VPost, K ts[k].v w → loadW (some (true, 5)) (.pointer (some ⟨b, o, none⟩)) w K) ∧
    (∀ (g : Bool) (t : TV) (K : World → Prop), (∀ x ∈ t.cells, x.oneCell' = true) → (∀ w', Sep S w0 w' (L.set i (rOT v (ts.set k t))) R → K w') → storeW (some (g, 5)) (.pointer (some ⟨b, o, none⟩)) t.v w K) := by
  have h : OwnAt w v 27 5 (tcs ts) ts.length := s.at i hL
  obtain ⟨b, o, hb, h1, h2, h3⟩ := h.atN hk kk
  refine ⟨b, o, h1, fun K hK => h2 K (by rw [tcs_get hk]; exact hK), fun g t K ho hK => h3 g t.cells K t.cells_len ho fun w' e ho' => hK w' ?_⟩
  have e5 : lspl (tcs ts) (k * 5) t.cells = tcs (ts.set k t) := flat_set TV.cells 5 (fun t _ => t.cells_len) hk t.cells_len
  rw [e5] at ho'
  refine s.upd i hL (T' := rOT v (ts.set k t)) ?_ (by show Ext (slB v) w w'; rw [hb]; exact e) ?_
  · show OwnAt w' v 27 5 (tcs (ts.set k t)) (ts.set k t).length
    rw [List.length_set]; exact ho'
  · intro x hx
    exact .inl hx

theorem Sep.revT {v : Value} {ts : List TV} (s : Sep S w0 w L R) (i : Nat) (hL : L[i]? = some (rOT v ts)) (hts : ∀ t ∈ ts, ∀ x ∈ t.cells, x.oneCell' = true) (hn : ts.length < 2 ^ 50) (h : ∀ w', Sep S w0 w' (L.set i (rOT v ts.reverse)) R → K (.tuple #[]) w') : fnW Tryd.prog 39 #[v] w K := by
  refine fnW_of (by kernel_rfl) (c39_calls _ w K ?_)
  unfold c39
  have hil : i < L.length := (List.getElem?_eq_some_iff.1 hL).1
  rw [(OwnAt.rd (s.at i hL)).lenw]
  refine isub (by omega) ?_
  refine bindX_i fun J0 g0 => bindX_i fun J1 g1 => ?_
  refine loop_i (fun m fr wr => ∃ (q : Nat) (us : List TV), m = ts.length - q ∧ q ≤ ts.length ∧ us.length = ts.length ∧ (∀ p, p < ts.length → us[p]? = if p < q ∨ ts.length - q ≤ p then ts[ts.length - 1 - p]? else ts[p]?) ∧ fr 0 = v ∧ fr 2 = .int .i64 q ∧ fr 3 = .int .i64 ((ts.length : Int) - 1 - q) ∧ Sep S w0 wr (L.set i (rOT v us)) R) ts.length ?_ ?_
  · refine ⟨0, ts, rfl, by omega, rfl, fun p hp => ?_, rfl, rfl, ?_, ?_⟩
    · rw [if_neg (by omega)]
    · show Value.int .i64 ((ts.length : Int) - 1) = _
      simp
    · have e : L.set i (rOT v ts) = L := by
        obtain ⟨h1, h2⟩ := List.getElem?_eq_some_iff.1 hL
        rw [← h2]; exact List.set_getElem_self h1
      rw [e]; exact s
  · rintro m fr wr J ⟨q, us, rfl, hq, hul, hus, f0, f2, f3, s⟩ hJ hX
    have hUi : (L.set i (rOT v us))[i]? = some (rOT v us) := by rw [List.getElem?_set_self hil]
    rw [f0, f2, f3, ilss]
    have huo : ∀ p (hp : p < us.length), ∀ x ∈ us[p].cells, x.oneCell' = true := by
      intro p hp
      have h1 := hus p (by omega)
      rw [List.getElem?_eq_getElem hp] at h1
      split at h1
      · exact hts _ (List.mem_of_getElem? h1.symm)
      · exact hts _ (List.mem_of_getElem? h1.symm)
    refine cond_d (fun hlt => ?_) (fun hlt => ?_)
    · obtain ⟨j, hj⟩ : ∃ j : Nat, (ts.length : Int) - 1 - q = j := ⟨ts.length - 1 - q, by omega⟩
      rw [hj]
      have s := s.drew
      generalize wr.drew = wr at *
      have hjl : j < us.length := by omega
      have hql : q < us.length := by omega
      obtain ⟨b1, o1, hi1, hl1, hs1⟩ := s.atT i hUi hjl .i64
      refine hi1 _ ?_
      refine hl1 _ ?_
      obtain ⟨b2, o2, hi2, hl2, hs2⟩ := s.atT i hUi hql .i64
      refine hi2 _ ?_
      refine hl2 _ ?_
      refine hi2 _ ?_
      refine hs2 true us[j] _ (huo j hjl) fun w1 s => ?_
      rw [List.set_set] at s
      have hU2 : (L.set i (rOT v (us.set q us[j])))[i]? = some (rOT v (us.set q us[j])) := by rw [List.getElem?_set_self hil]
      obtain ⟨b3, o3, hi3, hl3, hs3⟩ := s.atT i hU2 (k := j) (by rw [List.length_set]; exact hjl) .i64
      refine hi3 _ ?_
      refine hs3 true us[q] _ (huo q hql) fun w2 s => ?_
      rw [List.set_set] at s
      refine nadd (y := 1) (by omega) ?_
      refine isub (by omega) ?_
      refine hJ (ts.length - (q + 1)) _ _ (by omega) ⟨q + 1, (us.set q us[j]).set j us[q], rfl, by omega, by rw [List.length_set, List.length_set]; exact hul, fun p hp => ?_, f0, rfl, ?_, s⟩
      · have hjq : j = ts.length - 1 - q := by omega
        have huq := hus q (by omega)
        have huj := hus j (by omega)
        rw [if_neg (by omega)] at huq huj
        rw [List.getElem?_set, List.getElem?_set]
        by_cases h1 : j = p
        · subst h1
          rw [if_pos rfl, if_pos (by rw [List.length_set]; exact hjl), if_pos (by omega), ← List.getElem?_eq_getElem hql, huq]
          congr 1
          omega
        · rw [if_neg h1]
          by_cases h2 : q = p
          · subst h2
            rw [if_pos rfl, if_pos hql, if_pos (by omega), ← List.getElem?_eq_getElem hjl, huj]
            congr 1
          · rw [if_neg h2, hus p hp]
            by_cases h3 : p < q ∨ ts.length - q ≤ p
            · rw [if_pos h3, if_pos (by omega)]
            · rw [if_neg h3, if_neg (by omega)]
      · show Value.int .i64 ((j : Int) - 1) = _
        rw [← hj]
        congr 1
        omega
    · refine hX _ _ _ (by simp) (g1 _ _ _ (blk_x (g0 _ _ _ ?_)))
      have e : us = ts.reverse := by
        apply List.ext_getElem?
        intro p
        by_cases hp : p < ts.length
        · rw [hus p hp, List.getElem?_reverse hp]
          split
          · rfl
          · congr 1
            omega
        · rw [List.getElem?_eq_none (by omega), List.getElem?_eq_none (by rw [List.length_reverse]; omega)]
      rw [e] at s
      exact h wr s
end

/-- The head, and what it is applied to. -/
def spineT : TM → TM × List TM
  | .mk k n s ls args =>
    match args with
    | [f, a] => if k = 5 then ((spineT f).1, (spineT f).2 ++ [a]) else (.mk k n s ls [f, a], [])
    | l => (.mk k n s ls l, [])
/-- The binders of a kind, and what is behind them. -/
def stripT (kd : Int) : TM → List TM × TM
  | .mk k n s ls args =>
    match args with
    | [t, b] => if k = kd then (t :: (stripT kd b).1, (stripT kd b).2) else ([], .mk k n s ls [t, b])
    | l => ([], .mk k n s ls l)
theorem spineT_not {t : TM} (h : ∀ n s ls f a, t ≠ .mk 5 n s ls [f, a]) : spineT t = (t, []) := by
  obtain ⟨k, n, s, ls, args⟩ := t
  match args with
  | [] => rw [spineT]; intro f a h; cases h
  | [x] => rw [spineT]; intro f a h; cases h
  | [f, a] =>
    rw [spineT, if_neg]
    rintro rfl
    exact h n s ls f a rfl
  | x :: y :: z :: r => rw [spineT]; intro f a h; cases h
theorem stripT_not {kd : Int} {t : TM} (h : ∀ n s ls f a, t ≠ .mk kd n s ls [f, a]) : stripT kd t = ([], t) := by
  obtain ⟨k, n, s, ls, args⟩ := t
  match args with
  | [] => rw [stripT]; intro f a h; cases h
  | [x] => rw [stripT]; intro f a h; cases h
  | [f, a] =>
    rw [stripT, if_neg]
    rintro rfl
    exact h n s ls f a rfl
  | x :: y :: z :: r => rw [stripT]; intro f a h; cases h

set_option maxHeartbeats 800000 in
theorem spine_c {w : World} {K : VPost} {t : TV} (h : t.ok w) (hsz : t.size ≤ 1000000)
    (hK : ∀ (o : TV) (ts : List TV) (x : Value) w', o.e = (spineT t.e).1 → ts.map TV.e = (spineT t.e).2 → o.ok w' → (∀ b ∈ o.foot, w.heap.size ≤ b) → (∀ t ∈ ts, t.ok w') → (∀ b ∈ TV.foots ts, w.heap.size ≤ b) → OwnAt w' x 27 5 (tcs ts) ts.length → (∀ b ∈ slB x, w.heap.size ≤ b) → Ext [] w w' → K (.tuple #[o.v, x]) w') :
    Calls Tryd.prog 17 #[t.v] w (retK K) := by
  refine c17_calls _ w K ?_
  unfold c17
  refine TV.box h fun b w1 s => ?_
  refine s.alloc zero_term rfl fun r w2 s _ => ?_
  have s := s.add (T := rOT (.slice none 0 0) []) (.inl ⟨rfl, rfl, rfl⟩) (Ext.refl _ _) (by simp [rO, slB])
  have s := s.noTerms
  have s : Sep [] w w2 (rOT (.slice none 0 0) [] :: rB r zT 27 :: rB b t.cells 27 :: []) (rTs [] :: rT t :: []) := s
  refine bindX_i fun J0 g0 => bindX_i fun J1 g1 => bindX_i fun J2 g2 => ?_
  refine loop_i (fun m fr wr => ∃ (u : TV) (ts : List TV) (x : Value), m = u.size ∧ u.size ≤ 1000000 ∧ ts.length ≤ t.size - u.size ∧ u.size ≤ t.size ∧ spineT t.e = ((spineT u.e).1, (spineT u.e).2 ++ (ts.map TV.e).reverse) ∧ fr 1 = .pointer (some ⟨b, 0, none⟩) ∧ fr 2 = .pointer (some ⟨r, 0, none⟩) ∧ fr 4 = x ∧ (∀ b ∈ TV.foots ts, w.heap.size ≤ b) ∧
    Sep [] w wr (rOT x ts :: rB r zT 27 :: rB b u.cells 27 :: []) (rTs ts :: rT u :: [])) t.size ?_ ?_
  · exact ⟨t, [], .slice none 0 0, rfl, hsz, by simp, Nat.le_refl _, by simp, rfl, rfl, rfl, by simp [TV.foots], s⟩
  · rintro m fr wr J ⟨u, ts, x, rfl, hus, htl, hut, hsp, f1, f2, f4, hfr, s⟩ hJ hX
    obtain ⟨k, n, nm, ls, lv, av, args⟩ := u
    have ko : TOk wr (TV.mk k n nm ls lv av args) := tok_iff.1 (s.rat 1 rfl)
    rw [f1, f4]
    have out : ∀ (fr' : Fr), fr' 1 = .pointer (some ⟨b, 0, none⟩) → fr' 2 = .pointer (some ⟨r, 0, none⟩) → fr' 4 = x → spineT (TV.mk k n nm ls lv av args).e = ((TV.mk k n nm ls lv av args).e, []) → J1 .normal fr' wr := by
      intro fr' k1 k2 k4 hno
      rw [hno] at hsp
      refine seq_n g1 ?_
      rw [k1, k2, k4]
      refine s.revT 0 rfl (fun t ht => TV.one (s.rd (rTs ts) (by simp) t ht)) (by omega) fun w3 s => ?_
      have s : Sep [] w w3 (rOT x ts.reverse :: rB r zT 27 :: rB b (TV.mk k n nm ls lv av args).cells 27 :: []) (rTs ts :: rT (TV.mk k n nm ls lv av args) :: []) := s
      refine s.loadAll 2 rfl rfl ?_
      refine fnW_of (by kernel_rfl) (clone_c (TV.mk k n nm ls lv av args) (s.rd (rT (TV.mk k n nm ls lv av args)) (by simp)) hus fun o w4 he hok hft e4 => ?_)
      have hft2 : ∀ b ∈ o.foot, w.heap.size ≤ b := fun b hb => Nat.le_trans s.ext.size (hft b hb)
      have s := s.madeT hok e4 hft
      refine s.storeAll (vs := o.cells) 1 rfl o.cells_len rfl (TV.one (s.rd (rT o) (by simp))) fun w5 s _ => ?_
      refine s.loadAll 1 rfl o.cells_len ?_
      refine hK o ts.reverse x w5 (by rw [hsp]; exact he) (by rw [hsp, List.map_reverse]; rfl) (s.rd (rT o) (by simp)) hft2 (fun t ht => s.rd (rTs ts) (by simp) t (List.mem_reverse.1 ht)) (fun y hy => ?_) (s.at 0 rfl) (s.fresh 0 rfl) s.ext
      obtain ⟨t, ht, hy⟩ := foots_mem.1 hy
      exact hfr y (foots_mem.2 ⟨t, List.mem_reverse.1 ht, hy⟩)
    refine off_i ?_
    refine s.load1 (v := iv k) 2 rfl rfl ?_
    show binN _ _ _ _ (Value.int .i64 k) _ _ _
    rw [ieql]
    by_cases h5 : k = 5
    case neg =>
      rw [decide_eq_false h5]
      iterate 1 ((repeat with_reducible refine gs_ft ?_); refine pick_fi ?_)
      refine cndF ?_
      refine hX _ _ _ (by simp) (g2 _ _ _ (blk_x (out _ f1 f2 f4 (spineT_not fun n' s' ls' f a he => h5 ?_))))
      rw [TV.e_eq] at he
      injection he
    rw [decide_eq_true h5]
    refine gs_t (off_i ?_)
    refine gs_t (s.load1 (v := av) 2 rfl rfl ?_)
    refine gs_t ?_
    have hal : ∀ (w : World) (K : VPost), lenW Tryd.prog (some true) #[25] 3 #[av] w K = K (.int .i64 args.length) w := fun w K => RdSl.lenw ko.ar
    rw [hal]
    refine gs_t (neql (y := 2) ?_)
    refine pick_ti ?_
    refine cond_d (fun h2 => ?_) (fun h2 => ?_)
    · subst h5
      obtain ⟨f, a, rfl⟩ : ∃ f a, args = [f, a] := by
        match args, h2 with
        | [f, a], _ => exact ⟨f, a, rfl⟩
      have hsize : (TV.mk 5 n nm ls lv av [f, a]).size = 1 + ls.length + (f.size + (a.size + 0)) := by rw [TV.size]; rfl
      have hfp := size_pos f
      have hap := size_pos a
      refine off_i ?_
      refine s.load1 (v := av) 2 rfl rfl ?_
      obtain ⟨b1, o1, hix1, hld1⟩ := ko.ar.term (i := 1) (by show 1 < 2; decide) .i64
      refine hix1 _ ?_
      refine hld1 _ ?_
      refine fnW_of (by kernel_rfl) (clone_c a (ko.a a (by show a ∈ [f, a]; simp)) (by omega) fun a' w4 he hok hft e4 => ?_)
      have hft2 : ∀ b ∈ a'.foot, w.heap.size ≤ b := fun b hb => Nat.le_trans s.ext.size (hft b hb)
      have s := s.madeT hok e4 hft
      refine s.litT1 a' fun vl w5 s => ?_
      refine s.apT (v := x) (ts := ts) (us := [a']) 1 rfl (OwnAt.rd (s.at 0 rfl)) (fun u hu => by rw [List.mem_singleton] at hu; subst hu; exact s.rd (rT u) (by simp)) (by simp; omega) fun x2 w6 s => ?_
      have s := (s.drop 0).growT (t := a') (ts := ts) (by simp) (by simp)
      have s : Sep [] w w6 (rOT x2 (ts ++ [a']) :: rB r zT 27 :: rB b (TV.mk 5 n nm ls lv av [f, a]).cells 27 :: []) (rTs (ts ++ [a']) :: rT a' :: rTs ts :: rT (TV.mk 5 n nm ls lv av [f, a]) :: []) := s
      have ko2 : TOk w6 (TV.mk 5 n nm ls lv av [f, a]) := tok_iff.1 (s.rat 3 rfl)
      refine off_i ?_
      refine s.load1 (v := av) 2 rfl rfl ?_
      obtain ⟨b1, o1, hix1, hld1⟩ := ko2.ar.term (i := 0) (by show 0 < 2; decide) .i64
      refine hix1 _ ?_
      refine hld1 _ ?_
      have hfo : f.ok w6 := ko2.a f (by show f ∈ [f, a]; simp)
      have s := s.addR (T := rT f) hfo fun U hU y hy hm => by
        refine s.disR U hU (rT (TV.mk 5 n nm ls lv av [f, a])) (by simp) y hy ?_
        show y ∈ (TV.mk 5 n nm ls lv av [f, a]).foot
        rw [TV.foot_eq]
        simp only [List.mem_append]
        exact .inr (.inr (foots_mem.2 ⟨f, by show f ∈ [f, a]; simp, hm⟩))
      refine s.storeAll (vs := f.cells) 2 rfl f.cells_len rfl (TV.one hfo) fun w7 s _ => ?_
      have hse : spineT (TV.mk 5 n nm ls lv av [f, a]).e = ((spineT f.e).1, (spineT f.e).2 ++ [a.e]) := by
        rw [TV.e_eq]
        show spineT (TM.mk 5 n nm ls [f.e, a.e]) = _
        rw [spineT, if_pos rfl]
      refine hJ f.size _ _ (by omega) ⟨f, ts ++ [a'], x2, rfl, by omega, by rw [List.length_append, List.length_singleton]; omega, by omega, ?_, f1, f2, rfl, ?_, s.less (fun T hT => ?_)⟩
      · rw [hsp, hse, List.map_append, List.reverse_append]
        simp [he]
      · intro y hy
        obtain ⟨u, hu, hy2⟩ := foots_mem.1 hy
        rcases List.mem_append.1 hu with hu | hu
        · exact hfr y (foots_mem.2 ⟨u, hu, hy2⟩)
        · rw [List.mem_singleton] at hu
          subst hu
          exact hft2 y hy2
      · simp only [List.mem_cons, List.not_mem_nil, or_false] at hT
        rcases hT with rfl | rfl <;> simp
    · refine hX _ _ _ (by simp) (g2 _ _ _ (blk_x (out _ f1 f2 f4 (spineT_not fun n' s' ls' f a he => h2 ?_))))
      rw [TV.e_eq] at he
      injection he with _ _ _ _ he
      have := congrArg List.length he
      rw [List.length_map] at this
      exact this

set_option maxHeartbeats 800000 in
theorem strip_c {w : World} {K : VPost} {t : TV} {kd : Int} (h : t.ok w) (hsz : t.size ≤ 1000000)
    (hK : ∀ (o : TV) (ts : List TV) (x : Value) w', o.e = (stripT kd t.e).2 → ts.map TV.e = (stripT kd t.e).1 → o.ok w' → (∀ b ∈ o.foot, w.heap.size ≤ b) → (∀ t ∈ ts, t.ok w') → (∀ b ∈ TV.foots ts, w.heap.size ≤ b) → OwnAt w' x 27 5 (tcs ts) ts.length → (∀ b ∈ slB x, w.heap.size ≤ b) → Ext [] w w' → K (.tuple #[x, o.v]) w') :
    Calls Tryd.prog 18 #[t.v, .int .i64 kd] w (retK K) := by
  refine c18_calls _ _ w K ?_
  unfold c18
  refine TV.box h fun b w1 s => ?_
  refine s.alloc zero_term rfl fun r w2 s _ => ?_
  have s := s.add (T := rOT (.slice none 0 0) []) (.inl ⟨rfl, rfl, rfl⟩) (Ext.refl _ _) (by simp [rO, slB])
  have s := s.noTerms
  have s : Sep [] w w2 (rOT (.slice none 0 0) [] :: rB r zT 27 :: rB b t.cells 27 :: []) (rTs [] :: rT t :: []) := s
  refine bindX_i fun J0 g0 => bindX_i fun J1 g1 => bindX_i fun J2 g2 => ?_
  refine loop_i (fun m fr wr => ∃ (u : TV) (ts : List TV) (x : Value), m = u.size ∧ u.size ≤ 1000000 ∧ ts.length ≤ t.size - u.size ∧ u.size ≤ t.size ∧ stripT kd t.e = (ts.map TV.e ++ (stripT kd u.e).1, (stripT kd u.e).2) ∧ fr 1 = .int .i64 kd ∧ fr 2 = .pointer (some ⟨b, 0, none⟩) ∧ fr 5 = .pointer (some ⟨r, 0, none⟩) ∧ fr 6 = x ∧ (∀ b ∈ TV.foots ts, w.heap.size ≤ b) ∧
    Sep [] w wr (rOT x ts :: rB r zT 27 :: rB b u.cells 27 :: []) (rTs ts :: rT u :: [])) t.size ?_ ?_
  · exact ⟨t, [], .slice none 0 0, rfl, hsz, by simp, Nat.le_refl _, by simp, rfl, rfl, rfl, rfl, by simp [TV.foots], s⟩
  · rintro m fr wr J ⟨u, ts, x, rfl, hus, htl, hut, hsp, f1, f2, f5, f6, hfr, s⟩ hJ hX
    obtain ⟨k, n, nm, ls, lv, av, args⟩ := u
    have ko : TOk wr (TV.mk k n nm ls lv av args) := tok_iff.1 (s.rat 1 rfl)
    rw [f1, f2, f6]
    have out : ∀ (fr' : Fr), fr' 2 = .pointer (some ⟨b, 0, none⟩) → fr' 5 = .pointer (some ⟨r, 0, none⟩) → fr' 6 = x → stripT kd (TV.mk k n nm ls lv av args).e = ([], (TV.mk k n nm ls lv av args).e) → J1 .normal fr' wr := by
      intro fr' k2 k5 k6 hno
      rw [hno] at hsp
      refine seq_n g1 ?_
      rw [k2, k5, k6]
      refine s.loadAll 2 rfl rfl ?_
      refine fnW_of (by kernel_rfl) (clone_c (TV.mk k n nm ls lv av args) (s.rd (rT (TV.mk k n nm ls lv av args)) (by simp)) hus fun o w4 he hok hft e4 => ?_)
      have hft2 : ∀ b ∈ o.foot, w.heap.size ≤ b := fun b hb => Nat.le_trans s.ext.size (hft b hb)
      have s := s.madeT hok e4 hft
      refine s.storeAll (vs := o.cells) 1 rfl o.cells_len rfl (TV.one (s.rd (rT o) (by simp))) fun w5 s _ => ?_
      refine s.loadAll 1 rfl o.cells_len ?_
      exact hK o ts x w5 (by rw [hsp]; exact he) (by rw [hsp]; simp) (s.rd (rT o) (by simp)) hft2 (fun t ht => s.rd (rTs ts) (by simp) t ht) hfr (s.at 0 rfl) (s.fresh 0 rfl) s.ext
    refine off_i ?_
    refine s.load1 (v := iv k) 2 rfl rfl ?_
    show binN _ _ _ _ (Value.int .i64 k) _ _ _
    rw [ieql]
    by_cases h5 : k = kd
    case neg =>
      rw [decide_eq_false h5]
      iterate 1 ((repeat with_reducible refine gs_ft ?_); refine pick_fi ?_)
      refine cndF ?_
      refine hX _ _ _ (by simp) (g2 _ _ _ (blk_x (out _ f2 f5 f6 (stripT_not fun n' s' ls' f a he => h5 ?_))))
      rw [TV.e_eq] at he
      injection he
    rw [decide_eq_true h5]
    refine gs_t (off_i ?_)
    refine gs_t (s.load1 (v := av) 2 rfl rfl ?_)
    refine gs_t ?_
    have hal : ∀ (w : World) (K : VPost), lenW Tryd.prog (some true) #[25] 3 #[av] w K = K (.int .i64 args.length) w := fun w K => RdSl.lenw ko.ar
    rw [hal]
    refine gs_t (neql (y := 2) ?_)
    refine pick_ti ?_
    refine cond_d (fun h2 => ?_) (fun h2 => ?_)
    · subst h5
      obtain ⟨f, a, rfl⟩ : ∃ f a, args = [f, a] := by
        match args, h2 with
        | [f, a], _ => exact ⟨f, a, rfl⟩
      have hsize : (TV.mk k n nm ls lv av [f, a]).size = 1 + ls.length + (f.size + (a.size + 0)) := by rw [TV.size]; rfl
      have hfp := size_pos f
      have hap := size_pos a
      refine off_i ?_
      refine s.load1 (v := av) 2 rfl rfl ?_
      obtain ⟨b1, o1, hix1, hld1⟩ := ko.ar.term (i := 0) (by show 0 < 2; decide) .i64
      refine hix1 _ ?_
      refine hld1 _ ?_
      refine fnW_of (by kernel_rfl) (clone_c f (ko.a f (by show f ∈ [f, a]; simp)) (by omega) fun a' w4 he hok hft e4 => ?_)
      have hft2 : ∀ b ∈ a'.foot, w.heap.size ≤ b := fun b hb => Nat.le_trans s.ext.size (hft b hb)
      have s := s.madeT hok e4 hft
      refine s.litT1 a' fun vl w5 s => ?_
      refine s.apT (v := x) (ts := ts) (us := [a']) 1 rfl (OwnAt.rd (s.at 0 rfl)) (fun u hu => by rw [List.mem_singleton] at hu; subst hu; exact s.rd (rT u) (by simp)) (by simp; omega) fun x2 w6 s => ?_
      have s := (s.drop 0).growT (t := a') (ts := ts) (by simp) (by simp)
      have s : Sep [] w w6 (rOT x2 (ts ++ [a']) :: rB r zT 27 :: rB b (TV.mk k n nm ls lv av [f, a]).cells 27 :: []) (rTs (ts ++ [a']) :: rT a' :: rTs ts :: rT (TV.mk k n nm ls lv av [f, a]) :: []) := s
      have ko2 : TOk w6 (TV.mk k n nm ls lv av [f, a]) := tok_iff.1 (s.rat 3 rfl)
      refine off_i ?_
      refine s.load1 (v := av) 2 rfl rfl ?_
      obtain ⟨b1, o1, hix1, hld1⟩ := ko2.ar.term (i := 1) (by show 1 < 2; decide) .i64
      refine hix1 _ ?_
      refine hld1 _ ?_
      have hfo : a.ok w6 := ko2.a a (by show a ∈ [f, a]; simp)
      have s := s.addR (T := rT a) hfo fun U hU y hy hm => by
        refine s.disR U hU (rT (TV.mk k n nm ls lv av [f, a])) (by simp) y hy ?_
        show y ∈ (TV.mk k n nm ls lv av [f, a]).foot
        rw [TV.foot_eq]
        simp only [List.mem_append]
        exact .inr (.inr (foots_mem.2 ⟨a, by show a ∈ [f, a]; simp, hm⟩))
      refine s.storeAll (vs := a.cells) 2 rfl a.cells_len rfl (TV.one hfo) fun w7 s _ => ?_
      have hse : stripT k (TV.mk k n nm ls lv av [f, a]).e = (f.e :: (stripT k a.e).1, (stripT k a.e).2) := by
        rw [TV.e_eq]
        show stripT k (TM.mk k n nm ls [f.e, a.e]) = _
        rw [stripT, if_pos rfl]
      refine hJ a.size _ _ (by omega) ⟨a, ts ++ [a'], x2, rfl, by omega, by rw [List.length_append, List.length_singleton]; omega, by omega, ?_, f1, f2, f5, rfl, ?_, s.less (fun T hT => ?_)⟩
      · rw [hsp, hse, List.map_append]
        simp [he]
      · intro y hy
        obtain ⟨u, hu, hy2⟩ := foots_mem.1 hy
        rcases List.mem_append.1 hu with hu | hu
        · exact hfr y (foots_mem.2 ⟨u, hu, hy2⟩)
        · rw [List.mem_singleton] at hu
          subst hu
          exact hft2 y hy2
      · simp only [List.mem_cons, List.not_mem_nil, or_false] at hT
        rcases hT with rfl | rfl <;> simp
    · refine hX _ _ _ (by simp) (g2 _ _ _ (blk_x (out _ f2 f5 f6 (stripT_not fun n' s' ls' f a he => h2 ?_))))
      rw [TV.e_eq] at he
      injection he with _ _ _ _ he
      have := congrArg List.length he
      rw [List.length_map] at this
      exact this
end Go.Proofs.YtbaddpnlokmldaaDoor
