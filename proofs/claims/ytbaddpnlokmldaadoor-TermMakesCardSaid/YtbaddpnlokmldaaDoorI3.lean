/- term.Clone, term.Same, slices.Clone, Equal, EqualFunc of levels and terms: walks. Condition: Clone: at most 10^6 nodes. -/
import Derived.Test.YtbaddpnlokmldaaDoorI2
namespace Go.Proofs.YtbaddpnlokmldaaDoor
open Go
set_option maxRecDepth 100000

theorem lclone_c {w : World} {K : VPost} {x : Value} {ls : List Lv} (hx : RdSl w x 5 (lcs ls) ls.length) (hn : ls.length ≤ 1000000)
    (hK : ∀ v w', OwnAt w' v 48 5 (lcs ls) ls.length → Ext [] w w' → (∀ b ∈ slB v, w.heap.size ≤ b) → K v w') : Calls Tryd.prog 48 #[x] w (retK K) := by
  refine c48_calls _ w K ?_
  unfold c48
  obtain ⟨xa, xc, rfl⟩ := hx.len
  rw [slice_eql_nil und_levels]
  cases xa with
  | none =>
    refine cndT ?_
    have hl : ls = [] := by
      obtain ⟨h0, ⟨h1, _⟩ | ⟨b, o, c, cs, h1, _⟩⟩ := hx
      · cases ls with
        | nil => rfl
        | cons y r => simp [lcs, Lv.cells] at h1
      · cases h1
    subst hl
    exact hK _ w (.inl ⟨rfl, rfl, rfl⟩) (Ext.refl _ _) (by simp [slB])
  | some a =>
    refine cndF ?_
    refine (Sep.zero1 (U := rR _ 5 (lcs ls) ls.length) hx).litL0 fun t w1 s => ?_
    refine s.apL (v := t) (ls := []) 0 rfl (s.rat 0 rfl) (by simp; omega) fun v' w2 s => ?_
    rw [List.nil_append] at s
    exact hK v' w2 (s.at 0 rfl) s.ext (s.fresh 0 rfl)

set_option maxHeartbeats 1000000 in
theorem clone_c : ∀ (t : TV) {w : World} {K : VPost}, t.ok w → t.size ≤ 1000000 → (∀ (t' : TV) w', t'.e = t.e → t'.ok w' → (∀ b ∈ t'.foot, w.heap.size ≤ b) → Ext [] w w' → K t'.v w') → Calls Tryd.prog 29 #[t.v] w (retK K) := by
  refine TV.ind fun k n nm ls lv av args ih w K h hsz hK => ?_
  refine c29_calls _ w K ?_
  unfold c29
  refine TV.box h fun b w1 s => ?_
  have hk := tok_iff.1 h
  have hszz : 1 + ls.length + TV.sizes args ≤ 1000000 := by rw [TV.size] at hsz; exact hsz
  have hal2 := len_sizes args
  have ha1 : ∀ (w : World) (K : VPost), lenW Tryd.prog (some true) #[25] 3 #[av] w K = K (.int .i64 args.length) w := fun w K => RdSl.lenw hk.ar
  refine s.alloc zero_term rfl fun r w2 s _ => ?_
  refine off_i ?_
  refine s.load1 (v := lv) 1 rfl rfl ?_
  have ko : TOk w2 (TV.mk k n nm ls lv av args) := tok_iff.1 (s.rat 0 rfl)
  refine fnW_of (by kernel_rfl) (lclone_c ko.lr (by show ls.length ≤ _; omega) fun v1 w3 hv1 e3 hf3 => ?_)
  have s := s.add (T := rOL v1 ls) hv1 e3 hf3
  have s : Sep [] w w3 (rOL v1 ls :: rB r zT 27 :: rB b [iv k, iv n, sv nm, lv, av] 27 :: []) (rT (TV.mk k n nm ls lv av args) :: []) := s
  refine off_i ?_
  refine s.store1 2 rfl ((slice_one hv1.rd).2) (by show 3 < 5; decide) ((slice_one hv1.rd).1) fun w4 s _ => ?_
  have s : Sep [] w w4 (rOL v1 ls :: rB r zT 27 :: rB b [iv k, iv n, sv nm, v1, av] 27 :: []) (rT (TV.mk k n nm ls lv av args) :: []) := s
  refine off_i ?_
  refine s.load1 (v := av) 2 rfl rfl ?_
  refine off_i ?_
  refine s.store1 2 rfl rfl (by show 4 < 5; decide) rfl fun w5 s _ => ?_
  have s := s.add (T := rOT (.slice none 0 0) []) (.inl ⟨rfl, rfl, rfl⟩) (Ext.refl _ _) (by simp [rO, slB])
  have s := s.noTerms
  have s : Sep [] w w5 (rOT (.slice none 0 0) [] :: rOL v1 ls :: rB r zT 27 :: rB b [iv k, iv n, sv nm, v1, .slice none 0 0] 27 :: []) (rTs [] :: rT (TV.mk k n nm ls lv av args) :: []) := s
  refine bindX_i fun J0 g0 => bindX_i fun J1 g1 => ?_
  rw [ha1]
  refine bindX_i fun J2 g2 => ?_
  refine loop_i (fun m fr wr => ∃ (i : Nat) (v2 : Value) (ts : List TV), m = args.length - i ∧ i ≤ args.length ∧ fr 1 = .pointer (some ⟨b, 0, none⟩) ∧ fr 2 = .pointer (some ⟨r, 0, none⟩) ∧ fr 13 = av ∧ fr 14 = .int .i64 args.length ∧ fr 15 = .int .i64 i ∧ ts.map TV.e = (args.take i).map TV.e ∧ (∀ b ∈ TV.foots ts, w.heap.size ≤ b) ∧
    Sep [] w wr (rOT v2 ts :: rOL v1 ls :: rB r zT 27 :: rB b [iv k, iv n, sv nm, v1, v2] 27 :: []) (rTs ts :: rT (TV.mk k n nm ls lv av args) :: [])) args.length ?_ ?_
  · exact ⟨0, .slice none 0 0, [], rfl, by omega, rfl, rfl, rfl, rfl, rfl, rfl, by simp [TV.foots], s⟩
  · rintro m fr wr J ⟨i, v2, ts, rfl, hi, f1, f2, f13, f14, f15, heq, hfr, s⟩ hJ hX
    have htl : ts.length = i := by
      have := congrArg List.length heq
      rw [List.length_map, List.length_map, List.length_take] at this
      omega
    rw [f1, f13, f14, f15]
    refine nlss (cond_d (fun hlt => ?_) (fun hlt => ?_))
    · have ko : TOk wr (TV.mk k n nm ls lv av args) := tok_iff.1 (s.rat 1 rfl)
      obtain ⟨b1, o1, hix1, hld1⟩ := ko.ar.term hlt .i64
      refine hix1 _ ?_
      refine hld1 _ ?_
      have hao : args[i].ok wr := ko.a _ (List.getElem_mem hlt)
      refine s.alloc zero_term rfl fun q w2 s _ => ?_
      refine s.storeAll (vs := args[i].cells) 0 rfl args[i].cells_len rfl (TV.one hao) fun w3 s _ => ?_
      have s : Sep [] w w3 (rB q args[i].cells 27 :: rOT v2 ts :: rOL v1 ls :: rB r zT 27 :: rB b [iv k, iv n, sv nm, v1, v2] 27 :: []) (rTs ts :: rT (TV.mk k n nm ls lv av args) :: []) := s
      have s := s.drew
      generalize w3.drew = w3 at *
      refine off_i ?_
      refine s.load1 (v := v2) 4 rfl rfl ?_
      refine s.loadAll 0 rfl args[i].cells_len ?_
      have ko : TOk w3 (TV.mk k n nm ls lv av args) := tok_iff.1 (s.rat 1 rfl)
      have hsi := sizes_le (List.getElem_mem hlt)
      refine fnW_of (by kernel_rfl) (ih args[i] (List.getElem_mem hlt) (ko.a _ (List.getElem_mem hlt)) (by omega) fun t' w5 he hok hfoot e5 => ?_)
      have hfoot2 : ∀ b ∈ t'.foot, w.heap.size ≤ b := fun b hb => Nat.le_trans s.ext.size (hfoot b hb)
      have s := (s.madeT hok e5 hfoot).drop 0
      have s : Sep [] w w5 (rOT v2 ts :: rOL v1 ls :: rB r zT 27 :: rB b [iv k, iv n, sv nm, v1, v2] 27 :: []) (rT t' :: rTs ts :: rT (TV.mk k n nm ls lv av args) :: []) := s
      refine ⟨s.load1 (v := v2) 3 rfl rfl ⟨rfl, rfl⟩, ?_⟩
      refine s.litT1 t' fun vl w6 s => ?_
      refine ⟨s.load1 (v := v2) 4 rfl rfl ⟨rfl, rfl⟩, ?_⟩
      refine s.apT (v := v2) (ts := ts) (us := [t']) 1 rfl (OwnAt.rd (s.at 0 rfl)) (fun u hu => by rw [List.mem_singleton] at hu; subst hu; exact s.rd (rT u) (by simp)) (by simp; omega) fun v3 w7 s => ?_
      have s := (s.drop 0).growT (t := t') (ts := ts) (by simp) (by simp)
      refine off_i ?_
      refine s.store1 3 rfl ((slice_one (OwnAt.rd (s.at 0 rfl))).2) (by show 4 < 5; decide) ((slice_one (OwnAt.rd (s.at 0 rfl))).1) fun w8 s _ => ?_
      refine nadd (y := 1) (by omega) ?_
      refine hJ (args.length - (i + 1)) _ _ (by omega) ⟨i + 1, v3, ts ++ [t'], rfl, by omega, f1, f2, f13, f14, rfl, ?_, ?_, s.less (fun T hT => ?_)⟩
      · rw [List.take_succ_eq_append_getElem hlt, List.map_append, List.map_append, heq]
        simp [he]
      · intro b hb
        obtain ⟨u, hu, hb2⟩ := foots_mem.1 hb
        rcases List.mem_append.1 hu with hu | hu
        · exact hfr b (foots_mem.2 ⟨u, hu, hb2⟩)
        · rw [List.mem_singleton] at hu
          subst hu
          exact hfoot2 b hb2
      · simp only [List.mem_cons, List.not_mem_nil, or_false] at hT
        rcases hT with rfl | rfl <;> simp
    · obtain rfl : i = args.length := by omega
      rw [List.take_length] at heq
      refine hX _ _ _ (by simp) (g2 _ _ _ (blk_x (seq_n g1 ?_)))
      show loadW _ (fr 1) _ _
      rw [f1]
      refine s.loadAll 3 rfl rfl ?_
      show storeW _ (fr 2) _ _ _
      rw [f2]
      refine s.storeAll 2 rfl rfl rfl (by
        intro x hx
        simp only [List.mem_cons, List.not_mem_nil, or_false] at hx
        rcases hx with rfl | rfl | rfl | rfl | rfl
        · rfl
        · rfl
        · rfl
        · exact (slice_one (OwnAt.rd (s.at 1 rfl))).1
        · exact (slice_one (OwnAt.rd (s.at 0 rfl))).1) fun w8 s _ => ?_
      show loadW _ (fr 2) _ _
      rw [f2]
      refine s.loadAll 2 rfl rfl ?_
      have o1 : OwnAt w8 v1 48 5 (lcs ls) ls.length := s.at 1 rfl
      have o2 : OwnAt w8 v2 27 5 (tcs ts) ts.length := s.at 0 rfl
      refine hK (TV.mk k n nm ls v1 v2 ts) w8 ?_ (term_new hk.k hk.n hk.s hk.l hk.ll (by rw [htl]; exact hk.al) o1 o2 (fun a ha => s.rd (rTs ts) (by simp) a ha)) ?_ s.ext
      · rw [TV.e_eq, TV.e_eq (TV.mk k n nm ls lv av args)]
        show TM.mk k n nm ls (ts.map TV.e) = TM.mk k n nm ls (args.map TV.e)
        rw [heq]
      · intro b hb
        rw [TV.foot_eq] at hb
        simp only [List.mem_append] at hb
        rcases hb with hb | hb | hb
        · exact s.fresh 1 rfl b (rdB_slB' b hb)
        · exact s.fresh 0 rfl b (rdB_slB' b hb)
        · exact hfr b hb
end Go.Proofs.YtbaddpnlokmldaaDoor
