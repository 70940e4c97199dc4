/- The document's disk, by contracts: it is the disk's model too. -/
import Derived.Test.YtedebapgmfnflaaE1
namespace Go.Proofs.Ytedebapgmfnflaa
open Go
set_option maxRecDepth 100000

def img (last : Bytes) (ps : List (Nat × Bytes)) : Bytes := ps.foldl (fun l x => bspl l (64 * x.1) x.2) last

theorem img_snoc (last : Bytes) (ps : List (Nat × Bytes)) (x : Nat × Bytes) : img last (ps ++ [x]) = bspl (img last ps) (64 * x.1) x.2 := by simp [img]
theorem img_length {n : Nat} : ∀ (ps : List (Nat × Bytes)) (last : Bytes), last.length = 64 * n → (∀ x ∈ ps, x.1 < n ∧ x.2.length = 64) → (img last ps).length = 64 * n := by
  intro ps
  induction ps with
  | nil => intro last h _; exact h
  | cons x r ih =>
    intro last h hx
    have h0 := hx x List.mem_cons_self
    exact ih _ (by rw [bspl_length (by omega)]; exact h) (fun y hy => hx y (List.mem_cons_of_mem _ hy))

structure IsRef (w : World) (p bl cl : Nat) (qv : Value) (D : DiskM) : Prop where
  hdr : Blk w p [.slice (some ⟨bl, 0, none⟩) (64 * D.n) cl, qv, .int .i64 D.left] 47
  last : PB w bl (bc D.last) 5
  list : OwnSl w qv 106 65 (pcells D.pend) D.pend.length
  ok : D.ok
  ne1 : p ≠ bl
  ne2 : p ∉ slB qv
  ne3 : bl ∉ slB qv

/-- The document's disk behind a pointer, and the blocks that are its. -/
def Ref (w : World) (p : Nat) (F : List Nat) (D : DiskM) : Prop := ∃ bl cl qv, IsRef w p bl cl qv D ∧ D.seen = img D.last D.pend ∧ F = [p, bl] ++ slB qv

theorem IsRef.keep {w w' : World} {p bl cl : Nat} {qv : Value} {S : List Nat} {D : DiskM} (h : IsRef w p bl cl qv D) (e : Ext S w w') (hd : ∀ b ∈ [p, bl] ++ slB qv, b ∉ S) : IsRef w' p bl cl qv D :=
  ⟨h.hdr.keep e (hd p (by simp)), h.last.keep e (hd bl (by simp)), h.list.keep e (fun b hb => hd b (by simp [hb])), h.ok, h.ne1, h.ne2, h.ne3⟩

theorem Ref.keep {w w' : World} {p : Nat} {F S : List Nat} {D : DiskM} (h : Ref w p F D) (e : Ext S w w') (hd : ∀ b ∈ F, b ∉ S) : Ref w' p F D := by
  obtain ⟨bl, cl, qv, h, hs, rfl⟩ := h
  exact ⟨bl, cl, qv, h.keep e hd, hs, rfl⟩

theorem Ref.lt {w : World} {p : Nat} {F : List Nat} {D : DiskM} (h : Ref w p F D) : ∀ b ∈ F, b < w.heap.size := by
  obtain ⟨bl, cl, qv, h, hs, rfl⟩ := h
  intro b hb
  simp only [List.cons_append, List.nil_append, List.mem_cons] at hb
  rcases hb with rfl | rfl | hb
  · exact h.hdr.lt
  · exact h.last.lt
  · exact h.list.lt b hb

theorem ty_rwrite : tyI Try.prog 106 = some (.agg (List.replicate 1 (Value.int .i64 0) ++ List.replicate 64 (Value.int .u8 0)).toArray, 65, 72) := by kernel_rfl
theorem und_rwrites : Try.prog.underlying 45 = some (.slice 106) := by kernel_rfl
theorem str_rdisk : strI Try.prog 47 = some ([(0, 1), (1, 1), (2, 1)], [.slice none 0 0, .slice none 0 0, .int .i64 0]) := by kernel_rfl
theorem str_rwrite : strI Try.prog 106 = some ([(0, 1), (1, 64)], List.replicate 1 (Value.int .i64 0) ++ List.replicate 64 (Value.int .u8 0)) := by kernel_rfl

theorem fill_rdisk (a : Value) (z : Int) (ha : a.cells = #[a]) : fillL [(0, 1), (1, 1), (2, 1)] [.slice none 0 0, .slice none 0 0, .int .i64 0] [(0, a), (2, .int .i64 z)] = some [a, .slice none 0 0, .int .i64 z] := by
  have h3 : (Value.int .i64 z).cells = #[.int .i64 z] := rfl
  simp [fillL, ha, h3, lspl]

theorem rnew_c {w : World} (size : Int) {K : VPost} (hbad : ¬ (1 ≤ size ∧ size ≤ 4096) → K (.tuple #[.pointer none, .int .i64 11]) w)
    (hK : 1 ≤ size ∧ size ≤ 4096 → ∀ p F w', Ref w' p F (DiskM.fresh size.toNat) → Ext [] w w' → (∀ b ∈ F, w.heap.size ≤ b) → K (.tuple #[.pointer (some ⟨p, 0, none⟩), .int .i64 0]) w') :
    Calls Try.prog 22 #[.int .i64 size] w (retK K) := by
  refine c22_calls _ w K ?_
  unfold c22
  simp only [bin_lss, bin_gtr]
  by_cases h0 : size < 1
  · simp only [h0, decide_true, gstep_tf, pickW_t, condW_t]
    exact hbad (by omega)
  · simp only [h0, decide_false, gstep_f, pickW_f, bin_gtr]
    refine cond_d (fun h1 => hbad (by omega)) (fun h1 => ?_)
    have hk := hK ⟨by omega, by omega⟩
    obtain ⟨n, rfl⟩ : ∃ n : Nat, size = n := ⟨size.toNat, by omega⟩
    simp only [Int.toNat_natCast] at hk
    rw [bin_mul, i64_self (by omega)]
    have e64 : (64 : Int) * (n : Int) = ((64 * n : Nat) : Int) := by omega
    rw [e64]
    obtain ⟨ui, hui, huz, husz, huby⟩ := tyI_spec ty_u8
    refine makeSlice_i (z0 := .int .u8 0) und_u8s hui huz (by rw [husz]; rfl) (Nat.le_refl _) (by rw [huby]; omega) (by omega) fun b w1 hb e1 k1 s1 => ?_
    rw [husz, Nat.mul_one, ← bc_zeros] at k1
    refine build_i str_rdisk (fill_rdisk _ _ rfl) (boxW_i fun p w2 hp e2 k2 s2 => ?_)
    have hlt := k1.lt
    refine hk p [p, b] w2 ⟨b, 64 * n, .slice none 0 0, ⟨k2, (k1.keep e2 (by simp)).pb, .inl ⟨rfl, rfl, rfl⟩, ⟨by simp [DiskM.fresh], by simp [DiskM.fresh], by simp [DiskM.fresh], by show 1 ≤ n; omega, by show n ≤ 4096; omega, by simp [DiskM.fresh], by simp [DiskM.fresh]⟩, by omega, by simp [slB], by simp [slB]⟩, rfl, by simp [slB]⟩ (e1.new e2) ?_
    intro x hx
    simp only [List.mem_cons, List.not_mem_nil, or_false] at hx
    rcases hx with rfl | rfl <;> omega

theorem rthere_c {w : World} {p bl cl : Nat} {qv : Value} {D : DiskM} (h : IsRef w p bl cl qv D) (i : Int) {K : VPost} (hK : K (.bool (decide (0 ≤ i ∧ i < D.n))) w) :
    Calls Try.prog 75 #[.pointer (some ⟨p, 0, none⟩), .int .i64 i] w (retK K) := by
  refine c75_calls _ _ w K ?_
  unfold c75
  simp only [bin_geq]
  by_cases h0 : 0 ≤ i
  · simp only [h0, decide_true, gstep_t, pickW_t, nilW_e]
    refine off_i (load1 h.hdr.r rfl ?_)
    have hn2 := h.ok.n2
    have hd : ((64 * D.n : Nat) : Int).tdiv 64 = D.n := by
      rw [Int.tdiv_eq_ediv_of_nonneg (by omega)]; omega
    rw [len_s, bin_quo (by decide), hd, i64_self (by omega), bin_lss]
    simpa [h0] using hK
  · simp only [h0, decide_false, gstep_ft, pickW_f]
    simpa [h0] using hK

theorem put_c {w : World} {b c n : Nat} {l : Bytes} (hb : PB w b (bc l) 5) (x : Nat × Bytes) (hx : x.2.length = 64) (frm m : Nat) (hfn : frm + m ≤ 64) (hle : 64 * x.1 + 64 ≤ l.length) (hl : l.length = n) (hsm : n < 2 ^ 40) {K : VPost}
    (hK : ∀ w', PB w' b (bc (bspl l (64 * x.1 + frm) ((x.2.drop frm).take m))) 5 → Ext [b] w w' → K (.tuple #[]) w') :
    Calls Try.prog 77 #[.slice (some ⟨b, 0, none⟩) n c, .agg (Value.int .i64 x.1 :: bc x.2).toArray, .int .i64 frm, .int .i64 m] w (retK K) := by
  obtain ⟨a, t⟩ := x
  simp only at hx hle hK ⊢
  refine c77_calls _ _ _ _ w K ?_
  unfold c77
  refine boxW_i fun b5 w1 hb5 e1 k1 s1 => ?_
  have hblt := hb.lt
  have k1 : Blk w1 b5 (.int .i64 a :: bc t) 106 := k1
  refine bindX_i fun J0 h0 => bindX_i fun J1 h1 => ?_
  refine loop_i (fun r fr wr => ∃ j : Nat, r = m - j ∧ j ≤ m ∧ fr 0 = .slice (some ⟨b, 0, none⟩) n c ∧ fr 2 = .int .i64 frm ∧ fr 3 = .int .i64 m ∧ fr 5 = .pointer (some ⟨b5, 0, none⟩) ∧ fr 8 = .int .i64 ((frm + j : Nat) : Int) ∧
    PB wr b (lspl (bc l) (64 * a + frm) (bc ((t.drop frm).take j))) 5 ∧ Blk wr b5 (.int .i64 a :: bc t) 106 ∧ Ext [b] w wr) m ?_ ?_
  · refine ⟨0, rfl, Nat.zero_le _, rfl, rfl, rfl, rfl, rfl, ?_, k1, e1.mono (by simp)⟩
    rw [List.take_zero]
    show PB w1 b (lspl (bc l) _ []) _
    rw [lspl_nil]
    exact hb.keep e1 (by simp)
  · rintro r fr wr J ⟨j, rfl, hj, f0, f2, f3, f5, f8, hp, hk, e⟩ hJ hX
    simp only [f0, f2, f3, f5, f8]
    rw [bin_add, i64_self (by omega), bin_lss]
    refine cond_d (fun hlt => ?_) (fun hlt => ?_)
    · have hlt : j < m := by omega
      have ed := Ext.drew [] wr
      have hp := hp.keep ed (by simp)
      have hk := hk.keep ed (by simp)
      have e := e.new ed
      generalize wr.drew = wr at *
      refine off_i (load1 (o := 0 + 0) hk.r rfl ?_)
      rw [bin_mul, i64_self (by omega)]
      refine ⟨rfl, ?_⟩
      rw [bin_add, i64_self (by omega)]
      refine ⟨rfl, off_i (idxA_i (show frm + j < 64 by omega) (load1 (o := 0 + 1 + (frm + j) * 1) hk.r (v := bv (t.getD (frm + j) 0)) ?_ ?_))⟩
      · rw [show 0 + 1 + (frm + j) * 1 = (frm + j) + 1 by omega, List.getElem?_cons_succ]
        exact getD_lt (by omega)
      have ea : (64 : Int) * (a : Int) + ((frm + j : Nat) : Int) = ((64 * a + frm + j : Nat) : Int) := by omega
      rw [ea]
      have hlen : (bc ((t.drop frm).take j)).length = j := by rw [bc_length, List.length_take, List.length_drop]; omega
      have hll : (lspl (bc l) (64 * a + frm) (bc ((t.drop frm).take j))).length = n := by rw [lspl_length (by rw [hlen, bc_length]; omega), bc_length, hl]
      refine idx_i (show 64 * a + frm + j < n by omega) (PB.store (vs := [bv (t.getD (frm + j) 0)]) hp rfl rfl (by rw [hll]; omega) (by intro y hy; simp at hy; subst hy; rfl) fun w' e' hp' hs' => ?_)
      have hnew : lspl (lspl (bc l) (64 * a + frm) (bc ((t.drop frm).take j))) (0 + (64 * a + frm + j) * 1) [bv (t.getD (frm + j) 0)] = lspl (bc l) (64 * a + frm) (bc ((t.drop frm).take (j + 1))) := by
        have := lspl_lspl (bc l) (64 * a + frm) (bc ((t.drop frm).take j)) [bv (t.getD (frm + j) 0)] (by rw [hlen, bc_length]; simp; omega)
        rw [hlen] at this
        rw [Nat.zero_add, Nat.mul_one, this]
        congr 1
        have hd : j < (t.drop frm).length := by rw [List.length_drop]; omega
        rw [List.take_succ_eq_append_getElem hd, bc_append]
        congr 1
        simp only [bc, List.map_cons, List.map_nil, List.getElem_drop]
        rw [List.getD_eq_getElem?_getD, List.getElem?_eq_getElem (by omega)]
        rfl
      rw [hnew] at hp'
      rw [bin_add, i64_self (by omega)]
      have hne : b5 ≠ b := by omega
      refine hJ (m - (j + 1)) _ _ (by omega) ⟨j + 1, rfl, hlt, f0, f2, f3, f5, ?_, hp', hk.keep e' (by simpa using hne), e.step e' (by intro y hy _; exact hy)⟩
      show Value.int .i64 (((frm + j : Nat) : Int) + 1) = _
      congr 1
    · have hjm : j = m := by omega
      subst hjm
      refine hX _ _ _ (by simp) (h1 _ _ _ (blk_x (h0 _ _ _ ?_)))
      rw [← bc_spl] at hp
      exact hK wr hp e

/-- A record of the document's list. -/
theorem rec_at {w : World} {qv : Value} {D : DiskM} (h : OwnSl w qv 106 65 (pcells D.pend) D.pend.length) (hok : D.ok) {k : Nat} (hk : k < D.pend.length) :
    ∃ b o cs, (∀ K : VPost, K (.pointer (some ⟨b, o, none⟩)) w → idxW (some (none, 65)) qv (.int .i64 k) w K) ∧ RBlk w b cs ∧ o + 65 ≤ cs.length ∧ (cs.drop o).take 65 = .int .i64 D.pend[k].1 :: bc D.pend[k].2 := by
  obtain ⟨b, o, cs, h1, h2, h3, h4⟩ := h.rd.elem hk (by decide) .i64
  rw [pcells_get (n := D.n) hok.plen hk] at h4
  exact ⟨b, o, cs, h1, h2, h3, h4⟩

theorem rimage_c {w : World} {p : Nat} {F : List Nat} {D : DiskM} (h : Ref w p F D) (hpl : D.pend.length ≤ 1000000) {K : VPost}
    (hK : ∀ b c w', PB w' b (bc D.seen) 5 → Ext [] w w' → w.heap.size ≤ b → K (.slice (some ⟨b, 0, none⟩) (64 * D.n) c) w') :
    Calls Try.prog 38 #[.pointer (some ⟨p, 0, none⟩)] w (retK K) := by
  obtain ⟨bl, cl, qv, h, hseen, rfl⟩ := h
  refine c38_calls _ w K ?_
  unfold c38
  simp only [nilW_e]
  refine off_i (load1 (o := 0 + 0) h.hdr.r rfl ?_)
  have hll := h.ok.llen
  have hn1 := h.ok.n1
  have hn2 := h.ok.n2
  have hrd : RdSl w (.slice (some ⟨bl, 0, none⟩) (64 * D.n) cl) 1 (bc D.last) D.last.length := by
    have := h.last.rd (m := 64 * D.n) (s := 1) (c := cl) (by rw [bc_length]; omega)
    rwa [← hll] at this ⊢
  refine fnW_of (by kernel_rfl) (copyBytes_c hrd (by omega) fun v1 w1 hv1 e1 hb1 => ?_)
  rw [hll] at hv1
  rcases hv1 with ⟨_, h0, _⟩ | ⟨b, c, rest, rfl, hb, _, _, _⟩
  · omega
  have hbn : w.heap.size ≤ b := hb1 b (by simp [slB])
  refine bindX_i fun J0 h0 => bindX_i fun J1 h1 => bindX_i fun J2 h2 => ?_
  refine loop_i (fun r fr wr => ∃ k : Nat, r = D.pend.length - k ∧ k ≤ D.pend.length ∧ fr 0 = .pointer (some ⟨p, 0, none⟩) ∧ fr 3 = .slice (some ⟨b, 0, none⟩) (64 * D.n) c ∧ fr 4 = .int .i64 k ∧
    PB wr b (bc (img D.last (D.pend.take k))) 5 ∧ Ext [] w wr) D.pend.length ?_ ?_
  · exact ⟨0, rfl, Nat.zero_le _, rfl, rfl, rfl, ⟨rest, hb⟩, e1⟩
  · rintro r fr wr J ⟨k, rfl, hk, f0, f3, f4, hp, e⟩ hJ hX
    have hr := h.keep e (by simp)
    simp only [f0, f3, f4, nilW_e]
    refine off_i (load1 (o := 0 + 1) hr.hdr.r rfl ?_)
    obtain ⟨qa, qc, hqv⟩ := hr.list.shape
    have hlq : ∀ (w : World) (K : VPost), lenW Try.prog (some true) #[45] 3 #[qv] w K = K (.int .i64 D.pend.length) w := fun w K => by rw [hqv, len_s]
    rw [hlq, bin_lss]
    refine cond_d (fun hlt => ?_) (fun hlt => ?_)
    · have hlt : k < D.pend.length := by omega
      refine off_i (load1 (o := 0 + 1) hr.hdr.r rfl ?_)
      obtain ⟨b', o', cs, hix, hbk, hle, hcs⟩ := rec_at hr.list hr.ok hlt
      refine hix _ (loadN hbk hle ?_)
      rw [hcs]
      have hpl := hr.ok.plen D.pend[k] (List.getElem_mem hlt)
      have hil : (img D.last (D.pend.take k)).length = 64 * D.n := img_length _ _ hll (fun x hx => hr.ok.plen x (List.mem_of_mem_take hx))
      refine fnW_of (by kernel_rfl) (put_c hp D.pend[k] hpl.2 0 64 (by omega) (by omega) hil (by omega) fun w' hp' e' => ?_)
      rw [bin_add, i64_self (by omega)]
      refine hJ (D.pend.length - (k + 1)) _ _ (by omega) ⟨k + 1, rfl, hlt, f0, f3, ?_, ?_, e.step e' (by intro y hy hlt; simp at hy; omega)⟩
      · show Value.int .i64 ((k : Int) + 1) = _
        simp
      · rw [List.take_succ_eq_append_getElem hlt, img_snoc]
        have hall : (D.pend[k].2.drop 0).take 64 = D.pend[k].2 := by rw [List.drop_zero]; exact List.take_of_length_le (by omega)
        rw [Nat.add_zero, hall] at hp'
        exact hp'
    · have hkl : k = D.pend.length := by omega
      subst hkl
      rw [List.take_length, ← hseen] at hp
      refine hX _ _ _ (by simp) (h2 _ _ _ (blk_x (seq_n h1 ?_)))
      show K (fr 3) wr
      rw [f3]
      exact hK b c wr hp e hbn
end Go.Proofs.Ytedebapgmfnflaa
