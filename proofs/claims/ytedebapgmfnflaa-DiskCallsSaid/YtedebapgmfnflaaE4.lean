/- The document's disk, by contracts: reads, writes, flushes, limits, crashes. -/
import Derived.Test.YtedebapgmfnflaaE3
namespace Go.Proofs.Ytedebapgmfnflaa
open Go
set_option maxRecDepth 100000

theorem rread_c {w : World} {p : Nat} {F : List Nat} {D : DiskM} (h : Ref w p F D) (hpl : D.pend.length ≤ 1000000) (i : Int) {K : VPost}
    (hK : ∀ w', Ext [] w w' → K (.tuple #[.agg (bc (D.read i).1).toArray, .int .i64 (D.read i).2]) w') :
    Calls Try.prog 34 #[.pointer (some ⟨p, 0, none⟩), .int .i64 i] w (retK K) := by
  refine c34_calls _ _ w K ?_
  unfold c34
  have hz : (Value.agg (Array.replicate 64 (.int .u8 0))).cells.toList = bc (List.replicate 64 0) := by rw [bc_zeros]; simp [Value.cells]
  have hzl : (bc (List.replicate 64 (0 : UInt8))).length = 64 := by rw [bc_length]; simp
  refine allocW_i zero_block fun b4 w1 hb4 e1 k1 s1 => ?_
  refine buildB_i (parts := []) (l := List.replicate 64 0) (by kernel_rfl) (allocW_i zero_block fun b6 w2 hb6 e2 k2 s2 => ?_)
  rw [hz] at k1 k2
  refine storeAll k2 hzl hzl (bc_one _) fun w3 e3 k3 s3 => ?_
  have k1 := (k1.keep e2 (by simp)).keep e3 (by simp; omega)
  have e13 := ((((Ext.refl [] w).new e1).new e2).step e3 (by intro x hx hlt; simp at hx; omega))
  have hd := h.keep e13 (by simp)
  have hlt0 := h.lt
  have hd' := hd
  obtain ⟨bl, cl, qv, hr, hseen, hF⟩ := hd'
  have e13s := e13.size
  have hne46 : b4 ≠ b6 := by omega
  have hb4w : w.heap.size ≤ b4 := by omega
  have hb6w : w.heap.size ≤ b6 := by omega
  refine fnW_of (by kernel_rfl) (rthere_c hr i ?_)
  simp only [not_e]
  refine cond_b (fun hc => ?_) (fun hc => ?_)
  · have hn : ¬ (0 ≤ i ∧ i < D.n) := by simp at hc; omega
    have hrd : D.read i = (List.replicate 64 0, 11) := by unfold DiskM.read; rw [if_neg hn]
    rw [hrd] at hK
    refine loadAll k3.r hzl (storeAll k1 hzl hzl (bc_one _) fun w4 e4 k4 s4 => loadAll k4.r hzl ?_)
    exact hK w4 (e13.step e4 (by intro x hx hlt; simp at hx; omega))
  · have hn : 0 ≤ i ∧ i < D.n := by simpa using hc
    have hrd : D.read i = ((D.seen.drop (64 * i.toNat)).take 64, 0) := by unfold DiskM.read; rw [if_pos hn]
    rw [hrd] at hK
    obtain ⟨q, rfl⟩ : ∃ q : Nat, i = q := ⟨i.toNat, by omega⟩
    simp only [Int.toNat_natCast] at hK
    have hn2 := hr.ok.n2
    have hsl := hr.ok.slen
    refine fnW_of (by kernel_rfl) (rimage_c hd hpl fun b c w4 hb e4 hbn => ?_)
    have k4 := k3.keep e4 (by simp)
    have k1 := k1.keep e4 (by simp)
    have hb6lt := k3.lt
    have hb4lt : b4 < w3.heap.size := by omega
    have hsec : ((D.seen.drop (64 * q)).take 64).length = 64 := by rw [List.length_take, List.length_drop]; omega
    generalize hs : (D.seen.drop (64 * q)).take 64 = sec at *
    have hsg : ∀ r, r < 64 → D.seen.getD (64 * q + r) 0 = sec.getD r 0 := by
      intro r hr
      rw [← hs]
      simp only [List.getD_eq_getElem?_getD]
      rw [List.getElem?_take, if_pos hr, List.getElem?_drop]
    refine bindX_i fun J0 h0 => bindX_i fun J1 h1 => bindX_i fun J2 h2 => ?_
    refine loop_i (fun m fr wr => ∃ k : Nat, m = 64 - k ∧ k ≤ 64 ∧ fr 1 = .int .i64 q ∧ fr 4 = .pointer (some ⟨b4, 0, none⟩) ∧ fr 6 = .pointer (some ⟨b6, 0, none⟩) ∧ fr 7 = .slice (some ⟨b, 0, none⟩) (64 * D.n) c ∧ fr 8 = .int .i64 k ∧
      Blk wr b6 (lspl (bc (List.replicate 64 0)) 0 (bc (sec.take k))) 33 ∧ Ext [b6] w4 wr) 64 ?_ ?_
    · refine ⟨0, rfl, by omega, rfl, rfl, rfl, rfl, rfl, ?_, Ext.refl _ _⟩
      show Blk w4 b6 (lspl _ 0 []) _
      rw [lspl_nil]; exact k4
    · rintro m fr wr J ⟨k, rfl, hk, f1, f4, f6, f7, f8, hbk, e⟩ hJ hX
      simp only [f1, f6, f7, f8, bin_lss]
      refine cond_d (fun hlt => ?_) (fun hlt => ?_)
      · have hlt : k < 64 := by omega
        rw [bin_mul, i64_self (by omega), bin_add, i64_self (by omega)]
        have ea : (64 : Int) * (q : Int) + (k : Int) = ((64 * q + k : Nat) : Int) := by omega
        rw [ea]
        have hbw := hb.keep e (by simp; omega)
        have hbr := hbw.rd (m := 64 * D.n) (s := 1) (c := c) (by rw [bc_length]; omega)
        have hbr' : RdSl wr (.slice (some ⟨b, 0, none⟩) (64 * D.n) c) 1 (bc D.seen) D.seen.length := by rwa [← hsl] at hbr ⊢
        obtain ⟨ib, io, hix, hld⟩ := hbr'.at1 (i := 64 * q + k) (by omega) .i64
        refine hix _ (hld _ ?_)
        rw [hsg k hlt]
        have hlen : (bc (sec.take k)).length = k := by rw [bc_length, List.length_take]; omega
        have hll : (lspl (bc (List.replicate 64 0)) 0 (bc (sec.take k))).length = 64 := by rw [lspl_length (by rw [hlen, hzl]; omega), hzl]
        refine idxA_i hlt (storeW_i (vs := [bv (sec.getD k 0)]) hbk rfl rfl (by rw [hll]; omega) (by intro y hy; simp at hy; subst hy; rfl) fun w' e' hb' hs' => ?_)
        have hnew : lspl (lspl (bc (List.replicate 64 0)) 0 (bc (sec.take k))) (0 + k * 1) [bv (sec.getD k 0)] = lspl (bc (List.replicate 64 0)) 0 (bc (sec.take (k + 1))) := by
          have := lspl_lspl (bc (List.replicate 64 0)) 0 (bc (sec.take k)) [bv (sec.getD k 0)] (by rw [hlen, hzl]; simp; omega)
          rw [hlen] at this
          rw [Nat.mul_one, this]
          congr 1
          rw [List.take_succ_eq_append_getElem (by omega), bc_append]
          congr 1
          rw [List.getD_eq_getElem?_getD, List.getElem?_eq_getElem (by omega)]
          rfl
        rw [hnew] at hb'
        rw [bin_add, i64_self (by omega)]
        refine hJ (64 - (k + 1)) _ _ (by omega) ⟨k + 1, rfl, hlt, f1, f4, f6, f7, ?_, hb', e.step e' (by intro y hy _; exact hy)⟩
        show Value.int .i64 ((k : Int) + 1) = _
        simp
      · have hk64 : k = 64 := by omega
        subst hk64
        refine hX _ _ _ (by simp) (h2 _ _ _ (blk_x (seq_n h1 ?_)))
        show loadW (some (true, 64)) (fr 6) wr _
        rw [f6]
        have hsb : (bc sec).length = 64 := by rw [bc_length, hsec]
        rw [List.take_of_length_le (by omega), lspl_all (by rw [hsb, hzl])] at hbk
        refine loadAll hbk.r hsb ?_
        show storeW (some (true, 64)) (fr 4) _ wr _
        rw [f4]
        have k1 := k1.keep e (by simp; omega)
        refine storeAll k1 hsb hzl (bc_one _) fun w5 e5 k5 s5 => ?_
        show loadW (some (true, 64)) (fr 4) w5 _
        rw [f4]
        refine loadAll k5.r hsb ?_
        exact hK w5 (((e13.new e4).step e (by intro y hy hlt; simp at hy; omega)).step e5 (by intro y hy hlt; simp at hy; omega))

theorem rflush_c {w : World} {p : Nat} {F : List Nat} {D : DiskM} (h : Ref w p F D) (hpl : D.pend.length ≤ 1000000) {K : VPost} (hK : ∀ F' w', Ref w' p F' D.flush → Mv F w F' w' → K (.tuple #[]) w') :
    Calls Try.prog 26 #[.pointer (some ⟨p, 0, none⟩)] w (retK K) := by
  refine c26_calls _ w K ?_
  unfold c26
  refine fnW_of (by kernel_rfl) (rimage_c h hpl fun b c w1 hb e1 hbn => ?_)
  obtain ⟨bl, cl, qv, h, hseen, rfl⟩ := h
  have h1 := h.keep e1 (by simp)
  have hplt := h.hdr.lt
  simp only [nilW_e]
  refine off_i (o := 0) (k := 0) (store1 (o := 0 + 0) h1.hdr rfl (by simp) rfl fun w2 e2 k2 s2 => ?_)
  refine off_i (o := 0) (k := 1) (store1 (o := 0 + 1) k2 rfl (by simp) rfl fun w3 e3 k3 s3 => ?_)
  have hs := h.ok.slen
  refine hK [p, b] w3 ⟨b, c, .slice none 0 0, ⟨k3, (hb.keep e2 (by simp; omega)).keep e3 (by simp; omega), .inl ⟨rfl, rfl, rfl⟩, ⟨hs, hs, by simp [DiskM.flush], h.ok.n1, h.ok.n2, h.ok.l1, h.ok.l2⟩, by omega, by simp [slB], by simp [slB]⟩, rfl, by simp [slB]⟩ ⟨?_, ?_⟩
  · exact ((e1.mono (by simp)).step e2 (by intro x hx _; simp at hx; subst hx; simp)).step e3 (by intro x hx _; simp at hx; subst hx; simp)
  · intro x hx
    simp at hx
    rcases hx with rfl | rfl
    · left; simp
    · right; omega

theorem rlimit_c {w : World} {p : Nat} {F : List Nat} {D : DiskM} (h : Ref w p F D) (k : Int) (hk : k ≤ 9223372036854775807) {K : VPost} (hK : ∀ F' w', Ref w' p F' (D.limit k) → Mv F w F' w' → K (.tuple #[]) w') :
    Calls Try.prog 32 #[.pointer (some ⟨p, 0, none⟩), .int .i64 k] w (retK K) := by
  obtain ⟨bl, cl, qv, h, hseen, rfl⟩ := h
  refine c32_calls _ _ w K ?_
  unfold c32
  simp only [max_e, nilW_e]
  refine off_i (o := 0) (k := 2) (store1 (o := 0 + 2) h.hdr rfl (by simp) rfl fun w2 e2 hh2 hz2 => ?_)
  refine hK _ w2 ⟨bl, cl, qv, ⟨hh2, h.last.keep e2 (by simpa using Ne.symm h.ne1), h.list.keep e2 (fun x hx => by simp; intro e; exact h.ne2 (e ▸ hx)),
    ⟨h.ok.llen, h.ok.slen, h.ok.plen, h.ok.n1, h.ok.n2, by show -1 ≤ max k (-1); omega, by show max k (-1) ≤ _; omega⟩, h.ne1, h.ne2, h.ne3⟩, hseen, rfl⟩ ⟨e2.mono (by intro x hx _; simp at hx; subst hx; simp), fun x hx => .inl hx⟩

theorem rwrite_c {w : World} {p : Nat} {F : List Nat} {D : DiskM} (h : Ref w p F D) (i : Int) (b : Bytes) (hb : b.length = 64) (hp : D.pend.length ≤ 1000000) {K : VPost}
    (hK : ∀ F' w', Ref w' p F' (D.write i b).1 → Mv F w F' w' → K (.int .i64 (D.write i b).2) w') :
    Calls Try.prog 24 #[.pointer (some ⟨p, 0, none⟩), .int .i64 i, .agg (bc b).toArray] w (retK K) := by
  refine c24_calls _ _ _ w K ?_
  unfold c24
  refine boxW_i fun bb w1 hbb e1 hbx hs1 => ?_
  have h1 := h.keep e1 (by simp)
  have hbF : bb ∉ F := fun hm => by have := h.lt bb hm; omega
  have hbx : Blk w1 bb (bc b) 33 := by simpa [Value.cells] using hbx
  have hmv1 : Mv F w F w1 := ⟨(Ext.refl _ _).new e1, fun x hx => .inl hx⟩
  have hd1 := h1
  obtain ⟨bl, cl, qv, hh, hseen, hF⟩ := h1
  have hll := hh.ok.llen
  refine fnW_of (by kernel_rfl) (rthere_c hh i ?_)
  simp only [not_e]
  refine cond_b (fun hc => ?_) (fun hc => ?_)
  · have hn : ¬ (0 ≤ i ∧ i < D.n) := by simp at hc; omega
    have hw : D.write i b = (D, 11) := by unfold DiskM.write; rw [if_pos hn]
    rw [hw] at hK
    exact hK F w1 hd1 hmv1
  · have hn : 0 ≤ i ∧ i < D.n := by simpa using hc
    simp only [nilW_e]
    refine off_i (load1 (o := 0 + 2) hh.hdr.r rfl ?_)
    simp only [bin_eql]
    refine cond_b (fun hc => ?_) (fun hc => ?_)
    · have hl : D.left = 0 := by simpa using hc
      have hw : D.write i b = (D, 15) := by unfold DiskM.write; rw [if_neg (by simpa using hn), if_pos hl]
      rw [hw] at hK
      exact hK F w1 hd1 hmv1
    · have hl : ¬ D.left = 0 := by simpa using hc
      refine bindX_i fun J0 h0 => bindX_i fun J1 h1 => ?_
      have rest : ∀ (fr : Fr) (w2 : World) (D2 : DiskM), fr 0 = .pointer (some ⟨p, 0, none⟩) → fr 1 = .int .i64 i → fr 5 = .pointer (some ⟨bb, 0, none⟩) → D2.n = D.n → D2.pend = D.pend → D2.last = D.last → D2.seen = D.seen →
          { D2 with seen := bspl D2.seen (64 * i.toNat) b, pend := D2.pend ++ [(i.toNat, b)] } = (D.write i b).1 → (D.write i b).2 = 0 →
          IsRef w2 p bl cl qv D2 → Blk w2 bb (bc b) 33 → Mv F w F w2 → w1.heap.size ≤ w2.heap.size → J1 .normal fr w2 := by
        intro fr w2 D2 f0 f1 f5 hn2 hpd hla hse hD hr h hbk hmv hsz
        refine seq_n h1 ?_
        simp only [f0, f1, f5, nilW_e]
        have ed := Ext.drew [] w2
        have h := h.keep ed (by simp)
        have hbk := hbk.keep ed (by simp)
        have hmv : Mv F w F w2.drew := ⟨hmv.ext.new ed, hmv.own⟩
        have hsz : w1.heap.size ≤ w2.drew.heap.size := hsz
        generalize w2.drew = w2 at *
        obtain ⟨q, hq⟩ : ∃ q : Nat, i = q := ⟨i.toNat, by omega⟩
        subst hq
        simp only [Int.toNat_natCast] at hD
        refine off_i (load1 (o := 0 + 1) h.hdr.r rfl (loadAll hbk.r (by rw [bc_length, hb]) ?_))
        refine build_i str_rwrite (fill_write q b hb) ⟨rfl, ?_⟩
        obtain ⟨iw, hiw, hzw, hsw, hbw⟩ := tyI_spec ty_rwrite
        refine buildSlice_i (vs := [.agg (Value.int .i64 q :: bc b).toArray]) und_rwrites hiw hzw rfl (by intro v hv; simp at hv; subst hv; rw [hsw]; simp [Value.cells, bc_length, hb]) (by rw [hsw]; simp) fun ba w4 hba e4 hb4 hs4 => ?_
        have h4 := h.keep e4 (by simp)
        have hfl : flatV [Value.agg (Value.int .i64 q :: bc b).toArray] = .int .i64 q :: bc b := by simp [flatV, Value.cells]
        rw [hfl] at hb4
        refine ⟨load1 (o := 0 + 1) h4.hdr.r rfl ⟨rfl, rfl⟩, ?_⟩
        refine append_i (e := 106) und_rwrites und_rwrites hiw hzw (by rw [hsw]; simp [Value.cells]) (by rw [hbw]; decide) (by rw [hsw]; exact h4.list) (m := 1) (ys := .int .i64 q :: bc b) ?_ ?_ (by rw [hbw, hpd]; omega) fun v5 w5 ho5 e5 hsb => ?_
        · rw [hsw]
          exact ⟨by simp [bc_length, hb], .inr ⟨ba, 0, 1, _, rfl, hb4.r, by rw [List.drop_zero]; exact List.take_of_length_le (by simp [bc_length, hb]), by simp [bc_length, hb]⟩⟩
        · intro y hy
          rcases List.mem_cons.1 hy with rfl | hy
          · rfl
          · exact bc_one b y hy
        rw [hsw, ← pcells_append] at ho5
        have hh5 := h4.hdr.keep e5 h.ne2
        have hl5 := h4.last.keep e5 h.ne3
        refine off_i (o := 0) (k := 1) (store1 (o := 0 + 1) hh5 ?_ (by simp) ?_ fun w6 e6 hh6 hz6 => ?_)
        · obtain ⟨a, c, rfl⟩ := ho5.shape; rfl
        · obtain ⟨a, c, rfl⟩ := ho5.shape; rfl
        have hb5 : ∀ x ∈ slB v5, x ∈ slB qv ∨ w4.heap.size ≤ x := by
          intro x hx
          rcases hsb with e | ⟨b', e, hge⟩
          · rw [e] at hx; exact .inl hx
          · rw [e] at hx; simp at hx; subst hx; exact .inr hge
        have hpl := h4.hdr.lt
        have hbl := h4.last.lt
        have hnp : p ∉ slB v5 := fun hm => by
          rcases hb5 p hm with h' | h'
          · exact h.ne2 h'
          · omega
        have hnb : bl ∉ slB v5 := fun hm => by
          rcases hb5 bl hm with h' | h'
          · exact h.ne3 h'
          · omega
        have hq2 : q < D2.n := by omega
        have hok : ({ D2 with seen := bspl D2.seen (64 * q) b, pend := D2.pend ++ [(q, b)] } : DiskM).ok := by
          refine ⟨h.ok.llen, ?_, fun x hx => ?_, h.ok.n1, h.ok.n2, h.ok.l1, h.ok.l2⟩
          · show (bspl _ _ _).length = _
            have := h.ok.slen
            rw [bspl_length (by omega)]; exact this
          · rcases List.mem_append.1 hx with hx | hx
            · exact h.ok.plen x hx
            · simp at hx; subst hx; exact ⟨hq2, hb⟩
        rw [hr] at hK
        rw [← hD] at hK
        refine hK ([p, bl] ++ slB v5) w6 ⟨bl, cl, v5, ⟨by simpa using hh6, hl5.keep e6 (by simpa using Ne.symm h.ne1), ?_, hok, h.ne1, hnp, hnb⟩, ?_, rfl⟩ (hmv.trans ⟨?_, ?_⟩)
        · have := ho5.keep e6 (fun x hx => by simp; intro e; subst e; exact hnp hx)
          simpa using this
        · show bspl D2.seen (64 * q) b = img D2.last (D2.pend ++ [(q, b)])
          rw [img_snoc, hse, hla, hpd, hseen]
        · rw [hF]
          exact (((Ext.refl _ w2).new e4).step e5 (fun x hx _ => by simp [hx])).step e6 (by simp)
        · intro x hx
          rw [hF]
          simp only [List.cons_append, List.nil_append, List.mem_cons] at hx ⊢
          rcases hx with rfl | rfl | hx
          · simp
          · simp
          · rcases hb5 x hx with h' | h'
            · simp [h']
            · right; have := e4.size; omega
      refine off_i (load1 (o := 0 + 2) hh.hdr.r rfl ?_)
      simp only [bin_gtr]
      refine cond_d (fun hc => ?_) (fun hc => ?_)
      · refine off_i (load1 (o := 0 + 2) hh.hdr.r rfl ?_)
        have hl2 := hh.ok.l2
        simp only [bin_sub]
        rw [i64_self (by omega)]
        refine off_i (o := 0) (k := 2) (store1 (o := 0 + 2) hh.hdr rfl (by simp) rfl fun w2 e2 hh2 hz2 => ?_)
        have hw : D.write i b = ({ D with seen := bspl D.seen (64 * i.toNat) b, pend := D.pend ++ [(i.toNat, b)], left := D.left - 1 }, 0) := by
          unfold DiskM.write; rw [if_neg (by simpa using hn), if_neg hl]; simp [hc]
        have hbF' := hbF
        rw [hF] at hbF'
        simp only [List.mem_cons, List.cons_append, List.nil_append, not_or] at hbF'
        refine rest _ w2 { D with left := D.left - 1 } rfl rfl rfl rfl rfl rfl rfl (by rw [hw]) (by rw [hw]) ⟨by simpa using hh2, hh.last.keep e2 (by simpa using Ne.symm hh.ne1),
          hh.list.keep e2 (fun x hx => by simp; intro e; exact hh.ne2 (e ▸ hx)), ⟨hh.ok.llen, hh.ok.slen, hh.ok.plen, hh.ok.n1, hh.ok.n2, by show -1 ≤ D.left - 1; omega, by show D.left - 1 ≤ _; omega⟩, hh.ne1, hh.ne2, hh.ne3⟩
          (hbx.keep e2 (by simpa using hbF'.1)) (hmv1.trans ⟨e2.mono (by intro x hx _; simp at hx; subst hx; rw [hF]; simp), fun x hx => .inl hx⟩) (by omega)
      · have hw : D.write i b = ({ D with seen := bspl D.seen (64 * i.toNat) b, pend := D.pend ++ [(i.toNat, b)], left := D.left }, 0) := by
          unfold DiskM.write; rw [if_neg (by simpa using hn), if_neg hl]; simp [hc]
        exact rest _ w1 D rfl rfl rfl rfl rfl rfl rfl (by rw [hw]) (by rw [hw]) hh hbx hmv1 (Nat.le_refl _)

theorem rcrash_c {w : World} {p : Nat} {F : List Nat} {D : DiskM} (h : Ref w p F D) (picks : Bytes) {pv : Value} (hp : RdSl w pv 1 (bc picks) picks.length) (hpd : 0 < picks.length → ∀ b ∈ slB pv, b ∉ F) (hlen : D.pend.length ≤ 1000000) {K : VPost}
    (hK : ∀ F' w', Ref w' p F' (D.crash picks) → Mv F w F' w' → K (.int .i64 (donec picks 0 D.pend)) w') :
    Calls Try.prog 29 #[.pointer (some ⟨p, 0, none⟩), pv] w (retK K) := by
  obtain ⟨bl, cl, qv, hd, hseen, rfl⟩ := h
  refine c29_calls _ _ w K ?_
  unfold c29
  obtain ⟨pa, pc, hpv⟩ := hp.len
  have hlp : ∀ (w : World) (K : VPost), lenW Try.prog (some true) #[34] 3 #[pv] w K = K (.int .i64 picks.length) w := fun w K => by rw [hpv, len_s]
  obtain ⟨qa, qc, hqv⟩ := hd.list.shape
  have hlq : ∀ (w : World) (K : VPost), lenW Try.prog (some true) #[45] 3 #[qv] w K = K (.int .i64 D.pend.length) w := fun w K => by rw [hqv, len_s]
  have hll := hd.ok.llen
  have hn2 := hd.ok.n2
  have hu8 : Try.prog.underlying 5 = some (.int .u8) := by kernel_rfl
  have hint : Try.prog.underlying 3 = some (.int .i64) := by kernel_rfl
  refine bindX_i fun J0 h0 => bindX_i fun J1 h1 => bindX_i fun J2 h2 => ?_
  refine loop_i (fun m fr wr => ∃ k : Nat, m = D.pend.length - k ∧ k ≤ D.pend.length ∧ fr 0 = .pointer (some ⟨p, 0, none⟩) ∧ fr 1 = pv ∧ fr 5 = .int .i64 (donec picks 0 (D.pend.take k)) ∧ fr 6 = .int .i64 k ∧
    IsRef wr p bl cl qv { D with last := tears picks 0 (D.pend.take k) D.last } ∧ Ext [bl] w wr) D.pend.length ?_ ?_
  · exact ⟨0, rfl, Nat.zero_le _, rfl, rfl, rfl, rfl, by simpa [tears] using hd, Ext.refl _ _⟩
  · rintro m fr wr J ⟨k, rfl, hk, f0, f1, f5, f6, hr, e⟩ hJ hX
    simp only [f0, f1, f5, f6, nilW_e]
    refine off_i (load1 (o := 0 + 1) hr.hdr.r rfl ?_)
    rw [hlq, bin_lss]
    refine cond_d (fun hlt => ?_) (fun hlt => ?_)
    · have hlt : k < D.pend.length := by omega
      refine bindX_i fun J3 h3 => bindX_i fun J4 h4 => bindX_i fun J5 h5 => ?_
      have htk : D.pend.take (k + 1) = D.pend.take k ++ [D.pend[k]] := List.take_succ_eq_append_getElem hlt
      have hlk : (D.pend.take k).length = k := by rw [List.length_take]; omega
      have hpk := hr.ok.plen D.pend[k] (List.getElem_mem hlt)
      have hdl := donec_le picks (D.pend.take k) 0
      generalize hq : picks.getD (k % picks.length) 0 = q at *
      have hdn : donec picks 0 (D.pend.take (k + 1)) = donec picks 0 (D.pend.take k) + (if 64 ≤ q.toNat then 1 else 0) := by
        rw [htk, donec_snoc, hlk, Nat.zero_add, hq]
      have htn : tears picks 0 (D.pend.take (k + 1)) D.last = tear (tears picks 0 (D.pend.take k) D.last) D.pend[k] q := by
        rw [htk, tears_snoc, hlk, Nat.zero_add, hq]
      have hq256 : q.toNat < 256 := q.toNat_lt
      have hk64 : q.toNat % 64 < 64 := Nat.mod_lt _ (by decide)
      have next : ∀ (fr : Fr) (w' : World), fr 0 = .pointer (some ⟨p, 0, none⟩) → fr 1 = pv → fr 5 = .int .i64 (donec picks 0 (D.pend.take (k + 1))) → fr 6 = .int .i64 k →
          PB w' bl (bc (tear (tears picks 0 (D.pend.take k) D.last) D.pend[k] q)) 5 → Ext [bl] wr w' → J3 .normal fr w' := by
        intro fr w' g0 g1 g5 g6 hb' e'
        refine seq_n h3 ?_
        simp only [g6]
        rw [bin_add, i64_self (by omega)]
        refine hJ (D.pend.length - (k + 1)) _ _ (by omega) ⟨k + 1, rfl, hlt, g0, g1, g5, ?_, ⟨hr.hdr.keep e' (by simpa using hr.ne1), by rw [htn]; exact hb', hr.list.keep e' (fun x hx => by simp; intro e; exact hr.ne3 (e ▸ hx)),
          ⟨by rw [htn]; exact tear_length hr.ok.llen hpk.1 hpk.2 q, hr.ok.slen, hr.ok.plen, hr.ok.n1, hr.ok.n2, hr.ok.l1, hr.ok.l2⟩, hr.ne1, hr.ne2, hr.ne3⟩, e.step e' (by intro x hx _; exact hx)⟩
        show Value.int .i64 ((k : Int) + 1) = _
        simp
      have hrl := hr.ok.llen
      have hla := hr.last
      have hli := hr.list
      have hhd := hr.hdr
      simp only at hrl hla hli hhd hpk
      have hrok : D.ok := hd.ok
      have hne1 := hr.ne1
      have hne3 := hr.ne3
      clear hr
      generalize htl : tears picks 0 (D.pend.take k) D.last = tl at *
      have s5 : ∀ (fr : Fr), fr 0 = .pointer (some ⟨p, 0, none⟩) → fr 1 = pv → fr 5 = .int .i64 (donec picks 0 (D.pend.take k)) → fr 6 = .int .i64 k → fr 7 = bv q → J5 .normal fr wr := by
        intro fr g0 g1 g5 g6 g7
        refine seq_n h5 ?_
        simp only [g7]
        unfold bv
        have hrem : ((q.toNat : Int)).tmod 64 = ((q.toNat % 64 : Nat) : Int) := by
          rw [Int.tmod_eq_emod_of_nonneg (by omega)]; omega
        have hquo : ((q.toNat : Int)).tdiv 64 = ((q.toNat / 64 : Nat) : Int) := by
          rw [Int.tdiv_eq_ediv_of_nonneg (by omega)]; omega
        have hwq : IntKind.u8.wrap (((q.toNat / 64 : Nat) : Int)) = ((q.toNat / 64 : Nat) : Int) := by rw [IntKind.wrap_u8]; omega
        rw [bin_rem (by decide), hrem, conv_int hu8 hint, i64_self (by omega)]
        refine bindX_i fun J6 h6 => ?_
        have s6 : ∀ (fr : Fr), fr 0 = .pointer (some ⟨p, 0, none⟩) → fr 1 = pv → fr 5 = .int .i64 (donec picks 0 (D.pend.take (k + 1))) → fr 6 = .int .i64 k → fr 7 = bv q → fr 8 = .int .i64 ((q.toNat % 64 : Nat) : Int) → J6 .normal fr wr := by
          intro fr g0 g1 g5 g6 g7 g8
          refine seq_n h6 ?_
          simp only [g7]
          unfold bv
          rw [bin_quo (by decide), hquo, hwq]
          refine bindX_i fun J7 h7 => ?_
          simp only [g0, g6, g8, nilW_e, bin_eql]
          have hlw : (64 * D.n) < 2 ^ 40 := by omega
          refine cond_b (fun hc => ?_) (fun hc => ?_)
          · have hc1 : q.toNat / 64 = 1 := by simp at hc; omega
            have ed := Ext.drew [bl] wr
            have edn := Ext.drew [] wr
            have hla := hla.keep edn (by simp)
            have hli := hli.keep edn (by simp)
            have hhd := hhd.keep edn (by simp)
            generalize wr.drew = wd at *
            refine off_i (load1 (o := 0 + 0) hhd.r rfl (off_i (load1 (o := 0 + 1) hhd.r rfl ?_)))
            obtain ⟨b', o', cs, hix, hbk, hle, hcs⟩ := rec_at hli hrok hlt
            refine hix _ (loadN hbk hle ?_)
            rw [hcs]
            refine fnW_of (by kernel_rfl) (put_c hla D.pend[k] hpk.2 0 64 (by omega) (by omega) hrl hlw fun w' hp' e' => ?_)
            refine next _ w' g0 g1 g5 g6 ?_ (ed.step e' (by intro x hx _; exact hx))
            have hall : (D.pend[k].2.drop 0).take 64 = D.pend[k].2 := by rw [List.drop_zero]; exact List.take_of_length_le (by omega)
            rw [Nat.add_zero, hall] at hp'
            have ht : tear tl D.pend[k] q = bspl tl (64 * D.pend[k].1) D.pend[k].2 := by unfold tear; rw [if_neg (by omega), if_pos hc1]
            rw [ht]; exact hp'
          · have hn1 : ¬ q.toNat / 64 = 1 := by simp at hc; omega
            refine cond_b (fun hc => ?_) (fun hc => ?_)
            · have hc2 : q.toNat / 64 = 2 := by simp at hc; omega
              have ed := Ext.drew [bl] wr
              have edn := Ext.drew [] wr
              have hla := hla.keep edn (by simp)
              have hli := hli.keep edn (by simp)
              have hhd := hhd.keep edn (by simp)
              generalize wr.drew = wd at *
              refine off_i (load1 (o := 0 + 0) hhd.r rfl (off_i (load1 (o := 0 + 1) hhd.r rfl ?_)))
              obtain ⟨b', o', cs, hix, hbk, hle, hcs⟩ := rec_at hli hrok hlt
              refine hix _ (loadN hbk hle ?_)
              rw [hcs]
              refine fnW_of (by kernel_rfl) (put_c hla D.pend[k] hpk.2 0 (q.toNat % 64) (by omega) (by omega) hrl hlw fun w' hp' e' => ?_)
              refine next _ w' g0 g1 g5 g6 ?_ (ed.step e' (by intro x hx _; exact hx))
              rw [Nat.add_zero, List.drop_zero] at hp'
              have ht : tear tl D.pend[k] q = bspl tl (64 * D.pend[k].1) (D.pend[k].2.take (q.toNat % 64)) := by unfold tear; rw [if_neg (by omega), if_neg hn1, if_pos hc2]
              rw [ht]; exact hp'
            · have hn2 : ¬ q.toNat / 64 = 2 := by simp at hc; omega
              refine cond_b (fun hc => ?_) (fun hc => ?_)
              · have hc3 : q.toNat / 64 = 3 := by simp at hc; omega
                have ed := Ext.drew [bl] wr
                have edn := Ext.drew [] wr
                have hla := hla.keep edn (by simp)
                have hli := hli.keep edn (by simp)
                have hhd := hhd.keep edn (by simp)
                generalize wr.drew = wd at *
                refine off_i (load1 (o := 0 + 0) hhd.r rfl (off_i (load1 (o := 0 + 1) hhd.r rfl ?_)))
                obtain ⟨b', o', cs, hix, hbk, hle, hcs⟩ := rec_at hli hrok hlt
                refine hix _ (loadN hbk hle ?_)
                rw [hcs]
                have es : (64 : Int) - ((q.toNat % 64 : Nat) : Int) = ((64 - q.toNat % 64 : Nat) : Int) := by omega
                rw [bin_sub, i64_self (by omega), es]
                refine ⟨rfl, fnW_of (by kernel_rfl) (put_c hla D.pend[k] hpk.2 (64 - q.toNat % 64) (q.toNat % 64) (by omega) (by omega) hrl hlw fun w' hp' e' => ?_)⟩
                refine next _ w' g0 g1 g5 g6 ?_ (ed.step e' (by intro x hx _; exact hx))
                rw [List.take_of_length_le (by rw [List.length_drop]; omega)] at hp'
                have ht : tear tl D.pend[k] q = bspl tl (64 * D.pend[k].1 + (64 - q.toNat % 64)) (D.pend[k].2.drop (64 - q.toNat % 64)) := by unfold tear; rw [if_neg (by omega), if_neg hn1, if_neg hn2]
                rw [ht]; exact hp'
              · have hn3 : ¬ q.toNat / 64 = 3 := by simp at hc; omega
                refine next _ wr g0 g1 g5 g6 ?_ (Ext.refl _ _)
                have ht : tear tl D.pend[k] q = tl := by unfold tear; rw [if_pos (by omega)]
                rw [ht]; exact hla
        simp only [bin_geq]
        refine cond_d (fun hc => ?_) (fun hc => ?_)
        · simp only [g5]
          rw [bin_add, i64_self (by omega)]
          refine s6 _ g0 g1 ?_ g6 g7 rfl
          rw [hdn, if_pos (by omega)]
          show Value.int .i64 ((donec picks 0 (D.pend.take k) : Int) + 1) = _
          simp
        · refine s6 _ g0 g1 ?_ g6 g7 rfl
          rw [hdn, if_neg (by omega)]
          exact g5
      rw [hlp, bin_gtr]
      refine cond_d (fun hc => ?_) (fun hc => ?_)
      · have hpos : 0 < picks.length := by omega
        have hne : ((picks.length : Nat) : Int) ≠ 0 := by omega
        have hmod : ((k : Nat) : Int).tmod ((picks.length : Nat) : Int) = ((k % picks.length : Nat) : Int) := by
          rw [Int.tmod_eq_emod_of_nonneg (by omega)]; omega
        rw [hlp, bin_rem hne, hmod]
        obtain ⟨ib, io, hix, hld⟩ := (hp.keep e (fun b hb => by have := hpd hpos b hb; simp at this ⊢; exact this.2.1)).at1 (Nat.mod_lt k hpos) .i64
        refine hix _ (hld _ ?_)
        rw [hq]
        exact s5 _ f0 f1 f5 f6 rfl
      · have h00 : picks = [] := List.length_eq_zero_iff.1 (by omega)
        refine s5 _ f0 f1 f5 f6 ?_
        rw [← hq, h00]
        rfl
    · have hkl : k = D.pend.length := by omega
      subst hkl
      rw [List.take_length] at hr f5
      refine hX _ _ _ (by simp) (h2 _ _ _ (blk_x (seq_n h1 ?_)))
      show nilW (fr 0) wr _
      rw [f0, nilW_e]
      refine off_i (o := 0) (k := 1) (store1 (o := 0 + 1) hr.hdr rfl (by simp) rfl fun w1 e1 k1 s1 => ?_)
      show nilW (fr 0) w1 _
      rw [f0, nilW_e]
      refine off_i (o := 0) (k := 2) (store1 (o := 0 + 2) k1 rfl (by simp) rfl fun w2 e2 k2 s2 => ?_)
      show K (fr 5) w2
      rw [f5]
      have hrl := hr.ok.llen
      simp only at hrl
      refine hK [p, bl] w2 ⟨bl, cl, .slice none 0 0, ⟨k2, (hr.last.keep e1 (by simpa using Ne.symm hr.ne1)).keep e2 (by simpa using Ne.symm hr.ne1), .inl ⟨rfl, rfl, rfl⟩, ⟨hrl, hrl, by simp [DiskM.crash], hr.ok.n1, hr.ok.n2, by simp [DiskM.crash], by simp [DiskM.crash]⟩, hr.ne1, by simp [slB], by simp [slB]⟩, rfl, by simp [slB]⟩ ⟨?_, ?_⟩
      · exact ((e.mono (by intro x hx _; simp at hx; subst hx; simp)).step e1 (by intro x hx _; simp at hx; subst hx; simp)).step e2 (by intro x hx _; simp at hx; subst hx; simp)
      · intro x hx
        left
        simp at hx ⊢
        rcases hx with rfl | rfl <;> simp
end Go.Proofs.Ytedebapgmfnflaa
