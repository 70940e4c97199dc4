/- The disk's own functions, by contracts. -/
import Derived.Test.YtedebapgmfnflaaD0
import Derived.Test.YtedebapgmfnflaaCD
namespace Go.Proofs.Ytedebapgmfnflaa
open Go

theorem there_c {w : World} {p : Nat} {F : List Nat} {D : DiskM} (h : Disk w p F D) (i : Int) {K : VPost} (hK : K (.bool (decide (0 ≤ i ∧ i < D.n))) w) :
    Calls Try.prog 74 #[.pointer (some ⟨p, 0, none⟩), .int .i64 i] w (retK K) := by
  obtain ⟨bl, bs, zl, zs, pv, h, rfl⟩ := h
  refine c74_calls _ _ w K ?_
  unfold c74
  simp only [bin_geq]
  by_cases h0 : 0 ≤ i
  · simp only [h0, decide_true, gstep_t, pickW_t, nilW_e]
    refine off_i (load1 h.hdr.r rfl ?_)
    simp only [len_s, bin_lss]
    simpa [h0] using hK
  · simp only [h0, decide_false, gstep_ft, pickW_f]
    simpa [h0] using hK

theorem size_c {w : World} {p : Nat} {F : List Nat} {D : DiskM} (h : Disk w p F D) {K : VPost} (hK : K (.int .i64 D.n) w) :
    Calls Try.prog 36 #[.pointer (some ⟨p, 0, none⟩)] w (retK K) := by
  obtain ⟨bl, bs, zl, zs, pv, h, rfl⟩ := h
  refine c36_calls _ w K ?_
  unfold c36
  simp only [nilW_e]
  refine off_i (load1 h.hdr.r rfl ?_)
  simpa only [len_s] using hK

theorem OwnSl.shape {w : World} {v : Value} {e : TypeId} {s : Nat} {xs : List Value} {n : Nat} (h : OwnSl w v e s xs n) : ∃ a c, v = .slice a n c := h.rd.len

theorem pending_c {w : World} {p : Nat} {F : List Nat} {D : DiskM} (h : Disk w p F D) {K : VPost} (hK : K (.int .i64 D.pend.length) w) :
    Calls Try.prog 35 #[.pointer (some ⟨p, 0, none⟩)] w (retK K) := by
  obtain ⟨bl, bs, zl, zs, pv, h, rfl⟩ := h
  refine c35_calls _ w K ?_
  unfold c35
  simp only [nilW_e]
  refine off_i (load1 h.hdr.r rfl ?_)
  obtain ⟨a, c, rfl⟩ := h.pend.shape
  simpa only [len_s] using hK

/-- A write. -/
def DiskM.write (D : DiskM) (i : Int) (b : Bytes) : DiskM × Int :=
  if ¬ (0 ≤ i ∧ i < D.n) then (D, 11)
  else if D.left = 0 then (D, 15)
  else ({ D with seen := bspl D.seen (64 * i.toNat) b, pend := D.pend ++ [(i.toNat, b)], left := if 0 < D.left then D.left - 1 else D.left }, 0)

theorem seq_n {B : Fr → World → Prop} {K J : XPost} (h : ∀ e fr w, seqX B K e fr w → J e fr w) {fr : Fr} {w : World} (hb : B fr w) : J .normal fr w := h _ _ _ hb

theorem i64_self {n : Int} (h : -9223372036854775808 ≤ n ∧ n ≤ 9223372036854775807) : IntKind.i64.wrap n = n := by rw [IntKind.wrap_i64]; omega

theorem pcells_append (p : List (Nat × Bytes)) (i : Nat) (b : Bytes) : pcells (p ++ [(i, b)]) = pcells p ++ (.int .i64 i :: bc b) := by simp [pcells]

theorem lspl_two (Z : List Value) (x : Value) (l : List Value) (h : Z.length = 1 + l.length) : lspl (lspl Z 0 [x]) 1 l = x :: l := by
  have := lspl_lspl Z 0 [x] l (by simp; omega)
  simp only [List.length_singleton, Nat.zero_add] at this
  rw [this]
  unfold lspl
  rw [List.drop_of_length_le (by simp; omega)]
  simp

/-- A write record's cells. -/
theorem fill_write (i : Nat) (b : Bytes) (hb : b.length = 64) :
    fillL [(0, 1), (1, 64)] (List.replicate 1 (Value.int .i64 0) ++ List.replicate 64 (Value.int .u8 0)) [(0, .int .i64 i), (1, .agg (bc b).toArray)] = some (.int .i64 i :: bc b) := by
  have hl : (bc b).length = 64 := by rw [bc_length, hb]
  have hZ : (List.replicate 1 (Value.int .i64 0) ++ List.replicate 64 (Value.int .u8 0)).length = 65 := by simp
  generalize List.replicate 1 (Value.int .i64 0) ++ List.replicate 64 (Value.int .u8 0) = Z at hZ
  have h1 : (Value.int .i64 (i : Int)).cells = #[.int .i64 i] := rfl
  have h2 : (Value.agg (bc b).toArray).cells = (bc b).toArray := rfl
  have e := lspl_two Z (.int .i64 i) (bc b) (by omega)
  have hlen : (lspl Z 0 [Value.int .i64 i]).length = 65 := by rw [lspl_length (by simp; omega)]; exact hZ
  simp [fillL, h1, h2, hl, hZ, hlen, e]

set_option maxRecDepth 100000 in
theorem write_c {w : World} {p : Nat} {F : List Nat} {D : DiskM} (h : Disk w p F D) (i : Int) (b : Bytes) (hb : b.length = 64) (hp : D.pend.length ≤ 1000000) {K : VPost}
    (hK : ∀ F' w', Disk w' p F' (D.write i b).1 → Mv F w F' w' → K (.int .i64 (D.write i b).2) w') :
    Calls Try.prog 23 #[.pointer (some ⟨p, 0, none⟩), .int .i64 i, .agg (bc b).toArray] w (retK K) := by
  refine c23_calls _ _ _ w K ?_
  unfold c23
  refine boxW_i fun bb w1 hbb e1 hbx hs1 => ?_
  have h1 := h.keep e1 (by simp)
  have hbF : bb ∉ F := fun hm => by have := h.lt bb hm; omega
  refine bindX_i fun J2 h2 => bindX_i fun J3 h3 => bindX_i fun J4 h4 => ?_
  -- what follows where the write is done
  have rest : ∀ (fr : Fr) (w2 : World) (D2 : DiskM), fr 0 = .pointer (some ⟨p, 0, none⟩) → fr 1 = .int .i64 i → fr 5 = .pointer (some ⟨bb, 0, none⟩) → 0 ≤ i → i < D.n → D2.n = D.n → D2.pend = D.pend →
      { D2 with seen := bspl D2.seen (64 * i.toNat) b, pend := D2.pend ++ [(i.toNat, b)] } = (D.write i b).1 → (D.write i b).2 = 0 →
      Disk w2 p F D2 → Blk w2 bb (bc b) 33 → Mv F w F w2 → w1.heap.size ≤ w2.heap.size → J3 .normal fr w2 := by
    intro fr w2 D2 f0 f1 f5 hi0 hi1 hn hpd hD hr hd hbk hmv hsz
    refine seq_n h3 ?_
    simp only [f0, f1, f5, nilW_e]
    clear h h1 e1
    obtain ⟨bl, bs, zl, zs, pv, h, rfl⟩ := hd
    obtain ⟨q, hq⟩ : ∃ q : Nat, i = q := ⟨i.toNat, by omega⟩
    subst hq
    have hq2 : q < D2.n := by omega
    refine off_i (load1 (o := 0 + 1) h.hdr.r rfl (loadAll hbk.r (by rw [bc_length, hb]) (idx_i hq2 ?_)))
    have hsl := h.ok.slen
    refine PB.store (vs := bc b) h.seen rfl (by rw [bc_length, hb]) (by rw [bc_length, hsl]; omega) (bc_one b) fun w3 e3 hs3 hz3 => ?_
    have e3 := e3.undrew
    simp only [Int.toNat_natCast, Nat.zero_add] at hs3 hD ⊢
    simp only [List.mem_cons, List.cons_append, List.nil_append, not_or] at hbF
    have hh3 := h.hdr.keep e3 (by simpa using h.ne2)
    have hp3 := h.pend.keep e3 (fun x hx => by simp; intro e; exact h.ne6 (e ▸ hx))
    have hl3 := h.last.keep e3 (by simpa using h.ne3)
    have hb3 := hbk.keep e3 (by simpa using hbF.2.2.1)
    refine off_i (load1 (o := 0 + 2) hh3.r rfl (loadAll hb3.r (by rw [bc_length, hb]) ?_))
    refine build_i str_write (fill_write q b hb) ⟨rfl, ?_⟩
    obtain ⟨iw, hiw, hzw, hsw, hbw⟩ := tyI_spec ty_write
    refine buildSlice_i (vs := [.agg (Value.int .i64 q :: bc b).toArray]) und_writes hiw hzw rfl (by intro v hv; simp at hv; subst hv; rw [hsw]; simp [Value.cells, bc_length, hb]) (by rw [hsw]; simp) fun ba w4 hba e4 hb4 hs4 => ?_
    have e4 := e4.undrew
    have hh4 := hh3.keep e4 (by simp)
    have hp4 := hp3.keep e4 (by simp)
    have hl4 := hl3.keep e4 (by simp)
    have hs4' := hs3.keep e4 (by simp)
    have hfl : flatV [Value.agg (Value.int .i64 q :: bc b).toArray] = .int .i64 q :: bc b := by simp [flatV, Value.cells]
    rw [hfl] at hb4
    refine ⟨load1 (o := 0 + 2) hh4.r rfl ⟨rfl, rfl⟩, ?_⟩
    refine append_i (e := 104) und_writes und_writes hiw hzw (by rw [hsw]; simp [Value.cells]) (by rw [hbw]; decide) (by rw [hsw]; exact hp4) (m := 1) (ys := .int .i64 q :: bc b) ?_ ?_ (by rw [hbw, hpd]; omega) fun v5 w5 ho5 e5 hsb => ?_
    · rw [hsw]
      exact ⟨by simp [bc_length, hb], .inr ⟨ba, 0, 1, _, rfl, hb4.r, by rw [List.drop_zero]; exact List.take_of_length_le (by simp [bc_length, hb]), by simp [bc_length, hb]⟩⟩
    · intro y hy
      rcases List.mem_cons.1 hy with rfl | hy
      · rfl
      · exact bc_one b y hy
    rw [hsw, ← pcells_append] at ho5
    have hne4 := h.ne4
    have hne5 := h.ne5
    have hne6 := h.ne6
    have hh5 := hh4.keep e5 hne4
    have hl5 := hl4.keep e5 hne5
    have hs5 := hs4'.keep e5 hne6
    refine off_i (o := 0) (k := 2) (store1 (o := 0 + 2) hh5 ?_ (by simp) ?_ fun w6 e6 hh6 hz6 => ?_)
    · obtain ⟨a, c, rfl⟩ := ho5.shape; rfl
    · obtain ⟨a, c, rfl⟩ := ho5.shape; rfl
    have hb5 : ∀ x ∈ slB v5, x ∈ slB pv ∨ w4.heap.size ≤ x := by
      intro x hx
      rcases hsb with e | ⟨b', e, hge⟩
      · rw [e] at hx; exact .inl hx
      · rw [e] at hx; simp at hx; subst hx; exact .inr hge
    have hlt : ∀ x, x = p ∨ x = bl ∨ x = bs → x < w4.heap.size := by
      intro x hx
      rcases hx with rfl | rfl | rfl
      · exact hh4.lt
      · exact hl4.lt
      · exact hs4'.lt
    have hnew : ∀ x, x = p ∨ x = bl ∨ x = bs → x ∉ slB pv → x ∉ slB v5 := by
      intro x hx hn hm
      rcases hb5 x hm with h' | h'
      · exact hn h'
      · have := hlt x hx; omega
    have hok : ({ D2 with seen := bspl D2.seen (64 * q) b, pend := D2.pend ++ [(q, b)] } : DiskM).ok := by
      refine ⟨h.ok.llen, ?_, fun x hx => ?_, h.ok.n1, h.ok.n2, h.ok.l1, h.ok.l2⟩
      · show (bspl _ _ _).length = _
        rw [bspl_length (by rw [hsl]; omega)]; exact hsl
      · rcases List.mem_append.1 hx with hx | hx
        · exact h.ok.plen x hx
        · simp at hx; subst hx; exact ⟨hq2, hb⟩
    rw [hr] at hK
    rw [← hD] at hK
    refine hK ([p, bl, bs] ++ slB v5) w6 ⟨bl, bs, zl, zs, v5, ⟨?_, hl5.keep e6 (by simpa using Ne.symm h.ne1), ?_, ?_, hok, h.ne1, h.ne2, h.ne3, hnew p (.inl rfl) hne4, hnew bl (.inr (.inl rfl)) hne5, hnew bs (.inr (.inr rfl)) hne6⟩, rfl⟩ (hmv.trans ⟨?_, ?_⟩)
    · simpa using hh6
    · rw [show (64 : Nat) * q = q * 64 by omega, bc_spl]
      exact hs5.keep e6 (by simpa using Ne.symm h.ne2)
    · have := ho5.keep e6 (fun x hx => by simp; intro e; subst e; exact hnew x (.inl rfl) hne4 hx)
      simpa using this
    · exact ((((Ext.refl _ w2).step e3 (by simp)).new e4).step e5 (fun x hx _ => by simp [hx])).step e6 (by simp)
    · intro x hx
      simp only [List.cons_append, List.nil_append, List.mem_cons] at hx ⊢
      rcases hx with rfl | rfl | rfl | hx
      · simp
      · simp
      · simp
      · rcases hb5 x hx with h' | h'
        · simp [h']
        · right; have := e3.size; have := e4.size; omega
  refine fnW_of (by kernel_rfl) (there_c h1 i ?_)
  simp only [not_e]
  refine cond_b (fun hc => ?_) (fun hc => ?_)
  · have hn : ¬ (0 ≤ i ∧ i < D.n) := by simp at hc; omega
    have hw : D.write i b = (D, 11) := by unfold DiskM.write; rw [if_pos hn]
    rw [hw] at hK
    exact hK F w1 h1 ⟨(Ext.refl _ _).new e1, fun x hx => .inl hx⟩
  · have hn : 0 ≤ i ∧ i < D.n := by simpa using hc
    have hmv1 : Mv F w F w1 := ⟨(Ext.refl _ _).new e1, fun x hx => .inl hx⟩
    have hd1 := h1
    obtain ⟨bl, bs, zl, zs, pv, hh, hF⟩ := h1
    simp only [nilW_e]
    refine off_i (load1 (o := 0 + 3) hh.hdr.r rfl ?_)
    simp only [bin_eql]
    refine cond_b (fun hc => ?_) (fun hc => ?_)
    · have hl : D.left = 0 := by simpa using hc
      have hw : D.write i b = (D, 15) := by unfold DiskM.write; rw [if_neg (by simpa using hn), if_pos hl]
      rw [hw] at hK
      exact hK F w1 hd1 hmv1
    · have hl : ¬ D.left = 0 := by simpa using hc
      refine off_i (load1 (o := 0 + 3) hh.hdr.r rfl ?_)
      simp only [bin_gtr]
      refine cond_d (fun hc => ?_) (fun hc => ?_)
      · refine off_i (load1 (o := 0 + 3) hh.hdr.r rfl ?_)
        have hl2 := hh.ok.l2
        simp only [bin_sub]
        rw [i64_self (by omega)]
        refine off_i (o := 0) (k := 3) (store1 (o := 0 + 3) hh.hdr rfl (by simp) rfl fun w2 e2 hh2 hz2 => ?_)
        have hw : D.write i b = ({ D with seen := bspl D.seen (64 * i.toNat) b, pend := D.pend ++ [(i.toNat, b)], left := D.left - 1 }, 0) := by
          unfold DiskM.write; rw [if_neg (by simpa using hn), if_neg hl]; simp [hc]
        have hbF' := hbF
        rw [hF] at hbF'
        simp only [List.mem_cons, List.cons_append, List.nil_append, not_or] at hbF'
        refine rest _ w2 { D with left := D.left - 1 } rfl rfl rfl hn.1 hn.2 rfl rfl (by rw [hw]) (by rw [hw]) ⟨bl, bs, zl, zs, pv, ⟨by simpa using hh2, hh.last.keep e2 (by simpa using Ne.symm hh.ne1), hh.seen.keep e2 (by simpa using Ne.symm hh.ne2),
          hh.pend.keep e2 (fun x hx => by simp; intro e; exact hh.ne4 (e ▸ hx)), ⟨hh.ok.llen, hh.ok.slen, hh.ok.plen, hh.ok.n1, hh.ok.n2, by show -1 ≤ D.left - 1; omega, by show D.left - 1 ≤ _; omega⟩, hh.ne1, hh.ne2, hh.ne3, hh.ne4, hh.ne5, hh.ne6⟩, hF⟩
          (by have := hbx.keep e2 (by simpa using hbF'.1); simpa [Value.cells] using this) (hmv1.trans ⟨e2.mono (by intro x hx _; simp at hx; subst hx; rw [hF]; simp), fun x hx => .inl hx⟩) (by omega)
      · have hw : D.write i b = ({ D with seen := bspl D.seen (64 * i.toNat) b, pend := D.pend ++ [(i.toNat, b)], left := D.left }, 0) := by
          unfold DiskM.write; rw [if_neg (by simpa using hn), if_neg hl]; simp [hc]
        exact rest _ w1 D rfl rfl rfl hn.1 hn.2 rfl rfl (by rw [hw]) (by rw [hw]) hd1 (by simpa [Value.cells] using hbx) hmv1 (Nat.le_refl _)
end Go.Proofs.Ytedebapgmfnflaa
