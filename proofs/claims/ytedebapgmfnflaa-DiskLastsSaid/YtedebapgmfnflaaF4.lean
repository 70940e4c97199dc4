/- The law that what was flushed lasts: its walk. -/
import Derived.Test.YtedebapgmfnflaaF3
namespace Go.Proofs.Ytedebapgmfnflaa
open Go
set_option maxRecDepth 100000

theorem tears_from {n : Nat} (picks : Bytes) : ∀ (ps : List (Nat × Bytes)) (k : Nat) (last : Bytes), last.length = 64 * n → (∀ x ∈ ps, x.1 < n ∧ x.2.length = 64) → ∀ j, j < 64 * n →
    (tears picks k ps last).getD j 0 = last.getD j 0 ∨ ∃ x ∈ ps, x.1 = j / 64 ∧ x.2.getD (j % 64) 0 = (tears picks k ps last).getD j 0 := by
  intro ps
  induction ps with
  | nil => intro k last _ _ j _; exact .inl rfl
  | cons x r ih =>
    intro k last hl hx j hj
    obtain ⟨a, b⟩ := x
    have h0 := hx (a, b) List.mem_cons_self
    simp only at h0
    rw [tears]
    rcases ih (k + 1) (tear last (a, b) _) (tear_length hl h0.1 h0.2 _) (fun y hy => hx y (List.mem_cons_of_mem _ hy)) j hj with h | ⟨y, hy, h1, h2⟩
    · rw [h, tear_get hl h0.1 h0.2]
      have ht := toQ_le (picks.getD (k % picks.length) 0)
      split
      · rename_i hc
        refine .inr ⟨(a, b), List.mem_cons_self, ?_, ?_⟩
        · simp only; omega
        · simp only
          congr 1; omega
      · exact .inl rfl
    · exact .inr ⟨y, List.mem_cons_of_mem _ hy, h1, h2⟩

theorem u8eq (a b : UInt8) : (((a.toNat : Nat) : Int) == ((b.toNat : Nat) : Int)) = (a == b) := by
  rw [Bool.eq_iff_iff]
  simp only [beq_iff_eq]
  exact ⟨fun h => UInt8.toNat_inj.1 (by omega), fun h => by rw [h]⟩

def fineB (im af : Bytes) (l : List CallM) (p : Nat) : Bool := (af.getD p 0 == im.getD p 0) || l.any fun c => (c.n % 8 == ((p / 64 : Nat) : Int)) && (c.blk.getD (p % 64) 0 == af.getD p 0)

theorem lasts_walk {w : World} {v0 v1 v2 : Value} {l1 l2 : List CallM} {pk : Bytes} (hb : IsCalls w v0 l1) (hs : IsCalls w v1 l2) (hp : RdSl w v2 1 (bc pk) pk.length) {K : VPost} (hK : ∀ w', Ext [] w w' → K (.bool true) w') :
    Calls Try.prog 4 #[v0, v1, v2] w (retK K) := by
  refine c4_calls _ _ _ w K ?_
  unfold c4
  have hpu : Try.prog.underlying 25 = some (.pointer 102) := by kernel_rfl
  refine fnW_of (by kernel_rfl) (alive_c fun w2 e2 => ?_)
  simp only [not_e, Bool.not_true, condW_f]
  refine fnW_of (by kernel_rfl) (great_c (hb.keep e2) ?_ fun hl1 _ => ?_)
  · simp only [gstep_tf, pickW_t, condW_t]
    exact hK w2 e2
  simp only [gstep_f]
  refine fnW_of (by kernel_rfl) (great_c (hs.keep e2) ?_ fun hl2 _ => ?_)
  · simp only [gstep_tf, pickW_f, pickW_t, condW_t]
    exact hK w2 e2
  obtain ⟨pa, pc, hv2⟩ := hp.len
  simp only [pickW_f, gstep_f, hv2, len_s, bin_gtr]
  rw [← hv2]
  refine cond_d (fun _ => hK w2 e2) fun hpl => ?_
  refine fnW_of (by kernel_rfl) (new_c 8 (fun hh => absurd (by decide) hh) fun _ p F1 w3 d3 e3 hF3 => ?_)
  simp only [extr0, extr1, bin_neq, bne_self_eq_false, gstep_f, ptr_eql_nil hpu, pickW_f, condW_f]
  have o3 : Own w F1 w3 := ⟨fun b hb => by have := hF3 b hb; have := e2.size; omega, e2.new e3⟩
  obtain ⟨ba, bcp, hv0⟩ := hb.rd.len
  obtain ⟨sa, sc, hv1⟩ := hs.rd.len
  have hlb : ∀ (w : World) (K : VPost), lenW Try.prog (some true) #[22] 3 #[v0] w K = K (.int .i64 l1.length) w := fun w K => by rw [hv0, len_s]
  have hls : ∀ (w : World) (K : VPost), lenW Try.prog (some true) #[22] 3 #[v1] w K = K (.int .i64 l2.length) w := fun w K => by rw [hv1, len_s]
  refine bindX_i fun J0 h0 => bindX_i fun J1 h1 => bindX_i fun J2 h2 => ?_
  -- behind the first loop
  have mid : ∀ (fr : Fr) (wr : World) (F : List Nat) (D : DiskM), fr 1 = v1 → fr 2 = v2 → fr 7 = .pointer (some ⟨p, 0, none⟩) → Disk wr p F D → D.n = 8 → D.left = -1 → Own w F wr → J1 .normal fr wr := by
    intro fr wr F D f1 f2 f7 hd hn hleft ho
    refine seq_n h1 ?_
    simp only [f1, f2, f7]
    refine fnW_of (by kernel_rfl) (flush_c hd fun F4 w4 hd4 m4 => ?_)
    have o4 := ho.mv m4
    refine fnW_of (by kernel_rfl) (image_c hd4 fun vi w5 hvi e5 hbi => ?_)
    have hd5 := hd4.keep e5 (by simp)
    have o5 := o4.new e5
    have hviF : ∀ b ∈ slB vi, b ∉ F4 := fun b hb hm => by have := hbi b hb; have := hd4.lt b hm; omega
    have him : D.flush.seen.length = 512 := by obtain ⟨_, _, _, _, _, hh, _⟩ := hd4; rw [hh.ok.slen]; show 64 * D.n = _; rw [hn]
    have hlast : D.flush.last = D.flush.seen := rfl
    have hpend : D.flush.pend = [] := rfl
    have hn' : D.flush.n = 8 := hn
    have hleft' : D.flush.left = -1 := hleft
    have hvi : RdSl w5 vi 1 (bc D.flush.seen) 512 := by have := hvi.rd; rwa [him] at this
    have hvilt : ∀ b ∈ slB vi, b < w5.heap.size := hvi.ltb (by rw [bc_length]; omega)
    clear hd4 hd ho
    generalize D.flush = D2 at *
    generalize hims : D2.seen = im at *
    refine bindX_i fun J3 h3 => bindX_i fun J4 h4 => ?_
    -- behind the second loop
    have tail : ∀ (fr : Fr) (wr : World) (F : List Nat) (D : DiskM), fr 1 = v1 → fr 2 = v2 → fr 7 = .pointer (some ⟨p, 0, none⟩) → fr 10 = vi → Disk wr p F D → D.n = 8 → D.last = im → D.pend = l2.map (fun c => ((c.n % 8).toNat, c.blk)) → Own w F wr → RdSl wr vi 1 (bc im) 512 → (∀ b ∈ slB vi, b ∉ F) → J3 .normal fr wr := by
      intro fr wr F D f1 f2 f7 f10 hd hn hla hpe ho hvi hviF
      refine seq_n h3 ?_
      simp only [f1, f2, f7, f10]
      refine fnW_of (by kernel_rfl) (crash_c hd pk (hp.keep ho.ext (by simp)) ?_ (by rw [hpe, List.length_map]; omega) fun F6 w6 hd6 m6 => ?_)
      · intro hpos b hb
        have hlt := hp.ltb (by rw [bc_length]; exact hpos) b hb
        exact ⟨fun hm => by have := ho.lo b hm; omega, Nat.lt_of_lt_of_le hlt ho.ext.size⟩
      have o6 := ho.mv m6
      have hvi6 := hvi.keep m6.ext hviF
      have haf : (D.crash pk).seen = tears pk 0 D.pend im := by show tears pk 0 D.pend D.last = _; rw [hla]
      have hafl : (D.crash pk).seen.length = 512 := by obtain ⟨_, _, _, _, _, hh, _⟩ := hd6; rw [hh.ok.slen]; show 64 * D.n = _; rw [hn]
      have hcp : (((D.crash pk).pend.length : Nat) : Int) = 0 := rfl
      have hpn : ∀ x ∈ D.pend, x.1 < 8 ∧ x.2.length = 64 := by obtain ⟨_, _, _, _, _, hh, _⟩ := hd; rw [← hn]; exact hh.ok.plen
      refine fnW_of (by kernel_rfl) (image_c hd6 fun va w7 hva e7 hba => ?_)
      have hva : RdSl w7 va 1 (bc (D.crash pk).seen) 512 := by have := hva.rd; rwa [hafl] at this
      have hvi7 := hvi6.keep e7 (by simp)
      have hd7 := hd6.keep e7 (by simp)
      have o7 := o6.new e7
      obtain ⟨ia, ic, hvie⟩ := hvi7.len
      obtain ⟨aa, ac, hvae⟩ := hva.len
      have hli : ∀ (w : World) (K : VPost), lenW Try.prog (some true) #[34] 3 #[vi] w K = K (.int .i64 512) w := fun w K => by rw [hvie, len_s]; rfl
      have hla' : ∀ (w : World) (K : VPost), lenW Try.prog (some true) #[34] 3 #[va] w K = K (.int .i64 512) w := fun w K => by rw [hvae, len_s]; rfl
      simp only [hli, bin_neq, bne_self_eq_false, gstep_f, hla', pickW_f]
      refine fnW_of (by kernel_rfl) (pending_c hd7 ?_)
      simp only [hcp, bin_neq, bne_self_eq_false, pickW_f, condW_f]
      have hfine : ∀ q, q < 512 → fineB im (D.crash pk).seen l2 q = true := by
        intro q hq
        rw [haf]
        unfold fineB
        rcases tears_from pk D.pend 0 im him hpn q (by omega) with h | ⟨x, hx, hx1, hx2⟩
        · rw [h, beq_self_eq_true, Bool.true_or]
        · rw [hpe, List.mem_map] at hx
          obtain ⟨c, hc, rfl⟩ := hx
          simp only at hx1 hx2
          rw [Bool.or_eq_true]
          refine .inr (List.any_eq_true.2 ⟨c, hc, ?_⟩)
          rw [hx2, beq_self_eq_true, Bool.and_true, beq_iff_eq]
          omega
      clear haf
      generalize (D.crash pk).seen = af at *
      refine bindX_i fun J5 h5 => bindX_i fun J6 h6 => ?_
      refine loop_i (fun m fr wr => ∃ q : Nat, m = 512 - q ∧ q ≤ 512 ∧ fr 1 = v1 ∧ fr 10 = vi ∧ fr 12 = va ∧ fr 13 = .int .i64 q ∧ Ext [] w7 wr) 512 ?_ ?_
      · exact ⟨0, rfl, by omega, f1, f10, rfl, rfl, Ext.refl _ _⟩
      · rintro m fr wr J ⟨q, rfl, hq, f1, f10, f12, f13, e⟩ hJ hX
        simp only [f1, f10, f12, f13, bin_lss]
        refine cond_d (fun hlt => ?_) (fun hlt => ?_)
        · have hlt : q < 512 := by omega
          refine bindX_i fun J7 h7 => bindX_i fun J8 h8 => ?_
          have e8 := e.new (Ext.drew [] wr)
          generalize wr.drew = w8 at *
          obtain ⟨b1, x1, hx1, hy1⟩ := (hva.keep e8 (by simp)).at1 (i := q) (by omega) .i64
          obtain ⟨b2, x2, hx2, hy2⟩ := (hvi7.keep e8 (by simp)).at1 (i := q) (by omega) .i64
          refine hx1 _ (hy1 _ (hx2 _ (hy2 _ ?_)))
          unfold bv
          simp only [bin_eql, u8eq]
          refine ⟨trivial, bindX_i fun J9 h9 => bindX_i fun J10 h10 => ?_⟩
          have next : ∀ (fr : Fr) (wr : World), fr 1 = v1 → fr 10 = vi → fr 12 = va → fr 13 = .int .i64 q → fr 14 = .bool true → Ext [] w7 wr → J9 .normal fr wr := by
            intro fr wr f1 f10 f12 f13 f14 e
            refine seq_n h9 ?_
            simp only [f14, not_e, Bool.not_true, condW_f]
            refine seq_n h7 ?_
            show binW Try.prog .add 3 true (fr 13) (.int .i64 1) wr _
            simp only [f13]
            rw [bin_add, i64_self (by omega)]
            refine hJ (512 - (q + 1)) _ _ (by omega) ⟨q + 1, rfl, hlt, f1, f10, f12, ?_, e⟩
            show Value.int .i64 ((q : Int) + 1) = _
            simp
          refine loop_i (fun m fr wr => ∃ k : Nat, m = l2.length - k ∧ k ≤ l2.length ∧ fr 1 = v1 ∧ fr 10 = vi ∧ fr 12 = va ∧ fr 13 = .int .i64 q ∧ fr 14 = .bool (fineB im af (l2.take k) q) ∧ fr 15 = .int .i64 k ∧ Ext [] w7 wr) l2.length ?_ ?_
          · exact ⟨0, rfl, by omega, f1, f10, f12, f13, by show Value.bool _ = _; simp [fineB], rfl, e8⟩
          · rintro m fr wr J' ⟨k, rfl, hk, f1, f10, f12, f13, f14, f15, e⟩ hJ' hX'
            simp only [f1, f10, f12, f13, f14, f15, hls, bin_lss]
            refine cond_d (fun hltk => ?_) (fun hltk => ?_)
            · have hltk : k < l2.length := by omega
              have e9 := e.new (Ext.drew [] wr)
              generalize wr.drew = w9 at *
              have hstep : fineB im af (l2.take (k + 1)) q = (fineB im af (l2.take k) q || ((l2[k].n % 8 == ((q / 64 : Nat) : Int)) && (l2[k].blk.getD (q % 64) 0 == af.getD q 0))) := by
                unfold fineB
                rw [List.take_succ_eq_append_getElem hltk, List.any_append]
                simp [Bool.or_assoc]
              have fin : ∀ (fr : Fr) (w9 : World) (r : Bool), r = fineB im af (l2.take (k + 1)) q → fr 1 = v1 → fr 10 = vi → fr 12 = va → fr 13 = .int .i64 q → fr 14 = .bool r → fr 15 = .int .i64 ((k : Int) + 1) → Ext [] w7 w9 → J' .normal fr w9 := by
                intro fr w9 r hr f1 f10 f12 f13 f14 f15 e
                refine hJ' (l2.length - (k + 1)) _ _ (by omega) ⟨k + 1, rfl, hltk, f1, f10, f12, f13, by rw [f14, hr], ?_, e⟩
                rw [f15]; simp
              cases hf : fineB im af (l2.take k) q with
              | true =>
                rw [hf, Bool.true_or] at hstep
                simp only [gstep_tf, gstep_u, pickW_t, true_and, bin_add]
                rw [i64_self (by omega)]
                exact fin _ w9 true hstep.symm f1 f10 f12 f13 rfl rfl e9
              | false =>
                rw [hf, Bool.false_or] at hstep
                simp only [gstep_f, pickW_f]
                have hc := hs.keep ((o7.new e9).ext)
                obtain ⟨b, o, cs, hix, hbk, g0, g1, g2, g66, hlen, _⟩ := hc.elem hltk .i64
                have hg := hc.good l2[k] (List.getElem_mem hltk)
                refine hix _ (off_i (load1 hbk g1 ?_))
                have hdiv : ((q : Nat) : Int).tdiv 64 = ((q / 64 : Nat) : Int) := by
                  rw [Int.tdiv_eq_ediv_of_nonneg (by omega)]; omega
                have hmod : ((q : Nat) : Int).tmod 64 = ((q % 64 : Nat) : Int) := by
                  rw [Int.tmod_eq_emod_of_nonneg (by omega)]; omega
                rw [and7]
                simp only [true_and]
                rw [bin_quo (by decide), hdiv, i64_self (by omega)]
                simp only [true_and, bin_eql]
                cases hm : (l2[k].n % 8 == ((q / 64 : Nat) : Int)) with
                | false =>
                  rw [hm, Bool.false_and] at hstep
                  simp only [gstep_ft, gstep_u, pickW_f, true_and, bin_add]
                  rw [i64_self (by omega)]
                  exact fin _ w9 false hstep.symm f1 f10 f12 f13 rfl rfl e9
                | true =>
                  rw [hm, Bool.true_and] at hstep
                  simp only [gstep_t, pickW_t]
                  rw [bin_rem (by decide), hmod]
                  refine ⟨rfl, hix _ (off_i (idxA_i (Nat.mod_lt _ (by decide)) (load1 (o := o + 2 + q % 64 * 1) hbk (v := bv (l2[k].blk.getD (q % 64) 0)) ?_ ?_)))⟩
                  · have := at_get g2 (Nat.mod_lt q (show 0 < 64 by decide))
                    rw [bc_get (by rw [hg.len]; exact Nat.mod_lt _ (by decide))] at this
                    rw [Nat.mul_one]; exact this
                  obtain ⟨b1, x1, hx1, hy1⟩ := (hva.keep e9 (by simp)).at1 (i := q) (by omega) .i64
                  refine hx1 _ (hy1 _ ?_)
                  unfold bv
                  simp only [bin_eql, u8eq, true_and, bin_add]
                  rw [i64_self (by omega)]
                  exact fin _ w9 _ hstep.symm f1 f10 f12 f13 rfl rfl e9
            · have hkl : k = l2.length := by omega
              subst hkl
              rw [List.take_length, hfine q hlt] at f14
              exact hX' _ _ _ (by simp) (h10 _ _ _ (blk_x (next _ wr f1 f10 f12 f13 f14 e)))
        · exact hX _ _ _ (by simp) (h6 _ _ _ (blk_x (seq_n h5 (hK wr (o7.new e).ext))))
    refine loop_i (fun m fr wr => ∃ (k : Nat) (F : List Nat) (D : DiskM), m = l2.length - k ∧ k ≤ l2.length ∧ fr 1 = v1 ∧ fr 2 = v2 ∧ fr 7 = .pointer (some ⟨p, 0, none⟩) ∧ fr 10 = vi ∧ fr 11 = .int .i64 k ∧
      Disk wr p F D ∧ D.n = 8 ∧ D.last = im ∧ D.left = -1 ∧ D.pend = (l2.take k).map (fun c => ((c.n % 8).toNat, c.blk)) ∧ Own w F wr ∧ RdSl wr vi 1 (bc im) 512 ∧ (∀ b ∈ slB vi, b ∉ F) ∧ (∀ b ∈ slB vi, b < wr.heap.size)) l2.length ?_ ?_
    · exact ⟨0, F4, D2, rfl, Nat.zero_le _, f1, f2, f7, rfl, rfl, hd5, hn', hlast, hleft', hpend, o5, hvi, hviF, hvilt⟩
    · rintro m fr wr J ⟨k, F, D, rfl, hk, f1, f2, f7, f10, f11, hd, hn, hla, hle, hpe, ho, hvi, hviF, hvl⟩ hJ hX
      have hc := hs.keep ho.ext
      simp only [f1, f2, f7, f10, f11, hls, bin_lss]
      refine cond_d (fun hlt => ?_) (fun hlt => ?_)
      · have hlt : k < l2.length := by omega
        have ed := Ext.drew [] wr
        have hc := hc.keep ed
        have hd := hd.keep ed (by simp)
        have ho := ho.new ed
        have hvi := hvi.keep ed (by simp)
        have hvl : ∀ b ∈ slB vi, b < wr.drew.heap.size := hvl
        generalize wr.drew = wr at *
        obtain ⟨b, o, cs, hix, hbk, g0, g1, g2, g66, hlen, _⟩ := hc.elem hlt .i64
        have hg := hc.good l2[k] (List.getElem_mem hlt)
        refine hix _ (off_i (load1 hbk g1 ?_))
        rw [and7]
        refine ⟨rfl, hix _ (off_i (loadN hbk (by omega) ?_))⟩
        rw [g2]
        refine fnW_of (by kernel_rfl) (write_c hd _ _ hg.len (by rw [hpe, List.length_map, List.length_take]; omega) fun F' w' hd' hm' => ?_)
        rw [DiskM.write_go (by omega) (by omega) (by omega)] at hd'
        rw [bin_add, i64_self (by omega)]
        refine hJ (l2.length - (k + 1)) _ _ (by omega) ⟨k + 1, F', _, rfl, hlt, f1, f2, f7, f10, ?_, hd', hn, hla, ?_, ?_, ho.mv hm', hvi.keep hm'.ext hviF, fun b hb => hm'.out (hviF b hb) (hvl b hb), fun b hb => Nat.lt_of_lt_of_le (hvl b hb) hm'.ext.size⟩
        · show Value.int .i64 ((k : Int) + 1) = _
          simp
        · show (if 0 < D.left then D.left - 1 else D.left) = -1
          rw [if_neg (by omega)]; exact hle
        · show D.pend ++ [_] = _
          rw [List.take_succ_eq_append_getElem hlt, List.map_append, hpe]
          rfl
      · have hkl : k = l2.length := by omega
        subst hkl
        rw [List.take_length] at hpe
        exact hX _ _ _ (by simp) (h4 _ _ _ (blk_x (tail _ wr F D f1 f2 f7 f10 hd hn hla hpe ho hvi hviF)))
  refine loop_i (fun m fr wr => ∃ (k : Nat) (F : List Nat) (D : DiskM), m = l1.length - k ∧ k ≤ l1.length ∧ fr 0 = v0 ∧ fr 1 = v1 ∧ fr 2 = v2 ∧ fr 7 = .pointer (some ⟨p, 0, none⟩) ∧ fr 9 = .int .i64 k ∧
    Disk wr p F D ∧ D.n = 8 ∧ D.left = -1 ∧ D.pend.length ≤ k ∧ Own w F wr) l1.length ?_ ?_
  · exact ⟨0, F1, _, rfl, Nat.zero_le _, rfl, rfl, rfl, rfl, rfl, d3, rfl, rfl, Nat.le_refl _, o3⟩
  · rintro m fr wr J ⟨k, F, D, rfl, hk, f0, f1, f2, f7, f9, hd, hn, hle, hpe, ho⟩ hJ hX
    have hc := hb.keep ho.ext
    simp only [f0, f1, f2, f7, f9, hlb, bin_lss]
    refine cond_d (fun hlt => ?_) (fun hlt => ?_)
    · have hlt : k < l1.length := by omega
      have ed := Ext.drew [] wr
      have hc := hc.keep ed
      have hd := hd.keep ed (by simp)
      have ho := ho.new ed
      generalize wr.drew = wr at *
      obtain ⟨b, o, cs, hix, hbk, g0, g1, g2, g66, hlen, _⟩ := hc.elem hlt .i64
      have hg := hc.good l1[k] (List.getElem_mem hlt)
      refine hix _ (off_i (load1 hbk g1 ?_))
      rw [and7]
      refine ⟨rfl, hix _ (off_i (loadN hbk (by omega) ?_))⟩
      rw [g2]
      refine fnW_of (by kernel_rfl) (write_c hd _ _ hg.len (by omega) fun F' w' hd' hm' => ?_)
      rw [DiskM.write_go (by omega) (by omega) (by omega)] at hd'
      rw [bin_add, i64_self (by omega)]
      refine hJ (l1.length - (k + 1)) _ _ (by omega) ⟨k + 1, F', _, rfl, hlt, f0, f1, f2, f7, ?_, hd', hn, ?_, by simp; omega, ho.mv hm'⟩
      · show Value.int .i64 ((k : Int) + 1) = _
        simp
      · show (if 0 < D.left then D.left - 1 else D.left) = -1
        rw [if_neg (by omega)]; exact hle
    · exact hX _ _ _ (by simp) (h2 _ _ _ (blk_x (mid _ wr F D f1 f2 f7 hd hn hle ho)))
end Go.Proofs.Ytedebapgmfnflaa
