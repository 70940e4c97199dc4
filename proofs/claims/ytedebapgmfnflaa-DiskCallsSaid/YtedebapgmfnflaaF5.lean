/- The law that the disk answers as the document says: its walk. -/
import Derived.Test.YtedebapgmfnflaaE4
import Derived.Test.YtedebapgmfnflaaF2
namespace Go.Proofs.Ytedebapgmfnflaa
open Go
set_option maxRecDepth 100000

theorem gstep_tv {w : World} {x : Value} {K : VPost} : gstep (.bool true) true w (fun K => K x w) K = K x w := rfl

structure Pair (w0 w : World) (p : Nat) (F : List Nat) (D : DiskM) (r : Nat) (G : List Nat) (E : DiskM) : Prop where
  d : Disk w p F D
  r : Ref w r G E
  dis : ∀ b ∈ F, b ∉ G
  of : Own w0 F w
  og : Own w0 G w

theorem Pair.disk {w0 w w' : World} {p r : Nat} {F F' G : List Nat} {D D' E : DiskM} (h : Pair w0 w p F D r G E) (hd : Disk w' p F' D') (m : Mv F w F' w') : Pair w0 w' p F' D' r G E :=
  ⟨hd, h.r.keep m.ext (fun b hb hm => h.dis b hm hb), fun b hb hm => by
    rcases m.own b hb with h1 | h1
    · exact h.dis b h1 hm
    · have := h.r.lt b hm; omega, h.of.mv m, ⟨h.og.lo, (h.of.mv m).ext⟩⟩
theorem Pair.ref {w0 w w' : World} {p r : Nat} {F G G' : List Nat} {D E E' : DiskM} (h : Pair w0 w p F D r G E) (hr : Ref w' r G' E') (m : Mv G w G' w') : Pair w0 w' p F D r G' E' :=
  ⟨h.d.keep m.ext h.dis, hr, fun b hb hm => by
    rcases m.own b hm with h1 | h1
    · exact h.dis b hb h1
    · have := h.d.lt b hb; omega, ⟨h.of.lo, (h.og.mv m).ext⟩, h.og.mv m⟩
theorem Pair.new {w0 w w' : World} {p r : Nat} {F G : List Nat} {D E : DiskM} (h : Pair w0 w p F D r G E) (e : Ext [] w w') : Pair w0 w' p F D r G E :=
  ⟨h.d.keep e (by simp), h.r.keep e (by simp), h.dis, h.of.new e, h.og.new e⟩

theorem nil_neq_nil {P : Program} {w : World} {K : VPost} {t : TypeId} {c : Bool} {e : TypeId} (hu : P.underlying t = some (.pointer e)) : binW P .neq t c (.pointer none) (.pointer none) w K = K (.bool false) w :=
  bin_nequal (fun _ => by cases c <;> rfl) rfl (equal_nil_nil hu)
theorem bin_bool_neq {P : Program} {w : World} {K : VPost} {t : TypeId} {c a b : Bool} (hu : P.underlying t = some .bool) : binW P .neq t c (.bool a) (.bool b) w K = K (.bool (!(a == b))) w := by
  refine bin_nequal (fun _ => by cases c <;> rfl) rfl ?_
  show (Op.equalIn (9999 + 1) t _ _).run P w = _
  unfold Op.equalIn
  rw [Sem.run_bind, run_und hu]
  rfl

theorem zero_call : zeroO Try.prog 36 = some (.agg (([Value.int .i64 0, .int .i64 0] ++ List.replicate 64 (Value.int .u8 0)) ++ [Value.slice none 0 0]).toArray) := by kernel_rfl

theorem cc_one {w : World} {c : CallM} (h : c.good w) : ∀ x ∈ callCells c, x.oneCell' = true := by
  obtain ⟨a, k, hv⟩ := h.rd.len
  intro x hx
  simp only [callCells, List.mem_cons, List.mem_append, List.not_mem_nil, or_false] at hx
  rcases hx with rfl | rfl | hx | rfl
  · rfl
  · rfl
  · exact bc_one _ x hx
  · rw [hv]; rfl
theorem cc_blk {w : World} {c : CallM} (h : c.good w) : ((callCells c).drop (0 + 2)).take 64 = bc c.blk := by
  have hbl : (bc c.blk).length = 64 := by rw [bc_length, h.len]
  simp only [callCells, Nat.zero_add, List.drop_succ_cons, List.drop_zero]
  rw [List.take_append_of_le_length (by omega), List.take_of_length_le (by omega)]
theorem cc_pv {w : World} {c : CallM} (h : c.good w) : (callCells c)[0 + 66]? = some c.pv := by
  have hbl : (bc c.blk).length = 64 := by rw [bc_length, h.len]
  simp only [callCells, Nat.zero_add, List.getElem?_cons_succ]
  rw [List.getElem?_append_right (by omega), hbl]
  rfl

theorem crash_pend (D : DiskM) (pk : Bytes) : (D.crash pk).pend = [] := rfl

theorem calls_walk {w : World} {size at_ : Int} {v1 : Value} {l : List CallM} (hsz : i64ok size) (hat : i64ok at_) (h : IsCalls w v1 l) {K : VPost} (hK : ∀ w', Ext [] w w' → K (.bool true) w') :
    Calls Try.prog 3 #[.int .i64 size, v1, .int .i64 at_] w (retK K) := by
  refine c3_calls _ _ _ w K ?_
  unfold c3
  have hpu : Try.prog.underlying 25 = some (.pointer 102) := by kernel_rfl
  have hru : Try.prog.underlying 29 = some (.pointer 47) := by kernel_rfl
  have hbu : Try.prog.underlying 4 = some .bool := by kernel_rfl
  refine fnW_of (by kernel_rfl) (alive_c fun w2 e2 => ?_)
  simp only [not_e, Bool.not_true, condW_f]
  obtain ⟨ca, cc, hv1⟩ := h.rd.len
  have hl1 : ∀ (w : World) (K : VPost), lenW Try.prog (some true) #[22] 3 #[v1] w K = K (.int .i64 l.length) w := fun w K => by rw [hv1, len_s]
  refine fnW_of (by kernel_rfl) (great_c (h.keep e2) ?_ fun hl60 hl2000 => ?_)
  · simp only [gstep_tf, gstep_u, pickW_t, condW_t]
    exact hK w2 e2
  simp only [gstep_f, bin_gtr]
  by_cases hA : 32 < size
  · simp only [hA, decide_true, gstep_t, bin_leq]
    by_cases hB : size ≤ 4096
    · simp only [hB, decide_true, pickW_t, pickW_f, condW_t]
      exact hK w2 e2
    simp only [hB, decide_false, pickW_t, pickW_f, condW_f]
    refine fnW_of (by kernel_rfl) (new_c size (fun hbad => ?_) fun hgood => absurd hgood.2 hB)
    simp only [extr0, extr1]
    refine fnW_of (by kernel_rfl) (rnew_c size (fun _ => ?_) fun hg => absurd hg hbad)
    simp only [extr0, extr1, bin_neq, bne_self_eq_false, gstep_f, nil_eql_nil hpu, show ((11 : Int) != 0) = true from rfl, bin_bool_neq hbu, beq_self_eq_true, Bool.not_true, pickW_f, condW_f]
    refine bindX_i fun J0 h0 => bindX_i fun J1 h1 => bindX_i fun J2 h2 => ?_
    refine loop_i (fun _ fr wr => fr 1 = v1 ∧ fr 7 = .pointer none ∧ fr 11 = .int .i64 0 ∧ wr = w2) 0 ⟨rfl, rfl, rfl, rfl⟩ ?_
    rintro m fr wr J ⟨f1, f7, f11, rfl⟩ hJ hX
    have out : ∀ fr : Fr, J (.exit 0) fr wr := fun fr => hX _ _ _ (by simp) (h2 _ _ _ (blk_x (seq_n h1 (hK wr e2))))
    simp only [f1, f7, f11, hl1, bin_lss]
    cases decide ((0 : Int) < l.length) with
    | true =>
      simp only [gstep_t, nil_neq_nil hpu, pickW_t, gstep_ft, gstep_u, pickW_f, condW_f]
      exact out _
    | false =>
      simp only [gstep_ft, gstep_u, pickW_f, condW_f]
      exact out _
  simp only [hA, decide_false, gstep_ft, gstep_u, pickW_f, condW_f]
  refine fnW_of (by kernel_rfl) (new_c size (fun hbad => ?_) fun hgood p F w3 d3 e3 hF3 => ?_)
  · simp only [extr0, extr1]
    refine fnW_of (by kernel_rfl) (rnew_c size (fun _ => ?_) fun hg => absurd hg hbad)
    simp only [extr0, extr1, bin_neq, bne_self_eq_false, gstep_f, nil_eql_nil hpu, show ((11 : Int) != 0) = true from rfl, bin_bool_neq hbu, beq_self_eq_true, Bool.not_true, pickW_f, condW_f]
    refine bindX_i fun J0 h0 => bindX_i fun J1 h1 => bindX_i fun J2 h2 => ?_
    refine loop_i (fun _ fr wr => fr 1 = v1 ∧ fr 7 = .pointer none ∧ fr 11 = .int .i64 0 ∧ wr = w2) 0 ⟨rfl, rfl, rfl, rfl⟩ ?_
    rintro m fr wr J ⟨f1, f7, f11, rfl⟩ hJ hX
    have out : ∀ fr : Fr, J (.exit 0) fr wr := fun fr => hX _ _ _ (by simp) (h2 _ _ _ (blk_x (seq_n h1 (hK wr e2))))
    simp only [f1, f7, f11, hl1, bin_lss]
    cases decide ((0 : Int) < l.length) with
    | true =>
      simp only [gstep_t, nil_neq_nil hpu, pickW_t, gstep_ft, gstep_u, pickW_f, condW_f]
      exact out _
    | false =>
      simp only [gstep_ft, gstep_u, pickW_f, condW_f]
      exact out _
  · have hs32 : size ≤ 32 := by omega
    simp only [extr0, extr1]
    refine fnW_of (by kernel_rfl) (rnew_c size (fun hbad => absurd hgood hbad) fun _ r G w4 r4 e4 hG4 => ?_)
    simp only [extr0, extr1, bin_neq, bne_self_eq_false, gstep_f, ptr_eql_nil hpu, bin_bool_neq hbu, beq_self_eq_true, Bool.not_true, pickW_f, condW_f]
    have hp4 : Pair w w4 p F (DiskM.fresh size.toNat) r G (DiskM.fresh size.toNat) := ⟨d3.keep e4 (by simp), r4, fun b hb hm => by have := hG4 b hm; have := d3.lt b hb; omega,
      ⟨fun b hb => by have := hF3 b hb; have := e2.size; omega, (e2.new e3).new e4⟩, ⟨fun b hb => by have := hG4 b hb; have := e2.size; have := e3.size; omega, (e2.new e3).new e4⟩⟩
    refine bindX_i fun J0 h0 => bindX_i fun J1 h1 => bindX_i fun J2 h2 => ?_
    refine loop_i (fun m fr wr => ∃ (k : Nat) (F G : List Nat) (D : DiskM), m = l.length - k ∧ k ≤ l.length ∧ fr 0 = .int .i64 size ∧ fr 1 = v1 ∧ fr 2 = .int .i64 at_ ∧ fr 7 = .pointer (some ⟨p, 0, none⟩) ∧ fr 9 = .pointer (some ⟨r, 0, none⟩) ∧ fr 11 = .int .i64 k ∧
      Pair w wr p F D r G D ∧ (D.n : Int) = size ∧ D.pend.length ≤ k) l.length ?_ ?_
    · exact ⟨0, F, G, _, rfl, Nat.zero_le _, rfl, rfl, rfl, rfl, rfl, rfl, hp4, by show ((size.toNat : Nat) : Int) = size; omega, Nat.le_refl _⟩
    · clear hp4 d3 r4 hF3 hG4 e3 e4
      rintro m fr wr J ⟨k, F, G, D, rfl, hk, f0, f1, f2, f7, f9, f11, hp, hn, hpe⟩ hJ hX
      rw [f1, f11, hl1, bin_lss]
      by_cases hlt : (k : Int) < l.length
      · rw [decide_eq_true hlt, gstep_tv, f7, gstep_t, ptr_neq_nil hpu, pickW_t, gstep_tv, f9, gstep_t, ptr_neq_nil hru, pickW_t, condW_t]
        have hlt : k < l.length := by omega
        refine bindX_i fun J3 h3 => bindX_i fun J4 h4 => ?_
        have hc := h.keep hp.of.ext
        obtain ⟨b, o, cs, hix, hbk, _, _, _, _, hle, hcs⟩ := hc.elem hlt .i64
        have hg := hc.good l[k] (List.getElem_mem hlt)
        have hg0 := h.good l[k] (List.getElem_mem hlt)
        have hpl := hl2000 l[k] (List.getElem_mem hlt)
        obtain ⟨c, hcd⟩ : ∃ c, c = l[k] := ⟨_, rfl⟩
        rw [← hcd] at hcs hg hg0 hpl
        refine hix _ (loadN hbk hle ?_)
        rw [hcs]
        have hccl := callCells_len hg
        refine allocW_i zero_call fun b12 w5 hb12 e5 k5 s5 => storeAll k5 hccl (by simp [Value.cells]) (cc_one hg) fun w6 e6 k6 s6 => ?_
        have e56 : Ext [] wr w6 := ((Ext.refl [] wr).new e5).step e6 (by intro x hx hlt; simp at hx; omega)
        have hp6 := hp.new e56
        have nF : b12 ∉ F := fun hm => by have := hp.d.lt b12 hm; omega
        have nG : b12 ∉ G := fun hm => by have := hp.r.lt b12 hm; omega
        refine bindX_i fun J5 h5 => ?_
        have next : ∀ (fr : Fr) (w' : World) (F' G' : List Nat) (D' : DiskM), fr 0 = .int .i64 size → fr 1 = v1 → fr 2 = .int .i64 at_ → fr 7 = .pointer (some ⟨p, 0, none⟩) → fr 9 = .pointer (some ⟨r, 0, none⟩) → fr 11 = .int .i64 k →
            Pair w w' p F' D' r G' D' → (D'.n : Int) = size → D'.pend.length ≤ k + 1 → J3 .normal fr w' := by as_aux_lemma =>
          intro fr w' F' G' D' f0 f1 f2 f7 f9 f11 hp hn hpe
          refine seq_n h3 ?_
          simp only [f11]
          rw [bin_add, i64_self (by omega)]
          refine hJ (l.length - (k + 1)) _ _ (by omega) ⟨k + 1, F', G', D', rfl, hlt, f0, f1, f2, f7, f9, ?_, hp, hn, hpe⟩
          show Value.int .i64 ((k : Int) + 1) = _
          simp
        -- the questions
        have ask : ∀ (fr : Fr) (w' : World) (F' G' : List Nat) (D' : DiskM), fr 0 = .int .i64 size → fr 1 = v1 → fr 2 = .int .i64 at_ → fr 7 = .pointer (some ⟨p, 0, none⟩) → fr 9 = .pointer (some ⟨r, 0, none⟩) → fr 11 = .int .i64 k →
            Pair w w' p F' D' r G' D' → (D'.n : Int) = size → D'.pend.length ≤ k + 1 → J5 .normal fr w' := by as_aux_lemma =>
          intro fr w' F' G' D' f0 f1 f2 f7 f9 f11 hp hn hpe
          refine seq_n h5 ?_
          simp only [f0, f2, f7, f9]
          have hrl : (D'.read at_).1.length = 64 := by obtain ⟨_, _, _, _, _, hh, _⟩ := hp.d; exact DiskM.read_length hh.ok at_
          have hrb : (bc (D'.read at_).1).length = 64 := by rw [bc_length, hrl]
          refine fnW_of (by kernel_rfl) (read_c hp.d at_ fun w7 e7 => ?_)
          simp only [extr0, extr1]
          refine allocW_i zero_block fun b14 w8 hb14 e8 k8 s8 => storeAll k8 hrb (by simp [Value.cells]) (bc_one _) fun w9 e9 k9 s9 => ?_
          have e79 := ((((Ext.refl [] w').new e7).new e8).step e9 (by intro x hx hlt; simp at hx; have := e7.size; omega))
          have hp := hp.new e79
          refine fnW_of (by kernel_rfl) (rread_c hp.r (by omega) at_ fun w10 e10 => ?_)
          simp only [extr0, extr1]
          have k10 := k9.keep e10 (by simp)
          refine allocW_i zero_block fun b16 w11 hb16 e11 k11 s11 => storeAll k11 hrb (by simp [Value.cells]) (bc_one _) fun w12 e12 k12 s12 => ?_
          have e912 := ((((Ext.refl [] w9).new e10).new e11).step e12 (by intro x hx hlt; simp at hx; have := e10.size; omega))
          have hne : b14 ≠ b16 := by have := k10.lt; omega
          have k10 := ((k10.keep e11 (by simp)).keep e12 (by simpa using hne)).keep (Ext.drew [] w12) (by simp)
          have k12 := k12.keep (Ext.drew [] w12) (by simp)
          have hp := hp.new (e912.new (Ext.drew [] w12))
          generalize w12.drew = w13 at k10 k12 hp ⊢
          refine loadAll k10.r hrb (loadAll k12.r hrb ?_)
          refine block_neq hrl hrl ?_
          simp only [decide_true, Bool.not_true, gstep_f, bin_neq, bne_self_eq_false, pickW_f, nilW_e, true_and]
          obtain ⟨bl, cl, qv, hr, hseen, hG⟩ := hp.r
          obtain ⟨qa, qc, hqv⟩ := hr.list.shape
          have hlq : ∀ (w : World) (K : VPost), lenW Try.prog (some true) #[45] 3 #[qv] w K = K (.int .i64 D'.pend.length) w := fun w K => by rw [hqv, len_s]
          refine off_i (load1 (o := 0 + 1) hr.hdr.r rfl ?_)
          rw [hlq]
          simp only [true_and]
          refine fnW_of (by kernel_rfl) (pending_c hp.d ?_)
          refine ⟨load1 (o := 0 + 1) hr.hdr.r rfl ⟨rfl, rfl⟩, ?_⟩
          rw [hlq]
          simp only [bin_neq, bne_self_eq_false, pickW_f, gstep_f, true_and]
          refine fnW_of (by kernel_rfl) (size_c hp.d ?_)
          rw [hn]
          simp only [bin_neq, bne_self_eq_false, pickW_f, gstep_f, true_and]
          refine fnW_of (by kernel_rfl) (image_c hp.d fun vi w14 hvi e14 hbi => ?_)
          have hp := hp.new e14
          refine fnW_of (by kernel_rfl) (rimage_c hp.r (by omega) fun b c w15 hb e15 hbn => ?_)
          have hp := hp.new e15
          have hsl : D'.seen.length = 64 * D'.n := by obtain ⟨_, _, _, _, _, hh, _⟩ := hp.d; exact hh.ok.slen
          have hrd : RdSl w15 (.slice (some ⟨b, 0, none⟩) (64 * D'.n) c) 1 (bc D'.seen) D'.seen.length := by
            have := hb.rd (m := 64 * D'.n) (s := 1) (c := c) (by rw [bc_length]; omega)
            rwa [← hsl] at this ⊢
          refine fnW_of (by kernel_rfl) (sameBytes_c (hvi.rd.keep e15 (by simp)) hrd (by omega) fun w16 e16 => ?_)
          simp only [decide_true, not_e, Bool.not_true, pickW_f, condW_f, true_and]
          exact next _ w16 F' G' D' f0 f1 f2 f7 f9 f11 (hp.new e16) hn hpe
        refine off_i (load1 (o := 0 + 0) k6.r rfl ?_)
        refine bindX_i fun J6 h6 => ?_
        simp only [bin_eql]
        refine cond_b (fun hc0 => ?_) (fun hc0 => ?_)
        · as_aux_lemma =>
            -- a write
            have ed := Ext.drew [] w6
            have k6 := k6.keep ed (by simp)
            have hp6 := hp6.new ed
            generalize w6.drew = w6 at k6 hp6 ⊢
            refine off_i (load1 (o := 0 + 1) k6.r rfl (off_i (loadN (o := 0 + 2) k6.r (by rw [hccl]; omega) (off_i (load1 (o := 0 + 1) k6.r rfl (off_i (loadN (o := 0 + 2) k6.r (by rw [hccl]; omega) ?_)))))))
            rw [cc_blk hg]
            refine fnW_of (by kernel_rfl) (write_c hp6.d c.n c.blk hg.len (by omega) fun F' w7 hd7 m7 => ?_)
            have k7 := k6.keep m7.ext nF
            have hp7 := hp6.disk hd7 m7
            refine ⟨load1 (o := 0 + 1) k7.r rfl ⟨rfl, rfl⟩, loadN (o := 0 + 2) k7.r (by rw [hccl]; omega) ⟨by rw [cc_blk hg], rfl⟩, ?_⟩
            refine fnW_of (by kernel_rfl) (rwrite_c hp7.r c.n c.blk hg.len (by omega) fun G' w8 hr8 m8 => ?_)
            have hp8 := hp7.ref hr8 m8
            simp only [bin_neq, bne_self_eq_false, condW_f, true_and]
            have hwp := DiskM.write_pend D c.n c.blk
            exact ask _ w8 F' G' _ f0 f1 f2 f7 f9 f11 hp8 (by rw [DiskM.write_n]; exact hn) (by omega)
        · refine cond_b (fun hc1 => ?_) (fun hc1 => ?_)
          · as_aux_lemma =>
              refine fnW_of (by kernel_rfl) (flush_c hp6.d fun F' w7 hd7 m7 => ?_)
              have hp7 := hp6.disk hd7 m7
              refine fnW_of (by kernel_rfl) (rflush_c hp7.r (by omega) fun G' w8 hr8 m8 => ?_)
              exact ask _ w8 F' G' _ f0 f1 f2 f7 f9 f11 (hp7.ref hr8 m8) hn (by show 0 ≤ _; omega)
          · refine cond_b (fun hc2 => ?_) (fun hc2 => ?_)
            · as_aux_lemma =>
                refine off_i (load1 (o := 0 + 66) k6.r (cc_pv hg) ?_)
                refine fnW_of (by kernel_rfl) (copyBytes_c (hg0.rd.keep hp6.of.ext (by simp)) (by omega) fun vo w7 hvo e7 hbo => ?_)
                have ed := e7.new (Ext.drew [] w7)
                have k7 := k6.keep ed (by simp)
                have hp7 := hp6.new ed
                have hvo := hvo.keep (Ext.drew [] w7) (by simp)
                have hwl : w6.heap.size ≤ w7.drew.heap.size := ed.size
                generalize w7.drew = w7 at k7 hp7 hvo hwl ⊢
                refine off_i (load1 (o := 0 + 66) k7.r (cc_pv hg) ?_)
                refine fnW_of (by kernel_rfl) (crash_c hp7.d c.picks hvo.rd ?_ (by omega) fun F' w8 hd8 m8 => ?_)
                · intro _ b hb
                  exact ⟨fun hm => by have := hbo b hb; have := hp6.d.lt b hm; omega, hvo.lt b hb⟩
                have hp8 := hp7.disk hd8 m8
                have k8 := k7.keep m8.ext nF
                refine ⟨load1 (o := 0 + 66) k8.r (cc_pv hg) ⟨rfl, rfl⟩, ?_⟩
                refine fnW_of (by kernel_rfl) (rcrash_c hp8.r c.picks (hg0.rd.keep hp8.of.ext (by simp)) ?_ (by omega) fun G' w9 hr9 m9 => ?_)
                · intro hpos b hb hm
                  have := hg0.rd.ltb (by rw [bc_length]; exact hpos) b hb
                  have := hp8.og.lo b hm
                  omega
                have hp9 := hp8.ref hr9 m9
                have k9 := k8.keep m9.ext nG
                simp only [bin_neq, bne_self_eq_false, gstep_f, true_and]
                refine off_i (load1 (o := 0 + 66) k9.r (cc_pv hg) ?_)
                have hvo8 : OwnSl w8 vo 5 1 (bc c.picks) c.picks.length := hvo.keep m8.ext (fun b hb hm => by have := hbo b hb; have := hp6.d.lt b hm; omega)
                have hvo9 : OwnSl w9 vo 5 1 (bc c.picks) c.picks.length := hvo8.keep m9.ext (fun b hb hm => by have := hbo b hb; have := hp6.r.lt b hm; omega)
                refine fnW_of (by kernel_rfl) (sameBytes_c hvo9.rd (hg0.rd.keep hp9.of.ext (by simp)) (by omega) fun w10 e10 => ?_)
                simp only [decide_true, not_e, Bool.not_true, pickW_f, condW_f, true_and]
                exact ask _ w10 F' G' _ f0 f1 f2 f7 f9 f11 (hp9.new e10) hn (by show 0 ≤ _; omega)
            · refine cond_b (fun hc3 => ?_) (fun hc3 => ?_)
              · as_aux_lemma =>
                  refine off_i (load1 (o := 0 + 1) k6.r rfl ?_)
                  refine fnW_of (by kernel_rfl) (limit_c hp6.d c.n hg.num.2 fun F' w7 hd7 m7 => ?_)
                  have hp7 := hp6.disk hd7 m7
                  have k7 := k6.keep m7.ext nF
                  refine off_i (load1 (o := 0 + 1) k7.r rfl ?_)
                  refine fnW_of (by kernel_rfl) (rlimit_c hp7.r c.n hg.num.2 fun G' w8 hr8 m8 => ?_)
                  exact ask _ w8 F' G' _ f0 f1 f2 f7 f9 f11 (hp7.ref hr8 m8) hn (by show D.pend.length ≤ _; omega)
              · exact ask _ w6 F G D f0 f1 f2 f7 f9 f11 hp6 hn (by omega)
      · rw [decide_eq_false hlt, gstep_ft, gstep_ft, pickW_f, gstep_ft, gstep_ft, pickW_f, condW_f]
        exact hX _ _ _ (by simp) (h2 _ _ _ (blk_x (seq_n h1 (hK wr hp.of.ext))))
end Go.Proofs.Ytedebapgmfnflaa
