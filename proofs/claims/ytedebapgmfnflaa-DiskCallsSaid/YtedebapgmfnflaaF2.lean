/- The law that a limit holds: its walk. -/
import Derived.Test.YtedebapgmfnflaaE1
namespace Go.Proofs.Ytedebapgmfnflaa
open Go
set_option maxRecDepth 100000

theorem bspl_read {l b : Bytes} {o : Nat} (h : o + b.length ≤ l.length) : ((bspl l o b).drop o).take b.length = b := by
  unfold bspl
  have h1 : (l.take o).length = o := by rw [List.length_take]; omega
  rw [List.append_assoc, List.drop_append_of_le_length (by omega), List.drop_of_length_le (by omega), List.nil_append, List.take_left]

theorem DiskM.write_zero {D : DiskM} {i : Int} {b : Bytes} (h0 : 0 ≤ i) (h1 : i < D.n) (hl : D.left = 0) : D.write i b = (D, 15) := by
  unfold DiskM.write; rw [if_neg (by omega), if_pos hl]
theorem DiskM.write_go {D : DiskM} {i : Int} {b : Bytes} (h0 : 0 ≤ i) (h1 : i < D.n) (hl : D.left ≠ 0) :
    D.write i b = ({ D with seen := bspl D.seen (64 * i.toNat) b, pend := D.pend ++ [(i.toNat, b)], left := if 0 < D.left then D.left - 1 else D.left }, 0) := by
  unfold DiskM.write; rw [if_neg (by omega), if_neg hl]

theorem limits_walk {w : World} {n : Int} {v1 : Value} {l : List CallM} (hn : i64ok n) (h : IsCalls w v1 l) {K : VPost} (hK : ∀ w', Ext [] w w' → K (.bool true) w') :
    Calls Try.prog 6 #[.int .i64 n, v1] w (retK K) := by
  refine c6_calls _ _ w K ?_
  unfold c6
  have hpu : Try.prog.underlying 25 = some (.pointer 102) := by kernel_rfl
  refine fnW_of (by kernel_rfl) (alive_c fun w2 e2 => ?_)
  simp only [not_e, Bool.not_true, condW_f]
  refine fnW_of (by kernel_rfl) (great_c (h.keep e2) ?_ fun hl60 _ => ?_)
  · simp only [condW_t]
    exact hK w2 e2
  simp only [condW_f]
  refine fnW_of (by kernel_rfl) (new_c 8 (fun hh => absurd (by decide) hh) fun _ p F1 w3 d3 e3 hF3 => ?_)
  simp only [extr0, extr1, bin_neq, bne_self_eq_false, gstep_f, ptr_eql_nil hpu, pickW_f, condW_f]
  have o3 : Own w F1 w3 := ⟨fun b hb => by have := hF3 b hb; have := e2.size; omega, e2.new e3⟩
  refine fnW_of (by kernel_rfl) (limit_c d3 n hn.2 fun F4 w4 d4 m4 => ?_)
  have o4 := o3.mv m4
  refine bindX_i fun J0 h0 => bindX_i fun J1 h1 => bindX_i fun J2 h2 => ?_
  obtain ⟨ca, cc, hv1⟩ := h.rd.len
  have hl1 : ∀ (w : World) (K : VPost), lenW Try.prog (some true) #[22] 3 #[v1] w K = K (.int .i64 l.length) w := fun w K => by rw [hv1, len_s]
  have tail : ∀ (fr : Fr) (wr : World) (F : List Nat) (D : DiskM) (dn : Nat), fr 0 = .int .i64 n → fr 1 = v1 → fr 5 = .pointer (some ⟨p, 0, none⟩) → fr 7 = .int .i64 dn → Disk wr p F D → Own w F wr → D.pend.length = dn → ((n < 0 ∧ dn = l.length) ∨ (0 ≤ n ∧ (dn : Int) = min n l.length)) → J1 .normal fr wr := by
    intro fr wr F D dn f0 f1 f5 f7 hd ho hpe hcase
    refine seq_n h1 ?_
    simp only [f0, f1, hl1]
    refine bindX_i fun J3 h3 => ?_
    have fin : ∀ (fr : Fr), fr 7 = .int .i64 dn → fr 13 = .int .i64 dn → fr 5 = .pointer (some ⟨p, 0, none⟩) → J3 .normal fr wr := by
      intro fr g7 g13 g5
      refine seq_n h3 ?_
      simp only [g7, g13, g5, bin_eql, beq_self_eq_true, gstep_t]
      refine fnW_of (by kernel_rfl) (pending_c hd ?_)
      simp only [hpe, bin_eql, beq_self_eq_true, pickW_t]
      exact hK wr ho.ext
    simp only [bin_geq]
    refine cond_d (fun hc => ?_) (fun hc => ?_)
    · rw [min_e]
      rcases hcase with ⟨h', _⟩ | ⟨_, h'⟩
      · omega
      · exact fin _ f7 (by show Value.int .i64 (min n l.length) = _; rw [h']) f5
    · rcases hcase with ⟨_, h'⟩ | ⟨h', _⟩
      · exact fin _ f7 (by show Value.int .i64 (l.length : Int) = _; rw [h']) f5
      · omega
  refine loop_i (fun m fr wr => ∃ (k dn : Nat) (F : List Nat) (D : DiskM), m = l.length - k ∧ k ≤ l.length ∧ fr 0 = .int .i64 n ∧ fr 1 = v1 ∧ fr 5 = .pointer (some ⟨p, 0, none⟩) ∧ fr 7 = .int .i64 dn ∧ fr 8 = .int .i64 k ∧
    Disk wr p F D ∧ D.n = 8 ∧ D.pend.length = dn ∧ dn ≤ k ∧ Own w F wr ∧ ((n < 0 ∧ D.left = -1 ∧ dn = k) ∨ (0 ≤ n ∧ D.left = n - dn ∧ (dn : Int) = min n k))) l.length ?_ ?_
  · refine ⟨0, 0, F4, _, rfl, Nat.zero_le _, rfl, rfl, rfl, rfl, rfl, d4, rfl, rfl, Nat.le_refl _, o4, ?_⟩
    by_cases hc : 0 ≤ n
    · exact .inr ⟨hc, by show max n (-1) = _; omega, by omega⟩
    · exact .inl ⟨by omega, by show max n (-1) = _; omega, rfl⟩
  · rintro m fr wr J ⟨k, dn, F, D, rfl, hk, f0, f1, f5, f7, f8, hd, hn8, hpe, hdk, ho, hcase⟩ hJ hX
    simp only [f0, f1, f5, f7, f8, hl1, bin_lss]
    refine cond_d (fun hlt => ?_) (fun hlt => ?_)
    · have hlt : k < l.length := by omega
      refine bindX_i fun J3 h3 => bindX_i fun J4 h4 => ?_
      have next : ∀ (fr : Fr) (wr : World) (dn : Nat) (F : List Nat) (D : DiskM), fr 0 = .int .i64 n → fr 1 = v1 → fr 5 = .pointer (some ⟨p, 0, none⟩) → fr 7 = .int .i64 dn → fr 8 = .int .i64 k → Disk wr p F D → D.n = 8 → D.pend.length = dn → dn ≤ k + 1 → Own w F wr →
          ((n < 0 ∧ D.left = -1 ∧ dn = k + 1) ∨ (0 ≤ n ∧ D.left = n - dn ∧ (dn : Int) = min n ((k + 1 : Nat) : Int))) → J3 .normal fr wr := by
        intro fr wr dn F D f0 f1 f5 f7 f8 hd hn8 hpe hdk ho hcase
        refine seq_n h3 ?_
        simp only [f8]
        rw [bin_add, i64_self (by omega)]
        refine hJ (l.length - (k + 1)) _ _ (by omega) ⟨k + 1, dn, F, D, rfl, hlt, f0, f1, f5, f7, ?_, hd, hn8, hpe, hdk, ho, hcase⟩
        show Value.int .i64 ((k : Int) + 1) = _
        simp
      have hsl : D.seen.length = 512 := by obtain ⟨_, _, _, _, _, hh, _⟩ := hd; rw [hh.ok.slen, hn8]
      have hleft : -1 ≤ D.left := by obtain ⟨_, _, _, _, _, hh, _⟩ := hd; exact hh.ok.l1
      have hlt0 := hd.lt
      refine fnW_of (by kernel_rfl) (image_c hd fun vi w5 hvi e5 hbi => ?_)
      have ed := e5.new (Ext.drew [] w5)
      have hc := (h.keep ho.ext).keep ed
      have hd := hd.keep ed (by simp)
      have ho := ho.new ed
      have hvi := hvi.keep (Ext.drew [] w5) (by simp)
      have hsz : wr.heap.size ≤ w5.drew.heap.size := ed.size
      have hviF : ∀ b ∈ slB vi, b ∉ F := fun b hb hm => by
        have := hbi b hb
        exact absurd (hlt0 b hm) (by omega)
      generalize w5.drew = w6 at *
      obtain ⟨b, o, cs, hix, hbk, g0, g1, g2, g66, hlen, _⟩ := hc.elem hlt .i64
      have hg := hc.good l[k] (List.getElem_mem hlt)
      refine hix _ (off_i (load1 hbk g1 ?_))
      rw [and7]
      refine ⟨rfl, hix _ (off_i (loadN hbk (by omega) ?_))⟩
      rw [g2]
      have i0 : 0 ≤ l[k].n % 8 := by omega
      have i1 : l[k].n % 8 < D.n := by omega
      refine fnW_of (by kernel_rfl) (write_c hd _ _ hg.len (by omega) fun F' w7 hd7 m7 => ?_)
      have o7 := ho.mv m7
      have hc7 := h.keep o7.ext
      by_cases hz : D.left = 0
      · rw [DiskM.write_zero i0 i1 hz] at hd7 ⊢
        simp only [bin_eql, bin_neq]
        refine cond_b (fun hc => by simp at hc) (fun _ => ?_)
        simp only [bne_self_eq_false, gstep_f]
        refine fnW_of (by kernel_rfl) (image_c hd7 fun vj w8 hvj e8 hbj => ?_)
        have hvi7 := hvi.keep m7.ext hviF
        refine fnW_of (by kernel_rfl) (sameBytes_c hvj.rd (hvi7.rd.keep e8 (by simp)) (by show D.seen.length < _; omega) fun w9 e9 => ?_)
        simp only [decide_true, not_e, Bool.not_true, pickW_f, condW_f]
        have e79 := e8.new e9
        refine next _ w9 dn F' D f0 f1 f5 f7 f8 (hd7.keep e79 (by simp)) hn8 hpe (by omega) (o7.new e79) ?_
        rcases hcase with ⟨_, h', _⟩ | ⟨h1', h2', h3'⟩
        · omega
        · exact .inr ⟨h1', h2', by omega⟩
      · rw [DiskM.write_go i0 i1 hz] at hd7 ⊢
        simp only [bin_eql, beq_self_eq_true, condW_t]
        rw [bin_add, i64_self (by omega)]
        obtain ⟨b', o', cs', hix', hbk', g0', g1', g2', g66', hlen', _⟩ := hc7.elem hlt .i64
        refine hix' _ (off_i (load1 hbk' g1' ?_))
        rw [and7]
        refine fnW_of (by kernel_rfl) (read_c hd7 _ fun w8 e8 => ?_)
        have hr : DiskM.read { D with seen := bspl D.seen (64 * (l[k].n % 8).toNat) l[k].blk, pend := D.pend ++ [((l[k].n % 8).toNat, l[k].blk)], left := if 0 < D.left then D.left - 1 else D.left } (l[k].n % 8) = (l[k].blk, 0) := by
          unfold DiskM.read
          rw [if_pos ⟨i0, i1⟩]
          have := bspl_read (l := D.seen) (b := l[k].blk) (o := 64 * (l[k].n % 8).toNat) (by rw [hg.len]; omega)
          rw [hg.len] at this
          simp only [this]
        rw [hr]
        simp only [extr0, extr1]
        have hbl : (bc l[k].blk).length = 64 := by rw [bc_length, hg.len]
        refine allocW_i zero_block fun b11 w9 hb11 e9 k9 s9 => storeAll k9 hbl (by simp [Value.cells]) (bc_one _) fun w10 e10 k10 s10 => ?_
        have e710 := ((((Ext.refl [] w7).new e8).new e9).step e10 (by intro x hx hlt; simp at hx; have := e8.size; omega)).new (Ext.drew [] w10)
        have k10 := k10.keep (Ext.drew [] w10) (by simp)
        have hd10 := hd7.keep e710 (by simp)
        have o10 := o7.new e710
        have hc10 := h.keep o10.ext
        generalize w10.drew = w11 at *
        refine loadAll k10.r hbl ?_
        obtain ⟨b'', o'', cs'', hix'', hbk'', _, _, g2'', _, hlen'', _⟩ := hc10.elem hlt .i64
        refine hix'' _ (off_i (loadN hbk'' (by omega) ?_))
        rw [g2'']
        refine block_neq hg.len hg.len ?_
        simp only [decide_true, Bool.not_true, condW_f]
        refine ⟨trivial, next _ w11 (dn + 1) F' _ f0 f1 f5 ?_ f8 hd10 hn8 (by simp [hpe]) (by omega) o10 ?_⟩
        · show Value.int .i64 ((dn : Int) + 1) = _
          simp
        · rcases hcase with ⟨h1', h2', h3'⟩ | ⟨h1', h2', h3'⟩
          · refine .inl ⟨h1', ?_, by omega⟩
            show (if 0 < D.left then D.left - 1 else D.left) = -1
            rw [if_neg (by omega)]; exact h2'
          · refine .inr ⟨h1', ?_, by omega⟩
            show (if 0 < D.left then D.left - 1 else D.left) = _
            rw [if_pos (by omega)]; omega
    · have hkl : k = l.length := by omega
      subst hkl
      refine hX _ _ _ (by simp) (h2 _ _ _ (blk_x ?_))
      refine tail _ wr F D dn f0 f1 f5 f7 hd ho hpe ?_
      rcases hcase with ⟨h1', _, h3'⟩ | ⟨h1', _, h3'⟩
      · exact .inl ⟨h1', h3'⟩
      · exact .inr ⟨h1', h3'⟩
end Go.Proofs.Ytedebapgmfnflaa
