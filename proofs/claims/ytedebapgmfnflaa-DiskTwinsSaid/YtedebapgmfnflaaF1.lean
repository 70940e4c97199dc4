/- The law that a twin is apart: its walk. -/
import Derived.Test.YtedebapgmfnflaaE1
namespace Go.Proofs.Ytedebapgmfnflaa
open Go
set_option maxRecDepth 100000

theorem twins_walk {w : World} {v0 v1 : Value} {l : List CallM} {pk bb : Bytes} (h : IsCalls w v0 l) (hp : RdSl w v1 1 (bc pk) pk.length) (hb : bb.length = 64) {K : VPost} (hK : ∀ w', Ext [] w w' → K (.bool true) w') :
    Calls Try.prog 5 #[v0, v1, .agg (bc bb).toArray] w (retK K) := by
  refine c5_calls _ _ _ w K ?_
  unfold c5
  have hpu : Try.prog.underlying 25 = some (.pointer 102) := by kernel_rfl
  refine boxW_i fun b5 w1 hb5 e1 k1 s1 => ?_
  have k1 : Blk w1 b5 (bc bb) 33 := by simpa [Value.cells] using k1
  refine fnW_of (by kernel_rfl) (alive_c fun w2 e2 => ?_)
  simp only [not_e, Bool.not_true, condW_f]
  have k2 := k1.keep e2 (by simp)
  have e12 := e1.new e2
  refine fnW_of (by kernel_rfl) (great_c (h.keep e12) ?_ fun hl60 _ => ?_)
  · simp only [gstep_tf, pickW_t, condW_t]
    exact hK w2 e12
  obtain ⟨pa, pc, hv1⟩ := hp.len
  simp only [gstep_f, hv1, len_s, bin_gtr, pickW_f]
  rw [← hv1]
  refine cond_d (fun _ => hK w2 e12) fun hpl => ?_
  refine fnW_of (by kernel_rfl) (new_c 8 (fun hh => absurd (by decide) hh) fun _ p F1 w3 d3 e3 hF3 => ?_)
  simp only [extr0, extr1, bin_neq, bne_self_eq_false, gstep_f, ptr_eql_nil hpu, pickW_f, condW_f]
  have o3 : Own w F1 w3 := by
    have := (Own.nil w2).of e3 hF3
    exact ⟨fun b hb => by have := hF3 b hb; have := e12.size; omega, e12.new e3⟩
  refine bindX_i fun J0 h0 => bindX_i fun J1 h1 => bindX_i fun J2 h2 => ?_
  have tail : ∀ (fr : Fr) (wr : World) (F : List Nat) (D : DiskM), fr 7 = .pointer (some ⟨p, 0, none⟩) → fr 1 = v1 → fr 5 = .pointer (some ⟨b5, 0, none⟩) → Disk wr p F D → D.n = 8 → D.pend.length ≤ 60 → Own w F wr → Blk wr b5 (bc bb) 33 → b5 ∉ F → J1 .normal fr wr := by
    intro fr wr F D f7 f1 f5 hd hn hpe ho hkb hnb
    refine seq_n h1 ?_
    simp only [f7, f1, f5]
    have hsl : D.seen.length = 512 := by obtain ⟨_, _, _, _, _, hh, _⟩ := hd; rw [hh.ok.slen, hn]
    refine fnW_of (by kernel_rfl) (image_c hd fun vi w4 hvi e4 hbi => ?_)
    have hd4 := hd.keep e4 (by simp)
    refine fnW_of (by kernel_rfl) (twin_c hd4 fun q G w5 ht e5 hG => ?_)
    have hd5 := hd4.keep e5 (by simp)
    have hvi5 := hvi.rd.keep e5 (by simp)
    have e15 := (ho.new e4).new e5
    simp only [ptr_eql_nil hpu, gstep_f]
    refine fnW_of (by kernel_rfl) (pending_c ht ?_)
    have hp0 : ((D.twin.pend.length : Nat) : Int) = 0 := rfl
    have hs0 : D.twin.seen = D.seen := rfl
    simp only [hp0, gstep_f, bin_neq, bne_self_eq_false, pickW_f]
    refine fnW_of (by kernel_rfl) (image_c ht fun vi2 w6 hvi2 e6 hbi2 => ?_)
    refine fnW_of (by kernel_rfl) (sameBytes_c hvi2.rd (hvi5.keep e6 (by simp)) (by rw [hs0]; omega) fun w7 e7 => ?_)
    simp only [hs0, decide_true, gstep_f, not_e, Bool.not_true, pickW_f, condW_f]
    have e57 := e6.new e7
    have ht7 := ht.keep e57 (by simp)
    have hd7 := hd5.keep e57 (by simp)
    have o7 := e15.new e57
    have hG0 : ∀ b ∈ G, w.heap.size ≤ b := fun b hb => by have := hG b hb; have := (ho.new e4).ext.size; omega
    refine fnW_of (by kernel_rfl) (crash_c ht7 pk (hp.keep o7.ext (by simp)) ?_ (by show 0 ≤ 1000000; omega) fun G8 w8 ht8 m8 => ?_)
    · intro hpos b hb
      have hlt := hp.ltb (by rw [bc_length]; exact hpos) b hb
      exact ⟨fun hm => by have := hG0 b hm; omega, Nat.lt_of_lt_of_le hlt o7.ext.size⟩
    have oG8 : Own w G8 w8 := Own.mv (F := G) ⟨hG0, o7.ext⟩ m8
    have hdis : ∀ b ∈ F, b ∉ G := fun b hb hm => by have := hG b hm; have := hd4.lt b hb; omega
    have hd8 := hd7.keep m8.ext hdis
    have hdis8 : ∀ b ∈ F, b ∉ G8 := fun b hb => m8.out (hdis b hb) (hd7.lt b hb)
    have hs8 : (D.twin.crash pk).seen = D.seen := rfl
    have hvn : ∀ b ∈ slB vi, b ∉ G := fun b hb hm => by have := hG b hm; have := hvi.lt b hb; omega
    have hvi8 := ((hvi5.keep e6 (by simp)).keep e7 (by simp)).keep m8.ext hvn
    refine fnW_of (by kernel_rfl) (image_c ht8 fun vi9 w9 hvi9 e9 hbi9 => ?_)
    refine fnW_of (by kernel_rfl) (sameBytes_c hvi9.rd (hvi8.keep e9 (by simp)) (by rw [hs8]; omega) fun w10 e10 => ?_)
    simp only [hs8, decide_true, not_e, Bool.not_true, condW_f]
    have e910 := e9.new e10
    have ht10 := ht8.keep e910 (by simp)
    have hd10 := hd8.keep e910 (by simp)
    have o10 := oG8.new e910
    have hvi10 := hvi8.keep e910 (by simp)
    have hkG : b5 ∉ G := fun hm => by have := hG b5 hm; have := (hkb.keep e4 (by simp)).lt; omega
    have hk10 := ((((hkb.keep e4 (by simp)).keep e5 (by simp)).keep e57 (by simp)).keep m8.ext hkG).keep e910 (by simp)
    refine loadAll hk10.r (by rw [bc_length, hb]) ?_
    refine fnW_of (by kernel_rfl) (write_c ht10 3 bb hb (by show 0 ≤ 1000000; omega) fun G11 w11 ht11 m11 => ?_)
    have hd11 := hd10.keep m11.ext hdis8
    have hvn8 : ∀ b ∈ slB vi, b ∉ G8 := fun b hb => m8.out (hvn b hb) (by have := hvi.lt b hb; have := e5.size; have := e57.size; omega)
    have hvi11 := hvi10.keep m11.ext hvn8
    have o11 := o10.mv m11
    refine fnW_of (by kernel_rfl) (image_c hd11 fun vi12 w12 hvi12 e12' hbi12 => ?_)
    refine fnW_of (by kernel_rfl) (sameBytes_c hvi12.rd (hvi11.keep e12' (by simp)) (by omega) fun w13 e13 => ?_)
    simp only [decide_true]
    exact hK w13 ((o11.new e12').new e13).ext
  refine loop_i (fun m fr wr => ∃ (k : Nat) (F : List Nat) (D : DiskM), m = l.length - k ∧ k ≤ l.length ∧ fr 0 = v0 ∧ fr 1 = v1 ∧ fr 5 = .pointer (some ⟨b5, 0, none⟩) ∧ fr 7 = .pointer (some ⟨p, 0, none⟩) ∧ fr 9 = .int .i64 k ∧
    Disk wr p F D ∧ D.n = 8 ∧ D.pend.length ≤ k ∧ Own w F wr ∧ Blk wr b5 (bc bb) 33 ∧ b5 ∉ F) l.length ?_ ?_
  · exact ⟨0, F1, _, rfl, Nat.zero_le _, rfl, rfl, rfl, rfl, rfl, d3, rfl, Nat.le_refl _, o3, k2.keep e3 (by simp), fun hm => by have := hF3 b5 hm; have := k2.lt; omega⟩
  · rintro m fr wr J ⟨k, F, D, rfl, hk, f0, f1, f5, f7, f9, hd, hn, hpe, ho, hkb, hnb⟩ hJ hX
    have hc := h.keep ho.ext
    obtain ⟨ca, cc, hv0⟩ := hc.rd.len
    have hl1 : ∀ (w : World) (K : VPost), lenW Try.prog (some true) #[22] 3 #[v0] w K = K (.int .i64 l.length) w := fun w K => by rw [hv0, len_s]
    simp only [f0, f1, f5, f7, f9, hl1, bin_lss]
    refine cond_d (fun hlt => ?_) (fun hlt => ?_)
    · have hlt : k < l.length := by omega
      have ed := Ext.drew [] wr
      have hc := hc.keep ed
      have hd := hd.keep ed (by simp)
      have ho := ho.new ed
      have hkb := hkb.keep ed (by simp)
      generalize wr.drew = wr at *
      obtain ⟨b, o, cs, hix, hbk, g0, g1, g2, g66, hlen, _⟩ := hc.elem hlt .i64
      have hg := hc.good l[k] (List.getElem_mem hlt)
      refine hix _ (off_i (load1 hbk g1 ?_))
      rw [and7]
      refine ⟨rfl, hix _ (off_i (loadN hbk (by omega) ?_))⟩
      rw [g2]
      refine fnW_of (by kernel_rfl) (write_c hd _ _ hg.len (by omega) fun F' w' hd' hm' => ?_)
      rw [bin_add, i64_self (by omega)]
      have hwp := DiskM.write_pend D (l[k].n % 8) l[k].blk
      refine hJ (l.length - (k + 1)) _ _ (by omega) ⟨k + 1, F', _, rfl, hlt, f0, f1, f5, f7, ?_, hd', (DiskM.write_n _ _ _).trans hn, by omega, ho.mv hm', hkb.keep hm'.ext hnb, hm'.out hnb hkb.lt⟩
      show Value.int .i64 ((k : Int) + 1) = _
      simp
    · refine hX _ _ _ (by simp) (h2 _ _ _ (blk_x ?_))
      exact tail _ wr F D f7 f1 f5 hd hn (by omega) ho hkb hnb
end Go.Proofs.Ytedebapgmfnflaa
