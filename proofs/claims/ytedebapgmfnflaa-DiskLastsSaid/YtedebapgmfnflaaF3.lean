/- The law on writes that are torn: its walk. -/
import Derived.Test.YtedebapgmfnflaaF2
namespace Go.Proofs.Ytedebapgmfnflaa
open Go
set_option maxRecDepth 100000

def fromQ (q : UInt8) : Nat := if q.toNat / 64 = 3 then 64 - q.toNat % 64 else 0
def toQ (q : UInt8) : Nat := if q.toNat / 64 = 1 then 64 else if q.toNat / 64 = 2 then q.toNat % 64 else if q.toNat / 64 = 3 then 64 else 0

theorem toQ_le (q : UInt8) : toQ q ≤ 64 := by
  unfold toQ
  split
  · omega
  · split
    · omega
    · split <;> omega

theorem bspl_get {l b : Bytes} {o j : Nat} (h : o + b.length ≤ l.length) : (bspl l o b).getD j 0 = if o ≤ j ∧ j < o + b.length then b.getD (j - o) 0 else l.getD j 0 := by
  have h1 : (l.take o).length = o := by rw [List.length_take]; omega
  unfold bspl
  simp only [List.getD_eq_getElem?_getD]
  by_cases hj : j < o
  · rw [if_neg (by omega), List.append_assoc, List.getElem?_append_left (by omega), List.getElem?_take, if_pos hj]
  · by_cases hj2 : j < o + b.length
    · rw [if_pos ⟨by omega, hj2⟩, List.append_assoc, List.getElem?_append_right (by omega), h1, List.getElem?_append_left (by omega)]
    · rw [if_neg (by omega), List.getElem?_append_right (by rw [List.length_append]; omega), List.getElem?_drop, List.length_append, h1]
      congr 2; omega

theorem tear_get {last b : Bytes} {n a : Nat} (hl : last.length = 64 * n) (ha : a < n) (hb : b.length = 64) (q : UInt8) (j : Nat) :
    (tear last (a, b) q).getD j 0 = if 64 * a + fromQ q ≤ j ∧ j < 64 * a + toQ q then b.getD (j - 64 * a) 0 else last.getD j 0 := by
  have hq : q.toNat < 256 := q.toNat_lt
  have hm := Nat.mod_lt q.toNat (show 0 < 64 by decide)
  unfold tear fromQ toQ
  by_cases h0 : q.toNat / 64 = 0
  · simp only [h0, if_true]
    rw [if_neg (by simp)]
  · simp only [h0, if_false]
    by_cases h1 : q.toNat / 64 = 1
    · simp only [h1, if_true]
      rw [bspl_get (by omega), hb]
      simp
    · simp only [h1, if_false]
      by_cases h2 : q.toNat / 64 = 2
      · simp only [h2, if_true]
        rw [bspl_get (by rw [List.length_take]; omega)]
        have : (b.take (q.toNat % 64)).length = q.toNat % 64 := by rw [List.length_take]; omega
        rw [this]
        simp only [show ¬ (2 = 3) by decide, if_false, Nat.add_zero]
        split
        · rename_i hc
          simp only [List.getD_eq_getElem?_getD]
          rw [List.getElem?_take, if_pos (by omega)]
        · rfl
      · simp only [h2, if_false]
        have h3 : q.toNat / 64 = 3 := by omega
        simp only [h3, if_true]
        rw [bspl_get (by rw [List.length_drop]; omega)]
        have : (b.drop (64 - q.toNat % 64)).length = q.toNat % 64 := by rw [List.length_drop]; omega
        rw [this]
        have hc : (64 * a + (64 - q.toNat % 64) ≤ j ∧ j < 64 * a + (64 - q.toNat % 64) + q.toNat % 64) ↔ (64 * a + (64 - q.toNat % 64) ≤ j ∧ j < 64 * a + 64) := by omega
        simp only [hc]
        split
        · simp only [List.getD_eq_getElem?_getD]
          rw [List.getElem?_drop]
          congr 2; omega
        · rfl

/-- A write to each sector from one on. -/
def eachW (b : Bytes) (k m : Nat) : List (Nat × Bytes) := (List.range' k m).map fun i => (i, b)

theorem tears_get {b : Bytes} (hb : b.length = 64) (picks : Bytes) {n : Nat} : ∀ (m k : Nat) (last : Bytes), last.length = 64 * n → k + m ≤ n → ∀ i r, r < 64 →
    (tears picks k (eachW b k m) last).getD (64 * i + r) 0 = if k ≤ i ∧ i < k + m ∧ fromQ (picks.getD (i % picks.length) 0) ≤ r ∧ r < toQ (picks.getD (i % picks.length) 0) then b.getD r 0 else last.getD (64 * i + r) 0 := by
  intro m
  induction m with
  | zero => intro k last _ _ i r _; simp only [eachW, List.range'_zero, List.map_nil, tears]; rw [if_neg (by omega)]
  | succ m ih =>
    intro k last hl hkm i r hr
    have e : eachW b k (m + 1) = (k, b) :: eachW b (k + 1) m := by simp [eachW, List.range'_succ]
    rw [e, tears, ih (k + 1) _ (tear_length hl (by omega) hb _) (by omega) i r hr, tear_get hl (by omega) hb]
    by_cases hik : i = k
    · subst hik
      rw [if_neg (by omega)]
      have hq := toQ_le
      by_cases hc : fromQ (picks.getD (i % picks.length) 0) ≤ r ∧ r < toQ (picks.getD (i % picks.length) 0)
      · rw [if_pos ⟨by omega, by omega⟩, if_pos ⟨by omega, by omega, hc.1, hc.2⟩]
        congr 1; omega
      · rw [if_neg (by omega), if_neg (by omega)]
    · have hq := toQ_le
      have hq1 := hq (picks.getD (k % picks.length) 0)
      have hne : ¬ (64 * k + fromQ (picks.getD (k % picks.length) 0) ≤ 64 * i + r ∧ 64 * i + r < 64 * k + toQ (picks.getD (k % picks.length) 0)) := by omega
      rw [if_neg hne]
      by_cases hc : k + 1 ≤ i ∧ i < k + 1 + m ∧ fromQ (picks.getD (i % picks.length) 0) ≤ r ∧ r < toQ (picks.getD (i % picks.length) 0)
      · rw [if_pos hc, if_pos ⟨by omega, by omega, hc.2.2⟩]
      · rw [if_neg hc, if_neg (by omega)]

theorem eachW_snoc (b : Bytes) (k : Nat) : eachW b 0 (k + 1) = eachW b 0 k ++ [(k, b)] := by
  simp [eachW, List.range'_concat]
theorem eachW_length (b : Bytes) (k m : Nat) : (eachW b k m).length = m := by simp [eachW]
theorem eachW_take (b : Bytes) {k m : Nat} (h : k ≤ m) : (eachW b 0 m).take k = eachW b 0 k := by
  unfold eachW
  rw [← List.map_take, List.take_range'_of_length_ge h]

theorem shr6 {P : Program} {w : World} {K : VPost} {t : TypeId} {c : Bool} {x : Nat} : binW P .shr t c (.int .i64 x) (.int .u64 6) w K = K (.int .i64 ((x / 64 : Nat) : Int)) w := by
  rw [bin_shr (by decide)]
  congr 1
  congr 1
  show ((x : Nat) : Int).fdiv 64 = _
  rw [Int.fdiv_eq_ediv_of_nonneg _ (by decide)]
  omega
theorem and63n {P : Program} {w : World} {K : VPost} {t : TypeId} {c : Bool} {x : Nat} : binW P .and t c (.int .i64 x) (.int .i64 63) w K = K (.int .i64 ((x % 64 : Nat) : Int)) w := by
  rw [and63]; congr 1

structure PF3 (v1 : Value) (b2 p b12 i nn qn : Nat) (fr : Fr) : Prop where
  g1 : fr 1 = v1
  g2 : fr 2 = .pointer (some ⟨b2, 0, none⟩)
  g5 : fr 5 = .pointer (some ⟨p, 0, none⟩)
  g8 : fr 8 = .int .i64 nn
  g10 : fr 10 = .int .i64 i
  g11 : fr 11 = .int .i64 qn
  g12 : fr 12 = .pointer (some ⟨b12, 0, none⟩)

theorem bc_get {l : Bytes} {i : Nat} (h : i < l.length) : (bc l)[i]? = some (bv (l.getD i 0)) := getD_lt h

theorem parts_walk {w : World} {v1 : Value} {pk bb : Bytes} (hp : RdSl w v1 1 (bc pk) pk.length) (hb : bb.length = 64) {K : VPost} (hK : ∀ w', Ext [] w w' → K (.bool true) w') :
    Calls Try.prog 7 #[.agg (bc bb).toArray, v1] w (retK K) := by
  refine c7_calls _ _ w K ?_
  unfold c7
  have hpu : Try.prog.underlying 25 = some (.pointer 102) := by kernel_rfl
  refine boxW_i fun b2 w1 hb2 e1 k1 s1 => ?_
  have k1 : Blk w1 b2 (bc bb) 33 := by simpa [Value.cells] using k1
  refine fnW_of (by kernel_rfl) (alive_c fun w2 e2 => ?_)
  simp only [not_e, Bool.not_true, condW_f]
  have k2 := k1.keep e2 (by simp)
  have e12 := e1.new e2
  obtain ⟨pa, pc, hv1⟩ := hp.len
  have hl1 : ∀ (w : World) (K : VPost), lenW Try.prog (some true) #[34] 3 #[v1] w K = K (.int .i64 pk.length) w := fun w K => by rw [hv1, len_s]
  simp only [hl1, bin_gtr]
  by_cases h8 : (8 : Int) < pk.length
  · simp only [h8, decide_true, gstep_tf, pickW_t, condW_t]
    exact hK w2 e12
  simp only [h8, decide_false, gstep_f, hl1, bin_eql, pickW_f]
  refine cond_b (fun _ => hK w2 e12) fun h0 => ?_
  have hpos : 0 < pk.length := by simp at h0; exact List.length_pos_iff.2 h0
  refine fnW_of (by kernel_rfl) (new_c 8 (fun hh => absurd (by decide) hh) fun _ p F1 w3 d3 e3 hF3 => ?_)
  simp only [extr0, extr1, bin_neq, bne_self_eq_false, gstep_f, ptr_eql_nil hpu, pickW_f, condW_f]
  have o3 : Own w F1 w3 := ⟨fun b hb => by have := hF3 b hb; have := e12.size; omega, e12.new e3⟩
  refine bindX_i fun J0 h0' => bindX_i fun J1 h1 => bindX_i fun J2 h2 => ?_
  -- behind the crash
  have tail : ∀ (fr : Fr) (wr : World) (F : List Nat) (D : DiskM), fr 1 = v1 → fr 2 = .pointer (some ⟨b2, 0, none⟩) → fr 5 = .pointer (some ⟨p, 0, none⟩) → Disk wr p F D → D.n = 8 → D.last = List.replicate 512 0 → D.pend = eachW bb 0 8 → Own w F wr → Blk wr b2 (bc bb) 33 → b2 ∉ F → J1 .normal fr wr := by
    intro fr wr F D f1 f2 f5 hd hn hlast hpend ho hkb hnb
    refine seq_n h1 ?_
    simp only [f1, f2, f5]
    refine fnW_of (by kernel_rfl) (crash_c hd pk (hp.keep ho.ext (by simp)) ?_ (by rw [hpend, eachW_length]; omega) fun F4 w4 hd4 m4 => ?_)
    · intro hpos b hb
      have hlt := hp.ltb (by rw [bc_length]; exact hpos) b hb
      exact ⟨fun hm => by have := ho.lo b hm; omega, Nat.lt_of_lt_of_le hlt ho.ext.size⟩
    have o4 := ho.mv m4
    have k4 := hkb.keep m4.ext hnb
    rw [hpend]
    have hsn : ∀ i r, i < 8 → r < 64 → (D.crash pk).seen.getD (64 * i + r) 0 = if fromQ (pk.getD (i % pk.length) 0) ≤ r ∧ r < toQ (pk.getD (i % pk.length) 0) then bb.getD r 0 else 0 := by
      intro i r hi hr
      show (tears pk 0 D.pend D.last).getD _ 0 = _
      rw [hpend, tears_get hb pk (n := 8) 8 0 _ (by rw [hlast]; simp) (by omega) i r hr, hlast]
      have hz : (List.replicate 512 (0 : UInt8)).getD (64 * i + r) 0 = 0 := by
        simp only [List.getD_eq_getElem?_getD, List.getElem?_replicate]
        split <;> rfl
      rw [hz]
      by_cases hc : fromQ (pk.getD (i % pk.length) 0) ≤ r ∧ r < toQ (pk.getD (i % pk.length) 0)
      · rw [if_pos ⟨by omega, by omega, hc⟩, if_pos hc]
      · rw [if_neg (by omega), if_neg hc]
    have hsl : (D.crash pk).seen.length = 512 := by obtain ⟨_, _, _, _, _, hh, _⟩ := hd4; rw [hh.ok.slen]; show 64 * D.n = _; rw [hn]
    have hn4 : (D.crash pk).n = 8 := hn
    generalize D.crash pk = E at *
    refine bindX_i fun J3 h3 => bindX_i fun J4 h4 => ?_
    refine loop_i (fun m fr wr => ∃ i : Nat, m = 8 - i ∧ i ≤ 8 ∧ fr 1 = v1 ∧ fr 2 = .pointer (some ⟨b2, 0, none⟩) ∧ fr 5 = .pointer (some ⟨p, 0, none⟩) ∧ fr 8 = .int .i64 (donec pk 0 (eachW bb 0 8)) ∧ fr 9 = .int .i64 (donec pk 0 (eachW bb 0 i)) ∧ fr 10 = .int .i64 i ∧ Ext [] w4 wr) 8 ?_ ?_
    · exact ⟨0, rfl, by omega, f1, f2, f5, rfl, rfl, rfl, Ext.refl _ _⟩
    · rintro m fr wr J ⟨i, rfl, hi, f1, f2, f5, f8, f9, f10, e⟩ hJ hX
      simp only [f1, f2, f5, f8, f9, f10, bin_lss]
      refine cond_d (fun hlt => ?_) (fun hlt => ?_)
      · have hlt : i < 8 := by omega
        refine bindX_i fun J5 h5 => bindX_i fun J6 h6 => ?_
        have hne : ((pk.length : Nat) : Int) ≠ 0 := by omega
        have hmod : ((i : Nat) : Int).tmod ((pk.length : Nat) : Int) = ((i % pk.length : Nat) : Int) := by
          rw [Int.tmod_eq_emod_of_nonneg (by omega)]; omega
        rw [hl1, bin_rem hne, hmod]
        have op := (o4.new e)
        obtain ⟨ib, io, hix, hld⟩ := (hp.keep op.ext (by simp)).at1 (Nat.mod_lt i hpos) .i64
        refine hix _ (hld _ ?_)
        have hu8 : Try.prog.underlying 5 = some (.int .u8) := by kernel_rfl
        have hint : Try.prog.underlying 3 = some (.int .i64) := by kernel_rfl
        generalize hq : pk.getD (i % pk.length) 0 = q at *
        have hq256 : q.toNat < 256 := q.toNat_lt
        unfold bv
        rw [conv_int hu8 hint, i64_self (by omega)]
        refine fnW_of (by kernel_rfl) (read_c (hd4.keep e (by simp)) i fun w5 e5 => ?_)
        have hr : E.read i = ((E.seen.drop (64 * i)).take 64, 0) := by
          unfold DiskM.read; rw [if_pos ⟨by omega, by omega⟩]; simp
        rw [hr]
        simp only [extr0, extr1]
        have hxl : ((E.seen.drop (64 * i)).take 64).length = 64 := by rw [List.length_take, List.length_drop]; omega
        have hbl : (bc ((E.seen.drop (64 * i)).take 64)).length = 64 := by rw [bc_length, hxl]
        refine allocW_i zero_block fun b12 w6 hb12 e6 k6 s6 => storeAll k6 hbl (by simp [Value.cells]) (bc_one _) fun w7 e7 k7 s7 => ?_
        have e57 := (((Ext.refl [] wr).new e5).new e6).step e7 (by intro x hx hlt; simp at hx; have := e5.size; omega)
        have k47 := k4.keep (e.new e57) (by simp)
        have hget : ∀ r, r < 64 → ((E.seen.drop (64 * i)).take 64).getD r 0 = if fromQ q ≤ r ∧ r < toQ q then bb.getD r 0 else 0 := by
          intro r hr
          have := hsn i r hlt hr
          rw [hq] at this
          rw [← this]
          simp only [List.getD_eq_getElem?_getD]
          rw [List.getElem?_take, if_pos hr, List.getElem?_drop]
        generalize (E.seen.drop (64 * i)).take 64 = xs at *
        have ew : Ext [] w4 w7 := e.new e57
        have ht64 : toQ q ≤ 64 := toQ_le q
        have next5 : ∀ (fr : Fr), PF3 v1 b2 p b12 i (donec pk 0 (eachW bb 0 8)) q.toNat fr → fr 9 = .int .i64 (donec pk 0 (eachW bb 0 (i + 1))) → J5 .normal fr w7 := by
          intro fr g g9
          refine seq_n h5 ?_
          simp only [g.g10]
          rw [bin_add, i64_self (by omega)]
          refine hJ (8 - (i + 1)) _ _ (by omega) ⟨i + 1, rfl, hlt, g.g1, g.g2, g.g5, g.g8, g9, ?_, ew⟩
          show Value.int .i64 ((i : Int) + 1) = _
          simp
        refine bindX_i fun J74 h74 => ?_
        have s74 : ∀ (fr : Fr), PF3 v1 b2 p b12 i (donec pk 0 (eachW bb 0 8)) q.toNat fr → fr 9 = .int .i64 (donec pk 0 (eachW bb 0 i)) → fr 14 = .int .i64 0 → fr 15 = .int .i64 ((if q.toNat / 64 = 1 then 64 else 0 : Nat) : Int) → J74 .normal fr w7 := by
          intro fr g g9 g14 g15
          refine seq_n h74 (bindX_i fun J77 h77 => ?_)
          have s77 : ∀ (fr : Fr), PF3 v1 b2 p b12 i (donec pk 0 (eachW bb 0 8)) q.toNat fr → fr 9 = .int .i64 (donec pk 0 (eachW bb 0 i)) → fr 14 = .int .i64 0 → fr 15 = .int .i64 ((if q.toNat / 64 = 1 then 64 else if q.toNat / 64 = 2 then q.toNat % 64 else 0 : Nat) : Int) → J77 .normal fr w7 := by
            intro fr g g9 g14 g15
            refine seq_n h77 (bindX_i fun J80 h80 => ?_)
            have s80 : ∀ (fr : Fr), PF3 v1 b2 p b12 i (donec pk 0 (eachW bb 0 8)) q.toNat fr → fr 9 = .int .i64 (donec pk 0 (eachW bb 0 i)) → fr 14 = .int .i64 (fromQ q) → fr 15 = .int .i64 (toQ q) → J80 .normal fr w7 := by
              intro fr g g9 g14 g15
              refine seq_n h80 (bindX_i fun J83 h83 => ?_)
              have s83 : ∀ (fr : Fr), PF3 v1 b2 p b12 i (donec pk 0 (eachW bb 0 8)) q.toNat fr → fr 9 = .int .i64 (donec pk 0 (eachW bb 0 (i + 1))) → fr 14 = .int .i64 (fromQ q) → fr 15 = .int .i64 (toQ q) → J83 .normal fr w7 := by
                intro fr g g9 g14 g15
                refine seq_n h83 (bindX_i fun J86 h86 => ?_)
                refine loop_i (fun m fr wr => ∃ r : Nat, m = 64 - r ∧ r ≤ 64 ∧ PF3 v1 b2 p b12 i (donec pk 0 (eachW bb 0 8)) q.toNat fr ∧ fr 9 = .int .i64 (donec pk 0 (eachW bb 0 (i + 1))) ∧ fr 14 = .int .i64 (fromQ q) ∧ fr 15 = .int .i64 (toQ q) ∧ fr 16 = .int .i64 r ∧ wr = w7) 64 ?_ ?_
                · exact ⟨0, rfl, by omega, ⟨g.g1, g.g2, g.g5, g.g8, g.g10, g.g11, g.g12⟩, g9, g14, g15, rfl, rfl⟩
                · rintro m fr wr J' ⟨r, rfl, hr, g, g9, g14, g15, g16, rfl⟩ hJ' hX'
                  simp only [g16, g14, g15, g.g2, bin_lss]
                  refine cond_d (fun hlt => ?_) (fun hlt => ?_)
                  · have hlt : r < 64 := by omega
                    refine bindX_i fun J92 h92 => bindX_i fun J97 h97 => bindX_i fun J98 h98 => ?_
                    have s98 : ∀ (fr : Fr), PF3 v1 b2 p b12 i (donec pk 0 (eachW bb 0 8)) q.toNat fr → fr 9 = .int .i64 (donec pk 0 (eachW bb 0 (i + 1))) → fr 14 = .int .i64 (fromQ q) → fr 15 = .int .i64 (toQ q) → fr 16 = .int .i64 r → fr 17 = bv (xs.getD r 0) → J98 .normal fr wr := by
                      intro fr g g9 g14 g15 g16 g17
                      refine seq_n h98 ?_
                      simp only [g.g12, g16, g17]
                      refine idxA_i hlt (load1 (o := 0 + r * 1) k7.r (by rw [Nat.zero_add, Nat.mul_one]; exact bc_get (by omega)) ?_)
                      unfold bv
                      simp only [bin_neq, bne_self_eq_false, condW_f]
                      refine seq_n h92 ?_
                      show binW Try.prog .add 3 true (fr 16) (.int .i64 1) wr _
                      simp only [g16]
                      rw [bin_add, i64_self (by omega)]
                      refine hJ' (64 - (r + 1)) _ _ (by omega) ⟨r + 1, rfl, hlt, ⟨g.g1, g.g2, g.g5, g.g8, g.g10, g.g11, g.g12⟩, g9, g14, g15, ?_, rfl⟩
                      show Value.int .i64 ((r : Int) + 1) = _
                      simp
                    have hx := hget r hlt
                    simp only [bin_geq]
                    by_cases hc1 : fromQ q ≤ r
                    · have : ((fromQ q : Nat) : Int) ≤ r := by omega
                      simp only [this, decide_true, gstep_t, bin_lss, pickW_t]
                      refine cond_d (fun hc2 => ?_) (fun hc2 => ?_)
                      · refine idxA_i hlt (load1 (o := 0 + r * 1) k47.r (by rw [Nat.zero_add, Nat.mul_one]; exact bc_get (by omega)) ?_)
                        refine s98 _ ⟨g.g1, g.g2, g.g5, g.g8, g.g10, g.g11, g.g12⟩ g9 g14 g15 g16 ?_
                        rw [hx, if_pos ⟨hc1, by omega⟩]
                        rfl
                      · refine s98 _ ⟨g.g1, g.g2, g.g5, g.g8, g.g10, g.g11, g.g12⟩ g9 g14 g15 g16 ?_
                        rw [hx, if_neg (by omega)]
                        rfl
                    · have : ¬ ((fromQ q : Nat) : Int) ≤ r := by omega
                      simp only [this, decide_false, gstep_ft, pickW_f, condW_f]
                      refine s98 _ ⟨g.g1, g.g2, g.g5, g.g8, g.g10, g.g11, g.g12⟩ g9 g14 g15 g16 ?_
                      rw [hx, if_neg (by omega)]
                      rfl
                  · refine hX' _ _ _ (by simp) (h86 _ _ _ (blk_x (h6 _ _ _ ?_)))
                    exact next5 _ ⟨g.g1, g.g2, g.g5, g.g8, g.g10, g.g11, g.g12⟩ g9
              have hdn : donec pk 0 (eachW bb 0 (i + 1)) = donec pk 0 (eachW bb 0 i) + (if 64 ≤ q.toNat then 1 else 0) := by
                rw [eachW_snoc, donec_snoc, eachW_length, Nat.zero_add, hq]
              have hdl := donec_le pk (eachW bb 0 i) 0
              rw [eachW_length] at hdl
              simp only [g.g11, shr6, bin_gtr]
              refine cond_d (fun hc => ?_) (fun hc => ?_)
              · simp only [g9]
                rw [bin_add, i64_self (by omega)]
                refine s83 _ ⟨g.g1, g.g2, g.g5, g.g8, g.g10, g.g11, g.g12⟩ ?_ g14 g15
                rw [hdn, if_pos (by omega)]
                show Value.int .i64 ((donec pk 0 (eachW bb 0 i) : Int) + 1) = _
                simp
              · refine s83 _ ⟨g.g1, g.g2, g.g5, g.g8, g.g10, g.g11, g.g12⟩ ?_ g14 g15
                rw [hdn, if_neg (by omega)]
                exact g9
            simp only [g.g11, shr6, bin_eql]
            refine cond_b (fun hc => ?_) (fun hc => ?_)
            · have h3' : q.toNat / 64 = 3 := by simp at hc; omega
              rw [and63n, bin_sub, i64_self (by omega)]
              refine s80 _ ⟨g.g1, g.g2, g.g5, g.g8, g.g10, g.g11, g.g12⟩ g9 ?_ ?_
              · show Value.int .i64 (64 - ((q.toNat % 64 : Nat) : Int)) = _
                unfold fromQ
                rw [if_pos h3']
                congr 1; omega
              · show Value.int .i64 64 = _
                unfold toQ
                rw [if_neg (by omega), if_neg (by omega), if_pos h3']
                rfl
            · have h3' : ¬ q.toNat / 64 = 3 := by simp at hc; omega
              refine s80 _ ⟨g.g1, g.g2, g.g5, g.g8, g.g10, g.g11, g.g12⟩ g9 ?_ ?_
              · unfold fromQ
                rw [if_neg h3']
                exact g14
              · unfold toQ
                rw [if_neg h3']
                exact g15
          simp only [g.g11, shr6, bin_eql]
          refine cond_b (fun hc => ?_) (fun hc => ?_)
          · have h2' : q.toNat / 64 = 2 := by simp at hc; omega
            rw [and63n]
            refine s77 _ ⟨g.g1, g.g2, g.g5, g.g8, g.g10, g.g11, g.g12⟩ g9 g14 ?_
            rw [if_neg (by omega), if_pos h2']
            rfl
          · have h2' : ¬ q.toNat / 64 = 2 := by simp at hc; omega
            refine s77 _ ⟨g.g1, g.g2, g.g5, g.g8, g.g10, g.g11, g.g12⟩ g9 g14 ?_
            rw [if_neg h2']
            exact g15
        simp only [shr6, bin_eql]
        refine cond_b (fun hc => ?_) (fun hc => ?_)
        · have h1' : q.toNat / 64 = 1 := by simp at hc; omega
          refine s74 _ ⟨f1, f2, f5, f8, f10, rfl, rfl⟩ f9 rfl ?_
          rw [if_pos h1']
          rfl
        · have h1' : ¬ q.toNat / 64 = 1 := by simp at hc; omega
          refine s74 _ ⟨f1, f2, f5, f8, f10, rfl, rfl⟩ f9 rfl ?_
          rw [if_neg h1']
          rfl
      · have hi8 : i = 8 := by omega
        subst hi8
        refine hX _ _ _ (by simp) (h4 _ _ _ (blk_x (seq_n h3 ?_)))
        show binW Try.prog .eql 3 false (fr 8) (fr 9) wr _
        simp only [f8, f9, bin_eql, beq_self_eq_true]
        exact hK wr (o4.new e).ext
  refine loop_i (fun m fr wr => ∃ (k : Nat) (F : List Nat) (D : DiskM), m = 8 - k ∧ k ≤ 8 ∧ fr 1 = v1 ∧ fr 2 = .pointer (some ⟨b2, 0, none⟩) ∧ fr 5 = .pointer (some ⟨p, 0, none⟩) ∧ fr 7 = .int .i64 k ∧
    Disk wr p F D ∧ D.n = 8 ∧ D.last = List.replicate 512 0 ∧ D.pend = eachW bb 0 k ∧ D.left = -1 ∧ Own w F wr ∧ Blk wr b2 (bc bb) 33 ∧ b2 ∉ F) 8 ?_ ?_
  · exact ⟨0, F1, _, rfl, by omega, rfl, rfl, rfl, rfl, d3, rfl, rfl, rfl, rfl, o3, k2.keep e3 (by simp), fun hm => by have := hF3 b2 hm; have := k2.lt; omega⟩
  · rintro m fr wr J ⟨k, F, D, rfl, hk, f1, f2, f5, f7, hd, hn, hlast, hpend, hleft, ho, hkb, hnb⟩ hJ hX
    simp only [f1, f2, f5, f7, bin_lss]
    refine cond_d (fun hlt => ?_) (fun hlt => ?_)
    · refine loadAll hkb.r (by rw [bc_length, hb]) ?_
      refine fnW_of (by kernel_rfl) (write_c hd k bb hb (by rw [hpend, eachW_length]; omega) fun F' w' hd' m' => ?_)
      rw [DiskM.write_go (by omega) (by omega) (by omega)] at hd'
      rw [bin_add, i64_self (by omega)]
      refine hJ (8 - (k + 1)) _ _ (by omega) ⟨k + 1, F', _, rfl, by omega, f1, f2, f5, ?_, hd', hn, hlast, ?_, ?_, ho.mv m', hkb.keep m'.ext hnb, m'.out hnb hkb.lt⟩
      · show Value.int .i64 ((k : Int) + 1) = _
        simp
      · show D.pend ++ [((k : Int).toNat, bb)] = _
        rw [eachW_snoc, hpend]
        simp
      · show (if 0 < D.left then D.left - 1 else D.left) = -1
        rw [if_neg (by omega)]; exact hleft
    · have hk8 : k = 8 := by omega
      subst hk8
      exact hX _ _ _ (by simp) (h2 _ _ _ (blk_x (tail _ wr F D f1 f2 f5 hd hn hlast hpend ho hkb hnb)))
end Go.Proofs.Ytedebapgmfnflaa
