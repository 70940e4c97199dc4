/- The disk's own functions, by contracts: a crash, a twin. -/
import Derived.Test.YtedebapgmfnflaaD4
namespace Go.Proofs.Ytedebapgmfnflaa
open Go
set_option maxRecDepth 100000

theorem getD_lt {l : Bytes} {i : Nat} (h : i < l.length) : (bc l)[i]? = some (bv (l.getD i 0)) := by
  simp [bc, List.getElem?_map, h]

/-- An element of a slice that may be read. -/
theorem RdSl.at1 {w : World} {v : Value} {l : Bytes} {i : Nat} {m : Nat} (h : RdSl w v 1 (bc l) m) (hi : i < l.length) (k : IntKind) :
    ∃ b o, (∀ K : VPost, K (.pointer (some ⟨b, o, none⟩)) w → idxW (some (none, 1)) v (.int k i) w K) ∧ (∀ K : VPost, K (bv (l.getD i 0)) w → loadW (some (false, 1)) (.pointer (some ⟨b, o, none⟩)) w K) := by
  obtain ⟨hl, ⟨h0, _⟩ | ⟨b, o, c, cs, rfl, hb, h1, h2⟩⟩ := h
  · have := congrArg List.length h0
    rw [bc_length, List.length_nil] at this
    omega
  · rw [bc_length] at hl
    refine ⟨b, o + i * 1, fun K hK => idx_i (by omega) hK, fun K hK => load1 hb ?_ hK⟩
    have := getD_lt hi
    rw [← h1, List.getElem?_take, if_pos (by omega), List.getElem?_drop] at this
    rw [Nat.mul_one]; exact this

theorem crash_c {w : World} {p : Nat} {F : List Nat} {D : DiskM} (h : Disk w p F D) (picks : Bytes) {pv : Value} (hp : RdSl w pv 1 (bc picks) picks.length) (hpd : 0 < picks.length → ∀ b ∈ slB pv, b ∉ F ∧ b < w.heap.size) (hlen : D.pend.length ≤ 1000000) {K : VPost}
    (hK : ∀ F' w', Disk w' p F' (D.crash picks) → Mv F w F' w' → K (.int .i64 (donec picks 0 D.pend)) w') :
    Calls Try.prog 28 #[.pointer (some ⟨p, 0, none⟩), pv] w (retK K) := by
  refine c28_calls _ _ w K ?_
  unfold c28
  refine bindX_i fun J0 h0 => bindX_i fun J1 h1 => ?_
  -- from where there is a pick on
  have rest : ∀ (fr : Fr) (w1 : World) (pv1 : Value) (pk : Bytes), fr 0 = .pointer (some ⟨p, 0, none⟩) → fr 1 = pv1 → RdSl w1 pv1 1 (bc pk) pk.length → 0 < pk.length → (∀ b ∈ slB pv1, b ∉ F ∧ b < w1.heap.size) → Ext [] w w1 → Disk w1 p F D →
      (∀ k, pk.getD (k % pk.length) 0 = picks.getD (k % picks.length) 0) → J1 .normal fr w1 := by
    intro fr w1 pv1 pk f0 f1 hp1 hpos hd1 e1 hD1 hpk
    refine seq_n h1 ?_
    obtain ⟨bl, bs, zl, zs, qv, hd, hF⟩ := hD1
    subst hF
    simp only [f0, f1, nilW_e]
    refine bindX_i fun J2 h2 => ?_
    refine off_i (load1 (o := 0 + 2) hd.hdr.r rfl ?_)
    obtain ⟨qa, qc, hqv⟩ := hd.pend.shape
    subst hqv
    simp only [len_s]
    refine bindX_i fun J3 h3 => ?_
    refine loop_i (fun m fr w2 => ∃ k : Nat, m = D.pend.length - k ∧ k ≤ D.pend.length ∧ fr 0 = .pointer (some ⟨p, 0, none⟩) ∧ fr 1 = pv1 ∧ fr 5 = .int .i64 (donec picks 0 (D.pend.take k)) ∧ fr 15 = .slice qa D.pend.length qc ∧ fr 16 = .int .i64 D.pend.length ∧ fr 17 = .int .i64 k ∧
      IsDisk w2 p bl bs zl zs (.slice qa D.pend.length qc) { D with last := tears picks 0 (D.pend.take k) D.last } ∧ Ext [bl] w1 w2) D.pend.length ?_ ?_
    · exact ⟨0, rfl, Nat.zero_le _, f0, f1, rfl, rfl, rfl, rfl, by simpa [tears] using hd, Ext.refl _ _⟩
    · rintro m fr w2 J ⟨k, rfl, hk, g0, g1, g5, g15, g16, g17, hD2, e2⟩ hJ hX
      simp only [g0, g1, g5, g15, g16, g17, bin_lss]
      refine cond_d (fun hlt => ?_) (fun hlt => ?_)
      · have hlt : k < D.pend.length := by omega
        refine bindX_i fun J4 h4 => bindX_i fun J5 h5 => ?_
        -- the record
        obtain ⟨hb1, ⟨hb2, _⟩ | ⟨b, o, c, cs, hbv, hbr, hb3, hb4⟩⟩ := hD2.pend.rd
        · exfalso
          have := pcells_length (n := D.n) hD2.ok.plen
          simp only at this hb2
          rw [hb2] at this
          simp at this; omega
        have hbv' := hbv
        simp only [Value.slice.injEq] at hbv
        obtain ⟨rfl, _, rfl⟩ := hbv
        have hk65 : k * 65 + 65 ≤ D.pend.length * 65 := by
          have := Nat.mul_le_mul_right 65 (show k + 1 ≤ D.pend.length from hlt); omega
        simp only at hb3 hb4
        refine idx_i hlt (loadN hbr (by omega) ?_)
        have hrec : List.take 65 (List.drop (o + k * 65) cs) = .int .i64 D.pend[k].1 :: bc D.pend[k].2 := by
          rw [← pcells_get (n := D.n) hD2.ok.plen hlt, ← hb3, List.drop_take, List.take_take, List.drop_drop, Nat.min_eq_left (by omega)]
        rw [hrec]
        obtain ⟨ti, hti, htz, htsz, htby⟩ := tyI_spec ty_write
        have htz' : zeroO Try.prog 104 = some (.agg (List.replicate 1 (Value.int .i64 0) ++ List.replicate 64 (Value.int .u8 0)).toArray) := by simp only [zeroO, hti, Option.bind_some, htz]
        have hpl := hD2.ok.plen D.pend[k] (List.getElem_mem hlt)
        have hrl : (Value.int .i64 (D.pend[k].1 : Int) :: bc D.pend[k].2).length = 65 := by rw [List.length_cons, bc_length, hpl.2]
        refine allocW_i htz' fun b3 w3 hb3' e3 hk3 hs3 => ?_
        refine storeAll hk3 hrl (by simp [Value.cells]) (by
          intro y hy
          rcases List.mem_cons.1 hy with rfl | hy
          · rfl
          · exact bc_one _ y hy) fun w4 e4 hk4 hs4 => ?_
        have e24 : Ext [] w2 w4.drew := ((Ext.refl [] w2).new e3).step (e4.step (Ext.drew [] w4) (by simp)) (by intro x hx hlt; simp at hx; omega)
        have hk4 : Blk w4.drew b3 _ _ := hk4
        generalize w4.drew = w5 at *
        refine loadAll hk4.r hrl ?_
        have e15 : Ext [bl] w1 w5 := e2.new e24
        have hp5 : RdSl w5 pv1 1 (bc pk) pk.length := hp1.keep e15 (fun b hb => by have := (hd1 b hb).1; simp at this ⊢; exact this.2.1)
        obtain ⟨pa, pc, hpv⟩ := hp1.len
        have hpl2 : ((pk.length : Nat) : Int) ≠ 0 := by omega
        rw [hpv]
        simp only [len_s]
        refine ⟨trivial, ?_⟩
        rw [bin_rem hpl2]
        refine ⟨rfl, ?_⟩
        have hmod : ((k : Nat) : Int).tmod ((pk.length : Nat) : Int) = ((k % pk.length : Nat) : Int) := by
          rw [Int.tmod_eq_emod_of_nonneg (by omega)]; omega
        rw [hmod, ← hpv]
        obtain ⟨ib, io, hix, hld⟩ := hp5.at1 (Nat.mod_lt k hpos) .i64
        refine hix _ (hld _ ?_)
        rw [hpk k]
        have hD5 := hD2.keep e24 (by simp)
        refine fnW_of (by kernel_rfl) (torn_c hD5 D.pend[k] hpl.1 hpl.2 _ fun w6 hD6 e6 => ?_)
        have htk : D.pend.take (k + 1) = D.pend.take k ++ [D.pend[k]] := List.take_succ_eq_append_getElem hlt
        have hlk : (D.pend.take k).length = k := by rw [List.length_take]; omega
        have hD6 : IsDisk w6 p bl bs zl zs (.slice (some ⟨b, o, none⟩) D.pend.length qc) { D with last := tears picks 0 (D.pend.take (k + 1)) D.last } := by
          rw [htk, tears_snoc, hlk, Nat.zero_add]
          exact hD6
        have hdn : donec picks 0 (D.pend.take (k + 1)) = donec picks 0 (D.pend.take k) + (if 64 ≤ (picks.getD (k % picks.length) 0).toNat then 1 else 0) := by
          rw [htk, donec_snoc, hlk, Nat.zero_add]
        have hdl := donec_le picks (D.pend.take k) 0
        -- the round's end
        have next : ∀ (fr' : Fr) (d : Nat), d = donec picks 0 (D.pend.take (k + 1)) → fr' 0 = .pointer (some ⟨p, 0, none⟩) → fr' 1 = pv1 → fr' 5 = .int .i64 d → fr' 15 = .slice (some ⟨b, o, none⟩) D.pend.length qc → fr' 16 = .int .i64 D.pend.length → fr' 17 = .int .i64 k → J4 .normal fr' w6 := by
          intro fr' d hd' q0 q1 q5 q15 q16 q17
          refine seq_n h4 ?_
          simp only [q17, bin_add]
          rw [i64_self (by omega)]
          refine hJ (D.pend.length - (k + 1)) _ _ (by omega) ⟨k + 1, rfl, hlt, q0, q1, by rw [← hd']; exact q5, q15, q16, ?_, hD6, e15.step e6 (by simp)⟩
          show Value.int .i64 ((k : Int) + 1) = _
          simp
        refine cond_d (fun hc => ?_) (fun hc => ?_)
        · simp only [bin_add]
          rw [i64_self (by omega)]
          rw [if_pos hc] at hdn
          exact next _ _ hdn.symm g0 g1 (by show Value.int .i64 ((donec picks 0 (D.pend.take k) : Int) + 1) = _; simp) g15 g16 g17
        · rw [if_neg hc] at hdn
          exact next _ _ hdn.symm g0 g1 g5 g15 g16 g17
      · have hkn : k = D.pend.length := by omega
        subst hkn
        refine hX _ _ _ (by simp) (h3 _ _ _ (blk_x (seq_n h2 ?_)))
        rw [List.take_length] at hD2 g5
        simp only [putF_ne _ _ _ _ _ (show (some 18 : Option Nat) ≠ some 0 by decide), putF_ne _ _ _ _ _ (show (some 18 : Option Nat) ≠ some 5 by decide), g0, g5, nilW_e]
        refine off_i (load1 (o := 0 + 1) hD2.hdr.r rfl (off_i (load1 (o := 0 + 0) hD2.hdr.r rfl ?_)))
        obtain ⟨i, hi, hz, hsz, hby⟩ := tyI_spec ty_block
        have hl := hD2.ok.llen
        have hs := hD2.ok.slen
        simp only at hl hs
        refine PB.copy (ys := bc (tears picks 0 D.pend D.last)) (m := D.n) und_blocks hi hD2.seen (hD2.last.rd (by rw [bc_length, hsz]; dsimp only; omega))
          (bc_one _) (by rw [bc_length, hsz]; simp only; omega) fun w3 e3 hb3 hs3 => ?_
        have e3 := e3.undrew
        have hh3 := hD2.hdr.keep e3 (by simpa using hD2.ne2)
        have hl3 := hD2.last.keep e3 (by simpa using hD2.ne3)
        have : lspl (bc D.seen) 0 (List.take (min D.n D.n * i.size) (bc (tears picks 0 D.pend D.last))) = bc (tears picks 0 D.pend D.last) := by
          rw [List.take_of_length_le (by rw [bc_length, hsz, Nat.min_self]; omega)]
          exact lspl_all (by rw [bc_length, bc_length]; omega)
        simp only [this] at hb3
        refine off_i (o := 0) (k := 2) (store1 (o := 0 + 2) hh3 rfl (by simp) rfl fun w4 e4 hh4 hz4 => ?_)
        refine off_i (o := 0) (k := 3) (store1 (o := 0 + 3) hh4 rfl (by simp) rfl fun w5 e5 hh5 hz5 => ?_)
        have hne1 := hD2.ne1
        have hne2 := hD2.ne2
        have hne3 := hD2.ne3
        have hok : (D.crash picks).ok := ⟨hl, hl, by simp [DiskM.crash], hD2.ok.n1, hD2.ok.n2, by simp [DiskM.crash], by simp [DiskM.crash]⟩
        refine hK [p, bl, bs] w5 ⟨bl, bs, zl, zs, .slice none 0 0, ⟨hh5, (hl3.keep e4 (by simpa using Ne.symm hne1)).keep e5 (by simpa using Ne.symm hne1), (hb3.keep e4 (by simpa using Ne.symm hne2)).keep e5 (by simpa using Ne.symm hne2), .inl ⟨rfl, rfl, rfl⟩,
          hok, hne1, hne2, hne3, by simp [slB], by simp [slB], by simp [slB]⟩, by simp [slB]⟩ ⟨?_, ?_⟩
        · exact ((((e1.mono (by simp)).step e2 (by intro x hx _; simp at hx; subst hx; simp)).step e3 (by intro x hx _; simp at hx; subst hx; simp)).step e4 (by intro x hx _; simp at hx; subst hx; simp)).step e5 (by intro x hx _; simp at hx; subst hx; simp)
        · intro x hx
          left
          simp at hx ⊢
          rcases hx with rfl | rfl | rfl <;> simp
  obtain ⟨a, c, hpv⟩ := hp.len
  subst hpv
  simp only [len_s, bin_eql]
  refine cond_b (fun hc => ?_) (fun hc => ?_)
  · have h0 : picks.length = 0 := by simp at hc; simp [hc]
    have hpn : picks = [] := List.length_eq_zero_iff.1 h0
    obtain ⟨ui, hui, huz, husz, huby⟩ := tyI_spec ty_u8
    refine buildSlice_i (vs := [bv 0]) und_u8s hui huz rfl (by intro v hv; simp at hv; subst hv; rw [husz]; rfl) (by rw [husz]; simp) fun b1 w1 hb1 e1 hk1 hs1 => ?_
    refine rest _ w1 (.slice (some ⟨b1, 0, none⟩) 1 1) [0] rfl rfl ⟨by simp [bc_length], .inr ⟨b1, 0, 1, _, rfl, hk1.r, by simp [flatV, bc, bv, Value.cells], by simp [flatV, bv, Value.cells]⟩⟩ (by simp) ?_ e1 (h.keep e1 (by simp)) ?_
    · intro b hb
      simp [slB] at hb
      subst hb
      refine ⟨fun hm => ?_, by omega⟩
      have := h.lt b hm; omega
    · intro k; subst hpn; simp [Nat.mod_one]
  · have hpos : 0 < picks.length := by
      simp at hc
      exact List.length_pos_iff.2 hc
    exact rest _ w _ picks rfl rfl hp hpos (hpd hpos) (Ext.refl _ _) h (fun _ => rfl)
end Go.Proofs.Ytedebapgmfnflaa
