/- The disk's own functions, by contracts: a write that is torn; a crash. -/
import Derived.Test.YtedebapgmfnflaaD3
namespace Go.Proofs.Ytedebapgmfnflaa
open Go
set_option maxRecDepth 100000

theorem conv_int {P : Program} {s t : TypeId} {d : TypeDesc} {k k' : IntKind} {x : Int} {w : World} {K : VPost} (hu : P.underlying s = some d) (hu' : P.underlying t = some (.int k)) :
    insW P (convert s t (.int k' x)) w K = K (.int k (k.wrap x)) w := by
  unfold insW convert
  simp only [Sem.run_bind, run_und hu, run_und hu', Result.andThen_ok]
  rfl

theorem slA_to {b o n sz k : Nat} {w : World} {K : VPost} {kk : IntKind} (hk : k ≤ n) (h : K (.slice (some ⟨b, o, none⟩) k n) w) : sliceW (.arr n sz) (.pointer (some ⟨b, o, none⟩)) none (some (.int kk k)) none w K := by
  refine ⟨by simp, 0, k, n, rfl, rfl, rfl, Nat.zero_le _, by simpa using hk, Nat.le_refl _, ?_⟩
  show K (.slice (some (if n = 0 then (⟨b, o, none⟩ : Addr) else Addr.add ⟨b, o, none⟩ (0 * sz))) (k - 0) (n - 0)) w
  rw [add_addr]; simpa using h
theorem slA_from {b o n sz l : Nat} {w : World} {K : VPost} {kk : IntKind} (hl : l ≤ n) (h : K (.slice (some (if n = l then ⟨b, o, none⟩ else ⟨b, o + l * sz, none⟩)) (n - l) (n - l)) w) :
    sliceW (.arr n sz) (.pointer (some ⟨b, o, none⟩)) (some (.int kk l)) none none w K := by
  refine ⟨by simp, l, n, n, rfl, rfl, rfl, hl, by simp, Nat.le_refl _, ?_⟩
  show K (.slice (some (if n = l then (⟨b, o, none⟩ : Addr) else Addr.add ⟨b, o, none⟩ (l * sz))) (n - l) (n - l)) w
  rw [add_addr]; exact h

/-- What a crash makes of a write, by its pick. -/
def tear (last : Bytes) (x : Nat × Bytes) (p : UInt8) : Bytes :=
  if p.toNat / 64 = 0 then last
  else if p.toNat / 64 = 1 then bspl last (64 * x.1) x.2
  else if p.toNat / 64 = 2 then bspl last (64 * x.1) (x.2.take (p.toNat % 64))
  else bspl last (64 * x.1 + (64 - p.toNat % 64)) (x.2.drop (64 - p.toNat % 64))

theorem tear_length {last : Bytes} {n : Nat} (hl : last.length = 64 * n) {x : Nat × Bytes} (hx : x.1 < n) (hb : x.2.length = 64) (p : UInt8) : (tear last x p).length = 64 * n := by
  unfold tear
  have := Nat.mod_lt p.toNat (show 0 < 64 by decide)
  split
  · exact hl
  · split
    · rw [bspl_length (by omega)]; exact hl
    · split
      · rw [bspl_length (by rw [List.length_take]; omega)]; exact hl
      · rw [bspl_length (by rw [List.length_drop]; omega)]; exact hl

theorem lspl_nil (cs : List Value) (o : Nat) : lspl cs o [] = cs := by simp [lspl]

theorem IsDisk.keep {w w' : World} {p bl bs zl zs : Nat} {pv : Value} {S : List Nat} {D : DiskM} (h : IsDisk w p bl bs zl zs pv D) (e : Ext S w w') (hd : ∀ b ∈ [p, bl, bs] ++ slB pv, b ∉ S) : IsDisk w' p bl bs zl zs pv D :=
  ⟨h.hdr.keep e (hd p (by simp)), h.last.keep e (hd bl (by simp)), h.seen.keep e (hd bs (by simp)), h.pend.keep e (fun b hb => hd b (by simp [hb])), h.ok, h.ne1, h.ne2, h.ne3, h.ne4, h.ne5, h.ne6⟩

theorem torn_c {w : World} {p bl bs zl zs : Nat} {pv : Value} {D : DiskM} (h : IsDisk w p bl bs zl zs pv D) (x : Nat × Bytes) (hx : x.1 < D.n) (hb : x.2.length = 64) (pk : UInt8) {K : VPost}
    (hK : ∀ w', IsDisk w' p bl bs zl zs pv { D with last := tear D.last x pk } → Ext [bl] w w' → K (.bool (decide (64 ≤ pk.toNat))) w') :
    Calls Try.prog 76 #[.pointer (some ⟨p, 0, none⟩), .agg (Value.int .i64 x.1 :: bc x.2).toArray, bv pk] w (retK K) := by
  obtain ⟨i, b⟩ := x
  simp only at hx hb
  refine c76_calls _ _ _ w K ?_
  unfold c76
  refine boxW_i fun bx w1 hbx e1 hx1 hs1 => ?_
  have hlt0 := h.last.lt
  have e1 : Ext [] w w1.drew := e1.new (Ext.drew _ _)
  have hx1 : Blk w1.drew bx (.int .i64 i :: bc b) 104 := hx1
  generalize w1.drew = w1 at *
  have h1 := h.keep e1 (by simp)
  have hll := h1.ok.llen
  simp only [nilW_e]
  refine off_i (load1 (o := 0 + 0) h1.hdr.r rfl (off_i (load1 (o := 0 + 0) hx1.r rfl (idx_i hx ?_))))
  have hpk : pk.toNat < 256 := pk.toNat_lt
  have hu8 : Try.prog.underlying 5 = some (.int .u8) := by kernel_rfl
  have hint : Try.prog.underlying 3 = some (.int .i64) := by kernel_rfl
  have hrem : ((pk.toNat : Int)).tmod 64 = ((pk.toNat % 64 : Nat) : Int) := by
    rw [Int.tmod_eq_emod_of_nonneg (by omega)]; omega
  have hquo : ((pk.toNat : Int)).tdiv 64 = ((pk.toNat / 64 : Nat) : Int) := by
    rw [Int.tdiv_eq_ediv_of_nonneg (by omega)]; omega
  have hwq : IntKind.u8.wrap (((pk.toNat / 64 : Nat) : Int)) = ((pk.toNat / 64 : Nat) : Int) := by rw [IntKind.wrap_u8]; omega
  have hwr : IntKind.i64.wrap (((pk.toNat % 64 : Nat) : Int)) = ((pk.toNat % 64 : Nat) : Int) := i64_self (by omega)
  unfold bv
  rw [bin_rem (by decide)]
  refine ⟨rfl, ?_⟩
  rw [conv_int hu8 hint, hrem, hwr]
  refine ⟨load1 (o := 0 + 0) h1.hdr.r rfl ⟨rfl, rfl⟩, load1 (o := 0 + 0) hx1.r rfl ⟨rfl, rfl⟩, ?_⟩
  refine bindX_i fun J2 h2 => bindX_i fun J3 h3 => ?_
  rw [bin_quo (by decide), hquo, hwq]
  refine bindX_i fun J4 h4 => ?_
  simp only [bin_eql]
  have hk : pk.toNat % 64 < 64 := Nat.mod_lt _ (by decide)
  -- the end, where something was done
  have fin : ∀ (fr : Fr) (w2 : World) (cs : Bytes), Ext [bl] w1 w2 → PB w2 bl (bc cs) 33 → cs = tear D.last (i, b) pk → 64 ≤ pk.toNat → J3 .normal fr w2 := by
    intro fr w2 cs e2 hb2 hcs hp
    refine seq_n h3 ?_
    have e3 : Ext [bl] w w2 := (e1.mono (by simp)).step e2 (by intro x hx hlt; exact hx)
    have := hK w2 ⟨h1.hdr.keep e2 (by simpa using h1.ne1), by rw [← hcs]; exact hb2, h1.seen.keep e2 (by simpa using Ne.symm h1.ne3), h1.pend.keep e2 (fun x hx => by simp; intro e; exact h1.ne5 (e ▸ hx)),
      ⟨tear_length hll hx hb pk, h1.ok.slen, h1.ok.plen, h1.ok.n1, h1.ok.n2, h1.ok.l1, h1.ok.l2⟩, h1.ne1, h1.ne2, h1.ne3, h1.ne4, h1.ne5, h1.ne6⟩ e3
    simpa [hp] using this
  obtain ⟨ui, hui, huz, husz, huby⟩ := tyI_spec ty_u8
  have hbl := hx1.lt
  have hne : bx ≠ bl := fun e => by
    omega
  -- the record's bytes, read
  refine cond_b (fun hc => ?_) (fun hc => ?_)
  · have h0 : pk.toNat / 64 = 0 := by simp at hc; omega
    have ht : tear D.last (i, b) pk = D.last := by unfold tear; rw [if_pos h0]
    have := hK w1 (by rw [ht]; exact h1) (e1.mono (by simp))
    have hd : ¬ 64 ≤ pk.toNat := by omega
    simpa [hd] using this
  · have hn0 : ¬ pk.toNat / 64 = 0 := by simp at hc; omega
    refine cond_b (fun hc => ?_) (fun hc => ?_)
    · have h1' : pk.toNat / 64 = 1 := by simp at hc; omega
      refine off_i (loadN (o := 0 + 1) hx1.r (by simp [bc_length, hb]) ?_)
      have hv : List.take 64 (List.drop (0 + 1) (Value.int .i64 (i : Int) :: bc b)) = bc b := by
        simp only [Nat.zero_add, List.drop_succ_cons, List.drop_zero]
        exact List.take_of_length_le (by rw [bc_length, hb]; omega)
      rw [hv]
      refine nil_i (PB.store (vs := bc b) h1.last rfl (by rw [bc_length, hb]) (by rw [bc_length]; omega) (bc_one _) fun w2 e2 hb2 hs2 => ?_)
      rw [Nat.zero_add, ← bc_spl] at hb2
      refine fin _ w2 _ e2 hb2 ?_ (by omega)
      unfold tear; rw [if_neg hn0, if_pos h1', Nat.mul_comm 64 i]
    · have hn1 : ¬ pk.toNat / 64 = 1 := by simp at hc; omega
      refine cond_b (fun hc => ?_) (fun hc => ?_)
      · have h2' : pk.toNat / 64 = 2 := by simp at hc; omega
        refine nil_i (slA_to (Nat.le_of_lt hk) ?_)
        refine off_i (slA_to (Nat.le_of_lt hk) ?_)
        refine PB.copy (ys := bc (b.take (pk.toNat % 64))) (m := pk.toNat % 64) und_u8s hui (w := w1.drew) (b := bl) (cs := bc D.last) h1.last ?_ (bc_one _) (by rw [bc_length, husz]; omega) fun w2 e2 hb2 hs2 => ?_
        · rw [husz]
          refine ⟨by rw [bc_length, List.length_take]; omega, .inr ⟨bx, 0 + 1, 64, _, rfl, hx1.r, ?_, by simp [bc_length, hb]; omega⟩⟩
          simp only [Nat.zero_add, List.drop_succ_cons, List.drop_zero, Nat.mul_one]
          simp [bc, List.map_take]
        · have e2 := e2.undrew
          rw [husz, Nat.min_self, List.take_of_length_le (by rw [bc_length, List.length_take]; omega), Nat.zero_add, ← bc_spl] at hb2
          refine fin _ w2 _ e2 hb2 ?_ (by omega)
          unfold tear; rw [if_neg hn0, if_neg hn1, if_pos h2', Nat.mul_comm 64 i]
      · have hn2 : ¬ pk.toNat / 64 = 2 := by simp at hc; omega
        have hsub : IntKind.i64.wrap (64 - ((pk.toNat % 64 : Nat) : Int)) = ((64 - pk.toNat % 64 : Nat) : Int) := by
          rw [i64_self (by omega)]; omega
        refine nil_i ?_
        simp only [bin_sub, hsub]
        refine ⟨trivial, slA_from (l := 64 - pk.toNat % 64) (Nat.sub_le _ _) ?_⟩
        refine off_i ⟨trivial, slA_from (l := 64 - pk.toNat % 64) (Nat.sub_le _ _) ?_⟩
        have h64 : 64 - (64 - pk.toNat % 64) = pk.toNat % 64 := by omega
        rw [h64]
        by_cases hz : pk.toNat % 64 = 0
        · rw [hz, Nat.sub_zero, if_pos rfl, if_pos rfl]
          refine PB.copy (ys := []) (m := 0) und_u8s hui (w := w1.drew) (b := bl) (cs := bc D.last) h1.last ⟨by simp, .inl ⟨rfl, _, _, rfl⟩⟩ (by simp) (by rw [bc_length, husz]; omega) fun w2 e2 hb2 hs2 => ?_
          have e2 := e2.undrew
          rw [List.take_nil, lspl_nil] at hb2
          refine fin _ w2 _ e2 hb2 ?_ (by omega)
          unfold tear; rw [if_neg hn0, if_neg hn1, if_neg hn2, hz, List.drop_of_length_le (show b.length ≤ 64 - 0 by omega)]
          simp [bspl]
        · rw [if_neg (by omega), if_neg (by omega)]
          refine PB.copy (ys := bc (b.drop (64 - pk.toNat % 64))) (m := pk.toNat % 64) und_u8s hui (w := w1.drew) (b := bl) (cs := bc D.last) h1.last ?_ (bc_one _) (by rw [bc_length, husz]; omega) fun w2 e2 hb2 hs2 => ?_
          · rw [husz]
            refine ⟨by rw [bc_length, List.length_drop]; omega, .inr ⟨bx, 0 + 1 + (64 - pk.toNat % 64) * 1, _, _, rfl, hx1.r, ?_, by simp [bc_length, hb]; omega⟩⟩
            rw [show 0 + 1 + (64 - pk.toNat % 64) * 1 = (64 - pk.toNat % 64) + 1 by omega, List.drop_succ_cons, List.take_of_length_le (by simp [bc_length, hb]; omega)]
            simp [bc, List.map_drop]
          · have e2 := e2.undrew
            rw [husz, Nat.min_self, List.take_of_length_le (by rw [bc_length, List.length_drop]; omega), ← bc_spl] at hb2
            refine fin _ w2 _ e2 hb2 ?_ (by omega)
            unfold tear; rw [if_neg hn0, if_neg hn1, if_neg hn2]
            congr 1
            omega

/-- What a crash leaves. -/
def tears (picks : Bytes) : Nat → List (Nat × Bytes) → Bytes → Bytes
  | _, [], last => last
  | k, x :: r, last => tears picks (k + 1) r (tear last x (picks.getD (k % picks.length) 0))
def donec (picks : Bytes) : Nat → List (Nat × Bytes) → Nat
  | _, [] => 0
  | k, _ :: r => (if 64 ≤ (picks.getD (k % picks.length) 0).toNat then 1 else 0) + donec picks (k + 1) r

def DiskM.crash (D : DiskM) (picks : Bytes) : DiskM :=
  let l := tears picks 0 D.pend D.last
  { D with last := l, seen := l, pend := [], left := -1 }

theorem tears_length {picks : Bytes} {n : Nat} : ∀ (ps : List (Nat × Bytes)) (k : Nat) (last : Bytes), last.length = 64 * n → (∀ x ∈ ps, x.1 < n ∧ x.2.length = 64) → (tears picks k ps last).length = 64 * n := by
  intro ps
  induction ps with
  | nil => intro k last h _; exact h
  | cons x r ih =>
    intro k last h hx
    have h0 := hx x List.mem_cons_self
    exact ih (k + 1) _ (tear_length h h0.1 h0.2 _) (fun y hy => hx y (List.mem_cons_of_mem _ hy))

theorem tears_snoc (picks : Bytes) : ∀ (ps : List (Nat × Bytes)) (k : Nat) (x : Nat × Bytes) (last : Bytes), tears picks k (ps ++ [x]) last = tear (tears picks k ps last) x (picks.getD ((k + ps.length) % picks.length) 0) := by
  intro ps
  induction ps with
  | nil => intro k x last; simp [tears]
  | cons y r ih => intro k x last; simp only [List.cons_append, tears, ih, List.length_cons]; rw [show k + 1 + r.length = k + (r.length + 1) by omega]
theorem donec_snoc (picks : Bytes) : ∀ (ps : List (Nat × Bytes)) (k : Nat) (x : Nat × Bytes), donec picks k (ps ++ [x]) = donec picks k ps + (if 64 ≤ (picks.getD ((k + ps.length) % picks.length) 0).toNat then 1 else 0) := by
  intro ps
  induction ps with
  | nil => intro k x; simp [donec]
  | cons y r ih => intro k x; simp only [List.cons_append, donec, ih, List.length_cons]; rw [show k + 1 + r.length = k + (r.length + 1) by omega]; omega
theorem donec_le (picks : Bytes) : ∀ (ps : List (Nat × Bytes)) (k : Nat), donec picks k ps ≤ ps.length := by
  intro ps
  induction ps with
  | nil => intro k; exact Nat.le_refl _
  | cons y r ih => intro k; have := ih (k + 1); simp only [donec, List.length_cons]; split <;> omega

theorem pcells_length {n : Nat} : ∀ {ps : List (Nat × Bytes)}, (∀ x ∈ ps, x.1 < n ∧ x.2.length = 64) → (pcells ps).length = ps.length * 65 := by
  intro ps
  induction ps with
  | nil => intro _; rfl
  | cons x r ih =>
    intro h
    have := ih (fun y hy => h y (List.mem_cons_of_mem _ hy))
    have h0 := (h x List.mem_cons_self).2
    simp only [pcells, List.flatMap_cons, List.length_append, List.length_cons, bc_length, h0] at this ⊢
    omega

theorem pcells_get {n : Nat} {ps : List (Nat × Bytes)} (h : ∀ x ∈ ps, x.1 < n ∧ x.2.length = 64) {k : Nat} (hk : k < ps.length) : ((pcells ps).drop (k * 65)).take 65 = .int .i64 ps[k].1 :: bc ps[k].2 := by
  have hsplit : ps = ps.take k ++ ps[k] :: ps.drop (k + 1) := by
    rw [List.getElem_cons_drop, List.take_append_drop]
  have e : pcells ps = pcells (ps.take k) ++ ((.int .i64 ps[k].1 :: bc ps[k].2) ++ pcells (ps.drop (k + 1))) := by
    refine (congrArg pcells hsplit).trans ?_
    simp only [pcells, List.flatMap_append, List.flatMap_cons]
  have hl : (pcells (ps.take k)).length = k * 65 := by
    rw [pcells_length (n := n) (fun x hx => h x (List.mem_of_mem_take hx)), List.length_take]
    omega
  have hl2 : (Value.int .i64 (ps[k].1 : Int) :: bc ps[k].2).length = 65 := by
    rw [List.length_cons, bc_length, (h _ (List.getElem_mem hk)).2]
  rw [e, List.drop_append_of_le_length (by omega), List.drop_of_length_le (by omega), List.nil_append, List.take_append_of_le_length (by omega), List.take_of_length_le (by omega)]
end Go.Proofs.Ytedebapgmfnflaa
