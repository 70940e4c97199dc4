/- The disk's own functions, by contracts: its image, a twin, a crash. -/
import Derived.Test.YtedebapgmfnflaaD2
namespace Go.Proofs.Ytedebapgmfnflaa
open Go
set_option maxRecDepth 100000

theorem slArr_i {b n sz : Nat} {w : World} {K : VPost} (h : K (.slice (some ⟨b, 0, none⟩) n n) w) : sliceW (.arr n sz) (.pointer (some ⟨b, 0, none⟩)) none none none w K := by
  refine ⟨by simp, 0, n, n, rfl, rfl, rfl, Nat.zero_le _, by simp, Nat.le_refl _, ?_⟩
  have : (if n = 0 then (⟨b, 0, none⟩ : Addr) else Addr.add ⟨b, 0, none⟩ (0 * sz)) = ⟨b, 0, none⟩ := by
    rw [add_addr]; simp
  show K (.slice (some (if n = 0 then (⟨b, 0, none⟩ : Addr) else Addr.add ⟨b, 0, none⟩ (0 * sz))) (n - 0) (n - 0)) w
  rw [this]; simpa using h

theorem take_succ_chunk (l : Bytes) (k : Nat) (h : 64 * (k + 1) ≤ l.length) : l.take (64 * (k + 1)) = l.take (64 * k) ++ (l.drop (64 * k)).take 64 := by
  rw [show 64 * (k + 1) = 64 * k + 64 by omega, List.take_add]

theorem image_c {w : World} {p : Nat} {F : List Nat} {D : DiskM} (h : Disk w p F D) {K : VPost}
    (hK : ∀ v w', OwnSl w' v 5 1 (bc D.seen) D.seen.length → Ext [] w w' → (∀ b ∈ slB v, w.heap.size ≤ b) → K v w') :
    Calls Try.prog 37 #[.pointer (some ⟨p, 0, none⟩)] w (retK K) := by
  refine c37_calls _ w K ?_
  unfold c37
  refine bindX_i fun J0 h0 => bindX_i fun J1 h1 => ?_
  have hd := h
  obtain ⟨bl, bs, zl, zs, pv, h, hF⟩ := h
  simp only [nilW_e]
  refine off_i (load1 (o := 0 + 1) h.hdr.r rfl ?_)
  simp only [len_s]
  refine bindX_i fun J2 h2 => ?_
  refine loop_i (fun m fr w1 => ∃ k v, m = D.n - k ∧ k ≤ D.n ∧ fr 11 = .int .i64 k ∧ fr 10 = .int .i64 D.n ∧ fr 9 = .slice (some ⟨bs, 0, none⟩) D.n zs ∧ fr 3 = v ∧
    OwnSl w1 v 5 1 (bc (D.seen.take (64 * k))) (64 * k) ∧ Ext [] w w1 ∧ ∀ b ∈ slB v, w.heap.size ≤ b) D.n ?_ ?_
  · exact ⟨0, .slice none 0 0, rfl, Nat.zero_le _, rfl, rfl, rfl, rfl, .inl ⟨rfl, rfl, rfl⟩, Ext.refl _ _, by simp [slB]⟩
  · rintro m fr w1 J ⟨k, v, rfl, hk, f11, f10, f9, f3, hv, e1, hfr⟩ hJ hX
    simp only [f11, f10, f9, f3, bin_lss]
    refine cond_d (fun hlt => ?_) (fun hlt => ?_)
    · have hlt : k < D.n := by omega
      have hs1 := h.seen.keep e1 (by simp)
      have hsl := h.ok.slen
      obtain ⟨ti, hi, hz, hsz, hby⟩ := tyI_spec ty_block
      have hz' : zeroO Try.prog 33 = some (.agg (Array.replicate 64 (.int .u8 0))) := by simp [zeroO, hi, hz]
      refine idx_i hlt (PB.loadN hs1 (by rw [bc_length]; omega) (allocW_i hz' fun b2 w2 hb2 e2 hk2 hs2 => ?_))
      rw [bc_part, Nat.zero_add, Nat.mul_comm k 64]
      have hlen : (List.take 64 (List.drop (64 * k) D.seen)).length = 64 := by simp; omega
      refine storeAll hk2 (by rw [bc_length, hlen]) (by simp [Value.cells]) (bc_one _) fun w3 e3 hk3 hs3 => slArr_i ?_
      obtain ⟨ui, hui, huz, husz, huby⟩ := tyI_spec ty_u8
      have hne : ∀ b ∈ slB v, b ≠ b2 := fun b hb e => by
        have := hv.lt b hb
        omega
      have hv3 : OwnSl w3 v 5 1 (bc (D.seen.take (64 * k))) (64 * k) := (hv.keep e2 (by simp)).keep e3 (by simpa using hne)
      refine append_i (ys := bc ((D.seen.drop (64 * k)).take 64)) (m := 64) und_u8s und_u8s hui huz (by rw [husz]; rfl) (by rw [huby]; decide) (by rw [husz]; exact hv3) (by rw [husz]; exact ⟨by rw [bc_length, hlen], .inr ⟨b2, 0, 64, _, rfl, hk3.r, by
        rw [List.drop_zero]; exact List.take_of_length_le (by rw [bc_length, hlen]; omega), by rw [bc_length, hlen]; omega⟩⟩) (bc_one _) (by have := h.ok.n2; rw [huby]; omega) fun v4 w4 hv4 e4 hb4 => ?_
      rw [husz, ← bc_append, ← take_succ_chunk _ _ (by omega)] at hv4
      simp only [bin_add]
      rw [i64_self (by have := h.ok.n2; omega)]
      refine hJ (D.n - (k + 1)) _ _ (by omega) ⟨k + 1, v4, rfl, hlt, ?_, f10, f9, rfl, by rw [show 64 * (k + 1) = 64 * k + 64 by omega]; exact hv4, ?_, ?_⟩
      · show Value.int .i64 ((k : Int) + 1) = _
        simp
      · refine ((e1.new e2).step e3 (by intro x hx hlt; simp at hx; have := e1.size; omega)).step e4 (fun x hx hlt => ?_)
        have := hfr x hx; omega
      · intro b hb
        rcases hb4 with e | ⟨b', e, hge⟩
        · rw [e] at hb; exact hfr b hb
        · rw [e] at hb; simp at hb; subst hb
          have := e1.size; have := e2.size; have := e3.size; omega
    · have hkn : k = D.n := by omega
      subst hkn
      refine hX _ _ _ (by simp) (h2 _ _ _ (blk_x (seq_n h1 ?_)))
      show K (fr 3) w1
      rw [f3]
      rw [List.take_of_length_le (by rw [h.ok.slen]; omega), ← h.ok.slen] at hv
      exact hK v w1 hv e1 hfr
end Go.Proofs.Ytedebapgmfnflaa
