/- The document's highest generation, and its sector: walks. Conditions: sectors have 64 bytes; a sector's bytes are at most 46. -/
import Derived.Test.YtedebapgmfnflaaDoorX0
namespace Go.Proofs.YtedebapgmfnflaaDoor
open Go
set_option maxRecDepth 100000

theorem RdSl.secPart {w : World} {x : Value} {ls : List Bytes} (h : RdSl w x 64 (bc ls.flatten) ls.length) (h64 : ∀ l ∈ ls, l.length = 64) {i : Nat} (hi : i < ls.length) (kk : IntKind) :
    ∃ b o, (∀ K : VPost, K (.pointer (some ⟨b, o, none⟩)) w → idxW (some (none, 64)) x (.int kk i) w K) ∧
      ∀ l k c, l + k ≤ 64 → k ≤ c → l + c ≤ 64 → RdSl w (.slice (some ⟨b, o + l, none⟩) k c) 1 (bc ((ls[i].drop l).take k)) ((ls[i].drop l).take k).length := by
  have hfl := flat64 h64
  obtain ⟨hl, ⟨h0, _⟩ | ⟨b, o, c, cs, rfl, hb, h1, h2⟩⟩ := h
  · rw [h0] at hl; simp at hl; omega
  · have hcl := congrArg List.length h1
    rw [bc_length, List.length_take, List.length_drop, hfl] at hcl
    have hsec := h64 _ (List.getElem_mem hi)
    refine ⟨b, o + i * 64, fun K hK => idx_i hi hK, fun l k c' hlk hkc hlc => ?_⟩
    have e : ((ls[i].drop l).take k).length = k := by rw [List.length_take, List.length_drop]; omega
    rw [e]
    refine ⟨by rw [bc_length, e, Nat.mul_one], .inr ⟨b, o + i * 64 + l, c', cs, rfl, hb, ?_, by omega⟩⟩
    have h3 := take_drop_part cs o (i * 64) 64 (ls.length * 64) (by omega)
    rw [h1, bc_part, flat64_get h64 hi] at h3
    rw [Nat.mul_one, take_drop_part cs (o + i * 64) l k 64 (by omega), h3, bc_part]

set_option maxHeartbeats 1000000 in
theorem rhighest_c {w : World} {K : VPost} {x : Value} {ls : List Bytes} (hx : RdSl w x 64 (bc ls.flatten) ls.length) (h64 : ∀ l ∈ ls, l.length = 64) (hn : ls.length ≤ 1000000) (hK : ∀ w', Ext [] w w' → K (.int .i64 (highB ls)) w') :
    Calls Tryd.prog 31 #[x] w (retK K) := by
  refine c31_calls _ w K ?_
  unfold c31
  refine bindX_i fun J0 h0 => bindX_i fun J1 h1 => bindX_i fun J2 h2 => ?_
  refine loop_i (fun m fr wr => ∃ i : Nat, m = ls.length - i ∧ i ≤ ls.length ∧ fr 0 = x ∧ fr 3 = .int .i64 (highB (ls.take i)) ∧ fr 4 = .int .i64 i ∧ Sep [] w wr [] [rKR x ls]) ls.length ?_ ?_
  · exact ⟨0, rfl, by omega, rfl, rfl, rfl, Sep.zero1 (U := rKR x ls) hx⟩
  · rintro m fr wr J ⟨i, rfl, hi, f0, f3, f4, s⟩ hJ hX
    rw [f0, hx.lenw, f4]
    refine nlss (cond_d (fun hlt => ?_) (fun hlt => ?_))
    · have s := s.drew
      generalize wr.drew = w1 at *
      rw [f3]
      have hb := h64 _ (List.getElem_mem hlt)
      obtain ⟨b, o, hix, hpt⟩ := RdSl.secPart (s.rat 0 rfl) h64 hlt .i64
      refine hix _ ?_
      refine slA_to (k := 4) (by decide) ?_
      refine hix _ ?_
      refine slA_cut (l := 56) (h := 60) (by decide) (by decide) (by decide) ?_
      have p0 := hpt 0 4 64 (by decide) (by decide) (by decide)
      have p4 := hpt 56 4 8 (by decide) (by decide) (by decide)
      rw [List.drop_zero] at p0
      refine fnW_of (by kernel_rfl) (number_c p0 (by rw [List.length_take]; omega) ?_)
      refine fnW_of (by kernel_rfl) (number_c p4 (by rw [List.length_take, List.length_drop]; omega) ?_)
      rw [max_e]
      refine ⟨rfl, ?_⟩
      rw [max_e]
      refine ⟨rfl, ?_⟩
      refine nadd (y := 1) (by omega) ?_
      have e : max ((highB (ls.take i) : Nat) : Int) (max ((beN (ls[i].take 4) : Nat) : Int) ((beN ((ls[i].drop 56).take 4) : Nat) : Int)) = ((highB (ls.take (i + 1)) : Nat) : Int) := by
        rw [List.take_succ_eq_append_getElem hlt, high_snoc]
        omega
      rw [e]
      exact hJ (ls.length - (i + 1)) _ _ (by omega) ⟨i + 1, rfl, by omega, f0, rfl, rfl, s⟩
    · obtain rfl : i = ls.length := by omega
      refine hX _ _ _ (by simp) (h2 _ _ _ (h1 _ _ _ ?_))
      show K (fr 3) _
      rw [f3, List.take_length]
      exact hK _ s.ext
end Go.Proofs.YtedebapgmfnflaaDoor
