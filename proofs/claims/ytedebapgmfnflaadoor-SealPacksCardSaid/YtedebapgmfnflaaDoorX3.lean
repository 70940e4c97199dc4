/- The document's pack and unpack: walks. Conditions: sectors have 64 bytes; at most 10^6 of them; the record is a slice. -/
import Derived.Test.YtedebapgmfnflaaDoorX2
import Derived.Test.YtedebapgmfnflaaDoorW3
import Derived.Test.YtedebapgmfnflaaDoorW4
namespace Go.Proofs.YtedebapgmfnflaaDoor
open Go
set_option maxRecDepth 100000

theorem pack_take (g n : Nat) (r : Bytes) {i : Nat} (h : i < needN r.length) : (packB g n r).take (i + 1) = (packB g n r).take i ++ [secB g (n + i) (partB (sealB r) i)] := by
  rw [List.take_succ_eq_append_getElem (by rw [packB_length]; exact h)]
  congr 2
  simp [packB]

set_option maxHeartbeats 2000000 in
theorem rpack_c {w : World} {K : VPost} {x : Value} {g n : Int} {r : Bytes} (h : RdSl w x 1 (bc r) r.length) (hno : ¬ packOk g n (needN r.length) → ∀ w', Ext [] w w' → K (.tuple #[.slice none 0 0, .bool false]) w')
    (hyes : packOk g n (needN r.length) → ∀ v w', OwnAt w' v 37 64 (bc (packB g.toNat n.toNat r).flatten) (packB g.toNat n.toNat r).length → Ext [] w w' → (∀ b ∈ slB v, w.heap.size ≤ b) → K (.tuple #[v, .bool true]) w') :
    Calls Tryd.prog 18 #[.int .i64 g, .int .i64 n, x] w (retK K) := by
  refine c18_calls _ _ _ w K ?_
  unfold c18
  have s := Sep.zero1 (U := rR x 1 (bc r) r.length) h
  rw [h.lenw]
  refine fnW_of (by kernel_rfl) (rneed_c ?_)
  rw [needI_nat]
  refine neql (y := 0) ?_
  by_cases h0 : needN r.length = 0
  · rw [decide_eq_true h0]
    iterate 4 ((repeat with_reducible refine gs_tf ?_); refine pick_ti ?_)
    exact cndT (hno (fun hp => hp.1 h0) _ s.ext)
  rw [decide_eq_false h0]
  refine gs_f ?_
  refine gs_f ?_
  rw [ilss]
  refine pick_fi ?_
  by_cases h1 : g < 1
  · rw [decide_eq_true h1]
    iterate 3 ((repeat with_reducible refine gs_tf ?_); refine pick_ti ?_)
    exact cndT (hno (fun hp => by have := hp.2.1; omega) _ s.ext)
  rw [decide_eq_false h1]
  refine gs_f ?_
  refine gs_f ?_
  rw [igtr]
  refine pick_fi ?_
  by_cases h2 : 4294967295 < g
  · rw [decide_eq_true h2]
    iterate 2 ((repeat with_reducible refine gs_tf ?_); refine pick_ti ?_)
    exact cndT (hno (fun hp => by have := hp.2.2.1; omega) _ s.ext)
  rw [decide_eq_false h2]
  refine gs_f ?_
  refine gs_f ?_
  rw [ilss]
  refine pick_fi ?_
  by_cases h3 : n < 0
  · rw [decide_eq_true h3]
    repeat with_reducible refine gs_tf ?_
    refine pick_ti ?_
    exact cndT (hno (fun hp => by have := hp.2.2.2.1; omega) _ s.ext)
  rw [decide_eq_false h3]
  have hk : needN r.length ≤ 45 ∧ r.length ≤ 2000 := by unfold needN at h0 ⊢; split at h0 <;> first | exact absurd rfl h0 | (split <;> omega)
  refine gs_f ?_
  refine gs_f ?_
  refine gs_f ?_
  refine nsub (y := 1) (by omega) (by omega) ?_
  refine gs_f ?_
  refine isub (by omega) ?_
  refine gs_f ?_
  rw [igtr]
  refine pick_fi ?_
  by_cases h4 : (4294967295 : Int) - ((needN r.length - 1 : Nat) : Int) < n
  · rw [decide_eq_true h4]
    exact cndT (hno (fun hp => by have := hp.2.2.2.2; omega) _ s.ext)
  rw [decide_eq_false h4]
  refine cndF ?_
  have hyes := hyes ⟨h0, by omega, by omega, by omega, by omega⟩
  clear hno
  obtain ⟨g, rfl⟩ : ∃ k : Nat, g = k := ⟨g.toNat, by omega⟩
  obtain ⟨n, rfl⟩ : ∃ k : Nat, n = k := ⟨n.toNat, by omega⟩
  simp only [Int.toNat_natCast] at hyes
  rw [h.lenw]
  refine nquo (y := 256) (by decide) (by omega) ?_
  rw [conv_byte und_int und_u8, h.lenw, conv_byte und_int und_u8]
  refine s.litB [UInt8.ofNat (r.length / 256), UInt8.ofNat r.length] rfl (by simp) fun v1 w1 s _ _ => ?_
  have e2 : ([UInt8.ofNat (r.length / 256), UInt8.ofNat r.length] : Bytes) = beP 2 r.length := by
    simp only [beP, Nat.shiftRight_eq_div_pow]
    simp
  rw [e2] at s
  have s : Sep [] w w1 [rO v1 5 1 (bc (beP 2 r.length)) 2] [rR x 1 (bc r) r.length] := s
  have s : Sep [] w w1 [rDb v1 (beP 2 r.length)] [rR x 1 (bc r) r.length] := by
    have e : rDb v1 (beP 2 r.length) = rO v1 5 1 (bc (beP 2 r.length)) 2 := by show rO _ _ _ _ _ = _; rw [beP_length]
    rw [e]; exact s
  refine s.apB 0 rfl (s.rat 0 rfl) (by rw [beP_length]; omega) fun v2 w2 s => ?_
  have s : Sep [] w w2 [rDb v2 (beP 2 r.length ++ r)] [rR x 1 (bc r) r.length] := s
  have hl : (beP 2 r.length ++ r).length = 2 + r.length := by rw [List.length_append, beP_length]
  refine fnW_of (by kernel_rfl) (rsum_c (OwnAt.rd (s.at 0 rfl)) (by omega) fun w3 e => ?_)
  have s := s.ext0 e
  have hd := digest_length (beP 2 r.length ++ r)
  refine s.alloc zero_dig cells_dig fun b4 w4 s _ => ?_
  refine s.storeAll 0 rfl (by rw [bc_length, hd]) rfl (bc_one _) fun w5 s _ => ?_
  have s : Sep [] w w5 [rB b4 (bc (digest (beP 2 r.length ++ r))) 77, rDb v2 (beP 2 r.length ++ r)] [rR x 1 (bc r) r.length] := s
  refine slArr0 ?_
  have hr4 : RdSl w5 (.slice (some ⟨b4, 0, none⟩) 32 32) 1 (bc (digest (beP 2 r.length ++ r))) (digest (beP 2 r.length ++ r)).length := by
    have := Blk.rdTo (s.at 0 rfl) hd (k := 32) (Nat.le_refl _)
    rwa [List.take_of_length_le (by omega)] at this
  refine s.apB 1 rfl hr4 (by omega) fun v6 w6 s => ?_
  have s := s.drop 0
  have s : Sep [] w w6 [rDb v6 (sealB r)] [rR x 1 (bc r) r.length] := s
  refine s.litKs (ls := []) (by simp) (by decide) rfl fun v7 w7 s => ?_
  have hsl := sealB_length r
  have htk := @pack_take g n r
  have hpl := packB_length g n r
  generalize sealB r = sb at *
  refine bindX_i fun J0 g0 => bindX_i fun J1 g1 => bindX_i fun J2 g2 => ?_
  refine loop_i (fun m fr wr => ∃ (i : Nat) (v : Value), m = needN r.length - i ∧ i ≤ needN r.length ∧ fr 0 = .int .i64 g ∧ fr 1 = .int .i64 n ∧ fr 8 = .int .i64 (needN r.length) ∧ fr 9 = v6 ∧ fr 11 = v ∧ fr 12 = .int .i64 i ∧
    Sep [] w wr [rK v ((packB g n r).take i), rDb v6 sb] [rR x 1 (bc r) r.length]) (needN r.length) ?_ ?_
  · exact ⟨0, v7, rfl, by omega, rfl, rfl, rfl, rfl, rfl, rfl, s⟩
  · rintro m fr wr J ⟨i, v, rfl, hi, f0, f1, f8, f9, f11, f12, s⟩ hJ hX
    rw [f12, f8]
    refine nlss (cond_d (fun hlt => ?_) (fun hlt => ?_))
    · rw [f0, f1, f9, f11]
      refine nadd (by omega) ?_
      refine nmul (x := 46) (by omega) ?_
      refine nmul (x := 46) (by omega) ?_
      refine nadd (y := 46) (by omega) ?_
      rw [(OwnAt.rd (s.at 1 rfl)).lenw, min_e]
      have e1 : min ((46 * i + 46 : Nat) : Int) ((sb.length : Nat) : Int) = ((min (46 * i + 46) sb.length : Nat) : Int) := by omega
      rw [e1]
      have hbd : 46 * i < sb.length := by
        have : 46 * (needN r.length - 1) < r.length + 34 := (need_pos hk.2).2.1
        omega
      refine (OwnAt.rd (s.at 1 rfl)).cut (l := 46 * i) (h := min (46 * i + 46) sb.length) (OwnAt.cap (s.at 1 rfl)) rfl rfl (by omega) (by omega) fun v8 hv8 hc8 _ _ => ?_
      have e3 : (sb.drop (46 * i)).take (min (46 * i + 46) sb.length - 46 * i) = partB sb i := by
        unfold partB
        rw [List.take_eq_take_iff, List.length_drop]
        omega
      have e4 : (partB sb i).length = min (46 * i + 46) sb.length - 46 * i := by rw [partB, List.length_take, List.length_drop]; omega
      rw [Nat.mul_one, Nat.mul_one, bc_part, e3, ← e4] at hv8
      refine fnW_of (by kernel_rfl) (rsector_c (n := n + i) (by omega) (by omega) hv8 (partB_le _ _) fun w9 e9 => ?_)
      have s := s.ext0 e9
      refine s.litK (secB_length _ _ (partB_le _ _)) fun v10 w10 s => ?_
      refine s.apK 1 rfl (OwnAt.rd (s.at 0 rfl)) (by rw [List.length_take]; omega) fun v11 w11 s => ?_
      have s := s.drop 0
      rw [← htk hlt] at s
      refine nadd (y := 1) (by omega) ?_
      exact hJ (needN r.length - (i + 1)) _ _ (by omega) ⟨i + 1, v11, rfl, by omega, f0, f1, f8, f9, rfl, rfl, s⟩
    · obtain rfl : i = needN r.length := by omega
      rw [List.take_of_length_le (by omega)] at s
      refine hX _ _ _ (by simp) (g2 _ _ _ (g1 _ _ _ (seqX_n ?_)))
      show K (.tuple #[fr 11, _]) _
      rw [f11]
      exact hyes v _ (s.at 0 rfl) s.ext (s.fresh 0 rfl)
end Go.Proofs.YtedebapgmfnflaaDoor
