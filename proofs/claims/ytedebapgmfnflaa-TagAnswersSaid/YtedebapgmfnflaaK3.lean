/- A digest of digits: the walk of the program's. -/
import Derived.Test.YtedebapgmfnflaaK2
import Derived.Test.YtedebapgmfnflaaRA
namespace Go.Proofs.Ytedebapgmfnflaa
open Go
set_option maxRecDepth 100000

def dval (c : UInt8) : Int := Lib.indexByte digs c
def fromHexL : Bytes → Nat → Bytes → Option Bytes
  | [], _, d => some d
  | c :: r, i, d => if dval c < 0 then none else fromHexL r (i + 1) (d.set (i / 2) (d.getD (i / 2) 0 <<< 4 ||| UInt8.ofNat (dval c).toNat))
def fromHex (s : Bytes) : Bytes × Bool :=
  if s.length = 64 then match fromHexL s 0 (List.replicate 32 0) with
    | some d => (d, true)
    | none => (List.replicate 32 0, false)
  else (List.replicate 32 0, false)

theorem szI_dig : szI Try.prog 62 = some (true, 32) := by kernel_rfl

set_option maxHeartbeats 1000000 in
theorem fromHex_c {w : World} {K : VPost} {s : Bytes} (hK : ∀ w', Ext [] w w' → K (.tuple #[.agg (bc (fromHex s).1).toArray, .bool (fromHex s).2]) w') : Calls Try.prog 54 #[.string ⟨s.toArray⟩] w (retK K) := by
  refine c54_calls _ w K ?_
  unfold c54
  refine (Sep.nil w).alloc zero_dig cells_dig fun b2 w1 sp _ => ?_
  refine sp.alloc zero_dig cells_dig fun b4 w2 sp _ => ?_
  have sp : Sep [] w w2 [rB b4 (bc (List.replicate 32 0)) 62, rB b2 (bc (List.replicate 32 0)) 62] [] := sp
  have hsz : (ByteArray.mk s.toArray).size = s.length := by show s.toArray.size = _; rw [List.size_toArray]
  rw [len_str, hsz]
  refine nneq (y := 64) ?_
  by_cases hlen : s.length = 64
  · rw [decide_eq_false (by simp [hlen]), condW_f]
    refine bindX_i fun J0 h0 => bindX_i fun J1 h1 => ?_
    rw [len_str, hsz]
    refine bindX_i fun J2 h2 => ?_
    have hfh : fromHex s = match fromHexL s 0 (List.replicate 32 0) with
      | some d => (d, true)
      | none => (List.replicate 32 0, false) := by unfold fromHex; rw [if_pos hlen]
    refine loop_i (fun m fr wr => ∃ (i : Nat) (d : Bytes), m = 64 - i ∧ i ≤ 64 ∧ d.length = 32 ∧ fromHexL (s.drop i) i d = fromHexL s 0 (List.replicate 32 0) ∧ fr 0 = .string ⟨s.toArray⟩ ∧ fr 2 = .pointer (some ⟨b2, 0, none⟩) ∧ fr 4 = .pointer (some ⟨b4, 0, none⟩) ∧ fr 12 = .int .i64 s.length ∧ fr 13 = .int .i64 i ∧
      Sep [] w wr [rB b4 (bc d) 62, rB b2 (bc (List.replicate 32 0)) 62] []) 64 ?_ ?_
    · exact ⟨0, List.replicate 32 0, rfl, by omega, by simp, rfl, rfl, rfl, rfl, rfl, rfl, sp⟩
    · rintro m fr wr J ⟨i, d, rfl, hi, hd, hst, f0, f2, f4, f12, f13, sp⟩ hJ hX
      rw [f0, f2, f4, f12, f13]
      refine nlss (cond_d (fun hlt => ?_) (fun hlt => ?_))
      · have hg : (ByteArray.mk s.toArray)[i]? = some s[i] := by
          show (ByteArray.mk s.toArray)[i]? = _
          rw [getElem?_pos _ _ (by rw [hsz]; exact hlt)]
          rfl
        refine ⟨by omega, s[i], by rw [Int.toNat_natCast]; exact hg, ?_⟩
        refine fnW_of (by kernel_rfl) (indexByte_c (c := s[i]) ?_)
        have hdv : Lib.indexByte (ByteArray.mk #[48, 49, 50, 51, 52, 53, 54, 55, 56, 57, 97, 98, 99, 100, 101, 102]).data.toList s[i] = dval s[i] := rfl
        rw [hdv]
        have hdr : s.drop i = s[i] :: s.drop (i + 1) := List.drop_eq_getElem_cons hlt
        rw [hdr, fromHexL] at hst
        rw [ilss]
        refine cond_d (fun hneg => ?_) (fun hneg => ?_)
        · rw [if_pos hneg] at hst
          rw [← hst] at hfh
          refine build0_dig ?_
          refine sp.storeAll 1 rfl (by simp [bc]) (by simp [bc]) (bc_one _) fun w3 sp _ => ?_
          refine hX _ _ _ (by simp) (h2 _ _ _ (h1 _ _ _ (h0 _ _ _ ?_)))
          show loadW (szI Try.prog 62) (fr 2) w3 _
          rw [szI_dig, f2]
          refine sp.loadAll 1 rfl (by simp [bc]) ?_
          have := hK w3 sp.ext
          rw [hfh] at this
          exact this
        · rw [if_neg hneg] at hst
          obtain ⟨n, hn⟩ : ∃ n : Nat, dval s[i] = n := ⟨(dval s[i]).toNat, by omega⟩
          rw [hn] at hst ⊢
          rw [Int.toNat_natCast] at hst
          have hi2 : i / 2 < 32 := by omega
          refine nquo (y := 2) (by decide) (by omega) ?_
          refine nquo (y := 2) (by decide) (by omega) ?_
          refine idxA1 hi2 ?_
          refine sp.load1 0 rfl (v := bv (d.getD (i / 2) 0)) (by rw [bc, List.getElem?_map, List.getElem?_eq_getElem (by omega)]; simp [List.getD_eq_getElem?_getD, List.getElem?_eq_getElem (show i / 2 < d.length by omega)]) ?_
          rw [show (Value.int .u64 4) = .int .u64 ((4 : Nat) : Int) from rfl, u8_shl (by decide), conv_byte und_int und_u8, u8_or]
          refine idxA1 hi2 ?_
          refine sp.store1 0 rfl rfl (by rw [bc_length]; omega) rfl fun w3 sp _ => ?_
          refine nadd (y := 1) (by omega) ?_
          have e : (bc d).set (i / 2) (bv (d.getD (i / 2) 0 <<< UInt8.ofNat 4 ||| UInt8.ofNat n)) = bc (d.set (i / 2) (d.getD (i / 2) 0 <<< 4 ||| UInt8.ofNat n)) := by
            rw [bc, ← List.map_set]; rfl
          rw [e] at sp
          exact hJ (64 - (i + 1)) _ _ (by omega) ⟨i + 1, _, rfl, by omega, by simp [hd], hst, f0, f2, f4, f12, rfl, sp⟩
      · obtain rfl : i = 64 := by omega
        refine hX _ _ _ (by simp) (h2 _ _ _ (blk_x (seq_n h1 ?_)))
        show loadW _ (fr 4) wr _
        rw [f4]
        refine sp.loadAll 0 rfl (by rw [bc_length]; exact hd) ?_
        show storeW _ (fr 2) _ wr _
        rw [f2]
        refine sp.storeAll 1 rfl (by rw [bc_length]; exact hd) (by simp [bc]) (bc_one _) fun w3 sp _ => ?_
        show loadW _ (fr 2) w3 _
        rw [f2]
        refine sp.loadAll 1 rfl (by rw [bc_length]; exact hd) ?_
        have hdn : s.drop 64 = [] := List.drop_eq_nil_of_le (by omega)
        rw [hdn, fromHexL] at hst
        rw [← hst] at hfh
        have := hK w3 sp.ext
        rw [hfh] at this
        exact this
  · rw [decide_eq_true hlen, condW_t]
    refine build0_dig ?_
    refine sp.storeAll 1 rfl (by simp [bc]) (by simp [bc]) (bc_one _) fun w3 sp _ => ?_
    refine sp.loadAll 1 rfl (by simp [bc]) ?_
    have := hK w3 sp.ext
    rw [fromHex, if_neg hlen] at this
    exact this
end Go.Proofs.Ytedebapgmfnflaa
