/- Digits: a digest's hex digits and back: the walks of the program's. Conditions: none but what the arguments are. -/
import Derived.Test.YtedebapgmfnflaaK1
import Derived.Test.YtedebapgmfnflaaSC
import Derived.Test.YtedebapgmfnflaaCA
namespace Go.Proofs.Ytedebapgmfnflaa
open Go
set_option maxRecDepth 100000

section
variable {P : Program} {w : World} {K : VPost} {t : TypeId} {c : Bool}
theorem ofInt8 (a : UInt8) : BitVec.ofInt 8 (a.toNat : Int) = a.toBitVec := by
  apply BitVec.eq_of_toNat_eq
  rw [BitVec.toNat_ofInt]
  have h := a.toNat_lt
  have e : a.toBitVec.toNat = a.toNat := rfl
  rw [e]
  omega
theorem u8_and {a b : UInt8} : binN P .and t c (bv a) (bv b) w K = K (bv (a &&& b)) w := by
  show K (.int .u8 (IntKind.u8.wrap ((BitVec.ofInt 8 (a.toNat : Int) &&& BitVec.ofInt 8 (b.toNat : Int) : BitVec 8).toNat : Nat))) w = _
  rw [ofInt8, ofInt8, wrap_u8n]
  have e : UInt8.ofNat (a.toBitVec &&& b.toBitVec).toNat = a &&& b := by
    apply UInt8.toNat_inj.1
    rw [UInt8.toNat_ofNat', Nat.mod_eq_of_lt (BitVec.isLt _)]
    rfl
  rw [e]
  rfl
theorem u8_or {a b : UInt8} : binN P .or t c (bv a) (bv b) w K = K (bv (a ||| b)) w := by
  show K (.int .u8 (IntKind.u8.wrap ((BitVec.ofInt 8 (a.toNat : Int) ||| BitVec.ofInt 8 (b.toNat : Int) : BitVec 8).toNat : Nat))) w = _
  rw [ofInt8, ofInt8, wrap_u8n]
  have e : UInt8.ofNat (a.toBitVec ||| b.toBitVec).toNat = a ||| b := by
    apply UInt8.toNat_inj.1
    rw [UInt8.toNat_ofNat', Nat.mod_eq_of_lt (BitVec.isLt _)]
    rfl
  rw [e]
  rfl
theorem u8_shl {k : IntKind} {a : UInt8} {s : Nat} (h : s < 8) : binN P .shl t c (bv a) (.int k s) w K = K (bv (a <<< UInt8.ofNat s)) w := by
  unfold bv
  rw [ishl (by omega)]
  have h1 : min ((s : Int).toNat) IntKind.u8.bits = s := by
    show min ((s : Int).toNat) 8 = s
    omega
  have h2 : (2 : Int) ^ s = ((2 ^ s : Nat) : Int) := by rw [Int.natCast_pow]; rfl
  rw [h1, h2, ← Int.natCast_mul, wrap_u8n]
  have e : UInt8.ofNat (a.toNat * 2 ^ s) = a <<< UInt8.ofNat s := by
    apply UInt8.toNat_inj.1
    rw [UInt8.toNat_ofNat', UInt8.toNat_shiftLeft, UInt8.toNat_ofNat', Nat.shiftLeft_eq]
    have : s % 2 ^ 8 % 8 = s := by omega
    rw [this]
  rw [e]
theorem u8_shr {k : IntKind} {a : UInt8} {s : Nat} (h : s < 8) : binN P .shr t c (bv a) (.int k s) w K = K (bv (a >>> UInt8.ofNat s)) w := by
  have e : a.toNat >>> s = (a >>> UInt8.ofNat s).toNat := by
    rw [UInt8.toNat_shiftRight, UInt8.toNat_ofNat']
    have : s % 2 ^ 8 % 8 = s := by omega
    rw [this]
  unfold bv
  rw [ishr (by omega)]
  have h1 : min ((s : Int).toNat) IntKind.u8.bits = s := by
    show min ((s : Int).toNat) 8 = s
    omega
  have h2 : (2 : Int) ^ s = ((2 ^ s : Nat) : Int) := by rw [Int.natCast_pow]; rfl
  have h3 : (a.toNat : Int).fdiv ((2 ^ s : Nat) : Int) = ((a.toNat >>> s : Nat) : Int) := by
    rw [Nat.shiftRight_eq_div_pow]
    exact (Int.ofNat_fdiv _ _).symm
  rw [h1, h2, h3, e]
end

def digs : Bytes := [48, 49, 50, 51, 52, 53, 54, 55, 56, 57, 97, 98, 99, 100, 101, 102]
def dig (n : UInt8) : UInt8 := digs.getD n.toNat 0
def hexB (d : Bytes) : Bytes := d.flatMap fun (b : UInt8) => [dig (b >>> 4), dig (b &&& 15)]
theorem hexB_length (d : Bytes) : (hexB d).length = 2 * d.length := by
  induction d with
  | nil => rfl
  | cons x r ih => simp only [hexB, List.flatMap_cons, List.length_append, List.length_cons, List.length_nil] at ih ⊢; omega
theorem hexB_snoc (d : Bytes) (b : UInt8) : hexB (d ++ [b]) = hexB d ++ [dig (b >>> 4)] ++ [dig (b &&& 15)] := by
  simp [hexB]
theorem digs_get : ∀ k : Fin 16, (ByteArray.mk #[48, 49, 50, 51, 52, 53, 54, 55, 56, 57, 97, 98, 99, 100, 101, 102])[k.val]? = some (digs.getD k.val 0) := by decide
theorem ixv_dig {w : World} {K : VPost} {n : UInt8} (hn : n.toNat < 16) (hK : K (bv (dig n)) w) : ixvW .str (.string ⟨#[48, 49, 50, 51, 52, 53, 54, 55, 56, 57, 97, 98, 99, 100, 101, 102]⟩) (bv n) w K := by
  have h := digs_get ⟨n.toNat, hn⟩
  exact ⟨by omega, dig n, by rw [Int.toNat_natCast]; exact h, hK⟩
theorem hi_lt (b : UInt8) : (b >>> 4).toNat < 16 := by
  rw [UInt8.toNat_shiftRight]
  have := b.toNat_lt
  show b.toNat >>> 4 < 16
  omega
theorem lo_lt (b : UInt8) : (b &&& 15).toNat < 16 := by
  rw [UInt8.toNat_and]
  exact Nat.lt_of_le_of_lt Nat.and_le_right (by decide)

set_option maxHeartbeats 1000000 in
theorem hex_c {w : World} {K : VPost} {d : Bytes} (hd : d.length = 32) (hK : ∀ w', Ext [] w w' → K (.string ⟨(hexB d).toArray⟩) w') : Calls Try.prog 56 #[.agg (bc d).toArray] w (retK K) := by
  refine c56_calls _ w K ?_
  unfold c56
  refine (Sep.nil w).box fun b1 w1 s _ => ?_
  have s : Sep [] w w1 [rB b1 (bc d) 62] [] := s
  have s := s.add (T := rS (.slice none 0 0) 5 1 (bc []) 0) (.inl ⟨rfl, rfl, rfl⟩) (Ext.refl _ _) (by simp [rS, slB])
  refine s.alloc zero_bld rfl fun b2 w2 s _ => ?_
  have s : Sep [] w w2 [rB b2 [.pointer none, .slice none 0 0] 122, rS (.slice none 0 0) 5 1 (bc []) 0, rB b1 (bc d) 62] [] := s
  refine bindX_i fun J0 h0 => bindX_i fun J1 h1 => ?_
  refine s.loadAll 2 rfl (by rw [bc_length]; exact hd) ?_
  refine bindX_i fun J2 h2 => ?_
  refine loop_i (fun m fr wr => ∃ (i : Nat) (p v : Value), m = 32 - i ∧ i ≤ 32 ∧ fr 3 = .pointer (some ⟨b2, 0, none⟩) ∧ fr 6 = .agg (bc d).toArray ∧ fr 7 = .int .i64 i ∧ (p = .pointer none ∨ p = .pointer (some ⟨b2, 0, none⟩)) ∧
    Sep [] w wr [rB b2 [p, v] 122, rS v 5 1 (bc (hexB (d.take i))) (2 * i), rB b1 (bc d) 62] []) 32 ?_ ?_
  · exact ⟨0, _, _, rfl, by omega, rfl, rfl, rfl, .inl rfl, s⟩
  · rintro m fr wr J ⟨i, p, v, rfl, hi, f3, f6, f7, hp, s⟩ hJ hX
    rw [f3, f6, f7]
    refine nlss (y := 32) (cond_d (fun hlt => ?_) (fun hlt => ?_))
    · have hid : i < d.length := by omega
      refine ixv1 (v := bv d[i]) hlt (by simp [bc, hid]) ?_
      rw [show (Value.int .u64 4) = .int .u64 ((4 : Nat) : Int) from rfl, u8_shr (by decide)]
      refine ixv_dig (hi_lt _) ?_
      refine fnW_of (by kernel_rfl) (writeByte_c s hp (by omega) fun v1 w3 s => ?_)
      rw [show (Value.int .u8 15) = bv 15 from rfl, u8_and]
      refine ixv_dig (lo_lt _) ?_
      refine fnW_of (by kernel_rfl) (writeByte_c s (.inr rfl) (by omega) fun v2 w4 s => ?_)
      refine nadd (y := 1) (by omega) ?_
      have e : hexB (d.take i) ++ [dig (d[i] >>> UInt8.ofNat 4)] ++ [dig (d[i] &&& 15)] = hexB (d.take (i + 1)) := by
        rw [List.take_succ_eq_append_getElem hid, hexB_snoc]
        rfl
      rw [e] at s
      exact hJ (32 - (i + 1)) _ _ (by omega) ⟨i + 1, _, v2, rfl, by omega, f3, f6, rfl, .inr rfl, s⟩
    · obtain rfl : i = 32 := by omega
      refine hX _ _ _ (by simp) (h2 _ _ _ (blk_x (seq_n h1 ?_)))
      rw [← hd, List.take_length] at s
      have e : 2 * d.length = (hexB d).length := (hexB_length d).symm
      rw [e] at s
      show fnW _ _ #[fr 3] wr _
      rw [f3]
      refine fnW_of (by kernel_rfl) (string_c s (by intro h; have := hexB_length d; rw [h] at this; simp at this; omega) (by rw [hexB_length]; omega) fun w5 s => ?_)
      exact hK _ s.ext

theorem short_c {w : World} {K : VPost} {d : Bytes} (hd : d.length = 32) (hK : ∀ w', Ext [] w w' → K (.string ⟨((hexB d).take 8).toArray⟩) w') : Calls Try.prog 58 #[.agg (bc d).toArray] w (retK K) := by
  refine c58_calls _ w K ?_
  unfold c58
  refine (Sep.nil w).box fun b1 w1 s _ => ?_
  have s : Sep [] w w1 [rB b1 (bc d) 62] [] := s
  refine s.loadAll 0 rfl (by rw [bc_length]; exact hd) ?_
  refine fnW_of (by kernel_rfl) (hex_c hd fun w2 e => ?_)
  refine ⟨rfl, cut_ok (l := 0) (h := 8) rfl rfl (by decide) ?_ ?_⟩
  · have := hexB_length d
    show 8 ≤ (hexB d).toArray.size
    rw [List.size_toArray]; omega
  · have e8 : (ByteArray.mk (hexB d).toArray).extract 0 8 = ⟨((hexB d).take 8).toArray⟩ := by
      apply ByteArray.ext
      rw [ByteArray.data_extract]
      simp
    rw [e8]
    exact hK _ (s.ext.new e)
end Go.Proofs.Ytedebapgmfnflaa
