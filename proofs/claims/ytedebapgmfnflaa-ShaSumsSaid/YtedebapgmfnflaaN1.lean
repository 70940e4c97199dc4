/- Bits of numbers that are not below nought. -/
import Derived.Test.YtedebapgmfnflaaN0
namespace Go.Proofs.Ytedebapgmfnflaa
open Go

section
variable {P : Program} {w : World} {K : VPost} {t : TypeId} {c : Bool}
theorem ofInt_nat (x : Nat) : BitVec.ofInt 64 (x : Int) = BitVec.ofNat 64 x := by
  apply BitVec.eq_of_toNat_eq
  rw [BitVec.toNat_ofInt, BitVec.toNat_ofNat]
  omega
theorem nor {x y : Nat} (hx : x < 9223372036854775808) (hy : y < 9223372036854775808) (hK : K (.int .i64 ((x ||| y : Nat) : Int)) w) : binN P .or t c (.int .i64 x) (.int .i64 y) w K := by
  have h : x ||| y < 9223372036854775808 := Nat.or_lt_two_pow (n := 63) hx hy
  show K (.int .i64 (IntKind.i64.wrap ((BitVec.ofInt 64 (x : Int) ||| BitVec.ofInt 64 (y : Int) : BitVec 64).toNat : Nat))) w
  have e : (BitVec.ofInt 64 (x : Int) ||| BitVec.ofInt 64 (y : Int) : BitVec 64).toNat = x ||| y := by
    rw [ofInt_nat, ofInt_nat, BitVec.toNat_or, BitVec.toNat_ofNat, BitVec.toNat_ofNat, Nat.mod_eq_of_lt (by omega), Nat.mod_eq_of_lt (by omega)]
  rw [e]
  generalize x ||| y = z at *
  rw [i64_fit (by omega)]
  exact hK
theorem nand {x y : Nat} (hx : x < 9223372036854775808) (hy : y < 9223372036854775808) (hK : K (.int .i64 ((x &&& y : Nat) : Int)) w) : binN P .and t c (.int .i64 x) (.int .i64 y) w K := by
  have h : x &&& y < 9223372036854775808 := Nat.lt_of_le_of_lt Nat.and_le_left hx
  show K (.int .i64 (IntKind.i64.wrap ((BitVec.ofInt 64 (x : Int) &&& BitVec.ofInt 64 (y : Int) : BitVec 64).toNat : Nat))) w
  have e : (BitVec.ofInt 64 (x : Int) &&& BitVec.ofInt 64 (y : Int) : BitVec 64).toNat = x &&& y := by
    rw [ofInt_nat, ofInt_nat, BitVec.toNat_and, BitVec.toNat_ofNat, BitVec.toNat_ofNat, Nat.mod_eq_of_lt (by omega), Nat.mod_eq_of_lt (by omega)]
  rw [e]
  generalize x &&& y = z at *
  rw [i64_fit (by omega)]
  exact hK
theorem nshl {k' : IntKind} {x s : Nat} (hs : s ≤ 64) (hx : x * 2 ^ s < 9223372036854775808) (hK : K (.int .i64 ((x * 2 ^ s : Nat) : Int)) w) : binN P .shl t c (.int .i64 x) (.int k' s) w K := by
  rw [ishl (by omega)]
  have h1 : min ((s : Int).toNat) IntKind.i64.bits = s := by
    show min ((s : Int).toNat) 64 = s
    omega
  have h2 : (2 : Int) ^ s = ((2 ^ s : Nat) : Int) := by rw [Int.natCast_pow]; rfl
  rw [h1, h2, ← Int.natCast_mul]
  generalize x * 2 ^ s = z at *
  rw [i64_fit (by omega)]
  exact hK
/-- A byte behind a number. -/
theorem or_byte (x b : Nat) (h : b < 256) : x * 2 ^ 8 ||| b = x * 256 + b := by
  have := Nat.two_pow_add_eq_or_of_lt (i := 8) h x
  rw [Nat.mul_comm] at this
  rw [← this]
end
end Go.Proofs.Ytedebapgmfnflaa
