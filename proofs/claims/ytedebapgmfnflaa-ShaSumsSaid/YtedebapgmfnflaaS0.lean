/- Words of 32 bits, and bytes among them: the operations on them. -/
import Derived.Test.YtedebapgmfnflaaD6
import Derived.Test.YtedebapgmfnflaaH2
import Derived.Test.YtedebapgmfnflaaN0
namespace Go.Proofs.Ytedebapgmfnflaa
open Go
set_option maxRecDepth 100000

def uv (x : UInt32) : Value := .int .u32 x.toNat
def uc (l : List UInt32) : List Value := l.map uv
theorem uc_length (l : List UInt32) : (uc l).length = l.length := by simp [uc]
theorem uc_one (l : List UInt32) : ∀ x ∈ uc l, x.oneCell' = true := by
  intro x hx
  obtain ⟨b, _, rfl⟩ := List.mem_map.1 hx
  rfl
theorem uc_get {l : List UInt32} {i : Nat} (h : i < l.length) : (uc l)[i]? = some (uv (l.getD i 0)) := by
  simp [uc, List.getElem?_map, h]
theorem bc_get {l : Bytes} {i : Nat} (h : i < l.length) : (bc l)[i]? = some (bv (l.getD i 0)) := by
  simp [bc, List.getElem?_map, h]
theorem uc_append (a b : List UInt32) : uc (a ++ b) = uc a ++ uc b := by simp [uc]
theorem uc_set (l : List UInt32) (i : Nat) (x : UInt32) : (uc l).set i (uv x) = uc (l.set i x) := by simp [uc, List.map_set]
theorem bc_set (l : Bytes) (i : Nat) (x : UInt8) : (bc l).set i (bv x) = bc (l.set i x) := by simp [bc, List.map_set]

section
variable {P : Program} {w : World} {K : VPost} {t : TypeId} {c : Bool}

theorem wrap_u32n (n : Nat) : IntKind.u32.wrap (n : Int) = ((n % 4294967296 : Nat) : Int) := by
  rw [IntKind.wrap_u32]; omega

theorem u32_add {a b : UInt32} : binN P .add t c (uv a) (uv b) w K = K (uv (a + b)) w := by
  show binW P .add t c (uv a) (uv b) w K = _
  unfold uv
  rw [bin_add, ← Int.natCast_add, wrap_u32n, UInt32.toNat_add]

theorem ofInt_u32 (a : UInt32) : BitVec.ofInt IntKind.u32.bits ((a.toNat : Nat) : Int) = a.toBitVec := by
  apply BitVec.eq_of_toNat_eq
  rw [BitVec.toNat_ofInt]
  have := a.toNat_lt
  show (((a.toNat : Nat) : Int) % ((2 ^ 32 : Nat) : Int)).toNat = a.toNat
  omega

theorem bits_u32 {op : BinOp} {f : BitVec 32 → BitVec 32 → BitVec 32} (x y : UInt32) (hb : binOp op t (uv x) (uv y) = (pure (.int .u32 (IntKind.u32.wrap ((f (BitVec.ofInt 32 (x.toNat : Int)) (BitVec.ofInt 32 (y.toNat : Int))).toNat : Nat))) : Sem Value)) (hg : ∀ w, (guardE op t c (uv x) (uv y)).run P w = .ok () w) :
    binW P op t c (uv x) (uv y) w K = K (.int .u32 ((f x.toBitVec y.toBitVec).toNat : Nat)) w := by
  unfold binW insW binE
  rw [Sem.run_bind, hg, Result.andThen_ok, hb, Sem.run_pure]
  have h1 : BitVec.ofInt 32 ((x.toNat : Nat) : Int) = x.toBitVec := ofInt_u32 x
  have h2 : BitVec.ofInt 32 ((y.toNat : Nat) : Int) = y.toBitVec := ofInt_u32 y
  rw [h1, h2, wrap_u32n]
  have := (f x.toBitVec y.toBitVec).isLt
  rw [Nat.mod_eq_of_lt (by omega)]
  rfl

theorem u32_xor {a b : UInt32} : binN P .xor t c (uv a) (uv b) w K = K (uv (a ^^^ b)) w := by
  show binW P .xor t c (uv a) (uv b) w K = _
  rw [bits_u32 (f := (· ^^^ ·)) a b rfl (fun _ => by cases c <;> rfl)]
  rfl
theorem u32_and {a b : UInt32} : binN P .and t c (uv a) (uv b) w K = K (uv (a &&& b)) w := by
  show binW P .and t c (uv a) (uv b) w K = _
  rw [bits_u32 (f := (· &&& ·)) a b rfl (fun _ => by cases c <;> rfl)]
  rfl
theorem u32_or {a b : UInt32} : binN P .or t c (uv a) (uv b) w K = K (uv (a ||| b)) w := by
  show binW P .or t c (uv a) (uv b) w K = _
  rw [bits_u32 (f := (· ||| ·)) a b rfl (fun _ => by cases c <;> rfl)]
  rfl
theorem u32_not {a : UInt32} : unN P .xor (uv a) w K = K (uv (~~~ a)) w := by
  show insW P (Op.unary .xor (uv a)) w K = _
  unfold insW
  have : Op.unary .xor (uv a) = (pure (.int .u32 (IntKind.u32.wrap ((BitVec.ofInt 32 (4294967295 : Int) ^^^ BitVec.ofInt 32 (a.toNat : Int)).toNat : Nat))) : Sem Value) := rfl
  rw [this, Sem.run_pure]
  have h1 : BitVec.ofInt 32 ((a.toNat : Nat) : Int) = a.toBitVec := ofInt_u32 a
  rw [h1, wrap_u32n]
  have h2 : BitVec.ofInt 32 (4294967295 : Int) = BitVec.allOnes 32 := by decide
  rw [h2, BitVec.allOnes_xor]
  have := (~~~ a.toBitVec).isLt
  rw [Nat.mod_eq_of_lt (by omega)]
  rfl
theorem u32_shl {a : UInt32} {k : IntKind} {s : Nat} (h : s < 32) : binN P .shl t c (uv a) (.int k s) w K = K (uv (a <<< UInt32.ofNat s)) w := by
  show binW P .shl t c (uv a) (.int k s) w K = _
  unfold uv
  rw [bin_shl (by omega)]
  congr 2
  have h1 : min ((s : Int).toNat) IntKind.u32.bits = s := by
    show min ((s : Int).toNat) 32 = s
    omega
  rw [h1]
  have h2 : ((a.toNat : Int) * 2 ^ s) = ((a.toNat * 2 ^ s : Nat) : Int) := by rw [Int.natCast_mul, Int.natCast_pow]; rfl
  rw [h2, wrap_u32n, UInt32.toNat_shiftLeft]
  congr 1
  rw [UInt32.toNat_ofNat', Nat.mod_eq_of_lt (show s < 2 ^ 32 by omega), Nat.mod_eq_of_lt h, Nat.shiftLeft_eq]
theorem u32_shr {a : UInt32} {k : IntKind} {s : Nat} (h : s < 32) : binN P .shr t c (uv a) (.int k s) w K = K (uv (a >>> UInt32.ofNat s)) w := by
  show binW P .shr t c (uv a) (.int k s) w K = _
  unfold uv
  rw [bin_shr (by omega)]
  congr 2
  have h1 : min ((s : Int).toNat) IntKind.u32.bits = s := by
    show min ((s : Int).toNat) 32 = s
    omega
  rw [h1]
  have h2 : (2 : Int) ^ s = ((2 ^ s : Nat) : Int) := by rw [Int.natCast_pow]; rfl
  rw [h2, UInt32.toNat_shiftRight, UInt32.toNat_ofNat', Nat.mod_eq_of_lt (show s < 2 ^ 32 by omega), Nat.mod_eq_of_lt h, Nat.shiftRight_eq_div_pow]
  exact (Int.ofNat_fdiv _ _).symm
theorem u32_bits {k : IntKind} (a : UInt32) : a.toNat < 4294967296 := a.toNat_lt

def u8w (b : UInt8) : UInt32 := UInt32.ofNat b.toNat
theorem u8w_nat (b : UInt8) : (u8w b).toNat = b.toNat := by
  unfold u8w
  have := b.toNat_lt
  rw [UInt32.toNat_ofNat', Nat.mod_eq_of_lt (by omega)]
theorem conv_u8w {s d : TypeId} {td : TypeDesc} {b : UInt8} (hu : P.underlying s = some td) (hu' : P.underlying d = some (.int .u32)) : convN P s d (bv b) w K = K (uv (u8w b)) w := by
  show insW P (convert s d (bv b)) w K = _
  unfold bv uv
  rw [conv_int hu hu', wrap_u32n, u8w_nat]
  have := b.toNat_lt
  rw [Nat.mod_eq_of_lt (by omega)]
theorem wrap_u8n (n : Nat) : IntKind.u8.wrap (n : Int) = ((UInt8.ofNat n).toNat : Int) := by
  rw [IntKind.wrap_u8, UInt8.toNat_ofNat']; omega
/-- A number's last byte. -/
theorem conv_byte {s d : TypeId} {td : TypeDesc} {k : IntKind} {n : Nat} (hu : P.underlying s = some td) (hu' : P.underlying d = some (.int .u8)) : convN P s d (.int k n) w K = K (bv (UInt8.ofNat n)) w := by
  show insW P (convert s d (.int k n)) w K = _
  unfold bv
  rw [conv_int hu hu', wrap_u8n]
theorem conv_b64 {s d : TypeId} {td : TypeDesc} {k : IntKind} {b : UInt8} (hu : P.underlying s = some td) (hu' : P.underlying d = some (.int .i64)) : convN P s d (bv b) w K = K (.int .i64 b.toNat) w := by
  show insW P (convert s d (bv b)) w K = _
  unfold bv
  have := b.toNat_lt
  rw [conv_int hu hu', i64_self (by omega)]
end
end Go.Proofs.Ytedebapgmfnflaa
