/- Words of 64 bits; the document's constants, by roots, as plain Lean; bits of the two texts' words. -/
import Derived.Test.YtedebapgmfnflaaS1
namespace Go.Proofs.Ytedebapgmfnflaa
open Go
set_option maxRecDepth 100000

def uq (x : UInt64) : Value := .int .u64 x.toNat
def uqs (l : List UInt64) : List Value := l.map uq
theorem uqs_length (l : List UInt64) : (uqs l).length = l.length := by simp [uqs]
theorem uqs_one (l : List UInt64) : ∀ x ∈ uqs l, x.oneCell' = true := by
  intro x hx
  obtain ⟨b, _, rfl⟩ := List.mem_map.1 hx
  rfl
theorem uqs_get {l : List UInt64} {i : Nat} (h : i < l.length) : (uqs l)[i]? = some (uq (l.getD i 0)) := by
  simp [uqs, List.getElem?_map, h]
theorem uqs_append (a b : List UInt64) : uqs (a ++ b) = uqs a ++ uqs b := by simp [uqs]
theorem uqs_set (l : List UInt64) (i : Nat) (x : UInt64) : (uqs l).set i (uq x) = uqs (l.set i x) := by simp [uqs, List.map_set]

section
variable {P : Program} {w : World} {K : VPost} {t : TypeId} {c : Bool}

theorem wrap_u64 (n : Int) : IntKind.u64.wrap n = n % 18446744073709551616 := by simp [IntKind.wrap, IntKind.signed, IntKind.bits]
theorem wrap_u64n (n : Nat) : IntKind.u64.wrap (n : Int) = ((n % 18446744073709551616 : Nat) : Int) := by
  rw [wrap_u64]; omega

theorem u64_add {a b : UInt64} : binN P .add t c (uq a) (uq b) w K = K (uq (a + b)) w := by
  show binW P .add t c (uq a) (uq b) w K = _
  unfold uq
  rw [bin_add, ← Int.natCast_add, wrap_u64n, UInt64.toNat_add]

theorem ofInt_u64 (a : UInt64) : BitVec.ofInt IntKind.u64.bits ((a.toNat : Nat) : Int) = a.toBitVec := by
  apply BitVec.eq_of_toNat_eq
  rw [BitVec.toNat_ofInt]
  have := a.toNat_lt
  show (((a.toNat : Nat) : Int) % ((2 ^ 64 : Nat) : Int)).toNat = a.toNat
  omega

theorem bits_u64 {op : BinOp} {f : BitVec 64 → BitVec 64 → BitVec 64} (x y : UInt64) (hb : binOp op t (uq x) (uq y) = (pure (.int .u64 (IntKind.u64.wrap ((f (BitVec.ofInt 64 (x.toNat : Int)) (BitVec.ofInt 64 (y.toNat : Int))).toNat : Nat))) : Sem Value)) (hg : ∀ w, (guardE op t c (uq x) (uq y)).run P w = .ok () w) :
    binW P op t c (uq x) (uq y) w K = K (.int .u64 ((f x.toBitVec y.toBitVec).toNat : Nat)) w := by
  unfold binW insW binE
  rw [Sem.run_bind, hg, Result.andThen_ok, hb, Sem.run_pure]
  have h1 : BitVec.ofInt 64 ((x.toNat : Nat) : Int) = x.toBitVec := ofInt_u64 x
  have h2 : BitVec.ofInt 64 ((y.toNat : Nat) : Int) = y.toBitVec := ofInt_u64 y
  rw [h1, h2, wrap_u64n]
  have := (f x.toBitVec y.toBitVec).isLt
  rw [Nat.mod_eq_of_lt (by omega)]
  rfl

theorem u64_xor {a b : UInt64} : binN P .xor t c (uq a) (uq b) w K = K (uq (a ^^^ b)) w := by
  show binW P .xor t c (uq a) (uq b) w K = _
  rw [bits_u64 (f := (· ^^^ ·)) a b rfl (fun _ => by cases c <;> rfl)]
  rfl
theorem u64_and {a b : UInt64} : binN P .and t c (uq a) (uq b) w K = K (uq (a &&& b)) w := by
  show binW P .and t c (uq a) (uq b) w K = _
  rw [bits_u64 (f := (· &&& ·)) a b rfl (fun _ => by cases c <;> rfl)]
  rfl
theorem u64_or {a b : UInt64} : binN P .or t c (uq a) (uq b) w K = K (uq (a ||| b)) w := by
  show binW P .or t c (uq a) (uq b) w K = _
  rw [bits_u64 (f := (· ||| ·)) a b rfl (fun _ => by cases c <;> rfl)]
  rfl
theorem u64_not {a : UInt64} : unN P .xor (uq a) w K = K (uq (~~~ a)) w := by
  show insW P (Op.unary .xor (uq a)) w K = _
  unfold insW
  have : Op.unary .xor (uq a) = (pure (.int .u64 (IntKind.u64.wrap ((BitVec.ofInt 64 (18446744073709551615 : Int) ^^^ BitVec.ofInt 64 (a.toNat : Int)).toNat : Nat))) : Sem Value) := rfl
  rw [this, Sem.run_pure]
  have h1 : BitVec.ofInt 64 ((a.toNat : Nat) : Int) = a.toBitVec := ofInt_u64 a
  rw [h1, wrap_u64n]
  have h2 : BitVec.ofInt 64 (18446744073709551615 : Int) = BitVec.allOnes 64 := by decide
  rw [h2, BitVec.allOnes_xor]
  have := (~~~ a.toBitVec).isLt
  rw [Nat.mod_eq_of_lt (by omega)]
  rfl
theorem u64_shl {a : UInt64} {k : IntKind} {s : Nat} (h : s < 64) : binN P .shl t c (uq a) (.int k s) w K = K (uq (a <<< UInt64.ofNat s)) w := by
  show binW P .shl t c (uq a) (.int k s) w K = _
  unfold uq
  rw [bin_shl (by omega)]
  congr 2
  have h1 : min ((s : Int).toNat) IntKind.u64.bits = s := by
    show min ((s : Int).toNat) 64 = s
    omega
  rw [h1]
  have h2 : ((a.toNat : Int) * 2 ^ s) = ((a.toNat * 2 ^ s : Nat) : Int) := by rw [Int.natCast_mul, Int.natCast_pow]; rfl
  rw [h2, wrap_u64n, UInt64.toNat_shiftLeft]
  congr 1
  rw [UInt64.toNat_ofNat', Nat.mod_eq_of_lt (show s < 2 ^ 64 by omega), Nat.mod_eq_of_lt h, Nat.shiftLeft_eq]
theorem u64_shr {a : UInt64} {k : IntKind} {s : Nat} (h : s < 64) : binN P .shr t c (uq a) (.int k s) w K = K (uq (a >>> UInt64.ofNat s)) w := by
  show binW P .shr t c (uq a) (.int k s) w K = _
  unfold uq
  rw [bin_shr (by omega)]
  congr 2
  have h1 : min ((s : Int).toNat) IntKind.u64.bits = s := by
    show min ((s : Int).toNat) 64 = s
    omega
  rw [h1]
  have h2 : (2 : Int) ^ s = ((2 ^ s : Nat) : Int) := by rw [Int.natCast_pow]; rfl
  rw [h2, UInt64.toNat_shiftRight, UInt64.toNat_ofNat', Nat.mod_eq_of_lt (show s < 2 ^ 64 by omega), Nat.mod_eq_of_lt h, Nat.shiftRight_eq_div_pow]
  exact (Int.ofNat_fdiv _ _).symm

theorem u64_sub {a b : UInt64} : binN P .sub t c (uq a) (uq b) w K = K (uq (a - b)) w := by
  show binW P .sub t c (uq a) (uq b) w K = _
  unfold uq
  have ha := a.toNat_lt
  have hb := b.toNat_lt
  rw [bin_sub, wrap_u64, UInt64.toNat_sub]
  congr 2
  omega
theorem u64_mul {a b : UInt64} : binN P .mul t c (uq a) (uq b) w K = K (uq (a * b)) w := by
  show binW P .mul t c (uq a) (uq b) w K = _
  unfold uq
  rw [bin_mul, ← Int.natCast_mul, wrap_u64n, UInt64.toNat_mul]
theorem u64_lss {a b : UInt64} : binN P .lss t c (uq a) (uq b) w K = K (.bool (decide (a < b))) w := by
  show binW P .lss t c (uq a) (uq b) w K = _
  unfold uq
  rw [bin_lss]
  congr 2
  rw [decide_eq_decide, UInt64.lt_iff_toNat_lt]
  omega
theorem u64_leq {a b : UInt64} : binN P .leq t c (uq a) (uq b) w K = K (.bool (decide (a ≤ b))) w := by
  show binW P .leq t c (uq a) (uq b) w K = _
  unfold uq
  rw [bin_leq]
  congr 2
  rw [decide_eq_decide, UInt64.le_iff_toNat_le]
  omega
theorem u64_eql {a b : UInt64} : binN P .eql t c (uq a) (uq b) w K = K (.bool (decide (a = b))) w := by
  show binW P .eql t c (uq a) (uq b) w K = _
  unfold uq
  rw [bin_eql]
  congr 2
  rw [Bool.eq_iff_iff]
  simp [← UInt64.toNat_inj]
  omega
theorem u64_neq {a b : UInt64} : binN P .neq t c (uq a) (uq b) w K = K (.bool (!decide (a = b))) w := by
  show binW P .neq t c (uq a) (uq b) w K = _
  unfold uq
  rw [bin_neq]
  congr 2
  rw [Bool.eq_iff_iff]
  simp [← UInt64.toNat_inj]
  omega
theorem u64_rem {a b : UInt64} (h : b ≠ 0) : binN P .rem t c (uq a) (uq b) w K = K (uq (a % b)) w := by
  show binW P .rem t c (uq a) (uq b) w K = _
  unfold uq
  have h0 : (b.toNat : Int) ≠ 0 := fun e => h (UInt64.toNat_inj.1 (by simpa using e))
  rw [bin_rem h0, UInt64.toNat_mod]
  rfl
theorem conv_u64n {s d : TypeId} {td : TypeDesc} {k : IntKind} {n : Nat} (hu : P.underlying s = some td) (hu' : P.underlying d = some (.int .u64)) (hn : n < 18446744073709551616) : convN P s d (.int k n) w K = K (uq (UInt64.ofNat n)) w := by
  show insW P (convert s d (.int k n)) w K = _
  unfold uq
  rw [conv_int hu hu', wrap_u64n, UInt64.toNat_ofNat']
theorem conv_u64u32 {s d : TypeId} {td : TypeDesc} {x : UInt64} (hu : P.underlying s = some td) (hu' : P.underlying d = some (.int .u32)) : convN P s d (uq x) w K = K (uv x.toUInt32) w := by
  show insW P (convert s d (uq x)) w K = _
  unfold uq uv
  rw [conv_int hu hu', wrap_u32n]
  rfl
end

theorem ch_or (e f g : UInt32) : e &&& f ||| ~~~e &&& g = e &&& f ^^^ ~~~e &&& g := by
  apply UInt32.eq_of_toBitVec_eq
  simp only [UInt32.toBitVec_or, UInt32.toBitVec_and, UInt32.toBitVec_xor, UInt32.toBitVec_not]
  apply BitVec.eq_of_getLsbD_eq
  intro i hi
  simp only [BitVec.getLsbD_or, BitVec.getLsbD_and, BitVec.getLsbD_xor, BitVec.getLsbD_not, hi, decide_true, Bool.true_and]
  cases e.toBitVec.getLsbD i <;> cases f.toBitVec.getLsbD i <;> cases g.toBitVec.getLsbD i <;> rfl
theorem maj_or (a b c : UInt32) : a &&& b ||| a &&& c ||| b &&& c = a &&& b ^^^ a &&& c ^^^ b &&& c := by
  apply UInt32.eq_of_toBitVec_eq
  simp only [UInt32.toBitVec_or, UInt32.toBitVec_and, UInt32.toBitVec_xor]
  apply BitVec.eq_of_getLsbD_eq
  intro i _
  simp only [BitVec.getLsbD_or, BitVec.getLsbD_and, BitVec.getLsbD_xor]
  cases a.toBitVec.getLsbD i <;> cases b.toBitVec.getLsbD i <;> cases c.toBitVec.getLsbD i <;> rfl
theorem word_or (a b c d : UInt32) : ((a <<< 8 ||| b) <<< 8 ||| c) <<< 8 ||| d = a <<< 24 ||| b <<< 16 ||| c <<< 8 ||| d := by
  apply UInt32.eq_of_toBitVec_eq
  simp only [UInt32.toBitVec_or, UInt32.toBitVec_shiftLeft]
  have h8 : (UInt32.toBitVec 8 % 32) = 8#32 := by decide
  have h16 : (UInt32.toBitVec 16 % 32) = 16#32 := by decide
  have h24 : (UInt32.toBitVec 24 % 32) = 24#32 := by decide
  rw [h8, h16, h24]
  simp only [BitVec.shiftLeft_eq', BitVec.reduceToNat]
  simp only [BitVec.shiftLeft_or_distrib, ← BitVec.shiftLeft_add]
theorem zero_shl (b : UInt32) : (0 : UInt32) <<< 8 ||| b = b := by
  simp

def getU (l : List UInt64) (i : Nat) : UInt64 := l.getD i 0
def timesJ (x : UInt64) (i : Nat) : List UInt64 → Nat → List UInt64 → UInt64 → List UInt64 × UInt64
  | [], _, out, c => (out, c)
  | y :: r, j, out, c =>
    timesJ x i r (j + 1) (out.set (i + j) ((getU out (i + j) + x * y + c) &&& 0xffff)) ((getU out (i + j) + x * y + c) >>> 16)
def timesI (b : List UInt64) : List UInt64 → Nat → List UInt64 → List UInt64
  | [], _, out => out
  | x :: r, i, out =>
    timesI b r (i + 1) ((timesJ x i b 0 out 0).1.set (i + b.length) (getU (timesJ x i b 0 out 0).1 (i + b.length) + (timesJ x i b 0 out 0).2))
def times (a b : List UInt64) : List UInt64 := timesI b a 0 (List.replicate (a.length + b.length) 0)
def cmpF (s want : List UInt64) : Nat → Bool
  | 0 => true
  | i + 1 => if getU s i = getU want i then cmpF s want i else decide (getU s i < getU want i)
def belowF (y p : UInt64) : Bool :=
  cmpF (times (times [y &&& 0xffff, y >>> 16 &&& 0xffff, y >>> 32] [y &&& 0xffff, y >>> 16 &&& 0xffff, y >>> 32]) [y &&& 0xffff, y >>> 16 &&& 0xffff, y >>> 32] ++ List.replicate 7 0) ((List.replicate 16 0).set 6 p) 16
def cubeF (p : UInt64) : Nat → UInt64 → UInt64
  | 0, x => x
  | k + 1, x => cubeF p k (if belowF (x + UInt64.ofNat (1 <<< k)) p then x + UInt64.ofNat (1 <<< k) else x)

def hi32 (y : UInt64) : UInt64 := y >>> (32 : UInt64)
def lo32 (y : UInt64) : UInt64 := y &&& (4294967295 : UInt64)
def sqMid (y : UInt64) : UInt64 := (2 : UInt64) * hi32 y * lo32 y + hi32 (lo32 y * lo32 y)
def sqTop (y : UInt64) : UInt64 := hi32 y * hi32 y + hi32 (sqMid y)
def sqRest (y : UInt64) : UInt64 := lo32 (sqMid y) <<< (32 : UInt64) ||| lo32 (lo32 y * lo32 y)
def sqC (p y : UInt64) : Bool := decide (sqTop y < p) || decide (sqTop y = p) && decide (sqRest y = 0)
def squareF (p : UInt64) : Nat → UInt64 → UInt64
  | 0, x => x
  | k + 1, x => squareF p k (if sqC p (x + UInt64.ofNat (1 <<< k)) = true then x + UInt64.ofNat (1 <<< k) else x)
def inn : Nat → UInt64 → UInt64 → Bool → Option Bool
  | 0, _, _, _ => none
  | k + 1, p, q, r => if q * q ≤ p then (if q = 0 then none else inn k p (q + 1) (if p % q = 0 then false else r)) else some r
def prs : Nat → Nat → UInt64 → List UInt64 → Option (List UInt64)
  | 0, _, _, _ => none
  | k + 1, n, p, out => if out.length < n then (inn 100 p 2 true).bind fun b => prs k n (p + 1) (if b = true then out ++ [p] else out) else some out
def primes64 : List UInt64 := [2, 3, 5, 7, 11, 13, 17, 19, 23, 29, 31, 37, 41, 43, 47, 53, 59, 61, 67, 71, 73, 79, 83, 89, 97, 101, 103, 107, 109, 113, 127, 131, 137, 139, 149, 151, 157, 163, 167, 173, 179, 181, 191, 193, 197, 199, 211, 223, 227, 229, 233, 239, 241, 251, 257, 263, 269, 271, 277, 281, 283, 293, 307, 311]
theorem prs64 : prs 400 64 2 [] = some primes64 := by decide +kernel
theorem prs8 : prs 400 8 2 [] = some (primes64.take 8) := by decide +kernel
theorem square8 : (primes64.take 8).map (fun p => (squareF p 36 0).toUInt32) = shaH := by decide +kernel
end Go.Proofs.Ytedebapgmfnflaa
