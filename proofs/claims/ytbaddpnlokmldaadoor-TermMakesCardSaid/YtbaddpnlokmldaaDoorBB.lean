/- Bytes as new memory; bytes compared: by contracts. Words; SHA-256 as plain Lean; rows. -/
import Derived.Test.YtbaddpnlokmldaaDoorBA
import Derived.Test.YtbaddpnlokmldaaDoorCV
namespace Go.Proofs.YtbaddpnlokmldaaDoor
open Go
set_option maxRecDepth 100000

def uv (x : UInt32) : Value := .int .u32 x.toNat
def uc (l : List UInt32) : List Value := l.map uv
theorem uc_length (l : List UInt32) : (uc l).length = l.length := by simp [uc]
theorem uc_one (l : List UInt32) : ∀ x ∈ uc l, x.oneCell' = true := by
  intro x hx
  obtain ⟨b, _, rfl⟩ := List.mem_map.1 hx
  rfl
theorem uc_get {l : List UInt32} {i : Nat} (h : i < l.length) : (uc l)[i]? = some (uv (l.getD i 0)) := by
  simp [uc, List.getElem?_map, h]
theorem bc_get {l : Bytes} {i : Nat} (h : i < l.length) : (bc l)[i]? = some (bv (l.getD i 0)) := by
  simp [bc, List.getElem?_map, h]
theorem uc_append (a b : List UInt32) : uc (a ++ b) = uc a ++ uc b := by simp [uc]
theorem uc_set (l : List UInt32) (i : Nat) (x : UInt32) : (uc l).set i (uv x) = uc (l.set i x) := by simp [uc, List.map_set]
theorem bc_set (l : Bytes) (i : Nat) (x : UInt8) : (bc l).set i (bv x) = bc (l.set i x) := by simp [bc, List.map_set]

section
variable {P : Program} {w : World} {K : VPost} {t : TypeId} {c : Bool}

theorem wrap_u32n (n : Nat) : IntKind.u32.wrap (n : Int) = ((n % 4294967296 : Nat) : Int) := by
  rw [IntKind.wrap_u32]; omega

theorem u32_add {a b : UInt32} : binN P .add t c (uv a) (uv b) w K = K (uv (a + b)) w := by
  show binW P .add t c (uv a) (uv b) w K = _
  unfold uv
  rw [bin_add, ← Int.natCast_add, wrap_u32n, UInt32.toNat_add]

theorem ofInt_u32 (a : UInt32) : BitVec.ofInt IntKind.u32.bits ((a.toNat : Nat) : Int) = a.toBitVec := by
  apply BitVec.eq_of_toNat_eq
  rw [BitVec.toNat_ofInt]
  have := a.toNat_lt
  show (((a.toNat : Nat) : Int) % ((2 ^ 32 : Nat) : Int)).toNat = a.toNat
  omega

theorem bits_u32 {op : BinOp} {f : BitVec 32 → BitVec 32 → BitVec 32} (x y : UInt32) (hb : binOp op t (uv x) (uv y) = (pure (.int .u32 (IntKind.u32.wrap ((f (BitVec.ofInt 32 (x.toNat : Int)) (BitVec.ofInt 32 (y.toNat : Int))).toNat : Nat))) : Sem Value)) (hg : ∀ w, (guardE op t c (uv x) (uv y)).run P w = .ok () w) :
    binW P op t c (uv x) (uv y) w K = K (.int .u32 ((f x.toBitVec y.toBitVec).toNat : Nat)) w := by
  unfold binW insW binE
  rw [Sem.run_bind, hg, Result.andThen_ok, hb, Sem.run_pure]
  have h1 : BitVec.ofInt 32 ((x.toNat : Nat) : Int) = x.toBitVec := ofInt_u32 x
  have h2 : BitVec.ofInt 32 ((y.toNat : Nat) : Int) = y.toBitVec := ofInt_u32 y
  rw [h1, h2, wrap_u32n]
  have := (f x.toBitVec y.toBitVec).isLt
  rw [Nat.mod_eq_of_lt (by omega)]
  rfl

theorem u32_xor {a b : UInt32} : binN P .xor t c (uv a) (uv b) w K = K (uv (a ^^^ b)) w := by
  show binW P .xor t c (uv a) (uv b) w K = _
  rw [bits_u32 (f := (· ^^^ ·)) a b rfl (fun _ => by cases c <;> rfl)]
  rfl
theorem u32_and {a b : UInt32} : binN P .and t c (uv a) (uv b) w K = K (uv (a &&& b)) w := by
  show binW P .and t c (uv a) (uv b) w K = _
  rw [bits_u32 (f := (· &&& ·)) a b rfl (fun _ => by cases c <;> rfl)]
  rfl
theorem u32_or {a b : UInt32} : binN P .or t c (uv a) (uv b) w K = K (uv (a ||| b)) w := by
  show binW P .or t c (uv a) (uv b) w K = _
  rw [bits_u32 (f := (· ||| ·)) a b rfl (fun _ => by cases c <;> rfl)]
  rfl
theorem u32_not {a : UInt32} : unN P .xor (uv a) w K = K (uv (~~~ a)) w := by
  show insW P (Op.unary .xor (uv a)) w K = _
  unfold insW
  have : Op.unary .xor (uv a) = (pure (.int .u32 (IntKind.u32.wrap ((BitVec.ofInt 32 (4294967295 : Int) ^^^ BitVec.ofInt 32 (a.toNat : Int)).toNat : Nat))) : Sem Value) := rfl
  rw [this, Sem.run_pure]
  have h1 : BitVec.ofInt 32 ((a.toNat : Nat) : Int) = a.toBitVec := ofInt_u32 a
  rw [h1, wrap_u32n]
  have h2 : BitVec.ofInt 32 (4294967295 : Int) = BitVec.allOnes 32 := by decide
  rw [h2, BitVec.allOnes_xor]
  have := (~~~ a.toBitVec).isLt
  rw [Nat.mod_eq_of_lt (by omega)]
  rfl
theorem u32_shl {a : UInt32} {k : IntKind} {s : Nat} (h : s < 32) : binN P .shl t c (uv a) (.int k s) w K = K (uv (a <<< UInt32.ofNat s)) w := by
  show binW P .shl t c (uv a) (.int k s) w K = _
  unfold uv
  rw [bin_shl (by omega)]
  congr 2
  have h1 : min ((s : Int).toNat) IntKind.u32.bits = s := by
    show min ((s : Int).toNat) 32 = s
    omega
  rw [h1]
  have h2 : ((a.toNat : Int) * 2 ^ s) = ((a.toNat * 2 ^ s : Nat) : Int) := by rw [Int.natCast_mul, Int.natCast_pow]; rfl
  rw [h2, wrap_u32n, UInt32.toNat_shiftLeft]
  congr 1
  rw [UInt32.toNat_ofNat', Nat.mod_eq_of_lt (show s < 2 ^ 32 by omega), Nat.mod_eq_of_lt h, Nat.shiftLeft_eq]
theorem u32_shr {a : UInt32} {k : IntKind} {s : Nat} (h : s < 32) : binN P .shr t c (uv a) (.int k s) w K = K (uv (a >>> UInt32.ofNat s)) w := by
  show binW P .shr t c (uv a) (.int k s) w K = _
  unfold uv
  rw [bin_shr (by omega)]
  congr 2
  have h1 : min ((s : Int).toNat) IntKind.u32.bits = s := by
    show min ((s : Int).toNat) 32 = s
    omega
  rw [h1]
  have h2 : (2 : Int) ^ s = ((2 ^ s : Nat) : Int) := by rw [Int.natCast_pow]; rfl
  rw [h2, UInt32.toNat_shiftRight, UInt32.toNat_ofNat', Nat.mod_eq_of_lt (show s < 2 ^ 32 by omega), Nat.mod_eq_of_lt h, Nat.shiftRight_eq_div_pow]
  exact (Int.ofNat_fdiv _ _).symm
theorem u32_bits {k : IntKind} (a : UInt32) : a.toNat < 4294967296 := a.toNat_lt

def u8w (b : UInt8) : UInt32 := UInt32.ofNat b.toNat
theorem u8w_nat (b : UInt8) : (u8w b).toNat = b.toNat := by
  unfold u8w
  have := b.toNat_lt
  rw [UInt32.toNat_ofNat', Nat.mod_eq_of_lt (by omega)]
theorem conv_u8w {s d : TypeId} {td : TypeDesc} {b : UInt8} (hu : P.underlying s = some td) (hu' : P.underlying d = some (.int .u32)) : convN P s d (bv b) w K = K (uv (u8w b)) w := by
  show insW P (convert s d (bv b)) w K = _
  unfold bv uv
  rw [conv_int hu hu', wrap_u32n, u8w_nat]
  have := b.toNat_lt
  rw [Nat.mod_eq_of_lt (by omega)]
theorem wrap_u8n (n : Nat) : IntKind.u8.wrap (n : Int) = ((UInt8.ofNat n).toNat : Int) := by
  rw [IntKind.wrap_u8, UInt8.toNat_ofNat']; omega
/-- A number's last byte. -/
theorem conv_byte {s d : TypeId} {td : TypeDesc} {k : IntKind} {n : Nat} (hu : P.underlying s = some td) (hu' : P.underlying d = some (.int .u8)) : convN P s d (.int k n) w K = K (bv (UInt8.ofNat n)) w := by
  show insW P (convert s d (.int k n)) w K = _
  unfold bv
  rw [conv_int hu hu', wrap_u8n]
theorem conv_b64 {s d : TypeId} {td : TypeDesc} {k : IntKind} {b : UInt8} (hu : P.underlying s = some td) (hu' : P.underlying d = some (.int .i64)) : convN P s d (bv b) w K = K (.int .i64 b.toNat) w := by
  show insW P (convert s d (bv b)) w K = _
  unfold bv
  have := b.toNat_lt
  rw [conv_int hu hu', i64_self (by omega)]
end

def rr (x : UInt32) (n : Nat) : UInt32 := x <<< UInt32.ofNat (32 - n) ||| x >>> UInt32.ofNat n
def shaK : List UInt32 := [
  0x428a2f98, 0x71374491, 0xb5c0fbcf, 0xe9b5dba5, 0x3956c25b, 0x59f111f1, 0x923f82a4, 0xab1c5ed5,
  0xd807aa98, 0x12835b01, 0x243185be, 0x550c7dc3, 0x72be5d74, 0x80deb1fe, 0x9bdc06a7, 0xc19bf174,
  0xe49b69c1, 0xefbe4786, 0x0fc19dc6, 0x240ca1cc, 0x2de92c6f, 0x4a7484aa, 0x5cb0a9dc, 0x76f988da,
  0x983e5152, 0xa831c66d, 0xb00327c8, 0xbf597fc7, 0xc6e00bf3, 0xd5a79147, 0x06ca6351, 0x14292967,
  0x27b70a85, 0x2e1b2138, 0x4d2c6dfc, 0x53380d13, 0x650a7354, 0x766a0abb, 0x81c2c92e, 0x92722c85,
  0xa2bfe8a1, 0xa81a664b, 0xc24b8b70, 0xc76c51a3, 0xd192e819, 0xd6990624, 0xf40e3585, 0x106aa070,
  0x19a4c116, 0x1e376c08, 0x2748774c, 0x34b0bcb5, 0x391c0cb3, 0x4ed8aa4a, 0x5b9cca4f, 0x682e6ff3,
  0x748f82ee, 0x78a5636f, 0x84c87814, 0x8cc70208, 0x90befffa, 0xa4506ceb, 0xbef9a3f7, 0xc67178f2]
def shaH : List UInt32 := [0x6a09e667, 0xbb67ae85, 0x3c6ef372, 0xa54ff53a, 0x510e527f, 0x9b05688c, 0x1f83d9ab, 0x5be0cd19]
def word (b : Bytes) (t : Nat) : UInt32 :=
  (((u8w (b.getD (4*t) 0)) <<< 8 ||| u8w (b.getD (4*t+1) 0)) <<< 8 ||| u8w (b.getD (4*t+2) 0)) <<< 8 ||| u8w (b.getD (4*t+3) 0)
def wNext (ws : List UInt32) (t : Nat) : UInt32 :=
  ws.getD (t - 16) 0 + (rr (ws.getD (t - 15) 0) 7 ^^^ rr (ws.getD (t - 15) 0) 18 ^^^ ws.getD (t - 15) 0 >>> 3) + ws.getD (t - 7) 0 + (rr (ws.getD (t - 2) 0) 17 ^^^ rr (ws.getD (t - 2) 0) 19 ^^^ ws.getD (t - 2) 0 >>> 10)
def wAt (b : Bytes) (ws : List UInt32) (t : Nat) : UInt32 := if t < 16 then word b t else wNext ws t
def sched (b : Bytes) : Nat → List UInt32
  | 0 => []
  | t + 1 => sched b t ++ [wAt b (sched b t) t]
structure St where
  (a b c d e f g h : UInt32)
def rnd (s : St) (k w : UInt32) : St :=
  let t1 := s.h + (rr s.e 6 ^^^ rr s.e 11 ^^^ rr s.e 25) + (s.e &&& s.f ^^^ ~~~s.e &&& s.g) + k + w
  let t2 := (rr s.a 2 ^^^ rr s.a 13 ^^^ rr s.a 22) + (s.a &&& s.b ^^^ s.a &&& s.c ^^^ s.b &&& s.c)
  ⟨t1 + t2, s.a, s.b, s.c, s.d + t1, s.e, s.f, s.g⟩
/-- so many rounds -/
def rnds (ws : List UInt32) : Nat → St → St
  | 0, s => s
  | t + 1, s => rnd (rnds ws t s) (shaK.getD t 0) (ws.getD t 0)
def St.list (s : St) : List UInt32 := [s.a, s.b, s.c, s.d, s.e, s.f, s.g, s.h]
def St.ofL (l : List UInt32) : St := ⟨l.getD 0 0, l.getD 1 0, l.getD 2 0, l.getD 3 0, l.getD 4 0, l.getD 5 0, l.getD 6 0, l.getD 7 0⟩
def compress (st : List UInt32) (b : Bytes) : List UInt32 := List.zipWith (· + ·) st (rnds (sched b 64) 64 (St.ofL st)).list
/-- The state behind so many blocks. -/
def absorb : Nat → List UInt32 → Bytes → List UInt32
  | 0, s, _ => s
  | k + 1, s, b => absorb k (compress s (b.take 64)) (b.drop 64)
def be8 (x : Nat) : Bytes := [x >>> 56, x >>> 48, x >>> 40, x >>> 32, x >>> 24, x >>> 16, x >>> 8, x].map UInt8.ofNat
def zeros (n : Nat) : Nat := (119 - n % 64) % 64
def padM (n : Nat) : Bytes := 128 :: List.replicate (zeros n) 0 ++ be8 (n * 8)
def outM (s : List UInt32) : Bytes := (List.range 32).map fun i => UInt8.ofNat (((s.getD (i / 4) 0).toNat >>> (24 - 8 * (i % 4))))
structure HM where
  st : List UInt32
  rest : Bytes
  n : Nat
def HM.take (h : HM) (b : Bytes) : HM := ⟨absorb ((h.rest ++ b).length / 64) h.st (h.rest ++ b), (h.rest ++ b).drop (64 * ((h.rest ++ b).length / 64)), h.n + b.length⟩
def hm (a : Bytes) : HM := ⟨absorb (a.length / 64) shaH a, a.drop (64 * (a.length / 64)), a.length⟩
def digest (a : Bytes) : Bytes := outM (absorb ((a ++ padM a.length).length / 64) shaH (a ++ padM a.length))

theorem sched_length (b : Bytes) (t : Nat) : (sched b t).length = t := by
  induction t with
  | zero => rfl
  | succ t ih => simp [sched, ih]
theorem compress_length (s : List UInt32) (b : Bytes) (h : s.length = 8) : (compress s b).length = 8 := by
  simp [compress, St.list, h]
theorem absorb_length (k : Nat) : ∀ (s : List UInt32) (b : Bytes), s.length = 8 → (absorb k s b).length = 8 := by
  induction k with
  | zero => intro s b h; exact h
  | succ k ih => intro s b h; exact ih _ _ (compress_length _ _ h)
theorem outM_length (s : List UInt32) : (outM s).length = 32 := by simp [outM]
theorem digest_length (a : Bytes) : (digest a).length = 32 := outM_length _
theorem be8_length (x : Nat) : (be8 x).length = 8 := rfl
theorem padM_length (n : Nat) : (padM n).length = 9 + zeros n := by simp [padM, be8_length]; omega
theorem pad_mod (n : Nat) : (n + (padM n).length) % 64 = 0 := by rw [padM_length]; unfold zeros; omega

theorem absorb_append (x y : Bytes) (i j : Nat) (s : List UInt32) (h : x.length = 64 * i) : absorb (i + j) s (x ++ y) = absorb j (absorb i s x) y := by
  induction i generalizing x s with
  | zero =>
    have : x = [] := List.length_eq_zero_iff.1 (by omega)
    subst this
    simp [absorb]
  | succ i ih =>
    rw [show i + 1 + j = (i + j) + 1 by omega]
    show absorb (i + j) (compress s ((x ++ y).take 64)) ((x ++ y).drop 64) = absorb j (absorb i (compress s (x.take 64)) (x.drop 64)) y
    rw [List.take_append_of_le_length (by omega), List.drop_append_of_le_length (by omega), ih _ _ (by simp; omega)]
/-- What stands behind the blocks doesn't count. -/
theorem absorb_take (i : Nat) (s : List UInt32) (x : Bytes) (h : 64 * i ≤ x.length) : absorb i s x = absorb i s (x.take (64 * i)) := by
  have := absorb_append (x.take (64 * i)) (x.drop (64 * i)) i 0 s (by simp; omega)
  rw [List.take_append_drop, Nat.add_zero] at this
  exact this
theorem hm_take (a b : Bytes) : (hm a).take b = hm (a ++ b) := by
  unfold HM.take hm
  simp only
  have ha : a.take (64 * (a.length / 64)) ++ a.drop (64 * (a.length / 64)) = a := List.take_append_drop _ _
  have hl : (a.take (64 * (a.length / 64))).length = 64 * (a.length / 64) := by simp; omega
  have key : ∀ j, absorb j (absorb (a.length / 64) shaH a) (a.drop (64 * (a.length / 64)) ++ b) = absorb (a.length / 64 + j) shaH (a ++ b) := by
    intro j
    have := absorb_append (a.take (64 * (a.length / 64))) (a.drop (64 * (a.length / 64)) ++ b) (a.length / 64) j shaH hl
    rw [← List.append_assoc, ha] at this
    rw [this, ← absorb_take _ _ _ (by omega)]
  have hn : (a.drop (64 * (a.length / 64)) ++ b).length / 64 + a.length / 64 = (a ++ b).length / 64 := by simp; omega
  congr 1
  · rw [key, ← hn, Nat.add_comm]
  · rw [← hn, Nat.mul_add, Nat.add_comm, ← List.drop_drop]
    congr 1
    exact (List.drop_append_of_le_length (by omega)).symm
  · simp
theorem hm_new : (⟨shaH, [], 0⟩ : HM) = hm [] := rfl
/-- The digest is the state behind what was taken in and what stands behind it. -/
theorem digest_hm (a : Bytes) : outM ((hm a).take (padM a.length)).st = digest a := by rw [hm_take]; rfl
theorem hm_n (a : Bytes) : (hm a).n = a.length := rfl
theorem hm_st (a : Bytes) : (hm a).st.length = 8 := absorb_length _ _ _ rfl
theorem hm_rest (a : Bytes) : (hm a).rest.length < 64 := by simp [hm]; omega

def uq (x : UInt64) : Value := .int .u64 x.toNat
def uqs (l : List UInt64) : List Value := l.map uq
theorem uqs_length (l : List UInt64) : (uqs l).length = l.length := by simp [uqs]
theorem uqs_one (l : List UInt64) : ∀ x ∈ uqs l, x.oneCell' = true := by
  intro x hx
  obtain ⟨b, _, rfl⟩ := List.mem_map.1 hx
  rfl
theorem uqs_get {l : List UInt64} {i : Nat} (h : i < l.length) : (uqs l)[i]? = some (uq (l.getD i 0)) := by
  simp [uqs, List.getElem?_map, h]
theorem uqs_append (a b : List UInt64) : uqs (a ++ b) = uqs a ++ uqs b := by simp [uqs]
theorem uqs_set (l : List UInt64) (i : Nat) (x : UInt64) : (uqs l).set i (uq x) = uqs (l.set i x) := by simp [uqs, List.map_set]

section
variable {P : Program} {w : World} {K : VPost} {t : TypeId} {c : Bool}

theorem wrap_u64 (n : Int) : IntKind.u64.wrap n = n % 18446744073709551616 := by simp [IntKind.wrap, IntKind.signed, IntKind.bits]
theorem wrap_u64n (n : Nat) : IntKind.u64.wrap (n : Int) = ((n % 18446744073709551616 : Nat) : Int) := by
  rw [wrap_u64]; omega

theorem u64_add {a b : UInt64} : binN P .add t c (uq a) (uq b) w K = K (uq (a + b)) w := by
  show binW P .add t c (uq a) (uq b) w K = _
  unfold uq
  rw [bin_add, ← Int.natCast_add, wrap_u64n, UInt64.toNat_add]

theorem ofInt_u64 (a : UInt64) : BitVec.ofInt IntKind.u64.bits ((a.toNat : Nat) : Int) = a.toBitVec := by
  apply BitVec.eq_of_toNat_eq
  rw [BitVec.toNat_ofInt]
  have := a.toNat_lt
  show (((a.toNat : Nat) : Int) % ((2 ^ 64 : Nat) : Int)).toNat = a.toNat
  omega

theorem bits_u64 {op : BinOp} {f : BitVec 64 → BitVec 64 → BitVec 64} (x y : UInt64) (hb : binOp op t (uq x) (uq y) = (pure (.int .u64 (IntKind.u64.wrap ((f (BitVec.ofInt 64 (x.toNat : Int)) (BitVec.ofInt 64 (y.toNat : Int))).toNat : Nat))) : Sem Value)) (hg : ∀ w, (guardE op t c (uq x) (uq y)).run P w = .ok () w) :
    binW P op t c (uq x) (uq y) w K = K (.int .u64 ((f x.toBitVec y.toBitVec).toNat : Nat)) w := by
  unfold binW insW binE
  rw [Sem.run_bind, hg, Result.andThen_ok, hb, Sem.run_pure]
  have h1 : BitVec.ofInt 64 ((x.toNat : Nat) : Int) = x.toBitVec := ofInt_u64 x
  have h2 : BitVec.ofInt 64 ((y.toNat : Nat) : Int) = y.toBitVec := ofInt_u64 y
  rw [h1, h2, wrap_u64n]
  have := (f x.toBitVec y.toBitVec).isLt
  rw [Nat.mod_eq_of_lt (by omega)]
  rfl

theorem u64_xor {a b : UInt64} : binN P .xor t c (uq a) (uq b) w K = K (uq (a ^^^ b)) w := by
  show binW P .xor t c (uq a) (uq b) w K = _
  rw [bits_u64 (f := (· ^^^ ·)) a b rfl (fun _ => by cases c <;> rfl)]
  rfl
theorem u64_and {a b : UInt64} : binN P .and t c (uq a) (uq b) w K = K (uq (a &&& b)) w := by
  show binW P .and t c (uq a) (uq b) w K = _
  rw [bits_u64 (f := (· &&& ·)) a b rfl (fun _ => by cases c <;> rfl)]
  rfl
theorem u64_or {a b : UInt64} : binN P .or t c (uq a) (uq b) w K = K (uq (a ||| b)) w := by
  show binW P .or t c (uq a) (uq b) w K = _
  rw [bits_u64 (f := (· ||| ·)) a b rfl (fun _ => by cases c <;> rfl)]
  rfl
theorem u64_not {a : UInt64} : unN P .xor (uq a) w K = K (uq (~~~ a)) w := by
  show insW P (Op.unary .xor (uq a)) w K = _
  unfold insW
  have : Op.unary .xor (uq a) = (pure (.int .u64 (IntKind.u64.wrap ((BitVec.ofInt 64 (18446744073709551615 : Int) ^^^ BitVec.ofInt 64 (a.toNat : Int)).toNat : Nat))) : Sem Value) := rfl
  rw [this, Sem.run_pure]
  have h1 : BitVec.ofInt 64 ((a.toNat : Nat) : Int) = a.toBitVec := ofInt_u64 a
  rw [h1, wrap_u64n]
  have h2 : BitVec.ofInt 64 (18446744073709551615 : Int) = BitVec.allOnes 64 := by decide
  rw [h2, BitVec.allOnes_xor]
  have := (~~~ a.toBitVec).isLt
  rw [Nat.mod_eq_of_lt (by omega)]
  rfl
theorem u64_shl {a : UInt64} {k : IntKind} {s : Nat} (h : s < 64) : binN P .shl t c (uq a) (.int k s) w K = K (uq (a <<< UInt64.ofNat s)) w := by
  show binW P .shl t c (uq a) (.int k s) w K = _
  unfold uq
  rw [bin_shl (by omega)]
  congr 2
  have h1 : min ((s : Int).toNat) IntKind.u64.bits = s := by
    show min ((s : Int).toNat) 64 = s
    omega
  rw [h1]
  have h2 : ((a.toNat : Int) * 2 ^ s) = ((a.toNat * 2 ^ s : Nat) : Int) := by rw [Int.natCast_mul, Int.natCast_pow]; rfl
  rw [h2, wrap_u64n, UInt64.toNat_shiftLeft]
  congr 1
  rw [UInt64.toNat_ofNat', Nat.mod_eq_of_lt (show s < 2 ^ 64 by omega), Nat.mod_eq_of_lt h, Nat.shiftLeft_eq]
theorem u64_shr {a : UInt64} {k : IntKind} {s : Nat} (h : s < 64) : binN P .shr t c (uq a) (.int k s) w K = K (uq (a >>> UInt64.ofNat s)) w := by
  show binW P .shr t c (uq a) (.int k s) w K = _
  unfold uq
  rw [bin_shr (by omega)]
  congr 2
  have h1 : min ((s : Int).toNat) IntKind.u64.bits = s := by
    show min ((s : Int).toNat) 64 = s
    omega
  rw [h1]
  have h2 : (2 : Int) ^ s = ((2 ^ s : Nat) : Int) := by rw [Int.natCast_pow]; rfl
  rw [h2, UInt64.toNat_shiftRight, UInt64.toNat_ofNat', Nat.mod_eq_of_lt (show s < 2 ^ 64 by omega), Nat.mod_eq_of_lt h, Nat.shiftRight_eq_div_pow]
  exact (Int.ofNat_fdiv _ _).symm

theorem u64_sub {a b : UInt64} : binN P .sub t c (uq a) (uq b) w K = K (uq (a - b)) w := by
  show binW P .sub t c (uq a) (uq b) w K = _
  unfold uq
  have ha := a.toNat_lt
  have hb := b.toNat_lt
  rw [bin_sub, wrap_u64, UInt64.toNat_sub]
  congr 2
  omega
theorem u64_mul {a b : UInt64} : binN P .mul t c (uq a) (uq b) w K = K (uq (a * b)) w := by
  show binW P .mul t c (uq a) (uq b) w K = _
  unfold uq
  rw [bin_mul, ← Int.natCast_mul, wrap_u64n, UInt64.toNat_mul]
theorem u64_lss {a b : UInt64} : binN P .lss t c (uq a) (uq b) w K = K (.bool (decide (a < b))) w := by
  show binW P .lss t c (uq a) (uq b) w K = _
  unfold uq
  rw [bin_lss]
  congr 2
  rw [decide_eq_decide, UInt64.lt_iff_toNat_lt]
  omega
theorem u64_leq {a b : UInt64} : binN P .leq t c (uq a) (uq b) w K = K (.bool (decide (a ≤ b))) w := by
  show binW P .leq t c (uq a) (uq b) w K = _
  unfold uq
  rw [bin_leq]
  congr 2
  rw [decide_eq_decide, UInt64.le_iff_toNat_le]
  omega
theorem u64_eql {a b : UInt64} : binN P .eql t c (uq a) (uq b) w K = K (.bool (decide (a = b))) w := by
  show binW P .eql t c (uq a) (uq b) w K = _
  unfold uq
  rw [bin_eql]
  congr 2
  rw [Bool.eq_iff_iff]
  simp [← UInt64.toNat_inj]
  omega
theorem u64_neq {a b : UInt64} : binN P .neq t c (uq a) (uq b) w K = K (.bool (!decide (a = b))) w := by
  show binW P .neq t c (uq a) (uq b) w K = _
  unfold uq
  rw [bin_neq]
  congr 2
  rw [Bool.eq_iff_iff]
  simp [← UInt64.toNat_inj]
  omega
theorem u64_rem {a b : UInt64} (h : b ≠ 0) : binN P .rem t c (uq a) (uq b) w K = K (uq (a % b)) w := by
  show binW P .rem t c (uq a) (uq b) w K = _
  unfold uq
  have h0 : (b.toNat : Int) ≠ 0 := fun e => h (UInt64.toNat_inj.1 (by simpa using e))
  rw [bin_rem h0, UInt64.toNat_mod]
  rfl
theorem conv_u64n {s d : TypeId} {td : TypeDesc} {k : IntKind} {n : Nat} (hu : P.underlying s = some td) (hu' : P.underlying d = some (.int .u64)) (hn : n < 18446744073709551616) : convN P s d (.int k n) w K = K (uq (UInt64.ofNat n)) w := by
  show insW P (convert s d (.int k n)) w K = _
  unfold uq
  rw [conv_int hu hu', wrap_u64n, UInt64.toNat_ofNat']
theorem conv_u64u32 {s d : TypeId} {td : TypeDesc} {x : UInt64} (hu : P.underlying s = some td) (hu' : P.underlying d = some (.int .u32)) : convN P s d (uq x) w K = K (uv x.toUInt32) w := by
  show insW P (convert s d (uq x)) w K = _
  unfold uq uv
  rw [conv_int hu hu', wrap_u32n]
  rfl
end

theorem ch_or (e f g : UInt32) : e &&& f ||| ~~~e &&& g = e &&& f ^^^ ~~~e &&& g := by
  apply UInt32.eq_of_toBitVec_eq
  simp only [UInt32.toBitVec_or, UInt32.toBitVec_and, UInt32.toBitVec_xor, UInt32.toBitVec_not]
  apply BitVec.eq_of_getLsbD_eq
  intro i hi
  simp only [BitVec.getLsbD_or, BitVec.getLsbD_and, BitVec.getLsbD_xor, BitVec.getLsbD_not, hi, decide_true, Bool.true_and]
  cases e.toBitVec.getLsbD i <;> cases f.toBitVec.getLsbD i <;> cases g.toBitVec.getLsbD i <;> rfl
theorem maj_or (a b c : UInt32) : a &&& b ||| a &&& c ||| b &&& c = a &&& b ^^^ a &&& c ^^^ b &&& c := by
  apply UInt32.eq_of_toBitVec_eq
  simp only [UInt32.toBitVec_or, UInt32.toBitVec_and, UInt32.toBitVec_xor]
  apply BitVec.eq_of_getLsbD_eq
  intro i _
  simp only [BitVec.getLsbD_or, BitVec.getLsbD_and, BitVec.getLsbD_xor]
  cases a.toBitVec.getLsbD i <;> cases b.toBitVec.getLsbD i <;> cases c.toBitVec.getLsbD i <;> rfl
theorem word_or (a b c d : UInt32) : ((a <<< 8 ||| b) <<< 8 ||| c) <<< 8 ||| d = a <<< 24 ||| b <<< 16 ||| c <<< 8 ||| d := by
  apply UInt32.eq_of_toBitVec_eq
  simp only [UInt32.toBitVec_or, UInt32.toBitVec_shiftLeft]
  have h8 : (UInt32.toBitVec 8 % 32) = 8#32 := by decide
  have h16 : (UInt32.toBitVec 16 % 32) = 16#32 := by decide
  have h24 : (UInt32.toBitVec 24 % 32) = 24#32 := by decide
  rw [h8, h16, h24]
  simp only [BitVec.shiftLeft_eq', BitVec.reduceToNat]
  simp only [BitVec.shiftLeft_or_distrib, ← BitVec.shiftLeft_add]
theorem zero_shl (b : UInt32) : (0 : UInt32) <<< 8 ||| b = b := by
  simp

def getU (l : List UInt64) (i : Nat) : UInt64 := l.getD i 0
def timesJ (x : UInt64) (i : Nat) : List UInt64 → Nat → List UInt64 → UInt64 → List UInt64 × UInt64
  | [], _, out, c => (out, c)
  | y :: r, j, out, c =>
    timesJ x i r (j + 1) (out.set (i + j) ((getU out (i + j) + x * y + c) &&& 0xffff)) ((getU out (i + j) + x * y + c) >>> 16)
def timesI (b : List UInt64) : List UInt64 → Nat → List UInt64 → List UInt64
  | [], _, out => out
  | x :: r, i, out =>
    timesI b r (i + 1) ((timesJ x i b 0 out 0).1.set (i + b.length) (getU (timesJ x i b 0 out 0).1 (i + b.length) + (timesJ x i b 0 out 0).2))
def times (a b : List UInt64) : List UInt64 := timesI b a 0 (List.replicate (a.length + b.length) 0)
def cmpF (s want : List UInt64) : Nat → Bool
  | 0 => true
  | i + 1 => if getU s i = getU want i then cmpF s want i else decide (getU s i < getU want i)
def belowF (y p : UInt64) : Bool :=
  cmpF (times (times [y &&& 0xffff, y >>> 16 &&& 0xffff, y >>> 32] [y &&& 0xffff, y >>> 16 &&& 0xffff, y >>> 32]) [y &&& 0xffff, y >>> 16 &&& 0xffff, y >>> 32] ++ List.replicate 7 0) ((List.replicate 16 0).set 6 p) 16
def cubeF (p : UInt64) : Nat → UInt64 → UInt64
  | 0, x => x
  | k + 1, x => cubeF p k (if belowF (x + UInt64.ofNat (1 <<< k)) p then x + UInt64.ofNat (1 <<< k) else x)

def hi32 (y : UInt64) : UInt64 := y >>> (32 : UInt64)
def lo32 (y : UInt64) : UInt64 := y &&& (4294967295 : UInt64)
def sqMid (y : UInt64) : UInt64 := (2 : UInt64) * hi32 y * lo32 y + hi32 (lo32 y * lo32 y)
def sqTop (y : UInt64) : UInt64 := hi32 y * hi32 y + hi32 (sqMid y)
def sqRest (y : UInt64) : UInt64 := lo32 (sqMid y) <<< (32 : UInt64) ||| lo32 (lo32 y * lo32 y)
def sqC (p y : UInt64) : Bool := decide (sqTop y < p) || decide (sqTop y = p) && decide (sqRest y = 0)
def squareF (p : UInt64) : Nat → UInt64 → UInt64
  | 0, x => x
  | k + 1, x => squareF p k (if sqC p (x + UInt64.ofNat (1 <<< k)) = true then x + UInt64.ofNat (1 <<< k) else x)
def inn : Nat → UInt64 → UInt64 → Bool → Option Bool
  | 0, _, _, _ => none
  | k + 1, p, q, r => if q * q ≤ p then (if q = 0 then none else inn k p (q + 1) (if p % q = 0 then false else r)) else some r
def prs : Nat → Nat → UInt64 → List UInt64 → Option (List UInt64)
  | 0, _, _, _ => none
  | k + 1, n, p, out => if out.length < n then (inn 100 p 2 true).bind fun b => prs k n (p + 1) (if b = true then out ++ [p] else out) else some out
def primes64 : List UInt64 := [2, 3, 5, 7, 11, 13, 17, 19, 23, 29, 31, 37, 41, 43, 47, 53, 59, 61, 67, 71, 73, 79, 83, 89, 97, 101, 103, 107, 109, 113, 127, 131, 137, 139, 149, 151, 157, 163, 167, 173, 179, 181, 191, 193, 197, 199, 211, 223, 227, 229, 233, 239, 241, 251, 257, 263, 269, 271, 277, 281, 283, 293, 307, 311]
theorem prs64 : prs 400 64 2 [] = some primes64 := by decide +kernel
theorem prs8 : prs 400 8 2 [] = some (primes64.take 8) := by decide +kernel
theorem square8 : (primes64.take 8).map (fun p => (squareF p 36 0).toUInt32) = shaH := by decide +kernel

/-- An element of one cell. -/
theorem RdSl.get1 {w : World} {v : Value} {ys : List Value} {i m : Nat} (h : RdSl w v 1 ys m) (hi : i < ys.length) (k : IntKind) :
    ∃ b o, (∀ K : VPost, K (.pointer (some ⟨b, o, none⟩)) w → idxW (some (none, 1)) v (.int k i) w K) ∧ (∀ K : VPost, K ys[i] w → loadW (some (false, 1)) (.pointer (some ⟨b, o, none⟩)) w K) := by
  obtain ⟨hl, ⟨h0, _⟩ | ⟨b, o, c, cs, rfl, hb, h1, h2⟩⟩ := h
  · rw [h0] at hi; simp at hi
  · refine ⟨b, o + i * 1, fun K hK => idx_i (by omega) hK, fun K hK => load1 hb ?_ hK⟩
    have h3 : ys[i]? = some ys[i] := List.getElem?_eq_getElem hi
    rw [← h3, ← h1, List.getElem?_take, if_pos (by omega), List.getElem?_drop, Nat.mul_one]

/-- The rows that headers head. -/
def RowsL (w : World) : List Value → List Bytes → Prop
  | [], [] => True
  | h :: hs, l :: ls => (RdSl w h 1 (bc l) l.length ∧ capOk h) ∧ RowsL w hs ls
  | _, _ => False
def rowsF : List Value → List Bytes → List Nat
  | h :: hs, l :: ls => rdB h (bc l) ++ rowsF hs ls
  | _, _ => []
theorem RowsL.length {w : World} : ∀ {hs : List Value} {ls : List Bytes}, RowsL w hs ls → hs.length = ls.length
  | [], [], _ => rfl
  | _ :: hs, _ :: ls, h => by simp [RowsL.length h.2]
theorem RowsL.get {w : World} : ∀ {hs : List Value} {ls : List Bytes}, RowsL w hs ls → ∀ (i : Nat) (h1 : i < hs.length) (h2 : i < ls.length), RdSl w hs[i] 1 (bc ls[i]) ls[i].length ∧ capOk hs[i]
  | _ :: _, _ :: _, h, 0, _, _ => h.1
  | _ :: hs, _ :: ls, h, i + 1, h1, h2 => RowsL.get h.2 i (by simpa using h1) (by simpa using h2)
theorem rowsF_get : ∀ {hs : List Value} {ls : List Bytes} (i : Nat) (h1 : i < hs.length) (h2 : i < ls.length), ∀ b ∈ rdB hs[i] (bc ls[i]), b ∈ rowsF hs ls
  | _ :: _, _ :: _, 0, _, _, b, hb => List.mem_append_left _ hb
  | _ :: hs, _ :: ls, i + 1, h1, h2, b, hb => List.mem_append_right _ (rowsF_get i (by simpa using h1) (by simpa using h2) b hb)
theorem RowsL.lt {w : World} : ∀ {hs : List Value} {ls : List Bytes}, RowsL w hs ls → ∀ b ∈ rowsF hs ls, b < w.heap.size
  | [], [], _, b, hb => by simp [rowsF] at hb
  | h :: hs, l :: ls, hh, b, hb => by
    rcases List.mem_append.1 hb with hb | hb
    · exact (rR h 1 (bc l) l.length).lt hh.1.1 b hb
    · exact RowsL.lt hh.2 b hb
theorem RowsL.keep {w w' : World} {S : List Nat} (e : Ext S w w') : ∀ {hs : List Value} {ls : List Bytes}, RowsL w hs ls → (∀ b ∈ rowsF hs ls, b ∉ S) → RowsL w' hs ls
  | [], [], _, _ => trivial
  | h :: hs, l :: ls, hh, hd => ⟨⟨(rR h 1 (bc l) l.length).keep hh.1.1 e (fun b hb => hd b (List.mem_append_left _ hb)), hh.1.2⟩, RowsL.keep e hh.2 (fun b hb => hd b (List.mem_append_right _ hb))⟩
theorem RowsL.append {w : World} {h : Value} {l : Bytes} (h1 : RdSl w h 1 (bc l) l.length) (h2 : capOk h) : ∀ {hs : List Value} {ls : List Bytes}, RowsL w hs ls → RowsL w (hs ++ [h]) (ls ++ [l])
  | [], [], _ => ⟨⟨h1, h2⟩, trivial⟩
  | _ :: _, _ :: _, hh => ⟨hh.1, RowsL.append h1 h2 hh.2⟩

/-- A slice of rows that is read. -/
def RowsR (w : World) (v : Value) (hs : List Value) (ls : List Bytes) : Prop := RdSl w v 1 hs hs.length ∧ RowsL w hs ls
def rW (v : Value) (hs : List Value) (ls : List Bytes) : Res :=
  ⟨rdB v hs ++ rowsF hs ls, fun w => RowsR w v hs ls, fun h b hb => by
    rcases List.mem_append.1 hb with hb | hb
    · exact (rR v 1 hs hs.length).lt h.1 b hb
    · exact h.2.lt b hb, fun h e hd => ⟨(rR v 1 hs hs.length).keep h.1 e (fun b hb => hd b (List.mem_append_left _ hb)), h.2.keep e (fun b hb => hd b (List.mem_append_right _ hb))⟩⟩
theorem RowsR.len {w : World} {v : Value} {hs : List Value} {ls : List Bytes} (h : RowsR w v hs ls) : ∃ a c, v = .slice a ls.length c := by
  obtain ⟨a, c, e⟩ := h.1.len
  exact ⟨a, c, by rw [e, h.2.length]⟩
/-- A row. -/
theorem RowsR.elem {w : World} {v : Value} {hs : List Value} {ls : List Bytes} (h : RowsR w v hs ls) {i : Nat} (hi : i < ls.length) (k : IntKind) :
    ∃ b o r, (∀ K : VPost, K (.pointer (some ⟨b, o, none⟩)) w → idxW (some (none, 1)) v (.int k i) w K) ∧ (∀ K : VPost, K r w → loadW (some (false, 1)) (.pointer (some ⟨b, o, none⟩)) w K) ∧
      RdSl w r 1 (bc ls[i]) ls[i].length ∧ capOk r ∧ ∀ c ∈ rdB r (bc ls[i]), c ∈ rdB v hs ++ rowsF hs ls := by
  have hl := h.2.length
  obtain ⟨b, o, h1, h2⟩ := h.1.get1 (i := i) (by omega) k
  obtain ⟨h3, h4⟩ := h.2.get i (by omega) hi
  exact ⟨b, o, _, h1, h2, h3, h4, fun c hc => List.mem_append_right _ (rowsF_get i (by omega) hi c hc)⟩

theorem OwnAt.at1 {w : World} {v : Value} {e : TypeId} {xs : List Value} {n k : Nat} (h : OwnAt w v e 1 xs n) (hk : k < n) (kk : IntKind) : ∃ b o, slB v = [b] ∧ (∀ K : VPost, K (.pointer (some ⟨b, o, none⟩)) w → idxW (some (none, 1)) v (.int kk k) w K) ∧
    (∀ (y : Value) (K : VPost), xs[k]? = some y → K y w → loadW (some (false, 1)) (.pointer (some ⟨b, o, none⟩)) w K) ∧
    (∀ (g : Bool) (y : Value) (K : World → Prop), y.cells = #[y] → y.oneCell' = true → (∀ w', Ext [b] w w' → OwnAt w' v e 1 (xs.set k y) n → K w') → storeW (some (g, 1)) (.pointer (some ⟨b, o, none⟩)) y w K) := by
  rcases h with ⟨rfl, rfl, rfl⟩ | ⟨b, o, c, cs, rfl, hb, hl, ht, hc, hn⟩
  · omega
  · rw [Nat.mul_one] at hl ht hc
    refine ⟨b, o + k * 1, rfl, fun K hK => idx_i hk hK, fun y K hy hK => load1 hb.r ?_ hK, fun g y K hy h1 hK => store1 hb hy (by omega) h1 fun w' e' hb' _ => hK w' e' (.inr ⟨b, o, c, _, rfl, hb', ?_, ?_, ?_, hn⟩)⟩
    · rw [← ht, List.getElem?_take, if_pos hk, List.getElem?_drop] at hy
      rw [Nat.mul_one]; exact hy
    · rw [List.length_set, Nat.mul_one]; exact hl
    · rw [Nat.mul_one, Nat.mul_one, ← ht]
      apply List.ext_getElem?
      intro j
      rw [List.getElem?_take, List.getElem?_drop, List.getElem?_set, List.getElem?_set, List.getElem?_take, List.getElem?_drop, List.length_take, List.length_drop]
      by_cases hj : j < n
      · by_cases hjk : k = j
        · subst hjk
          have h1 : o + k < cs.length := by omega
          have h2 : k < min n (cs.length - o) := by omega
          simp [hj, h1, h2]
        · have h3 : ¬ o + k = o + j := by omega
          simp [hj, hjk, h3]
      · have hjk : ¬ k = j := by omega
        simp [hj, hjk]
    · rw [List.length_set, Nat.mul_one]; exact hc

section
variable {P : Program} {w : World} {K : VPost} {t : TypeId} {c : Bool}
theorem u8_add {a b : UInt8} : binN P .add t c (bv a) (bv b) w K = K (bv (a + b)) w := by
  show binW P .add t c (bv a) (bv b) w K = _
  unfold bv
  rw [bin_add, ← Int.natCast_add, wrap_u8n]
  congr 3
end

/-- A byte of one's own, read and written. -/
theorem Sep.byteAt {S : List Nat} {w0 w : World} {L R : List Res} {v : Value} {l : Bytes} {n k : Nat} (s : Sep S w0 w L R) (i : Nat) (hL : L[i]? = some (rO v 5 1 (bc l) n)) (hk : k < n) (kk : IntKind) :
    ∃ b o, (∀ K : VPost, K (.pointer (some ⟨b, o, none⟩)) w → idxW (some (none, 1)) v (.int kk k) w K) ∧ (∀ (K : VPost), K (bv (l.getD k 0)) w → loadW (some (false, 1)) (.pointer (some ⟨b, o, none⟩)) w K) ∧
    (∀ (g : Bool) (y : UInt8) (K : World → Prop), (∀ w', Sep S w0 w' (L.set i (rO v 5 1 (bc (l.set k y)) n)) R → K w') → storeW (some (g, 1)) (.pointer (some ⟨b, o, none⟩)) (bv y) w K) := by
  have ho : OwnAt w v 5 1 (bc l) n := s.at i hL
  have hl : l.length = n := by have := ho.rd.1; rw [bc_length, Nat.mul_one] at this; exact this
  obtain ⟨b, o, hb, h1, h2, h3⟩ := ho.at1 hk kk
  refine ⟨b, o, h1, fun K hK => h2 _ K (bc_get (by omega)) hK, fun g y K hK => h3 g (bv y) K rfl rfl fun w' e hw => hK w' ?_⟩
  rw [bc_set] at hw
  exact s.upd (T := rO v 5 1 (bc l) n) i hL (T' := rO v 5 1 (bc (l.set k y)) n) hw (by show Ext (slB v) w w'; rw [hb]; exact e) (fun x hx => .inl hx)
end Go.Proofs.YtbaddpnlokmldaaDoor
