/- SHA-256 as plain Lean: words, a block's state, digests; what parts come to. -/
import Derived.Test.YtedebapgmfnflaaS0
namespace Go.Proofs.Ytedebapgmfnflaa
set_option maxRecDepth 100000

def rr (x : UInt32) (n : Nat) : UInt32 := x <<< UInt32.ofNat (32 - n) ||| x >>> UInt32.ofNat n
def shaK : List UInt32 := [
  0x428a2f98, 0x71374491, 0xb5c0fbcf, 0xe9b5dba5, 0x3956c25b, 0x59f111f1, 0x923f82a4, 0xab1c5ed5,
  0xd807aa98, 0x12835b01, 0x243185be, 0x550c7dc3, 0x72be5d74, 0x80deb1fe, 0x9bdc06a7, 0xc19bf174,
  0xe49b69c1, 0xefbe4786, 0x0fc19dc6, 0x240ca1cc, 0x2de92c6f, 0x4a7484aa, 0x5cb0a9dc, 0x76f988da,
  0x983e5152, 0xa831c66d, 0xb00327c8, 0xbf597fc7, 0xc6e00bf3, 0xd5a79147, 0x06ca6351, 0x14292967,
  0x27b70a85, 0x2e1b2138, 0x4d2c6dfc, 0x53380d13, 0x650a7354, 0x766a0abb, 0x81c2c92e, 0x92722c85,
  0xa2bfe8a1, 0xa81a664b, 0xc24b8b70, 0xc76c51a3, 0xd192e819, 0xd6990624, 0xf40e3585, 0x106aa070,
  0x19a4c116, 0x1e376c08, 0x2748774c, 0x34b0bcb5, 0x391c0cb3, 0x4ed8aa4a, 0x5b9cca4f, 0x682e6ff3,
  0x748f82ee, 0x78a5636f, 0x84c87814, 0x8cc70208, 0x90befffa, 0xa4506ceb, 0xbef9a3f7, 0xc67178f2]
def shaH : List UInt32 := [0x6a09e667, 0xbb67ae85, 0x3c6ef372, 0xa54ff53a, 0x510e527f, 0x9b05688c, 0x1f83d9ab, 0x5be0cd19]
def word (b : Bytes) (t : Nat) : UInt32 :=
  (((u8w (b.getD (4*t) 0)) <<< 8 ||| u8w (b.getD (4*t+1) 0)) <<< 8 ||| u8w (b.getD (4*t+2) 0)) <<< 8 ||| u8w (b.getD (4*t+3) 0)
def wNext (ws : List UInt32) (t : Nat) : UInt32 :=
  ws.getD (t - 16) 0 + (rr (ws.getD (t - 15) 0) 7 ^^^ rr (ws.getD (t - 15) 0) 18 ^^^ ws.getD (t - 15) 0 >>> 3) + ws.getD (t - 7) 0 + (rr (ws.getD (t - 2) 0) 17 ^^^ rr (ws.getD (t - 2) 0) 19 ^^^ ws.getD (t - 2) 0 >>> 10)
def wAt (b : Bytes) (ws : List UInt32) (t : Nat) : UInt32 := if t < 16 then word b t else wNext ws t
def sched (b : Bytes) : Nat → List UInt32
  | 0 => []
  | t + 1 => sched b t ++ [wAt b (sched b t) t]
structure St where
  (a b c d e f g h : UInt32)
def rnd (s : St) (k w : UInt32) : St :=
  let t1 := s.h + (rr s.e 6 ^^^ rr s.e 11 ^^^ rr s.e 25) + (s.e &&& s.f ^^^ ~~~s.e &&& s.g) + k + w
  let t2 := (rr s.a 2 ^^^ rr s.a 13 ^^^ rr s.a 22) + (s.a &&& s.b ^^^ s.a &&& s.c ^^^ s.b &&& s.c)
  ⟨t1 + t2, s.a, s.b, s.c, s.d + t1, s.e, s.f, s.g⟩
/-- so many rounds -/
def rnds (ws : List UInt32) : Nat → St → St
  | 0, s => s
  | t + 1, s => rnd (rnds ws t s) (shaK.getD t 0) (ws.getD t 0)
def St.list (s : St) : List UInt32 := [s.a, s.b, s.c, s.d, s.e, s.f, s.g, s.h]
def St.ofL (l : List UInt32) : St := ⟨l.getD 0 0, l.getD 1 0, l.getD 2 0, l.getD 3 0, l.getD 4 0, l.getD 5 0, l.getD 6 0, l.getD 7 0⟩
def compress (st : List UInt32) (b : Bytes) : List UInt32 := List.zipWith (· + ·) st (rnds (sched b 64) 64 (St.ofL st)).list
/-- The state behind so many blocks. -/
def absorb : Nat → List UInt32 → Bytes → List UInt32
  | 0, s, _ => s
  | k + 1, s, b => absorb k (compress s (b.take 64)) (b.drop 64)
def be8 (x : Nat) : Bytes := [x >>> 56, x >>> 48, x >>> 40, x >>> 32, x >>> 24, x >>> 16, x >>> 8, x].map UInt8.ofNat
def zeros (n : Nat) : Nat := (119 - n % 64) % 64
def padM (n : Nat) : Bytes := 128 :: List.replicate (zeros n) 0 ++ be8 (n * 8)
def outM (s : List UInt32) : Bytes := (List.range 32).map fun i => UInt8.ofNat (((s.getD (i / 4) 0).toNat >>> (24 - 8 * (i % 4))))
structure HM where
  st : List UInt32
  rest : Bytes
  n : Nat
def HM.take (h : HM) (b : Bytes) : HM := ⟨absorb ((h.rest ++ b).length / 64) h.st (h.rest ++ b), (h.rest ++ b).drop (64 * ((h.rest ++ b).length / 64)), h.n + b.length⟩
def hm (a : Bytes) : HM := ⟨absorb (a.length / 64) shaH a, a.drop (64 * (a.length / 64)), a.length⟩
def digest (a : Bytes) : Bytes := outM (absorb ((a ++ padM a.length).length / 64) shaH (a ++ padM a.length))

theorem sched_length (b : Bytes) (t : Nat) : (sched b t).length = t := by
  induction t with
  | zero => rfl
  | succ t ih => simp [sched, ih]
theorem compress_length (s : List UInt32) (b : Bytes) (h : s.length = 8) : (compress s b).length = 8 := by
  simp [compress, St.list, h]
theorem absorb_length (k : Nat) : ∀ (s : List UInt32) (b : Bytes), s.length = 8 → (absorb k s b).length = 8 := by
  induction k with
  | zero => intro s b h; exact h
  | succ k ih => intro s b h; exact ih _ _ (compress_length _ _ h)
theorem outM_length (s : List UInt32) : (outM s).length = 32 := by simp [outM]
theorem digest_length (a : Bytes) : (digest a).length = 32 := outM_length _
theorem be8_length (x : Nat) : (be8 x).length = 8 := rfl
theorem padM_length (n : Nat) : (padM n).length = 9 + zeros n := by simp [padM, be8_length]; omega
theorem pad_mod (n : Nat) : (n + (padM n).length) % 64 = 0 := by rw [padM_length]; unfold zeros; omega

theorem absorb_append (x y : Bytes) (i j : Nat) (s : List UInt32) (h : x.length = 64 * i) : absorb (i + j) s (x ++ y) = absorb j (absorb i s x) y := by
  induction i generalizing x s with
  | zero =>
    have : x = [] := List.length_eq_zero_iff.1 (by omega)
    subst this
    simp [absorb]
  | succ i ih =>
    rw [show i + 1 + j = (i + j) + 1 by omega]
    show absorb (i + j) (compress s ((x ++ y).take 64)) ((x ++ y).drop 64) = absorb j (absorb i (compress s (x.take 64)) (x.drop 64)) y
    rw [List.take_append_of_le_length (by omega), List.drop_append_of_le_length (by omega), ih _ _ (by simp; omega)]
/-- What stands behind the blocks doesn't count. -/
theorem absorb_take (i : Nat) (s : List UInt32) (x : Bytes) (h : 64 * i ≤ x.length) : absorb i s x = absorb i s (x.take (64 * i)) := by
  have := absorb_append (x.take (64 * i)) (x.drop (64 * i)) i 0 s (by simp; omega)
  rw [List.take_append_drop, Nat.add_zero] at this
  exact this
theorem hm_take (a b : Bytes) : (hm a).take b = hm (a ++ b) := by
  unfold HM.take hm
  simp only
  have ha : a.take (64 * (a.length / 64)) ++ a.drop (64 * (a.length / 64)) = a := List.take_append_drop _ _
  have hl : (a.take (64 * (a.length / 64))).length = 64 * (a.length / 64) := by simp; omega
  have key : ∀ j, absorb j (absorb (a.length / 64) shaH a) (a.drop (64 * (a.length / 64)) ++ b) = absorb (a.length / 64 + j) shaH (a ++ b) := by
    intro j
    have := absorb_append (a.take (64 * (a.length / 64))) (a.drop (64 * (a.length / 64)) ++ b) (a.length / 64) j shaH hl
    rw [← List.append_assoc, ha] at this
    rw [this, ← absorb_take _ _ _ (by omega)]
  have hn : (a.drop (64 * (a.length / 64)) ++ b).length / 64 + a.length / 64 = (a ++ b).length / 64 := by simp; omega
  congr 1
  · rw [key, ← hn, Nat.add_comm]
  · rw [← hn, Nat.mul_add, Nat.add_comm, ← List.drop_drop]
    congr 1
    exact (List.drop_append_of_le_length (by omega)).symm
  · simp
theorem hm_new : (⟨shaH, [], 0⟩ : HM) = hm [] := rfl
/-- The digest is the state behind what was taken in and what stands behind it. -/
theorem digest_hm (a : Bytes) : outM ((hm a).take (padM a.length)).st = digest a := by rw [hm_take]; rfl
theorem hm_n (a : Bytes) : (hm a).n = a.length := rfl
theorem hm_st (a : Bytes) : (hm a).st.length = 8 := absorb_length _ _ _ rfl
theorem hm_rest (a : Bytes) : (hm a).rest.length < 64 := by simp [hm]; omega
end Go.Proofs.Ytedebapgmfnflaa
