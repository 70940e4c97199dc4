/- Texts that the law EditMoves stands on, part 3 of 7. Conditions: see each. -/
import Derived.Test.YtcihccmkionliaaGreatDoorEdit1
import Derived.Test.YtcihccmkionliaaGreatDoorProg
import Derived.ChangeKeysEq
import Derived.KernelRfl
import Derived.Laws.IdiomStrings
import Derived.Lib.ConvBytes
import Derived.Lib.Strings
import Derived.ProofKit
import Derived.Carry
import Derived.SizedLaws
import Derived.ChangeMaps5
import Derived.DeepKeys
import Derived.Shelf.Strings.Search3
import Derived.Shelf.LaysM
import Derived.Shelf.Strings.Shaped
import Derived.Shelf.Sort.Plain
import Derived.Shelf.Slices.CompactS

namespace Go.Proofs.YtcihccmkionliaaGreatDoor
open Go
set_option maxRecDepth 100000
abbrev Bytes := List UInt8
def bv (b : UInt8) : Value := .int .u8 b.toNat
def bc (l : Bytes) : List Value := l.map bv
theorem bc_length (l : Bytes) : (bc l).length = l.length := by simp [bc]
theorem bc_one (l : Bytes) : ∀ x ∈ bc l, x.oneCell' = true := by
 intro x hx
 obtain ⟨b, _, rfl⟩ := List.mem_map.1 hx
 rfl
theorem bc_append (a b : Bytes) : bc (a ++ b) = bc a ++ bc b := by simp [bc]
structure Mv (F : List Nat) (w : World) (F' : List Nat) (w' : World) : Prop where
 ext : Ext F w w'
 own : ∀ b ∈ F', b ∈ F ∨ w.heap.size ≤ b
theorem Mv.refl (F : List Nat) (w : World) : Mv F w F w := ⟨Ext.refl F w, fun b hb => .inl hb⟩
theorem Mv.trans {F F1 F2 : List Nat} {w w1 w2 : World} (h : Mv F w F1 w1) (k : Mv F1 w1 F2 w2) : Mv F w F2 w2 :=
  ⟨h.ext.step k.ext (fun x hx hlt => by rcases h.own x hx with h1 | h1 <;> first | exact h1 | omega),
   fun b hb => by
    rcases k.own b hb with h1 | h1
    · exact h.own b h1
    · exact .inr (Nat.le_trans h.ext.size h1)⟩
def PB (w : World) (b : Nat) (cs : List Value) (t : TypeId) : Prop := ∃ rest, Blk w b (cs ++ rest) t
theorem PB.keep {w w' : World} {b : Nat} {cs : List Value} {t : TypeId} {S : List Nat} (h : PB w b cs t) (e : Ext S w w') (hn : b ∉ S) : PB w' b cs t := by
 obtain ⟨r, h⟩ := h; exact ⟨r, h.keep e hn⟩
theorem PB.lt {w : World} {b : Nat} {cs : List Value} {t : TypeId} (h : PB w b cs t) : b < w.heap.size := by obtain ⟨r, h⟩ := h; exact h.lt
theorem lspl_app {cs vs rest : List Value} {o : Nat} (h : o + vs.length ≤ cs.length) : lspl (cs ++ rest) o vs = lspl cs o vs ++ rest := by
 unfold lspl
 rw [List.take_append_of_le_length (by omega), List.drop_append_of_le_length (by omega), List.append_assoc, List.append_assoc, List.append_assoc]
theorem PB.loadN {w : World} {K : VPost} {n b o : Nat} {cs : List Value} {t : TypeId} (hb : PB w b cs t) (hn : o + n ≤ cs.length) (h : K (.agg ((cs.drop o).take n).toArray) w) : loadW (some (true, n)) (.pointer (some ⟨b, o, none⟩)) w K := by
 obtain ⟨r, hb⟩ := hb
 refine Go.Proofs.YtcihccmkionliaaGreatDoor.loadN hb.r (by rw [List.length_append]; omega) ?_
 rw [List.drop_append_of_le_length (by omega), List.take_append_of_le_length (by rw [List.length_drop]; omega)]
 exact h
theorem PB.store {g : Bool} {n b o : Nat} {w : World} {cs vs : List Value} {t : TypeId} {v : Value} {K : World -> Prop} (hb : PB w b cs t) (hv : v.cells = vs.toArray) (hn : vs.length = n) (hle : o + n ≤ cs.length)
  (h1 : ∀ x ∈ vs, x.oneCell' = true) (h : ∀ w', Ext [b] w w' -> PB w' b (lspl cs o vs) t -> w'.heap.size = w.heap.size -> K w') : storeW (some (g, n)) (.pointer (some ⟨b, o, none⟩)) v w K := by
 obtain ⟨r, hb⟩ := hb
 refine storeW_i hb hv hn (by rw [List.length_append]; omega) h1 fun w' e hb' hs => h w' e ⟨r, ?_⟩ hs
 rwa [lspl_app (by omega)] at hb'
theorem PB.rd {w : World} {b m s c : Nat} {cs : List Value} {t : TypeId} (hb : PB w b cs t) (hc : cs.length = m * s) : RdSl w (.slice (some ⟨b, 0, none⟩) m c) s cs m := by
 obtain ⟨r, hb⟩ := hb
 exact ⟨hc, .inr ⟨b, 0, c, _, rfl, hb.r, by rw [List.drop_zero, ← hc, List.take_left], by rw [List.length_append]; omega⟩⟩
theorem PB.copy {P : Program} {w : World} {K : VPost} {T T' ty e : TypeId} {i : TypeInfo} {x : Value} {ys cs : List Value} {n m c b o : Nat} {te : TypeId}
  (hu : P.underlying T = some (.slice e)) (hi : P.info? e = some i) (hb : PB w b cs te) (hx : RdSl w x i.size ys m) (h1 : ∀ y ∈ ys, y.oneCell' = true) (hle : o + n * i.size ≤ cs.length)
  (h : ∀ w', Ext [b] w w' -> PB w' b (lspl cs o (ys.take (min m n * i.size))) te -> w'.heap.size = w.heap.size -> K (.int .i64 (min m n : Nat)) w') :
  insW P (Builtin.copy_ #[T, T'] ty #[.slice (some ⟨b, o, none⟩) n c, x]) w K := by
 obtain ⟨r, hb⟩ := hb
 have hmn2 : min m n * i.size ≤ n * i.size := Nat.mul_le_mul_right _ (Nat.min_le_right _ _)
 refine copy_i hu hi hb hx h1 (by rw [List.length_append]; omega) fun w' e hb' hs => h w' e ⟨r, ?_⟩ hs
 rwa [lspl_app (by rw [List.length_take]; omega)] at hb'
def tyI (P : Program) (t : TypeId) : Option (Value × Nat × Nat) :=
 match P.info? t with
 | some i => match i.zero with | some z => some (z, i.size, i.bytes) | none => none
 | none => none
theorem tyI_spec {P : Program} {t : TypeId} {z : Value} {s b : Nat} (h : tyI P t = some (z, s, b)) : ∃ i, P.info? t = some i ∧ i.zero = some z ∧ i.size = s ∧ i.bytes = b := by
 unfold tyI at h
 split at h
 ·rename_i i hi
  split at h
  ·rename_i z' hz
   simp only [Option.some.injEq, Prod.mk.injEq] at h
   obtain ⟨rfl, rfl, rfl⟩ := h
   exact ⟨i, hi, hz, rfl, rfl⟩
  ·cases h
 ·cases h
theorem ty_u8 : tyI Tryz.prog 5 = some (.int .u8 0, 1, 1) := by kernel_rfl
theorem und_u8s : Tryz.prog.underlying 31 = some (.slice 5) := by kernel_rfl
theorem OwnSl.shape {w : World} {v : Value} {e : TypeId} {s : Nat} {xs : List Value} {n : Nat} (h : OwnSl w v e s xs n) : ∃ a c, v = .slice a n c := h.rd.len
theorem seq_n {B : Fr -> World -> Prop} {K J : XPost} (h : ∀ e fr w, seqX B K e fr w -> J e fr w) {fr : Fr} {w : World} (hb : B fr w) : J .normal fr w := h _ _ _ hb
theorem blk_x {K : XPost} {id : Nat} {fr : Fr} {w : World} (h : K .normal fr w) : blkX id K (.exit id) fr w := by
 unfold blkX; simp only [Nat.beq_refl]; exact h
theorem max_e {P : Program} {ts : Array TypeId} {ty : TypeId} {k : IntKind} {x y : Int} {w : World} {K : VPost} : insW P (Builtin.max_ ts ty #[.int k x, .int k y]) w K = K (.int k (max x y)) w := by
 unfold insW Builtin.max_
 simp only [List.foldlM_cons, List.foldlM_nil, Builtin.max2, Sem.run_bind, Sem.run_pure, Result.andThen_ok, okW]
 have : (if y > x then y else x) = max x y := by
  rw [Int.max_def]; split <;> split <;> omega
 rw [this]
theorem min_e {P : Program} {ts : Array TypeId} {ty : TypeId} {k : IntKind} {x y : Int} {w : World} {K : VPost} : insW P (Builtin.min_ ts ty #[.int k x, .int k y]) w K = K (.int k (min x y)) w := by
 unfold insW Builtin.min_
 simp only [List.foldlM_cons, List.foldlM_nil, Builtin.min2, Sem.run_bind, Sem.run_pure, Result.andThen_ok, okW]
 have : (if y < x then y else x) = min x y := by
  rw [Int.min_def]; split <;> split <;> omega
 rw [this]
theorem conv_int {P : Program} {s t : TypeId} {d : TypeDesc} {k k' : IntKind} {x : Int} {w : World} {K : VPost} (hu : P.underlying s = some d) (hu' : P.underlying t = some (.int k)) :
  insW P (convert s t (.int k' x)) w K = K (.int k (k.wrap x)) w := by
 unfold insW convert
 simp only [Sem.run_bind, run_und hu, run_und hu', Result.andThen_ok]
 rfl
theorem getD_lt {l : Bytes} {i : Nat} (h : i < l.length) : (bc l)[i]? = some (bv (l.getD i 0)) := by
 simp [bc, List.getElem?_map, h]
theorem RdSl.at1 {w : World} {v : Value} {l : Bytes} {i : Nat} {m : Nat} (h : RdSl w v 1 (bc l) m) (hi : i < l.length) (k : IntKind) :
  ∃ b o, (∀ K : VPost, K (.pointer (some ⟨b, o, none⟩)) w -> idxW (some (none, 1)) v (.int k i) w K) ∧ (∀ K : VPost, K (bv (l.getD i 0)) w -> loadW (some (false, 1)) (.pointer (some ⟨b, o, none⟩)) w K) := by
 obtain ⟨hl, ⟨h0, _⟩ | ⟨b, o, c, cs, rfl, hb, h1, h2⟩⟩ := h
 ·have := congrArg List.length h0
  rw [bc_length, List.length_nil] at this
  omega
 ·rw [bc_length] at hl
  refine ⟨b, o + i * 1, fun K hK => idx_i (by omega) hK, fun K hK => load1 hb ?_ hK⟩
  have := getD_lt hi
  rw [← h1, List.getElem?_take, if_pos (by omega), List.getElem?_drop] at this
  rw [Nat.mul_one]; exact this
section
variable {P : Program} {w : World} {K : VPost}
theorem guard_agg {op : BinOp} {t : TypeId} {c : Bool} {xs ys : Array Value} (hg : P.eqGuardType P.depth t = false) (w : World) : (guardE op t c (.agg xs) (.agg ys)).run P w = .ok () w := by
 unfold guardE eqGuard
 cases op <;> simp [Sem.run_bind, Go.program, Sem.run, hg, Result.andThen]
theorem slice_eql_nil {t e : TypeId} {c : Bool} {a : Option Addr} {n m : Nat} (hu : P.underlying t = some (.slice e)) : binW P .eql t c (.slice a n m) (.slice none 0 0) w K = K (.bool a.isNone) w := by
 refine bin_equal (fun _ => by cases c <;> rfl) rfl ?_
 show (Op.equalIn (9999 + 1) t _ _).run P w = _
 unfold Op.equalIn
 rw [Sem.run_bind, run_und hu]
 cases a <;> rfl
end
section
variable {P : Program} {w : World} {K : VPost}
end
theorem flat_get {α : Type} (f : α -> List Value) (s : Nat) : ∀ (l : List α), (∀ x ∈ l, (f x).length = s) -> ∀ (i : Nat) (h : i < l.length), ((l.flatMap f).drop (i * s)).take s = f l[i] := by
 intro l
 induction l with
 | nil => intro _ i h; exact absurd h (Nat.not_lt_zero _)
 | cons x r ih =>
  intro hl i h
  have h0 := hl x List.mem_cons_self
  rw [List.flatMap_cons]
  cases i with
  | zero =>
   rw [Nat.zero_mul, List.drop_zero, List.take_append_of_le_length (by omega), List.take_of_length_le (by omega)]
   rfl
  | succ i =>
   rw [Nat.add_mul, Nat.one_mul, Nat.add_comm (i * s) s, ← List.drop_drop, List.drop_append_of_le_length (by omega), List.drop_of_length_le (l := f x) (by omega), List.nil_append]
   exact ih (fun y hy => hl y (List.mem_cons_of_mem _ hy)) i (by simpa using h)
theorem flat_len {α : Type} (f : α -> List Value) (s : Nat) : ∀ (l : List α), (∀ x ∈ l, (f x).length = s) -> (l.flatMap f).length = l.length * s := by
 intro l
 induction l with
 | nil => intro _; simp
 | cons x r ih =>
  intro h
  rw [List.flatMap_cons, List.length_append, h x List.mem_cons_self, ih (fun y hy => h y (List.mem_cons_of_mem _ hy)), List.length_cons, Nat.add_mul]
  omega
theorem RdSl.elem {w : World} {v : Value} {s m i : Nat} {ys : List Value} (h : RdSl w v s ys m) (hi : i < m) (hs : 0 < s) (k : IntKind) :
  ∃ b o cs, (∀ K : VPost, K (.pointer (some ⟨b, o, none⟩)) w -> idxW (some (none, s)) v (.int k i) w K) ∧ RBlk w b cs ∧ o + s ≤ cs.length ∧ (cs.drop o).take s = (ys.drop (i * s)).take s := by
 obtain ⟨hl, ⟨rfl, _⟩ | ⟨b, o, c, cs, rfl, hb, h1, h2⟩⟩ := h
 ·have : 0 < m * s := Nat.mul_pos (by omega) hs
  rw [List.length_nil] at hl
  omega
 ·have hi2 : i * s + s ≤ m * s := by
   have := Nat.mul_le_mul_right s (show i + 1 ≤ m from hi)
   rw [Nat.add_mul, Nat.one_mul] at this; exact this
  refine ⟨b, o + i * s, cs, fun K hK => idx_i hi hK, hb, by omega, ?_⟩
  rw [← h1, List.drop_take, List.take_take, List.drop_drop, Nat.min_eq_left (by omega)]
theorem at_get {cs ys : List Value} {o s j : Nat} (h : (cs.drop o).take s = ys) (hj : j < s) : cs[o + j]? = ys[j]? := by
 rw [← h, List.getElem?_take, if_pos hj, List.getElem?_drop]
theorem at_part {cs ys : List Value} {o s j n : Nat} (h : (cs.drop o).take s = ys) (hj : j + n ≤ s) : (cs.drop (o + j)).take n = (ys.drop j).take n := by
 rw [← h, List.drop_take, List.take_take, List.drop_drop, Nat.min_eq_left (by omega)]
def i64ok (x : Int) : Prop := -9223372036854775808 ≤ x ∧ x ≤ 9223372036854775807
theorem wf_i64 {n : Int} (h : (Lit.int .i64 n).wf = true) : i64ok n := by
 simp [Lit.wf] at h
 have k1 : IntKind.i64.min = -9223372036854775808 := by decide
 have k2 : IntKind.i64.max = 9223372036854775807 := by decide
 have k3 : n ≤ IntKind.i64.max := by have := h.2; omega
 exact ⟨by omega, by omega⟩
def uv (x : UInt32) : Value := .int .u32 x.toNat
def uc (l : List UInt32) : List Value := l.map uv
theorem bc_get {l : Bytes} {i : Nat} (h : i < l.length) : (bc l)[i]? = some (bv (l.getD i 0)) := by
 simp [bc, List.getElem?_map, h]
theorem bc_set (l : Bytes) (i : Nat) (x : UInt8) : (bc l).set i (bv x) = bc (l.set i x) := by simp [bc, List.map_set]
section
variable {P : Program} {w : World} {K : VPost} {t : TypeId} {c : Bool}
def u8w (b : UInt8) : UInt32 := UInt32.ofNat b.toNat
theorem wrap_u8n (n : Nat) : IntKind.u8.wrap (n : Int) = ((UInt8.ofNat n).toNat : Int) := by
 rw [IntKind.wrap_u8, UInt8.toNat_ofNat']; omega
theorem conv_byte {s d : TypeId} {td : TypeDesc} {k : IntKind} {n : Nat} (hu : P.underlying s = some td) (hu' : P.underlying d = some (.int .u8)) : convN P s d (.int k n) w K = K (bv (UInt8.ofNat n)) w := by
 show insW P (convert s d (.int k n)) w K = _
 unfold bv
 rw [conv_int hu hu', wrap_u8n]
end
def rr (x : UInt32) (n : Nat) : UInt32 := x <<< UInt32.ofNat (32 - n) ||| x >>> UInt32.ofNat n
def shaK : List UInt32 := [
 0x428a2f98, 0x71374491, 0xb5c0fbcf, 0xe9b5dba5, 0x3956c25b, 0x59f111f1, 0x923f82a4, 0xab1c5ed5,
 0xd807aa98, 0x12835b01, 0x243185be, 0x550c7dc3, 0x72be5d74, 0x80deb1fe, 0x9bdc06a7, 0xc19bf174,
 0xe49b69c1, 0xefbe4786, 0x0fc19dc6, 0x240ca1cc, 0x2de92c6f, 0x4a7484aa, 0x5cb0a9dc, 0x76f988da,
 0x983e5152, 0xa831c66d, 0xb00327c8, 0xbf597fc7, 0xc6e00bf3, 0xd5a79147, 0x06ca6351, 0x14292967,
 0x27b70a85, 0x2e1b2138, 0x4d2c6dfc, 0x53380d13, 0x650a7354, 0x766a0abb, 0x81c2c92e, 0x92722c85,
 0xa2bfe8a1, 0xa81a664b, 0xc24b8b70, 0xc76c51a3, 0xd192e819, 0xd6990624, 0xf40e3585, 0x106aa070,
 0x19a4c116, 0x1e376c08, 0x2748774c, 0x34b0bcb5, 0x391c0cb3, 0x4ed8aa4a, 0x5b9cca4f, 0x682e6ff3,
 0x748f82ee, 0x78a5636f, 0x84c87814, 0x8cc70208, 0x90befffa, 0xa4506ceb, 0xbef9a3f7, 0xc67178f2]
def shaH : List UInt32 := [0x6a09e667, 0xbb67ae85, 0x3c6ef372, 0xa54ff53a, 0x510e527f, 0x9b05688c, 0x1f83d9ab, 0x5be0cd19]
def word (b : Bytes) (t : Nat) : UInt32 :=
 (((u8w (b.getD (4*t) 0)) <<< 8 ||| u8w (b.getD (4*t+1) 0)) <<< 8 ||| u8w (b.getD (4*t+2) 0)) <<< 8 ||| u8w (b.getD (4*t+3) 0)
def wNext (ws : List UInt32) (t : Nat) : UInt32 :=
 ws.getD (t - 16) 0 + (rr (ws.getD (t - 15) 0) 7 ^^^ rr (ws.getD (t - 15) 0) 18 ^^^ ws.getD (t - 15) 0 >>> 3) + ws.getD (t - 7) 0 + (rr (ws.getD (t - 2) 0) 17 ^^^ rr (ws.getD (t - 2) 0) 19 ^^^ ws.getD (t - 2) 0 >>> 10)
def wAt (b : Bytes) (ws : List UInt32) (t : Nat) : UInt32 := if t < 16 then word b t else wNext ws t
def sched (b : Bytes) : Nat -> List UInt32
 | 0 => []
 | t + 1 => sched b t ++ [wAt b (sched b t) t]
structure St where
 (a b c d e f g h : UInt32)
def rnd (s : St) (k w : UInt32) : St :=
 let t1 := s.h + (rr s.e 6 ^^^ rr s.e 11 ^^^ rr s.e 25) + (s.e &&& s.f ^^^ ~~~s.e &&& s.g) + k + w
 let t2 := (rr s.a 2 ^^^ rr s.a 13 ^^^ rr s.a 22) + (s.a &&& s.b ^^^ s.a &&& s.c ^^^ s.b &&& s.c)
 ⟨t1 + t2, s.a, s.b, s.c, s.d + t1, s.e, s.f, s.g⟩
def rnds (ws : List UInt32) : Nat -> St -> St
 | 0, s => s
 | t + 1, s => rnd (rnds ws t s) (shaK.getD t 0) (ws.getD t 0)
def St.list (s : St) : List UInt32 := [s.a, s.b, s.c, s.d, s.e, s.f, s.g, s.h]
def St.ofL (l : List UInt32) : St := ⟨l.getD 0 0, l.getD 1 0, l.getD 2 0, l.getD 3 0, l.getD 4 0, l.getD 5 0, l.getD 6 0, l.getD 7 0⟩
def compress (st : List UInt32) (b : Bytes) : List UInt32 := List.zipWith (· + ·) st (rnds (sched b 64) 64 (St.ofL st)).list
def absorb : Nat -> List UInt32 -> Bytes -> List UInt32
 | 0, s, _ => s
 | k + 1, s, b => absorb k (compress s (b.take 64)) (b.drop 64)
structure HM where
 st : List UInt32
 rest : Bytes
 n : Nat
def HM.take (h : HM) (b : Bytes) : HM := ⟨absorb ((h.rest ++ b).length / 64) h.st (h.rest ++ b), (h.rest ++ b).drop (64 * ((h.rest ++ b).length / 64)), h.n + b.length⟩
def hm (a : Bytes) : HM := ⟨absorb (a.length / 64) shaH a, a.drop (64 * (a.length / 64)), a.length⟩
section
variable {P : Program} {w : World} {K : VPost} {t : TypeId} {c : Bool}
end
def inn : Nat -> UInt64 -> UInt64 -> Bool -> Option Bool
 | 0, _, _, _ => none
 | k + 1, p, q, r => if q * q ≤ p then (if q = 0 then none else inn k p (q + 1) (if p % q = 0 then false else r)) else some r
theorem RdSl.get1 {w : World} {v : Value} {ys : List Value} {i m : Nat} (h : RdSl w v 1 ys m) (hi : i < ys.length) (k : IntKind) :
  ∃ b o, (∀ K : VPost, K (.pointer (some ⟨b, o, none⟩)) w -> idxW (some (none, 1)) v (.int k i) w K) ∧ (∀ K : VPost, K ys[i] w -> loadW (some (false, 1)) (.pointer (some ⟨b, o, none⟩)) w K) := by
 obtain ⟨hl, ⟨h0, _⟩ | ⟨b, o, c, cs, rfl, hb, h1, h2⟩⟩ := h
 ·rw [h0] at hi; simp at hi
 ·refine ⟨b, o + i * 1, fun K hK => idx_i (by omega) hK, fun K hK => load1 hb ?_ hK⟩
  have h3 : ys[i]? = some ys[i] := List.getElem?_eq_getElem hi
  rw [← h3, ← h1, List.getElem?_take, if_pos (by omega), List.getElem?_drop, Nat.mul_one]
def RowsL (w : World) : List Value -> List Bytes -> Prop
 | [], [] => True
 | h :: hs, l :: ls => (RdSl w h 1 (bc l) l.length ∧ capOk h) ∧ RowsL w hs ls
 | _, _ => False
def rowsF : List Value -> List Bytes -> List Nat
 | h :: hs, l :: ls => rdB h (bc l) ++ rowsF hs ls
 | _, _ => []
theorem RowsL.length {w : World} : ∀ {hs : List Value} {ls : List Bytes}, RowsL w hs ls -> hs.length = ls.length
 | [], [], _ => rfl
 | _ :: hs, _ :: ls, h => by simp [RowsL.length h.2]
theorem RowsL.get {w : World} : ∀ {hs : List Value} {ls : List Bytes}, RowsL w hs ls -> ∀ (i : Nat) (h1 : i < hs.length) (h2 : i < ls.length), RdSl w hs[i] 1 (bc ls[i]) ls[i].length ∧ capOk hs[i]
 | _ :: _, _ :: _, h, 0, _, _ => h.1
 | _ :: hs, _ :: ls, h, i + 1, h1, h2 => RowsL.get h.2 i (by simpa using h1) (by simpa using h2)
theorem rowsF_get : ∀ {hs : List Value} {ls : List Bytes} (i : Nat) (h1 : i < hs.length) (h2 : i < ls.length), ∀ b ∈ rdB hs[i] (bc ls[i]), b ∈ rowsF hs ls
 | _ :: _, _ :: _, 0, _, _, b, hb => List.mem_append_left _ hb
 | _ :: hs, _ :: ls, i + 1, h1, h2, b, hb => List.mem_append_right _ (rowsF_get i (by simpa using h1) (by simpa using h2) b hb)
theorem RowsL.lt {w : World} : ∀ {hs : List Value} {ls : List Bytes}, RowsL w hs ls -> ∀ b ∈ rowsF hs ls, b < w.heap.size
 | [], [], _, b, hb => by simp [rowsF] at hb
 | h :: hs, l :: ls, hh, b, hb => by
  rcases List.mem_append.1 hb with hb | hb
  ·exact (rR h 1 (bc l) l.length).lt hh.1.1 b hb
  ·exact RowsL.lt hh.2 b hb
theorem RowsL.keep {w w' : World} {S : List Nat} (e : Ext S w w') : ∀ {hs : List Value} {ls : List Bytes}, RowsL w hs ls -> (∀ b ∈ rowsF hs ls, b ∉ S) -> RowsL w' hs ls
 | [], [], _, _ => trivial
 | h :: hs, l :: ls, hh, hd => ⟨⟨(rR h 1 (bc l) l.length).keep hh.1.1 e (fun b hb => hd b (List.mem_append_left _ hb)), hh.1.2⟩, RowsL.keep e hh.2 (fun b hb => hd b (List.mem_append_right _ hb))⟩
theorem RowsL.append {w : World} {h : Value} {l : Bytes} (h1 : RdSl w h 1 (bc l) l.length) (h2 : capOk h) : ∀ {hs : List Value} {ls : List Bytes}, RowsL w hs ls -> RowsL w (hs ++ [h]) (ls ++ [l])
 | [], [], _ => ⟨⟨h1, h2⟩, trivial⟩
 | _ :: _, _ :: _, hh => ⟨hh.1, RowsL.append h1 h2 hh.2⟩
def RowsR (w : World) (v : Value) (hs : List Value) (ls : List Bytes) : Prop := RdSl w v 1 hs hs.length ∧ RowsL w hs ls
theorem RowsR.len {w : World} {v : Value} {hs : List Value} {ls : List Bytes} (h : RowsR w v hs ls) : ∃ a c, v = .slice a ls.length c := by
 obtain ⟨a, c, e⟩ := h.1.len
 exact ⟨a, c, by rw [e, h.2.length]⟩
theorem RowsR.elem {w : World} {v : Value} {hs : List Value} {ls : List Bytes} (h : RowsR w v hs ls) {i : Nat} (hi : i < ls.length) (k : IntKind) :
  ∃ b o r, (∀ K : VPost, K (.pointer (some ⟨b, o, none⟩)) w -> idxW (some (none, 1)) v (.int k i) w K) ∧ (∀ K : VPost, K r w -> loadW (some (false, 1)) (.pointer (some ⟨b, o, none⟩)) w K) ∧
   RdSl w r 1 (bc ls[i]) ls[i].length ∧ capOk r ∧ ∀ c ∈ rdB r (bc ls[i]), c ∈ rdB v hs ++ rowsF hs ls := by
 have hl := h.2.length
 obtain ⟨b, o, h1, h2⟩ := h.1.get1 (i := i) (by omega) k
 obtain ⟨h3, h4⟩ := h.2.get i (by omega) hi
 exact ⟨b, o, _, h1, h2, h3, h4, fun c hc => List.mem_append_right _ (rowsF_get i (by omega) hi c hc)⟩
theorem OwnAt.at1 {w : World} {v : Value} {e : TypeId} {xs : List Value} {n k : Nat} (h : OwnAt w v e 1 xs n) (hk : k < n) (kk : IntKind) : ∃ b o, slB v = [b] ∧ (∀ K : VPost, K (.pointer (some ⟨b, o, none⟩)) w -> idxW (some (none, 1)) v (.int kk k) w K) ∧
  (∀ (y : Value) (K : VPost), xs[k]? = some y -> K y w -> loadW (some (false, 1)) (.pointer (some ⟨b, o, none⟩)) w K) ∧
  (∀ (g : Bool) (y : Value) (K : World -> Prop), y.cells = #[y] -> y.oneCell' = true -> (∀ w', Ext [b] w w' -> OwnAt w' v e 1 (xs.set k y) n -> K w') -> storeW (some (g, 1)) (.pointer (some ⟨b, o, none⟩)) y w K) := by
 rcases h with ⟨rfl, rfl, rfl⟩ | ⟨b, o, c, cs, rfl, hb, hl, ht, hc, hn⟩
 ·omega
 ·rw [Nat.mul_one] at hl ht hc
  refine ⟨b, o + k * 1, rfl, fun K hK => idx_i hk hK, fun y K hy hK => load1 hb.r ?_ hK, fun g y K hy h1 hK => store1 hb hy (by omega) h1 fun w' e' hb' _ => hK w' e' (.inr ⟨b, o, c, _, rfl, hb', ?_, ?_, ?_, hn⟩)⟩
  ·rw [← ht, List.getElem?_take, if_pos hk, List.getElem?_drop] at hy
   rw [Nat.mul_one]; exact hy
  ·rw [List.length_set, Nat.mul_one]; exact hl
  ·rw [Nat.mul_one, Nat.mul_one, ← ht]
   apply List.ext_getElem?
   intro j
   rw [List.getElem?_take, List.getElem?_drop, List.getElem?_set, List.getElem?_set, List.getElem?_take, List.getElem?_drop, List.length_take, List.length_drop]
   by_cases hj : j < n
   ·by_cases hjk : k = j
    ·subst hjk
     have h1 : o + k < cs.length := by omega
     have h2 : k < min n (cs.length - o) := by omega
     simp [hj, h1, h2]
    ·have h3 : ¬ o + k = o + j := by omega
     simp [hj, hjk, h3]
   ·have hjk : ¬ k = j := by omega
    simp [hj, hjk]
  ·rw [List.length_set, Nat.mul_one]; exact hc
section
variable {P : Program} {w : World} {K : VPost} {t : TypeId} {c : Bool}
theorem u8_add {a b : UInt8} : binN P .add t c (bv a) (bv b) w K = K (bv (a + b)) w := by
 show binW P .add t c (bv a) (bv b) w K = _
 unfold bv
 rw [bin_add, ← Int.natCast_add, wrap_u8n]
 congr 3
end
theorem Sep.byteAt {S : List Nat} {w0 w : World} {L R : List Res} {v : Value} {l : Bytes} {n k : Nat} (s : Sep S w0 w L R) (i : Nat) (hL : L[i]? = some (rO v 5 1 (bc l) n)) (hk : k < n) (kk : IntKind) :
  ∃ b o, (∀ K : VPost, K (.pointer (some ⟨b, o, none⟩)) w -> idxW (some (none, 1)) v (.int kk k) w K) ∧ (∀ (K : VPost), K (bv (l.getD k 0)) w -> loadW (some (false, 1)) (.pointer (some ⟨b, o, none⟩)) w K) ∧
  (∀ (g : Bool) (y : UInt8) (K : World -> Prop), (∀ w', Sep S w0 w' (L.set i (rO v 5 1 (bc (l.set k y)) n)) R -> K w') -> storeW (some (g, 1)) (.pointer (some ⟨b, o, none⟩)) (bv y) w K) := by
 have ho : OwnAt w v 5 1 (bc l) n := s.at i hL
 have hl : l.length = n := by have := ho.rd.1; rw [bc_length, Nat.mul_one] at this; exact this
 obtain ⟨b, o, hb, h1, h2, h3⟩ := ho.at1 hk kk
 refine ⟨b, o, h1, fun K hK => h2 _ K (bc_get (by omega)) hK, fun g y K hK => h3 g (bv y) K rfl rfl fun w' e hw => hK w' ?_⟩
 rw [bc_set] at hw
 exact s.upd (T := rO v 5 1 (bc l) n) i hL (T' := rO v 5 1 (bc (l.set k y)) n) hw (by show Ext (slB v) w w'; rw [hb]; exact e) (fun x hx => .inl hx)
section
variable {P : Program} {S : List Nat} {w0 w : World} {L R : List Res} {K : VPost}
end
theorem und_int : Tryz.prog.underlying 3 = some (.int .i64) := by kernel_rfl
theorem und_u8 : Tryz.prog.underlying 5 = some (.int .u8) := by kernel_rfl
def hcells (m : HM) (rv : Value) : List Value := uc m.st ++ [rv, .int .i64 m.n]
section
variable {m : HM} {rv : Value} (h : m.st.length = 8)
include h
end
section
variable {S : List Nat} {w0 w : World} {L R : List Res} {K : Value -> VPost}
end
theorem Sep.litB {S : List Nat} {w0 w : World} {L R : List Res} {K : VPost} (s : Sep S w0 w L R) (l : Bytes) {parts : List (Nat × Value)} (hp : parts = enumV 0 (bc l)) (hl : l.length ≤ 1000)
  (h : ∀ v' w', Sep S w0 w' (rO v' 5 1 (bc l) l.length :: L) R -> slB v' = [w.heap.size] -> Ext [] w w' -> K v' w') : insW Tryz.prog (Instr.buildSlice 31 l.length parts.toArray) w K := by
 obtain ⟨ui, hui, huz, husz, huby⟩ := tyI_spec ty_u8
 have hlen : (bc l).length = l.length := bc_length l
 have hc : ∀ v ∈ bc l, v.cells.size = ui.size := by
  intro v hv
  obtain ⟨b, _, rfl⟩ := List.mem_map.1 hv
  rw [husz]; rfl
 have hf : flatV (bc l) = bc l := by
  have : ∀ l : Bytes, flatV (bc l) = bc l := by
   intro l
   induction l with
   | nil => rfl
   | cons b r ih =>
    have e : flatV (bc (b :: r)) = (bv b).cells.toList ++ flatV (bc r) := by simp [flatV, bc]
    rw [e, ih]; rfl
  exact this l
 have := s.lit (K := K) (vs := bc l) und_u8s hui huz hp hc (by rw [hlen, husz]; omega) (fun t w' s' ht e => by
  rw [hlen, husz, hf] at s'
  exact h t w' s' ht e)
 rw [hlen] at this
 exact this
theorem Sep.join {S : List Nat} {w0 w : World} {L R : List Res} {T1 T2 T : Res} (s : Sep S w0 w (T1 :: T2 :: L) R) (hT : T.holds w) (hf : ∀ b ∈ T.foot, b ∈ T1.foot ∨ b ∈ T2.foot) : Sep S w0 w (T :: L) R := by
 have hp := List.pairwise_cons.1 s.dis
 have hp2 := List.pairwise_cons.1 hp.2
 refine ⟨s.ext, fun U hU => ?_, s.rd, fun U hU b hb => ?_, List.pairwise_cons.2 ⟨fun U hU b hb => ?_, hp2.2⟩, fun U hU V hV b hb => ?_⟩
 ·rcases List.mem_cons.1 hU with rfl | hU
  ·exact hT
  ·exact s.own U (by simp [hU])
 ·rcases List.mem_cons.1 hU with rfl | hU
  ·rcases hf b hb with h | h
   ·exact s.old T1 (by simp) b h
   ·exact s.old T2 (by simp) b h
  ·exact s.old U (by simp [hU]) b hb
 ·rcases hf b hb with h | h
  ·exact hp.1 U (by simp [hU]) b h
  ·exact hp2.1 U hU b h
 ·rcases List.mem_cons.1 hU with rfl | hU
  ·rcases hf b hb with h | h
   ·exact s.disR T1 (by simp) V hV b h
   ·exact s.disR T2 (by simp) V hV b h
  ·exact s.disR U (by simp [hU]) V hV b hb
section
variable {S : List Nat} {w0 w : World} {L R : List Res} {K : VPost}
def rDb (v : Value) (l : Bytes) : Res := rO v 5 1 (bc l) l.length
theorem Sep.apB {v x : Value} {l y : Bytes} (s : Sep S w0 w L R) (i : Nat) (hL : L[i]? = some (rDb v l)) (hx : RdSl w x 1 (bc y) y.length) (hn : l.length + y.length ≤ 2 ^ 36)
  (h : ∀ v' w', Sep S w0 w' (L.set i (rDb v' (l ++ y))) R -> K v' w') : insW Tryz.prog (Builtin.append_ #[31, 31] 31 #[v, x]) w K := by
 obtain ⟨ui, hui, huz, husz, huby⟩ := tyI_spec ty_u8
 refine s.appendO (v := v) (n := l.length) (m := y.length) (ys := bc y) (xs := bc l) i (by rw [husz]; exact hL) und_u8s und_u8s hui huz (by rw [husz]; rfl) (by rw [huby]; decide) (by rw [husz]; exact hx) (bc_one _) (by rw [huby]; omega) fun v' w' s => ?_
 rw [husz, ← bc_append, ← List.length_append] at s
 exact h v' w' s
end
section
variable {P : Program} {w : World} {K : VPost} {t : TypeId} {c : Bool}
theorem pick_ti {a b : Value} (h : K a w) : pickW (.bool true) a b w K := h
theorem pick_fi {a b : Value} (h : K b w) : pickW (.bool false) a b w K := h
theorem not_ti {b : Bool} (h : K (.bool !b) w) : unN P .not (.bool b) w K := h
end
theorem Ext.freeze (w : World) (g o n : Nat) : Ext [g] w (w.freeze ⟨g, o, none⟩ n) := by
 unfold World.freeze
 split
 ·exact Ext.refl _ _
 ·exact ⟨rfl, rfl, rfl, by simp, fun b _ hb => by
   simp only [List.mem_singleton] at hb
   simp only [Array.getElem?_modify]
   rw [if_neg (fun e => hb e.symm)]⟩
def sv (l : Bytes) : Value := .string ⟨l.toArray⟩
section
variable {P : Program} {w : World} {K : VPost} {t : TypeId} {c : Bool}
theorem bl_list (a : Bytes) : (ByteArray.mk a.toArray).toList = a := by rw [Lib.toList_data]
theorem str_eql {a b : Bytes} (h : K (.bool (decide (a = b))) w) : binW P .eql t c (.string ⟨a.toArray⟩) (.string ⟨b.toArray⟩) w K := by
 have e : (Op.stringOp .eql ⟨a.toArray⟩ ⟨b.toArray⟩).run P w = .ok (.bool (decide (a = b))) w := by
  simp only [Op.stringOp, bl_list, Sem.run_pure]
  congr 2
  by_cases h : a = b <;> simp [h]
 unfold binW insW binE
 rw [Sem.run_bind]
 have hg : (guardE .eql t c (.string ⟨a.toArray⟩) (.string ⟨b.toArray⟩)).run P w = .ok () w := by cases c <;> rfl
 rw [hg, Result.andThen_ok]
 show okW K ((Op.stringOp .eql ⟨a.toArray⟩ ⟨b.toArray⟩).run P w)
 rw [e]
 exact h
end
theorem ixv_s {l : Bytes} {k : IntKind} {i : Nat} {w : World} {K : VPost} (hi : i < l.length) (hK : K (bv l[i]) w) : ixvW .str (.string ⟨l.toArray⟩) (.int k i) w K := by
 refine ⟨by omega, l[i], ?_, hK⟩
 rw [Int.toNat_natCast]
 show (ByteArray.mk l.toArray)[i]? = _
 have hs : (ByteArray.mk l.toArray).size = l.length := by show l.toArray.size = _; rw [List.size_toArray]
 rw [getElem?_pos (ByteArray.mk l.toArray) i (by rw [hs]; exact hi)]
 rfl
end Go.Proofs.YtcihccmkionliaaGreatDoor
/- Ranges over functions, with things in hand. -/
namespace Go.Proofs.YtcihccmkionliaaGreatDoor
open Go
theorem Turn.ext {B : Nat} {W W' : World} (h : Turn B W W') : ∃ rows : List Nat, Ext rows W W' ∧ ∀ r ∈ rows, B ≤ r ∧ ∀ o : Obj, W.heap[r]? = some o -> o.isCells = false := by
 induction h with
 | refl => exact ⟨[], Ext.refl _ _, by simp⟩
 | step row h g hr ih =>
  rename_i W1 W2
  obtain ⟨rows, e, hrows⟩ := ih
  refine ⟨row.toList ++ rows, ⟨g.os.trans e.os, g.tape.trans e.tape, g.output.trans e.output, Nat.le_trans e.size g.size, fun b hb hn => ?_⟩, fun r hr' => ?_⟩
  ·have h1 : b ∉ rows := fun h => hn (List.mem_append_right _ h)
   rw [← e.same b hb h1]
   refine g.block b (Nat.lt_of_lt_of_le hb e.size) fun hx => hn (List.mem_append_left _ ?_)
   rw [← hx]; simp
  ·rcases List.mem_append.1 hr' with h1 | h1
   ·have hx : row = some r := by simpa using h1
    obtain ⟨hB, o, ho, hc⟩ := hr r hx
    refine ⟨hB, fun o' ho' => ?_⟩
    by_cases hm : r ∈ rows
    ·exact (hrows r hm).2 o' ho'
    ·have := e.same r (Array.getElem?_eq_some_iff.1 ho').1 hm
     rw [this, ho'] at ho
     cases ho
     exact hc
   ·exact hrows r h1
def Res.cells (T : Res) : Prop := ∀ w, T.holds w -> ∀ b ∈ T.foot, ∃ o : Obj, w.heap[b]? = some o ∧ o.isCells = true
theorem Sep.add2 {S : List Nat} {w0 w w' : World} {L R : List Res} {T U : Res} (s : Sep S w0 w L R) (hT : T.holds w') (hU : U.holds w') (e : Ext [] w w') (hf : ∀ b ∈ T.foot, w.heap.size ≤ b) (hg : ∀ b ∈ U.foot, w.heap.size ≤ b) (hd : ∀ b ∈ T.foot, b ∉ U.foot) : Sep S w0 w' (T :: U :: L) R := by
 have s1 := s.add (T := U) hU e hg
 have s2 := s.add (T := T) hT e hf
 refine ⟨s1.ext, fun V hV => ?_, s1.rd, fun V hV => ?_, .cons (fun V hV => ?_) s1.dis, fun V hV => ?_⟩
 ·rcases List.mem_cons.1 hV with rfl | hV
  ·exact hT
  ·exact s1.own V hV
 ·rcases List.mem_cons.1 hV with rfl | hV
  ·exact s2.old V (by simp)
  ·exact s1.old V hV
 ·rcases List.mem_cons.1 hV with rfl | hV
  ·exact hd
  ·exact (List.pairwise_cons.1 s2.dis).1 V hV
 ·rcases List.mem_cons.1 hV with rfl | hV
  ·exact s2.disR V (by simp)
  ·exact s1.disR V hV
theorem Sep.behind {S : List Nat} {w0 w w' : World} {L R L' R' : List Res} (s : Sep S w0 w L R) (t : Sep (L.flatMap (·.foot)) w w' L' R') : Sep S w0 w' L' R' :=
 ⟨s.ext.step t.ext fun x hx hlt => by
   obtain ⟨T, hT, hb⟩ := List.mem_flatMap.1 hx
   rcases s.old T hT x hb with h | h
   ·exact h
   ·omega,
  t.own, t.rd, fun T hT b hb => by
   rcases t.old T hT b hb with h | h
   ·obtain ⟨U, hU, hb⟩ := List.mem_flatMap.1 h
    exact s.old U hU b hb
   ·have := s.ext.size
    exact .inr (by omega), t.dis, t.disR⟩
end Go.Proofs.YtcihccmkionliaaGreatDoor
namespace Go.Proofs.YtcihccmkionliaaGreatDoor
open Go Go.ChangeShapes Go.WideShapes Go.ChangeAt Go.RowKit
set_option maxRecDepth 100000
theorem law_own : ownKnob Tryz.prog.godebug = none := by kernel_rfl
theorem law_laid : laidOutB Tryz.prog = true := by kernel_rfl
section
variable {H : Type} {enc : TypeId × Value -> H}
theorem trodAll_keeps {P : Program} (hl : laidOutB P = true) {W W' : World} (hb : Below W.heap.size W W') : ∀ {ts : List TypeId} {vs : List Value} {ds : List (DataW H)} {ps : List MemPlace}, ts.all (fun t => P.readableRec t && decide (t < P.types.size)) = true →
  DataW.TrodAll enc P W 0 (fun _ => true) true ts vs ds ps -> (∀ x ∈ ps, x.block < W.heap.size) -> DataW.TrodAll enc P W' 0 (fun b => decide (b < W.heap.size)) true ts vs ds ps := by
 intro ts
 induction ts with
 | nil =>
  intro vs ds ps _ h _
  cases vs <;> cases ds <;> first | exact h | exact h.elim
 | cons t ts ih =>
  intro vs ds ps hts h hlt
  cases vs with
  | nil => exact h.elim
  | cons v vs =>
   cases ds with
   | nil => exact h.elim
   | cons d ds =>
    obtain ⟨p, q, h1, h2, rfl⟩ := h
    simp only [List.all_cons, Bool.and_eq_true, decide_eq_true_eq] at hts
    exact ⟨p, q, Below.trod hl hts.1.1 hts.1.2 h1 hb (fun x hx => hlt x (List.mem_append_left _ hx)), ih hts.2 h2 (fun x hx => hlt x (List.mem_append_right _ hx)), rfl⟩
def fitsD (P : Program) (t : TypeId) (d : DataW H) : Prop := ∀ n ∈ d.weights P t, n ≤ reachBytes
theorem weightsAll_mem {P : Program} {e : TypeId} : ∀ {l : List (DataW H)} {d : DataW H} {n : Nat}, d ∈ l -> n ∈ d.weights P e -> n ∈ DataW.weightsAll P e l := by
 intro l
 induction l with
 | nil => intro d n h; cases h
 | cons a r ih =>
  intro d n h hn
  simp only [DataW.weightsAll, List.mem_append]
  rcases List.mem_cons.1 h with rfl | h
  ·exact .inl hn
  ·exact .inr (ih h hn)
theorem weightsEach_mem {P : Program} : ∀ {ts : List TypeId} {l : List (DataW H)} {i : Nat} {t : TypeId} {d : DataW H} {n : Nat}, ts[i]? = some t -> l[i]? = some d -> n ∈ d.weights P t -> n ∈ DataW.weightsEach P ts l := by
 intro ts
 induction ts with
 | nil => intro l i t d n h; simp at h
 | cons t0 ts ih =>
  intro l i t d n h1 h2 hn
  cases l with
  | nil => simp at h2
  | cons a r =>
   simp only [DataW.weightsEach, List.mem_append]
   cases i with
   | zero => simp at h1 h2; subst h1; subst h2; exact .inl hn
   | succ i => exact .inr (ih (by simpa using h1) (by simpa using h2) hn)
theorem fits_slice {P : Program} {t e : TypeId} {el spr : List (DataW H)} (hu : P.underlying t = some (.slice e)) (h : fitsD P t (.slice el spr)) : (el.length + spr.length) * P.bytesOf e ≤ reachBytes ∧ ∀ d ∈ el, fitsD P e d := by
 unfold fitsD at h
 simp only [DataW.weights, hu] at h
 exact ⟨h _ List.mem_cons_self, fun d hd n hn => h n (List.mem_cons_of_mem _ (List.mem_append_left _ (weightsAll_mem hd hn)))⟩
theorem fits_struct {P : Program} {t : TypeId} {fs : Array Field} {parts : List (DataW H)} (hu : P.underlying t = some (.struct fs)) (h : fitsD P t (.agg parts)) {i : Nat} {te : TypeId} {d : DataW H} (h1 : (fs.toList.map (·.type))[i]? = some te) (h2 : parts[i]? = some d) : fitsD P te d := by
 unfold fitsD at h
 simp only [DataW.weights, hu] at h
 exact fun n hn => h n (weightsEach_mem h1 h2 hn)
def Came (W : World) (t : TypeId) (v : Value) : Prop := ∃ (H : Type) (enc : TypeId × Value -> H) (fuel : Nat) (x : DataW H × List MemPlace), DataW.trod enc Tryz.prog W 0 (fun _ => true) true fuel t v.cells.toList = some x ∧ fitsD Tryz.prog t x.1
theorem came_all {W : World} : ∀ {ts : List TypeId} {vs : List Value} {ds : List (DataW H)} {ps : List MemPlace}, DataW.TrodAll enc Tryz.prog W 0 (fun _ => true) true ts vs ds ps -> (∀ n ∈ DataW.weightsEach Tryz.prog ts ds, n ≤ reachBytes) →
  vs.length = ts.length ∧ ∀ (j : Nat) t v, ts[j]? = some t -> vs[j]? = some v -> Came W t v := by
 intro ts
 induction ts with
 | nil => intro vs ds ps h _; cases vs <;> cases ds <;> first | exact ⟨rfl, by simp⟩ | exact h.elim
 | cons t ts ih =>
  intro vs ds ps h hw
  cases vs with
  | nil => exact h.elim
  | cons v vs => cases ds with
   | nil => exact h.elim
   | cons d ds =>
    obtain ⟨p, q, ⟨fuel, h1⟩, h2, _⟩ := h
    simp only [DataW.weightsEach, List.mem_append] at hw
    obtain ⟨i1, i2⟩ := ih h2 (fun n hn => hw n (.inr hn))
    refine ⟨by simp [i1], fun j t' v' ht hv => ?_⟩
    cases j with
    | zero =>
     simp at ht hv
     subst ht; subst hv
     exact ⟨H, enc, fuel, (d, p), h1, fun n hn => hw n (.inl hn)⟩
    | succ j => exact i2 j t' v' (by simpa using ht) (by simpa using hv)
variable {P : Program} {w : World} {sp : Nat -> Bool} {held : Bool}
theorem mapM_get {α β : Type} (f : α -> Option β) : ∀ {l : List α} {r : List β}, l.mapM f = some r -> ∀ x ∈ l, ∃ y, f x = some y := by
 intro l
 induction l with
 | nil => intro r _ x hx; cases hx
 | cons a l ih =>
  intro r h x hx
  rw [List.mapM_cons] at h
  simp only [bind, Option.bind_eq_some_iff, pure, Option.some.injEq] at h
  obtain ⟨y, hy, ys, hys, _⟩ := h
  rcases List.mem_cons.1 hx with rfl | hx
  ·exact ⟨y, hy⟩
  ·exact ih hys x hx
theorem mapM_range {α : Type} (f : Nat -> Option α) {n : Nat} {r : List α} (h : (List.range n).mapM f = some r) : r.length = n ∧ ∀ i, i < n -> ∃ x, f i = some x ∧ r[i]? = some x := by
 have gen : ∀ {l : List Nat} {r : List α}, l.mapM f = some r -> r.length = l.length ∧ ∀ i, i < l.length -> ∃ x, f (l.getD i 0) = some x ∧ r[i]? = some x := by
  intro l
  induction l with
  | nil => intro r h; simp at h; subst h; simp
  | cons a l ih =>
   intro r h
   rw [List.mapM_cons] at h
   simp only [bind, Option.bind_eq_some_iff, pure, Option.some.injEq] at h
   obtain ⟨y, hy, ys, hys, rfl⟩ := h
   obtain ⟨h1, h2⟩ := ih hys
   refine ⟨by simp [h1], fun i hi => ?_⟩
   cases i with
   | zero => exact ⟨y, by simpa using hy, rfl⟩
   | succ i => simpa using h2 i (by simpa using hi)
 obtain ⟨h1, h2⟩ := gen h
 rw [List.length_range] at h1
 refine ⟨h1, fun i hi => ?_⟩
 obtain ⟨x, hx, hr⟩ := h2 i (by simpa using hi)
 exact ⟨x, by simpa [List.getD_eq_getElem?_getD, hi] using hx, hr⟩
theorem cells_blk {b o n : Nat} {sp : Option Nat} {cs : List Value} (h : w.cells? 0 ⟨b, o, sp⟩ n = some cs) (hn : 0 < n) :
  sp = none ∧ ∃ all t fz, w.heap[b]? = some (.cells all t fz) ∧ o + n ≤ all.size ∧ cs = (all.toList.drop o).take n := by
 unfold World.cells? at h
 rw [if_pos (Nat.zero_le _)] at h
 obtain ⟨hl, hg⟩ := mapM_range _ h
 obtain ⟨x0, hx0, _⟩ := hg 0 hn
 have hspot : sp = none := by
  unfold World.cell? at hx0
  split at hx0
  ·split at hx0
   ·cases hx0
   ·rename_i hs
    simpa [Addr.add] using hs
  ·cases hx0
 subst hspot
 refine ⟨rfl, ?_⟩
 have hc : ∀ i, i < n -> ∃ all t fz, w.heap[b]? = some (.cells all t fz) ∧ ∃ x, all[o + i]? = some x ∧ cs[i]? = some x := by
  intro i hi
  obtain ⟨x, hx, hr⟩ := hg i hi
  rw [add_addr] at hx
  unfold World.cell? at hx
  split at hx
  ·rename_i all t fz hb
   rw [if_neg (by simp)] at hx
   exact ⟨all, t, fz, hb, x, hx, hr⟩
  ·cases hx
 obtain ⟨all, t, fz, hb, _⟩ := hc 0 hn
 have hc' : ∀ i, i < n -> ∃ x, all[o + i]? = some x ∧ cs[i]? = some x := by
  intro i hi
  obtain ⟨all', t', fz', hb', h'⟩ := hc i hi
  rw [hb] at hb'
  simp only [Option.some.injEq, Obj.cells.injEq] at hb'
  obtain ⟨rfl, rfl, rfl⟩ := hb'
  exact h'
 have hsz : o + n ≤ all.size := by
  obtain ⟨x, hx, _⟩ := hc' (n - 1) (by omega)
  have := (Array.getElem?_eq_some_iff.1 hx).1
  omega
 refine ⟨all, t, fz, hb, hsz, ?_⟩
 apply List.ext_getElem?
 intro i
 by_cases hi : i < n
 ·obtain ⟨x, hx, hr⟩ := hc' i hi
  rw [hr, List.getElem?_take, if_pos hi, List.getElem?_drop]
  simpa using hx.symm
 ·rw [List.getElem?_eq_none (by omega), List.getElem?_take, if_neg hi]
theorem reach_eq : reachBytes = 140737488351232 := rfl
end
theorem open_sl {W : World} {base : Nat} {t e : TypeId} {v : Value} (hu : Tryz.prog.underlying t = some (.slice e)) (h : Value.okWide Tryz.prog W .any base t v) : v.cells.toList = [v] := by
 obtain ⟨a, n, c, rfl⟩ := okWide_slice hu h
 rfl
theorem open_i64 {W : World} {base : Nat} {v : Value} (h : Value.okWide Tryz.prog W .any base 3 v ∧ Came W 3 v) : ∃ n, v = .int .i64 n ∧ i64ok n := by
 obtain ⟨h1, H, enc, fuel, x, h2, h3⟩ := h
 obtain ⟨n, rfl, _, _, hw⟩ := open_int (by kernel_rfl : Tryz.prog.underlying 3 = some (.int .i64)) h1 ⟨fuel, h2⟩
 exact ⟨n, rfl, wf_i64 hw⟩
theorem law_ret {W : World} (e : Ending) (W' : World) (h : retK (fun v W' => v = .bool true ∧ Ext [] W W') e W') : e = .returned (.bool true) ∧ Ext [] W W' := by
 cases e <;> first | exact h.elim | (obtain ⟨rfl, h⟩ := h; exact ⟨rfl, h⟩)
theorem args3 {args : Array Value} (h : args.toList.length = 3) : ∃ a b c, args = #[a, b, c] := by
 obtain ⟨l⟩ := args
 match l, h with
 | [a, b, c], _ => exact ⟨a, b, c, rfl⟩
section
variable {H : Type} {enc : TypeId × Value -> H} {P : Program} {w : World} {sp : Nat -> Bool} {held : Bool}
theorem trod_cap {t e : TypeId} {v : Value} {x : DataW H × List MemPlace} {fuel : Nat} (hu : P.underlying t = some (.slice e)) (h : DataW.trod enc P w 0 sp held fuel t [v] = some x) : capOk v := by
 rcases DataW.trod_slice hu h with ⟨hc, _⟩ | ⟨a, len, cap, elems, rest, n, _, hc, _, _, hl, _⟩
 ·simp only [List.cons.injEq, and_true] at hc
  subst hc; rfl
 ·simp only [List.cons.injEq, and_true] at hc
  subst hc; exact hl
end
end Go.Proofs.YtcihccmkionliaaGreatDoor
namespace Go.Proofs.YtcihccmkionliaaGreatDoor
open Go Go.ChangeShapes Go.WideShapes
set_option maxRecDepth 100000
theorem yield_i {P : Program} {K : VPost} {l d : Nat} {args : Array Value} {W : World} {R : Ending -> World -> Prop} (h : YieldAt Fence.wide d P l args W R) (hR : ∀ e W', R e W' -> retK K e W') : dynW P (.func (.yield l) #[] #[]) args W K := by
 obtain ⟨fn, tmps, assign, body, hy, hr⟩ := h
 show nextW P K ((Instr.yield l (#[] ++ args)).run P W)
 have e : (#[] : Array Value) ++ args = args := by simp
 rw [e, hy]
 exact roundRF (r := none) (RoundIn.mono hr hR)
theorem RdSl.lenw {P : Program} {w w' : World} {v : Value} {s : Nat} {ys : List Value} {m : Nat} {ts : Array TypeId} {t : TypeId} {K : VPost} (h : RdSl w v s ys m) : lenW P (some true) ts t #[v] w' K = K (.int .i64 m) w' := by
 obtain ⟨a, c, rfl⟩ := h.len
 exact len_s
theorem retK_i {K : VPost} {v : Value} {w : World} (h : K v w) : retK K (.returned v) w := h
theorem cndT {A B : Prop} (h : A) : condW (.bool true) A B := h
theorem cndF {A B : Prop} (h : B) : condW (.bool false) A B := h
theorem mkfunc_i {P : Program} {K : VPost} {w : World} {f : Fn} {fs cs : Array Value} (h : K (.func f fs cs) w) : insW P (Instr.makeFunc f fs cs) w K := h
section
variable {S : List Nat} {w0 w : World} {L R : List Res} {K : VPost}
theorem Sep.swap {S : List Nat} {w0 w : World} {L R : List Res} {T1 T2 : Res} (s : Sep S w0 w (T1 :: T2 :: L) R) : Sep S w0 w (T2 :: T1 :: L) R := by
 have hp := List.pairwise_cons.1 s.dis
 have hp2 := List.pairwise_cons.1 hp.2
 have hm : ∀ T ∈ T2 :: T1 :: L, T ∈ T1 :: T2 :: L := fun T h => by
  simp only [List.mem_cons] at h ⊢
  rcases h with h | h | h <;> simp [h]
 refine ⟨s.ext, fun T h => s.own T (hm T h), s.rd, fun T h => s.old T (hm T h), List.pairwise_cons.2 ⟨fun U hU b hb hn => ?_, List.pairwise_cons.2 ⟨fun U hU => hp.1 U (by simp [hU]), hp2.2⟩⟩, fun T h => s.disR T (hm T h)⟩
 rcases List.mem_cons.1 hU with rfl | hU
 ·exact hp.1 T2 (by simp) b hn hb
 ·exact hp2.1 U hU b hb hn
theorem Sep.less {R' : List Res} (s : Sep S w0 w L R) (h : ∀ T ∈ R', T ∈ R) : Sep S w0 w L R' := s.sub (List.Sublist.refl _) h
theorem gs_u {A : VPost -> Prop} {K : VPost} {w : World} {b : Bool} (h : K undef w) : gstep undef b w A K := h
theorem Sep.perm {L' : List Res} (s : Sep S w0 w L R) (h : L.Perm L') : Sep S w0 w L' R :=
 ⟨s.ext, fun T hT => s.own T (h.mem_iff.2 hT), s.rd, fun T hT => s.old T (h.mem_iff.2 hT), (List.Perm.pairwise_iff (fun hxy b hb hm => hxy b hm hb) h).1 s.dis, fun T hT => s.disR T (h.mem_iff.2 hT)⟩
theorem Sep.toFront (s : Sep S w0 w L R) (i : Nat) {T : Res} (h : L[i]? = some T) : Sep S w0 w (T :: L.eraseIdx i) R := by
 obtain ⟨hi, hT⟩ := List.getElem?_eq_some_iff.1 h
 refine s.perm ?_
 have e : L = L.take i ++ T :: L.drop (i + 1) := by rw [← hT, ← List.drop_eq_getElem_cons hi, List.take_append_drop]
 rw [List.eraseIdx_eq_take_drop_succ]
 refine (List.Perm.of_eq e).trans ?_
 exact List.perm_middle
end
theorem Sep.addBase {w0 w : World} {L R : List Res} {T : Res} (s : Sep [] w0 w L R) (h : T.holds w0) : Sep [] w0 w L (T :: R) :=
 s.addR (T.keep h s.ext (by simp)) fun U hU b hb hm => by
  rcases s.old U hU b hb with h1 | h1
  ·cases h1
  ·have := T.lt h b hm
   omega
def strF (P : Program) (t : TypeId) : Option (List (TypeId × Nat)) :=
 match P.underlying t with
 | some (.struct fs) => some (fs.toList.map fun f => (f.type, f.offset))
 | _ => none
theorem flat_cut {α : Type} (f : α -> List Value) (s : Nat) (P : α -> Prop) : ∀ (m : Nat) (ys : List Value), ys.length = m * s -> (∀ i, i < m -> ∃ c : α, P c ∧ (ys.drop (i * s)).take s = f c) -> ∃ l : List α, l.length = m ∧ (∀ c ∈ l, P c) ∧ ys = l.flatMap f := by
 intro m
 induction m with
 | zero => intro ys hl _; exact ⟨[], rfl, by simp, List.length_eq_zero_iff.1 (by rw [hl, Nat.zero_mul])⟩
 | succ m ih =>
  intro ys hl hel
  obtain ⟨c, hc, he⟩ := hel 0 (by omega)
  obtain ⟨l, h1, h2, h3⟩ := ih (ys.drop s) (by rw [List.length_drop, hl, Nat.add_mul, Nat.one_mul, Nat.add_sub_cancel]) (fun i hi => by
   obtain ⟨c, hc, he⟩ := hel (i + 1) (by omega)
   refine ⟨c, hc, ?_⟩
   rw [List.drop_drop, show s + i * s = (i + 1) * s by rw [Nat.add_mul, Nat.one_mul, Nat.add_comm]]; exact he)
  refine ⟨c :: l, by simp [h1], fun d hd => ?_, ?_⟩
  ·rcases List.mem_cons.1 hd with rfl | hd
   ·exact hc
   ·exact h2 d hd
  ·rw [List.flatMap_cons, ← h3, ← he, Nat.zero_mul, List.drop_zero, List.take_append_drop]
theorem lspl_at (l vs : List Value) (o j : Nat) (h : o + vs.length ≤ l.length) : (lspl l o vs)[j]? = if j < o then l[j]? else if j < o + vs.length then vs[j - o]? else l[j]? := by
 unfold lspl
 have ht : (l.take o).length = o := by rw [List.length_take]; omega
 rw [List.append_assoc]
 by_cases h1 : j < o
 ·rw [if_pos h1, List.getElem?_append_left (by omega), List.getElem?_take, if_pos h1]
 ·rw [if_neg h1, List.getElem?_append_right (by omega), ht]
  by_cases h2 : j < o + vs.length
  ·rw [if_pos h2, List.getElem?_append_left (by omega)]
  ·rw [if_neg h2, List.getElem?_append_right (by omega), List.getElem?_drop]
   congr 1
   omega
theorem lspl_len (l vs : List Value) (o : Nat) (h : o + vs.length ≤ l.length) : (lspl l o vs).length = l.length := by
 unfold lspl
 simp only [List.length_append, List.length_take, List.length_drop]
 omega
end Go.Proofs.YtcihccmkionliaaGreatDoor
namespace Go.Proofs.YtcihccmkionliaaGreatDoor
open Go
set_option maxRecDepth 100000
structure Lv where
 base : Int
 p0 : Int
 p1 : Int
 p2 : Int
 p3 : Int
deriving DecidableEq
abbrev iv (n : Int) : Value := .int .i64 n
def Lv.cells (l : Lv) : List Value := [iv l.base, iv l.p0, iv l.p1, iv l.p2, iv l.p3]
structure Lv.ok (l : Lv) : Prop where
 b : i64ok l.base
 k0 : i64ok l.p0
 k1 : i64ok l.p1
 k2 : i64ok l.p2
 k3 : i64ok l.p3
abbrev lcs (ls : List Lv) : List Value := ls.flatMap Lv.cells
inductive TV where
 | mk (k n : Int) (s : Bytes) (ls : List Lv) (lv av : Value) (args : List TV)
inductive TM where
 | mk (k n : Int) (s : Bytes) (ls : List Lv) (args : List TM)
namespace TV
def cells : TV -> List Value
 | mk k n s _ lv av _ => [iv k, iv n, sv s, lv, av]
def v (t : TV) : Value := .agg t.cells.toArray
def k : TV -> Int | mk k _ _ _ _ _ _ => k
def n : TV -> Int | mk _ n _ _ _ _ _ => n
def s : TV -> Bytes | mk _ _ s _ _ _ _ => s
def ls : TV -> List Lv | mk _ _ _ ls _ _ _ => ls
def lv : TV -> Value | mk _ _ _ _ lv _ _ => lv
def av : TV -> Value | mk _ _ _ _ _ av _ => av
def args : TV -> List TV | mk _ _ _ _ _ _ args => args
theorem cells_eq (t : TV) : t.cells = [iv t.k, iv t.n, sv t.s, t.lv, t.av] := by cases t; rfl
theorem cells_len (t : TV) : t.cells.length = 5 := by cases t; rfl
theorem ind {P : TV -> Prop} (h : ∀ k n s ls lv av args, (∀ a ∈ args, P a) -> P (mk k n s ls lv av args)) : ∀ t, P t :=
 TV.rec (motive_1 := P) (motive_2 := fun l => ∀ a ∈ l, P a) (fun k n s ls lv av args ih => h k n s ls lv av args ih) (by simp) (fun a r h1 h2 b hb => by
  rcases List.mem_cons.1 hb with rfl | hb
  ·exact h1
  ·exact h2 b hb)
end TV
abbrev tcs (ts : List TV) : List Value := ts.flatMap TV.cells
mutual
def TV.e : TV -> TM
 | .mk k n s ls _ _ args => .mk k n s ls (TV.es args)
def TV.es : List TV -> List TM
 | [] => []
 | a :: r => a.e :: TV.es r
end
theorem es_map : ∀ ts : List TV, TV.es ts = ts.map TV.e
 | [] => rfl
 | a :: r => by rw [TV.es, es_map r]; rfl
theorem TV.e_eq (t : TV) : t.e = .mk t.k t.n t.s t.ls (t.args.map TV.e) := by
 cases t with
 | mk k n s ls lv av args => rw [TV.e, es_map]; rfl
mutual
def TV.ok (w : World) : TV -> Prop
 | .mk k n s ls lv av args => (i64ok k ∧ i64ok n ∧ s.length < 2 ^ 60 ∧ (∀ l ∈ ls, l.ok) ∧ ls.length < 2 ^ 50 ∧ args.length < 2 ^ 50) ∧ (RdSl w lv 5 (lcs ls) ls.length ∧ capOk lv) ∧ (RdSl w av 5 (tcs args) args.length ∧ capOk av) ∧ TV.oks w args
def TV.oks (w : World) : List TV -> Prop
 | [] => True
 | a :: r => a.ok w ∧ TV.oks w r
end
theorem oks_iff {w : World} : ∀ {ts : List TV}, TV.oks w ts ↔ ∀ t ∈ ts, t.ok w
 | [] => by simp [TV.oks]
 | a :: r => by simp [TV.oks, oks_iff (ts := r)]
structure TOk (w : World) (t : TV) : Prop where
 k : i64ok t.k
 n : i64ok t.n
 s : t.s.length < 2 ^ 60
 l : ∀ l ∈ t.ls, l.ok
 ll : t.ls.length < 2 ^ 50
 al : t.args.length < 2 ^ 50
 lr : RdSl w t.lv 5 (lcs t.ls) t.ls.length
 lc : capOk t.lv
 ar : RdSl w t.av 5 (tcs t.args) t.args.length
 ac : capOk t.av
 a : ∀ a ∈ t.args, a.ok w
theorem tok_iff {w : World} {t : TV} : t.ok w ↔ TOk w t := by
 cases t with
 | mk k n s ls lv av args =>
  rw [TV.ok, oks_iff]
  exact ⟨fun ⟨⟨h1, h2, h3, h4, h5, h6⟩, ⟨h7, h8⟩, ⟨h9, h10⟩, h11⟩ => ⟨h1, h2, h3, h4, h5, h6, h7, h8, h9, h10, h11⟩, fun h => ⟨⟨h.k, h.n, h.s, h.l, h.ll, h.al⟩, ⟨h.lr, h.lc⟩, ⟨h.ar, h.ac⟩, h.a⟩⟩
mutual
def TV.foot : TV -> List Nat
 | .mk _ _ _ ls lv av args => rdB lv (lcs ls) ++ (rdB av (tcs args) ++ TV.foots args)
def TV.foots : List TV -> List Nat
 | [] => []
 | a :: r => a.foot ++ TV.foots r
end
theorem foots_mem {b : Nat} : ∀ {ts : List TV}, b ∈ TV.foots ts ↔ ∃ t ∈ ts, b ∈ t.foot
 | [] => by simp [TV.foots]
 | a :: r => by simp [TV.foots, foots_mem (ts := r)]
theorem TV.foot_eq (t : TV) : t.foot = rdB t.lv (lcs t.ls) ++ (rdB t.av (tcs t.args) ++ TV.foots t.args) := by
 cases t; rw [TV.foot]; rfl
theorem TV.keepS {S : List Nat} {w w' : World} (e : Ext S w w') : ∀ t : TV, t.ok w -> (∀ b ∈ t.foot, b ∉ S) -> t.ok w' :=
 TV.ind fun k n s ls lv av args ih h hd => by
  have h := tok_iff.1 h
  rw [TV.foot_eq] at hd
  simp only [List.mem_append] at hd
  refine tok_iff.2 ⟨h.k, h.n, h.s, h.l, h.ll, h.al, (rR lv 5 (lcs ls) ls.length).keep h.lr e fun b hb => hd b (.inl hb), h.lc, (rR av 5 (tcs args) args.length).keep h.ar e fun b hb => hd b (.inr (.inl hb)), h.ac, fun a ha => ih a ha (h.a a ha) fun b hb => hd b ?_⟩
  exact .inr (.inr (foots_mem.2 ⟨a, ha, hb⟩))
theorem TV.keep {w w' : World} (e : Ext [] w w') {t : TV} (h : t.ok w) : t.ok w' := TV.keepS e t h (by simp)
theorem TV.lt {w : World} : ∀ t : TV, t.ok w -> ∀ b ∈ t.foot, b < w.heap.size :=
 TV.ind fun k n s ls lv av args ih h b hb => by
  have h := tok_iff.1 h
  rw [TV.foot_eq] at hb
  simp only [List.mem_append] at hb
  rcases hb with hb | hb | hb
  ·exact (rR lv 5 (lcs ls) ls.length).lt h.lr b hb
  ·exact (rR av 5 (tcs args) args.length).lt h.ar b hb
  ·obtain ⟨a, ha, hb⟩ := foots_mem.1 hb
   exact ih a ha (h.a a ha) b hb
def rT (t : TV) : Res := ⟨t.foot, fun w => t.ok w, fun {_} h => TV.lt t h, fun {_ _ _} h e hd => TV.keepS e t h hd⟩
def rTs (ts : List TV) : Res := ⟨TV.foots ts, fun w => ∀ t ∈ ts, t.ok w, fun {_} h b hb => by
 obtain ⟨a, ha, hb⟩ := foots_mem.1 hb
 exact TV.lt a (h a ha) b hb, fun {_ _ _} h e hd a ha => TV.keepS e a (h a ha) fun b hb => hd b (foots_mem.2 ⟨a, ha, hb⟩)⟩
theorem tcs_get {ts : List TV} {i : Nat} (hi : i < ts.length) : ((tcs ts).drop (i * 5)).take 5 = ts[i].cells := flat_get TV.cells 5 ts (fun t _ => t.cells_len) i hi
theorem lcs_get {ls : List Lv} {i : Nat} (hi : i < ls.length) : ((lcs ls).drop (i * 5)).take 5 = ls[i].cells := flat_get Lv.cells 5 ls (fun _ _ => rfl) i hi
theorem RdSl.term {w : World} {x : Value} {ts : List TV} (h : RdSl w x 5 (tcs ts) ts.length) {i : Nat} (hi : i < ts.length) (kk : IntKind) :
  ∃ b o, (∀ K : VPost, K (.pointer (some ⟨b, o, none⟩)) w -> idxW (some (none, 5)) x (.int kk i) w K) ∧ (∀ K : VPost, K ts[i].v w -> loadW (some (true, 5)) (.pointer (some ⟨b, o, none⟩)) w K) := by
 obtain ⟨b, o, cs, q1, q2, q3, q4⟩ := h.elem hi (by decide) kk
 rw [tcs_get hi] at q4
 exact ⟨b, o, q1, fun K hK => loadN q2 q3 (by rw [q4]; exact hK)⟩
theorem RdSl.level {w : World} {x : Value} {ls : List Lv} (h : RdSl w x 5 (lcs ls) ls.length) {i : Nat} (hi : i < ls.length) (kk : IntKind) :
  ∃ b o, (∀ K : VPost, K (.pointer (some ⟨b, o, none⟩)) w -> idxW (some (none, 5)) x (.int kk i) w K) ∧ (∀ K : VPost, K (.agg ls[i].cells.toArray) w -> loadW (some (true, 5)) (.pointer (some ⟨b, o, none⟩)) w K) := by
 obtain ⟨b, o, cs, q1, q2, q3, q4⟩ := h.elem hi (by decide) kk
 rw [lcs_get hi] at q4
 exact ⟨b, o, q1, fun K hK => loadN q2 q3 (by rw [q4]; exact hK)⟩
theorem lit_wf {n : Int} (h : i64ok n) : (Lit.int .i64 n).wf = true := by
 have h1 := h.1
 have h2 := h.2
 have h3 : IntKind.min .i64 = -9223372036854775808 := rfl
 simp [Lit.wf]
 rw [h3]
 exact ⟨h1, h2⟩
theorem lits_int (d : Nat) {n : Int} (h : i64ok n) : Tryz.prog.keyLits (d + 1) 3 [iv n] = some [.int .i64 n] := by
 unfold Program.keyLits iv
 rw [und_int]
 simp [lit_wf h]
theorem lits_arr {a b c e : Int} (ha : i64ok a) (hb : i64ok b) (hc : i64ok c) (he : i64ok e) : Tryz.prog.keyLits 2 93 [iv a, iv b, iv c, iv e] = some [.int .i64 a, .int .i64 b, .int .i64 c, .int .i64 e] := by
 unfold Program.keyLits
 rw [(by kernel_rfl : Tryz.prog.underlying 93 = some (.array 4 3))]
 have h4 : Tryz.prog.cellsOf 93 = 4 := by kernel_rfl
 have h1 : Tryz.prog.cellsOf 3 = 1 := by kernel_rfl
 simp [h4, h1, List.range, List.range.loop, lits_int 0 ha, lits_int 0 hb, lits_int 0 hc, lits_int 0 he]
theorem flds_lvl : strF Tryz.prog 95 = some [(3, 0), (93, 1)] := by kernel_rfl
theorem lits_lvl {l : Lv} (h : l.ok) : Tryz.prog.keyLits 3 95 l.cells = some [.int .i64 l.base, .int .i64 l.p0, .int .i64 l.p1, .int .i64 l.p2, .int .i64 l.p3] := by
 have hs := flds_lvl
 unfold strF at hs
 split at hs
 ·rename_i fs hu
  simp only [Option.some.injEq] at hs
  unfold Program.keyLits
  rw [hu]
  have h5 : Tryz.prog.cellsOf 95 = 5 := by kernel_rfl
  have h4 : Tryz.prog.cellsOf 93 = 4 := by kernel_rfl
  have h1 : Tryz.prog.cellsOf 3 = 1 := by kernel_rfl
  have hn : (fs.all (·.name != "_")) = true := by
   have h2 : (match Tryz.prog.underlying 95 with | some (.struct fs) => fs.all (·.name != "_") | _ => false) = true := by kernel_rfl
   rw [hu] at h2
   exact h2
  have hm : (fs.toList.mapM fun f => Tryz.prog.keyLits 2 f.type ((l.cells.drop f.offset).take (Tryz.prog.cellsOf f.type))) = (fs.toList.map fun f => (f.type, f.offset)).mapM fun p => Tryz.prog.keyLits 2 p.1 ((l.cells.drop p.2).take (Tryz.prog.cellsOf p.1)) := by
   rw [List.mapM_map]
   rfl
  simp only [hn, and_true]
  rw [hm, hs, if_pos (by rw [h5]; rfl)]
  simp [h4, h1, Lv.cells, lits_int 1 h.b, lits_arr h.k0 h.k1 h.k2 h.k3]
 ·cases hs
theorem lvl_lits_inj {a b : Lv} (h : [Lit.int .i64 a.base, .int .i64 a.p0, .int .i64 a.p1, .int .i64 a.p2, .int .i64 a.p3] = [Lit.int .i64 b.base, .int .i64 b.p0, .int .i64 b.p1, .int .i64 b.p2, .int .i64 b.p3]) : a = b := by
 cases a; cases b
 simp at h
 simp [h]
theorem lvl_run {a b : Lv} (ha : a.ok) (hb : b.ok) (w : World) : (Op.equal 95 (.agg a.cells.toArray) (.agg b.cells.toArray)).run Tryz.prog w = .ok (decide (a = b)) w := by
 obtain ⟨r, hr, hi⟩ := run_equalIn_deep (P := Tryz.prog) (10000 - 3) 3 95 (by kernel_rfl) w 3 3 (.agg a.cells.toArray) (.agg b.cells.toArray) _ _ (by kernel_rfl) (by kernel_rfl) (lits_lvl ha) (lits_lvl hb)
 have e : r = decide (a = b) := by
  by_cases h : a = b
  ·rw [decide_eq_true h]; exact hi.2 (by rw [h])
  ·rw [decide_eq_false h]
   cases r with
   | false => rfl
   | true => exact absurd (lvl_lits_inj (hi.1 rfl)) h
 rw [← e]
 exact hr
theorem lvl_neq {w : World} {K : VPost} {c : Bool} {a b : Lv} (ha : a.ok) (hb : b.ok) (h : K (.bool (!decide (a = b))) w) : binW Tryz.prog .neq 95 c (.agg a.cells.toArray) (.agg b.cells.toArray) w K :=
 (bin_nequal (guard_agg (by kernel_rfl)) rfl (lvl_run ha hb w)).mpr h
theorem str_neq {P : Program} {w : World} {K : VPost} {t : TypeId} {c : Bool} {a b : Bytes} (h : K (.bool (!decide (a = b))) w) : binW P .neq t c (sv a) (sv b) w K := by
 have e : (Op.stringOp .neq ⟨a.toArray⟩ ⟨b.toArray⟩).run P w = .ok (.bool (!decide (a = b))) w := by
  simp only [Op.stringOp, bl_list, Sem.run_pure]
  congr 2
  by_cases h : a = b <;> simp [h]
 show binW P .neq t c (.string ⟨a.toArray⟩) (.string ⟨b.toArray⟩) w K
 unfold binW insW binE
 rw [Sem.run_bind]
 have hg : (guardE .neq t c (.string ⟨a.toArray⟩) (.string ⟨b.toArray⟩)).run P w = .ok () w := by cases c <;> rfl
 rw [hg, Result.andThen_ok]
 show okW K ((Op.stringOp .neq ⟨a.toArray⟩ ⟨b.toArray⟩).run P w)
 rw [e]
 exact h
mutual
def TV.size : TV -> Nat
 | .mk _ _ _ ls _ _ args => 1 + ls.length + TV.sizes args
def TV.sizes : List TV -> Nat
 | [] => 0
 | a :: r => a.size + TV.sizes r
end
theorem TV.size_eq (t : TV) : t.size = 1 + t.ls.length + TV.sizes t.args := by cases t; rw [TV.size]; rfl
theorem sizes_app : ∀ a b : List TV, TV.sizes (a ++ b) = TV.sizes a + TV.sizes b
 | [], b => by simp [TV.sizes]
 | x :: a, b => by simp [TV.sizes, sizes_app a b]; omega
theorem sizes_take {ts : List TV} {i : Nat} (hi : i < ts.length) : TV.sizes (ts.take (i + 1)) = TV.sizes (ts.take i) + ts[i].size := by
 rw [List.take_succ_eq_append_getElem hi, sizes_app]
 simp [TV.sizes]
theorem sizes_le {ts : List TV} {t : TV} (h : t ∈ ts) : t.size ≤ TV.sizes ts := by
 induction ts with
 | nil => cases h
 | cons a r ih =>
  rw [TV.sizes]
  rcases List.mem_cons.1 h with rfl | h
  ·omega
  ·have := ih h; omega
theorem size_pos (t : TV) : 1 ≤ t.size := by rw [TV.size_eq]; omega
theorem len_sizes : ∀ ts : List TV, ts.length ≤ TV.sizes ts
 | [] => by simp
 | a :: r => by
  have h1 := size_pos a
  have h2 := len_sizes r
  rw [TV.sizes, List.length_cons]; omega
theorem sizes_take_le (ts : List TV) (i : Nat) : TV.sizes (ts.take i) ≤ TV.sizes ts := by
 have h := sizes_app (ts.take i) (ts.drop i)
 rw [List.take_append_drop] at h
 omega
mutual
def TM.size : TM -> Nat
 | .mk _ _ _ ls args => 1 + ls.length + TM.sizes args
def TM.sizes : List TM -> Nat
 | [] => 0
 | a :: r => a.size + TM.sizes r
end
theorem tm_sizes : ∀ ts : List TM, TM.sizes ts = (ts.map TM.size).sum
 | [] => by simp [TM.sizes]
 | a :: r => by simp [TM.sizes, tm_sizes r]
theorem tv_sizes : ∀ ts : List TV, TV.sizes ts = (ts.map TV.size).sum
 | [] => by simp [TV.sizes]
 | a :: r => by simp [TV.sizes, tv_sizes r]
theorem size_e : ∀ t : TV, t.e.size = t.size :=
 TV.ind fun k n nm ls lv av args ih => by
  rw [TV.e_eq, TM.size, TV.size_eq, tm_sizes, tv_sizes, List.map_map]
  congr 2
  exact List.map_congr_left fun a ha => ih a ha
theorem TV.box {w : World} {t : TV} (h : t.ok w) {K : VPost} (hK : ∀ b w', Sep [] w w' [rB b t.cells 25] [rT t] -> K (.pointer (some ⟨b, 0, none⟩)) w') : boxW 25 t.v w K :=
 (Sep.zero1 (U := rT t) h).box fun b w1 s _ => hK b w1 s
set_option maxHeartbeats 400000 in
theorem nodes_c : ∀ (t : TV) {w : World} {K : VPost} {most : Nat}, t.ok w -> most ≤ 2 ^ 40 -> (∀ w', Ext [] w w' -> K (.int .i64 ((min t.size (most + 1) : Nat) : Int)) w') -> Calls Tryz.prog 72 #[t.v, .int .i64 most] w (retK K) := by
 refine TV.ind fun k n nm ls lv av args ih w K most h hm hK => ?_
 refine c72_calls _ _ w K ?_
 unfold c72
 refine TV.box h fun b w1 s => ?_
 have hk := tok_iff.1 h
 have hll : ls.length < 2 ^ 50 := hk.ll
 have hal : args.length < 2 ^ 50 := hk.al
 have hl1 : ∀ (w : World) (K : VPost), lenW Tryz.prog (some true) #[22] 3 #[lv] w K = K (.int .i64 ls.length) w := fun w K => RdSl.lenw hk.lr
 have ha1 : ∀ (w : World) (K : VPost), lenW Tryz.prog (some true) #[23] 3 #[av] w K = K (.int .i64 args.length) w := fun w K => RdSl.lenw hk.ar
 refine off_i ?_
 refine s.load1 (v := lv) 0 rfl rfl ?_
 rw [hl1]
 refine nadd (x := 1) (by omega) ?_
 refine bindX_i fun J0 g0 => bindX_i fun J1 g1 => bindX_i fun J2 g2 => ?_
 refine loop_i (fun m fr wr => ∃ i q : Nat, m = args.length - i ∧ i ≤ args.length ∧ fr 1 = .int .i64 most ∧ fr 2 = .pointer (some ⟨b, 0, none⟩) ∧ fr 5 = .int .i64 q ∧ fr 6 = .int .i64 i ∧ q ≤ 2 ^ 52 ∧ min q (most + 1) = min (1 + ls.length + TV.sizes (args.take i)) (most + 1) ∧ Sep [] w wr [rB b (TV.mk k n nm ls lv av args).cells 25] [rT (TV.mk k n nm ls lv av args)]) args.length ?_ ?_
 ·refine ⟨0, 1 + ls.length, rfl, by omega, rfl, rfl, rfl, rfl, by omega, ?_, ?_⟩
  ·simp [TV.sizes]
  ·exact s
 ·rintro m fr wr J ⟨i, q, rfl, hi, f1, f2, f5, f6, hq, hmin, s⟩ hJ hX
  rw [f2]
  refine off_i ?_
  refine s.load1 (v := av) 0 rfl rfl ?_
  rw [ha1, f6]
  refine nlss ?_
  have out : ∀ (fr' : Fr), fr' 1 = .int .i64 most -> fr' 5 = .int .i64 q -> min q (most + 1) = min (TV.mk k n nm ls lv av args).size (most + 1) -> J1 .normal fr' wr := by
   intro fr' k1 k5 he
   refine seq_n g1 ?_
   rw [k1, k5]
   refine nadd (y := 1) (by omega) ?_
   rw [min_e, show min (q : Int) ((most + 1 : Nat) : Int) = ((min q (most + 1) : Nat) : Int) by omega, he]
   exact hK wr s.ext
  have hsz : (TV.mk k n nm ls lv av args).size = 1 + ls.length + TV.sizes args := by rw [TV.size]
  by_cases hlt : i < args.length
  ·rw [decide_eq_true hlt]
   refine gs_t ?_
   refine gs_t ?_
   refine gs_t ?_
   rw [f5, f1]
   refine nleq ?_
   refine pick_ti ?_
   refine cond_d (fun hle => ?_) (fun hle => ?_)
   ·refine off_i ?_
    refine s.load1 (v := av) 0 rfl rfl ?_
    have hk' : TOk wr (TV.mk k n nm ls lv av args) := tok_iff.1 (TV.keep s.ext h)
    obtain ⟨b1, o1, hix, hld⟩ := hk'.ar.term hlt .i64
    refine hix _ ?_
    refine hld _ ?_
    have hst := sizes_take hlt
    refine fnW_of (by kernel_rfl) (ih args[i] (List.getElem_mem hlt) (hk'.a _ (List.getElem_mem hlt)) hm fun w2 e2 => ?_)
    refine nadd (by omega) ?_
    refine nadd (y := 1) (by omega) ?_
    exact hJ (args.length - (i + 1)) _ _ (by omega) ⟨i + 1, _, rfl, by omega, f1, f2, rfl, rfl, by omega, by omega, s.ext0 e2⟩
   ·refine hX _ _ _ (by simp) (g2 _ _ _ (blk_x (out _ f1 f5 ?_)))
    have := sizes_take_le args i
    omega
  ·rw [decide_eq_false hlt]
   refine gs_ft ?_
   refine gs_ft ?_
   refine gs_ft ?_
   refine pick_fi ?_
   refine cndF ?_
   obtain rfl : i = args.length := by omega
   rw [List.take_length] at hmin
   refine hX _ _ _ (by simp) (g2 _ _ _ (blk_x (out _ f1 f5 ?_)))
   rw [hmin, hsz]
noncomputable def sameB (a b : TM) : Bool := @decide (a = b) (Classical.propDecidable _)
theorem sameB_t {a b : TM} (h : a = b) : sameB a b = true := by unfold sameB; simp [h]
theorem sameB_f {a b : TM} (h : a ≠ b) : sameB a b = false := by unfold sameB; simp [h]
theorem e_inj {a b : TV} (h : a.e = b.e) : a.k = b.k ∧ a.n = b.n ∧ a.s = b.s ∧ a.ls = b.ls ∧ a.args.map TV.e = b.args.map TV.e := by
 rw [TV.e_eq, TV.e_eq b] at h
 injection h with h1 h2 h3 h4 h5
 exact ⟨h1, h2, h3, h4, h5⟩
set_option maxHeartbeats 800000 in
theorem same_c : ∀ (t u : TV) {w : World} {K : VPost}, t.ok w -> u.ok w -> (∀ w', Ext [] w w' -> K (.bool (sameB t.e u.e)) w') -> Calls Tryz.prog 31 #[t.v, u.v] w (retK K) := by
 refine TV.ind fun k n nm ls lv av args ih u w K h hu hK => ?_
 obtain ⟨k', n', nm', ls', lv', av', args'⟩ := u
 refine c31_calls _ _ w K ?_
 unfold c31
 refine TV.box h fun b w1 s => ?_
 have s := s.addBase (T := rT (TV.mk k' n' nm' ls' lv' av' args')) hu
 refine s.box fun b' w2 s _ => ?_
 have s : Sep [] w w2 (rB b' (TV.mk k' n' nm' ls' lv' av' args').cells 25 :: rB b (TV.mk k n nm ls lv av args).cells 25 :: []) (rT (TV.mk k' n' nm' ls' lv' av' args') :: rT (TV.mk k n nm ls lv av args) :: []) := s
 have hk := tok_iff.1 h
 have hk' := tok_iff.1 hu
 have hll : ls.length < 2 ^ 50 := hk.ll
 have hal : args.length < 2 ^ 50 := hk.al
 have hl1 : ∀ (w : World) (K : VPost), lenW Tryz.prog (some true) #[22] 3 #[lv] w K = K (.int .i64 ls.length) w := fun w K => RdSl.lenw hk.lr
 have ha1 : ∀ (w : World) (K : VPost), lenW Tryz.prog (some true) #[23] 3 #[av] w K = K (.int .i64 args.length) w := fun w K => RdSl.lenw hk.ar
 have hl2 : ∀ (w : World) (K : VPost), lenW Tryz.prog (some true) #[22] 3 #[lv'] w K = K (.int .i64 ls'.length) w := fun w K => RdSl.lenw hk'.lr
 have ha2 : ∀ (w : World) (K : VPost), lenW Tryz.prog (some true) #[23] 3 #[av'] w K = K (.int .i64 args'.length) w := fun w K => RdSl.lenw hk'.ar
 have no : ∀ w', Sep [] w w' (rB b' (TV.mk k' n' nm' ls' lv' av' args').cells 25 :: rB b (TV.mk k n nm ls lv av args).cells 25 :: []) (rT (TV.mk k' n' nm' ls' lv' av' args') :: rT (TV.mk k n nm ls lv av args) :: []) -> (TV.mk k n nm ls lv av args).e ≠ (TV.mk k' n' nm' ls' lv' av' args').e -> K (.bool false) w' := by
  intro w' s hne
  have := hK w' s.ext
  rw [sameB_f hne] at this
  exact this
 refine off_i ?_
 refine s.load1 (v := iv k) 1 rfl rfl ?_
 refine off_i ?_
 refine s.load1 (v := iv k') 0 rfl rfl ?_
 show binN _ _ _ _ (Value.int .i64 k) (Value.int .i64 k') _ _
 rw [ineq]
 by_cases h1 : k = k'
 case neg =>
  rw [decide_eq_true (by simpa using h1)]
  iterate 4 ((repeat with_reducible refine gs_tf ?_); refine pick_ti ?_)
  exact cndT (no w2 s fun he => h1 (e_inj he).1)
 rw [decide_eq_false (by simpa using h1)]
 refine gs_f (off_i ?_)
 refine gs_f (s.load1 (v := iv n) 1 rfl rfl ?_)
 refine gs_f (off_i ?_)
 refine gs_f (s.load1 (v := iv n') 0 rfl rfl ?_)
 refine gs_f ?_
 show binN _ _ _ _ (Value.int .i64 n) (Value.int .i64 n') _ _
 rw [ineq]
 refine pick_fi ?_
 by_cases h2 : n = n'
 case neg =>
  rw [decide_eq_true (by simpa using h2)]
  iterate 3 ((repeat with_reducible refine gs_tf ?_); refine pick_ti ?_)
  exact cndT (no w2 s fun he => h2 (e_inj he).2.1)
 rw [decide_eq_false (by simpa using h2)]
 refine gs_f (off_i ?_)
 refine gs_f (s.load1 (v := sv nm) 1 rfl rfl ?_)
 refine gs_f (off_i ?_)
 refine gs_f (s.load1 (v := sv nm') 0 rfl rfl ?_)
 refine gs_f (str_neq ?_)
 refine pick_fi ?_
 by_cases h3 : nm = nm'
 case neg =>
  rw [decide_eq_false h3, Bool.not_false]
  iterate 2 ((repeat with_reducible refine gs_tf ?_); refine pick_ti ?_)
  exact cndT (no w2 s fun he => h3 (e_inj he).2.2.1)
 rw [decide_eq_true h3, Bool.not_true]
 refine gs_f (off_i ?_)
 refine gs_f (s.load1 (v := lv) 1 rfl rfl ?_)
 refine gs_f ?_
 rw [hl1]
 refine gs_f (off_i ?_)
 refine gs_f (s.load1 (v := lv') 0 rfl rfl ?_)
 refine gs_f ?_
 rw [hl2]
 refine gs_f (nneq ?_)
 refine pick_fi ?_
 by_cases h4 : ls.length = ls'.length
 case neg =>
  rw [decide_eq_true (by simpa using h4)]
  iterate 1 ((repeat with_reducible refine gs_tf ?_); refine pick_ti ?_)
  exact cndT (no w2 s fun he => h4 (by have := congrArg List.length (e_inj he).2.2.2.1; exact this))
 rw [decide_eq_false (by simpa using h4)]
 refine gs_f (off_i ?_)
 refine gs_f (s.load1 (v := av) 1 rfl rfl ?_)
 refine gs_f ?_
 rw [ha1]
 refine gs_f (off_i ?_)
 refine gs_f (s.load1 (v := av') 0 rfl rfl ?_)
 refine gs_f ?_
 rw [ha2]
 refine gs_f (nneq ?_)
 refine pick_fi ?_
 refine cond_d (fun h5 => ?_) (fun h5 => ?_)
 ·exact no w2 s fun he => h5 (by have := congrArg List.length (e_inj he).2.2.2.2; rw [List.length_map, List.length_map] at this; exact this)
 have h5 : args.length = args'.length := by omega
 refine bindX_i fun J0 g0 => bindX_i fun J1 g1 => bindX_i fun J2 g2 => ?_
 -- the Args, behind the Levels
 have args_c : ∀ (fr : Fr) (wr : World), ls = ls' -> fr 2 = .pointer (some ⟨b, 0, none⟩) -> fr 3 = .pointer (some ⟨b', 0, none⟩) -> Sep [] w wr (rB b' (TV.mk k' n' nm' ls' lv' av' args').cells 25 :: rB b (TV.mk k n nm ls lv av args).cells 25 :: []) (rT (TV.mk k' n' nm' ls' lv' av' args') :: rT (TV.mk k n nm ls lv av args) :: []) -> J1 .normal fr wr := by
  intro fr wr hle k2 k3 s
  refine seq_n g1 ?_
  refine bindX_i fun J3 g3 => bindX_i fun J4 g4 => ?_
  refine loop_i (fun m fr wr => ∃ i : Nat, m = args.length - i ∧ i ≤ args.length ∧ fr 2 = .pointer (some ⟨b, 0, none⟩) ∧ fr 3 = .pointer (some ⟨b', 0, none⟩) ∧ fr 6 = .int .i64 i ∧ (args.take i).map TV.e = (args'.take i).map TV.e ∧ Sep [] w wr (rB b' (TV.mk k' n' nm' ls' lv' av' args').cells 25 :: rB b (TV.mk k n nm ls lv av args).cells 25 :: []) (rT (TV.mk k' n' nm' ls' lv' av' args') :: rT (TV.mk k n nm ls lv av args) :: [])) args.length ?_ ?_
  ·exact ⟨0, rfl, by omega, k2, k3, rfl, rfl, s⟩
  ·rintro m fr wr J ⟨i, rfl, hi, f2, f3, f6, heq, s⟩ hJ hX
   rw [f2, f3, f6]
   refine off_i ?_
   refine s.load1 (v := av) 1 rfl rfl ?_
   rw [ha1]
   refine nlss (cond_d (fun hlt => ?_) (fun hlt => ?_))
   ·have s := s.drew
    generalize wr.drew = wr at *
    have hlt' : i < args'.length := by omega
    have ko : TOk wr (TV.mk k n nm ls lv av args) := tok_iff.1 (s.rat 1 rfl)
    have ko' : TOk wr (TV.mk k' n' nm' ls' lv' av' args') := tok_iff.1 (s.rat 0 rfl)
    refine off_i ?_
    refine s.load1 (v := av) 1 rfl rfl ?_
    obtain ⟨b1, o1, hix1, hld1⟩ := ko.ar.term hlt .i64
    refine hix1 _ ?_
    refine hld1 _ ?_
    refine off_i ?_
    refine s.load1 (v := av') 0 rfl rfl ?_
    obtain ⟨b2, o2, hix2, hld2⟩ := ko'.ar.term hlt' .i64
    refine hix2 _ ?_
    refine hld2 _ ?_
    refine fnW_of (by kernel_rfl) (ih args[i] (List.getElem_mem hlt) args'[i] (ko.a _ (List.getElem_mem hlt)) (ko'.a _ (List.getElem_mem hlt')) fun w3 e3 => ?_)
    have s := s.ext0 e3
    refine not_ti ?_
    by_cases hee : args[i].e = args'[i].e
    ·rw [sameB_t hee]
     refine cndF ?_
     refine nadd (y := 1) (by omega) ?_
     refine hJ (args.length - (i + 1)) _ _ (by omega) ⟨i + 1, rfl, by omega, f2, f3, rfl, ?_, s⟩
     rw [List.take_succ_eq_append_getElem hlt, List.take_succ_eq_append_getElem hlt', List.map_append, List.map_append, heq]
     simp [hee]
    ·rw [sameB_f hee]
     refine cndT ?_
     refine hX _ _ _ (by simp) (g4 _ _ _ (g3 _ _ _ (g0 _ _ _ ?_)))
     refine no w3 s fun he => hee ?_
     have hm := (e_inj he).2.2.2.2
     have h6 : (args.map TV.e)[i]? = (args'.map TV.e)[i]? := by
      have hm : args.map TV.e = args'.map TV.e := hm
      rw [hm]
     simpa [hlt, hlt'] using h6
   ·obtain rfl : i = args.length := by omega
    rw [List.take_length, h5, List.take_length] at heq
    refine hX _ _ _ (by simp) (g4 _ _ _ (blk_x (seq_n g3 ?_)))
    have := hK wr s.ext
    rw [sameB_t (by rw [TV.e_eq, TV.e_eq (TV.mk k' n' nm' ls' lv' av' args')]; show TM.mk k n nm ls (args.map TV.e) = TM.mk k' n' nm' ls' (args'.map TV.e); rw [h1, h2, h3, hle, heq])] at this
    exact this
 refine loop_i (fun m fr wr => ∃ i : Nat, m = ls.length - i ∧ i ≤ ls.length ∧ fr 2 = .pointer (some ⟨b, 0, none⟩) ∧ fr 3 = .pointer (some ⟨b', 0, none⟩) ∧ fr 5 = .int .i64 i ∧ ls.take i = ls'.take i ∧ Sep [] w wr (rB b' (TV.mk k' n' nm' ls' lv' av' args').cells 25 :: rB b (TV.mk k n nm ls lv av args).cells 25 :: []) (rT (TV.mk k' n' nm' ls' lv' av' args') :: rT (TV.mk k n nm ls lv av args) :: [])) ls.length ?_ ?_
 ·exact ⟨0, rfl, by omega, rfl, rfl, rfl, rfl, s⟩
 ·rintro m fr wr J ⟨i, rfl, hi, f2, f3, f5, heq, s⟩ hJ hX
  rw [f2, f3, f5]
  refine off_i ?_
  refine s.load1 (v := lv) 1 rfl rfl ?_
  rw [hl1]
  refine nlss (cond_d (fun hlt => ?_) (fun hlt => ?_))
  ·have s := s.drew
   generalize wr.drew = wr at *
   have hlt' : i < ls'.length := by omega
   have ko : TOk wr (TV.mk k n nm ls lv av args) := tok_iff.1 (s.rat 1 rfl)
   have ko' : TOk wr (TV.mk k' n' nm' ls' lv' av' args') := tok_iff.1 (s.rat 0 rfl)
   refine off_i ?_
   refine s.load1 (v := lv) 1 rfl rfl ?_
   obtain ⟨b1, o1, hix1, hld1⟩ := ko.lr.level hlt .i64
   refine hix1 _ ?_
   refine hld1 _ ?_
   refine off_i ?_
   refine s.load1 (v := lv') 0 rfl rfl ?_
   obtain ⟨b2, o2, hix2, hld2⟩ := ko'.lr.level hlt' .i64
   refine hix2 _ ?_
   refine hld2 _ ?_
   refine lvl_neq (ko.l _ (List.getElem_mem hlt)) (ko'.l _ (List.getElem_mem hlt')) ⟨rfl, ?_⟩
   by_cases hee : ls[i] = ls'[i]
   ·have hee2 : (TV.mk k n nm ls lv av args).ls[i] = (TV.mk k' n' nm' ls' lv' av' args').ls[i] := hee
    rw [decide_eq_true hee2, Bool.not_true]
    refine cndF ?_
    refine nadd (y := 1) (by omega) ?_
    refine hJ (ls.length - (i + 1)) _ _ (by omega) ⟨i + 1, rfl, by omega, f2, f3, rfl, ?_, s⟩
    rw [List.take_succ_eq_append_getElem hlt, List.take_succ_eq_append_getElem hlt', heq, hee]
   ·have hee2 : ¬ (TV.mk k n nm ls lv av args).ls[i] = (TV.mk k' n' nm' ls' lv' av' args').ls[i] := hee
    rw [decide_eq_false hee2, Bool.not_false]
    refine cndT ?_
    refine hX _ _ _ (by simp) (g2 _ _ _ (g1 _ _ _ (g0 _ _ _ ?_)))
    refine no wr s fun he => hee ?_
    have hm : ls = ls' := (e_inj he).2.2.2.1
    subst hm
    rfl
  ·obtain rfl : i = ls.length := by omega
   rw [List.take_length, h4, List.take_length] at heq
   exact hX _ _ _ (by simp) (g2 _ _ _ (blk_x (args_c _ wr heq f2 f3 s)))
theorem und_terms : Tryz.prog.underlying 23 = some (.slice 25) := by kernel_rfl
theorem und_levels : Tryz.prog.underlying 22 = some (.slice 95) := by kernel_rfl
def zT : List Value := [iv 0, iv 0, sv [], .slice none 0 0, .slice none 0 0]
def zL : List Value := [iv 0, iv 0, iv 0, iv 0, iv 0]
theorem ty_term : tyI Tryz.prog 25 = some (.agg zT.toArray, 5, 80) := by kernel_rfl
theorem ty_level : tyI Tryz.prog 95 = some (.agg zL.toArray, 5, 40) := by kernel_rfl
theorem zero_term : zeroO Tryz.prog 25 = some (.agg zT.toArray) := by kernel_rfl
theorem str_term : strI Tryz.prog 25 = some ([(0, 1), (1, 1), (2, 1), (3, 1), (4, 1)], zT) := by kernel_rfl
theorem slice_one {w : World} {v : Value} {s m : Nat} {ys : List Value} (h : RdSl w v s ys m) : v.oneCell' = true ∧ v.cells = #[v] := by
 obtain ⟨a, c, rfl⟩ := h.len
 exact ⟨rfl, rfl⟩
theorem TV.one {w : World} {t : TV} (h : t.ok w) : ∀ x ∈ t.cells, x.oneCell' = true := by
 have h := tok_iff.1 h
 intro x hx
 rw [TV.cells_eq] at hx
 simp only [List.mem_cons, List.not_mem_nil, or_false] at hx
 rcases hx with rfl | rfl | rfl | rfl | rfl
 ·rfl
 ·rfl
 ·rfl
 ·exact (slice_one h.lr).1
 ·exact (slice_one h.ar).1
theorem lvl_one (l : Lv) : ∀ x ∈ l.cells, x.oneCell' = true := by
 intro x hx
 simp only [Lv.cells, List.mem_cons, List.not_mem_nil, or_false] at hx
 rcases hx with rfl | rfl | rfl | rfl | rfl <;> rfl
section
variable {S : List Nat} {w0 w : World} {L R : List Res} {K : VPost}
abbrev rOT (v : Value) (ts : List TV) : Res := rO v 25 5 (tcs ts) ts.length
abbrev rOL (v : Value) (ls : List Lv) : Res := rO v 95 5 (lcs ls) ls.length
theorem Sep.litT (s : Sep S w0 w L R) (ts : List TV) {parts : List (Nat × Value)} (hp : parts = enumV 0 (ts.map TV.v)) (hl : ts.length ≤ 1000) (h : ∀ v' w', Sep S w0 w' (rOT v' ts :: L) R -> K v' w') : insW Tryz.prog (Instr.buildSlice 23 ts.length parts.toArray) w K := by
 obtain ⟨ti, hti, htz, hts, htb⟩ := tyI_spec ty_term
 have hf : ∀ ts : List TV, flatV (ts.map TV.v) = tcs ts := by
  intro ts
  induction ts with
  | nil => rfl
  | cons t r ih =>
   have e : flatV ((t :: r).map TV.v) = t.v.cells.toList ++ flatV (r.map TV.v) := by simp [flatV]
   rw [e, ih]; rfl
 have := s.lit (K := K) (vs := ts.map TV.v) und_terms hti htz hp (by
  intro y hy
  obtain ⟨t, _, rfl⟩ := List.mem_map.1 hy
  rw [hts]
  show t.cells.toArray.size = 5
  rw [List.size_toArray, TV.cells_len]) (by rw [hts, List.length_map]; omega) (fun t w1 s1 _ _ => by
  rw [hts, hf, List.length_map] at s1
  exact h t w1 s1)
 rw [List.length_map] at this
 exact this
theorem Sep.litT1 (s : Sep S w0 w L R) (t : TV) (h : ∀ v' w', Sep S w0 w' (rOT v' [t] :: L) R -> K v' w') : insW Tryz.prog (Instr.buildSlice 23 1 #[(0, t.v)]) w K := s.litT [t] rfl (by simp) h
theorem Sep.apT {v x : Value} {ts us : List TV} (s : Sep S w0 w L R) (i : Nat) (hL : L[i]? = some (rOT v ts)) (hx : RdSl w x 5 (tcs us) us.length) (hu : ∀ u ∈ us, u.ok w) (hn : ts.length + us.length ≤ 10000000)
  (h : ∀ v' w', Sep S w0 w' (L.set i (rOT v' (ts ++ us))) R -> K v' w') : insW Tryz.prog (Builtin.append_ #[23, 23] 23 #[v, x]) w K := by
 obtain ⟨ti, hti, htz, hts, htb⟩ := tyI_spec ty_term
 refine s.appendO (v := v) (n := ts.length) (m := us.length) (ys := tcs us) (xs := tcs ts) i (by rw [hts]; exact hL) und_terms und_terms hti htz (by rw [hts]; rfl) (by rw [htb]; decide) (by rw [hts]; exact hx) (fun y hy => by
  obtain ⟨u, hm, hy⟩ := List.mem_flatMap.1 hy
  exact TV.one (hu u hm) y hy) (by rw [htb]; omega) fun v' w' s => ?_
 have e : tcs ts ++ tcs us = tcs (ts ++ us) := by simp [tcs]
 rw [hts, e, ← List.length_append] at s
 exact h v' w' s
theorem Sep.litL0 (s : Sep S w0 w L R) (h : ∀ v' w', Sep S w0 w' (rOL v' [] :: L) R -> K v' w') : insW Tryz.prog (Instr.buildSlice 22 0 #[]) w K := by
 obtain ⟨ti, hti, htz, hts, htb⟩ := tyI_spec ty_level
 exact s.lit (vs := []) und_levels hti htz rfl (by simp) (by simp) fun t w1 s1 _ _ => h t w1 (by rw [hts] at s1; exact s1)
theorem Sep.apL {v x : Value} {ls ms : List Lv} (s : Sep S w0 w L R) (i : Nat) (hL : L[i]? = some (rOL v ls)) (hx : RdSl w x 5 (lcs ms) ms.length) (hn : ls.length + ms.length ≤ 10000000)
  (h : ∀ v' w', Sep S w0 w' (L.set i (rOL v' (ls ++ ms))) R -> K v' w') : insW Tryz.prog (Builtin.append_ #[22, 22] 22 #[v, x]) w K := by
 obtain ⟨ti, hti, htz, hts, htb⟩ := tyI_spec ty_level
 refine s.appendO (v := v) (n := ls.length) (m := ms.length) (ys := lcs ms) (xs := lcs ls) i (by rw [hts]; exact hL) und_levels und_levels hti htz (by rw [hts]; rfl) (by rw [htb]; decide) (by rw [hts]; exact hx) (fun y hy => by
  obtain ⟨u, hm, hy⟩ := List.mem_flatMap.1 hy
  exact lvl_one u y hy) (by rw [htb]; omega) fun v' w' s => ?_
 have e : lcs ls ++ lcs ms = lcs (ls ++ ms) := by simp [lcs]
 rw [hts, e, ← List.length_append] at s
 exact h v' w' s
theorem Sep.growT {t : TV} {ts : List TV} (s : Sep S w0 w L R) (h : rTs ts ∈ R) (ht : rT t ∈ R) : Sep S w0 w L (rTs (ts ++ [t]) :: R) := by
 refine s.addR (T := rTs (ts ++ [t])) (fun u hu => ?_) (fun V hV b hb hm => ?_)
 ·rcases List.mem_append.1 hu with hu | hu
  ·exact s.rd (rTs ts) h u hu
  ·rw [List.mem_singleton] at hu
   subst hu
   exact s.rd (rT u) ht
 ·obtain ⟨u, hu, hm2⟩ := foots_mem.1 hm
  rcases List.mem_append.1 hu with hu | hu
  ·exact s.disR V hV (rTs ts) h b hb (foots_mem.2 ⟨u, hu, hm2⟩)
  ·rw [List.mem_singleton] at hu
   subst hu
   exact s.disR V hV (rT u) ht b hb hm2
theorem Sep.noTerms (s : Sep S w0 w L R) : Sep S w0 w L (rTs [] :: R) := s.addR (T := rTs []) (fun u hu => by cases hu) (by intro U _ b _ hm; simp [rTs, TV.foots] at hm)
theorem Sep.madeT {t : TV} {w' : World} (s : Sep S w0 w L R) (h : t.ok w') (e : Ext [] w w') (hf : ∀ b ∈ t.foot, w.heap.size ≤ b) : Sep S w0 w' L (rT t :: R) :=
 (s.add (T := rT t) h e hf).freeze 0 rfl (T' := rT t) h (fun b hb => hb)
end
theorem rdB_slB' {v : Value} {ys : List Value} : ∀ b ∈ rdB v ys, b ∈ slB v := by
 intro b hb
 unfold rdB at hb
 split at hb
 ·cases hb
 ·exact hb
theorem term_new {w' : World} {k n : Int} {nm : Bytes} {ls : List Lv} {lv av : Value} {args : List TV} (hk : i64ok k) (hn : i64ok n) (hs : nm.length < 2 ^ 60) (hl : ∀ l ∈ ls, l.ok) (hll : ls.length < 2 ^ 50) (hal : args.length < 2 ^ 50)
  (h1 : OwnAt w' lv 95 5 (lcs ls) ls.length) (h2 : OwnAt w' av 25 5 (tcs args) args.length) (h3 : ∀ a ∈ args, a.ok w') : (TV.mk k n nm ls lv av args).ok w' :=
 tok_iff.2 ⟨hk, hn, hs, hl, hll, hal, h1.rd, h1.cap, h2.rd, h2.cap, h3⟩
theorem lclone_c {w : World} {K : VPost} {x : Value} {ls : List Lv} (hx : RdSl w x 5 (lcs ls) ls.length) (hn : ls.length ≤ 1000000)
  (hK : ∀ v w', OwnAt w' v 95 5 (lcs ls) ls.length -> Ext [] w w' -> (∀ b ∈ slB v, w.heap.size ≤ b) -> K v w') : Calls Tryz.prog 120 #[x] w (retK K) := by
 refine c120_calls _ w K ?_
 unfold c120
 obtain ⟨xa, xc, rfl⟩ := hx.len
 rw [slice_eql_nil und_levels]
 cases xa with
 | none =>
  refine cndT ?_
  have hl : ls = [] := by
   obtain ⟨h0, ⟨h1, _⟩ | ⟨b, o, c, cs, h1, _⟩⟩ := hx
   ·cases ls with
    | nil => rfl
    | cons y r => simp [lcs, Lv.cells] at h1
   ·cases h1
  subst hl
  exact hK _ w (.inl ⟨rfl, rfl, rfl⟩) (Ext.refl _ _) (by simp [slB])
 | some a =>
  refine cndF ?_
  refine (Sep.zero1 (U := rR _ 5 (lcs ls) ls.length) hx).litL0 fun t w1 s => ?_
  refine s.apL (v := t) (ls := []) 0 rfl (s.rat 0 rfl) (by simp; omega) fun v' w2 s => ?_
  rw [List.nil_append] at s
  exact hK v' w2 (s.at 0 rfl) s.ext (s.fresh 0 rfl)
set_option maxHeartbeats 1000000 in
theorem clone_c : ∀ (t : TV) {w : World} {K : VPost}, t.ok w -> t.size ≤ 1000000 -> (∀ (t' : TV) w', t'.e = t.e -> t'.ok w' -> (∀ b ∈ t'.foot, w.heap.size ≤ b) -> Ext [] w w' -> K t'.v w') -> Calls Tryz.prog 88 #[t.v] w (retK K) := by
 refine TV.ind fun k n nm ls lv av args ih w K h hsz hK => ?_
 refine c88_calls _ w K ?_
 unfold c88
 refine TV.box h fun b w1 s => ?_
 have hk := tok_iff.1 h
 have hszz : 1 + ls.length + TV.sizes args ≤ 1000000 := by rw [TV.size] at hsz; exact hsz
 have hal2 := len_sizes args
 have ha1 : ∀ (w : World) (K : VPost), lenW Tryz.prog (some true) #[23] 3 #[av] w K = K (.int .i64 args.length) w := fun w K => RdSl.lenw hk.ar
 refine s.alloc zero_term rfl fun r w2 s _ => ?_
 refine off_i ?_
 refine s.load1 (v := lv) 1 rfl rfl ?_
 have ko : TOk w2 (TV.mk k n nm ls lv av args) := tok_iff.1 (s.rat 0 rfl)
 refine fnW_of (by kernel_rfl) (lclone_c ko.lr (by show ls.length ≤ _; omega) fun v1 w3 hv1 e3 hf3 => ?_)
 have s := s.add (T := rOL v1 ls) hv1 e3 hf3
 have s : Sep [] w w3 (rOL v1 ls :: rB r zT 25 :: rB b [iv k, iv n, sv nm, lv, av] 25 :: []) (rT (TV.mk k n nm ls lv av args) :: []) := s
 refine off_i ?_
 refine s.store1 2 rfl ((slice_one hv1.rd).2) (by show 3 < 5; decide) ((slice_one hv1.rd).1) fun w4 s _ => ?_
 have s : Sep [] w w4 (rOL v1 ls :: rB r zT 25 :: rB b [iv k, iv n, sv nm, v1, av] 25 :: []) (rT (TV.mk k n nm ls lv av args) :: []) := s
 refine off_i ?_
 refine s.load1 (v := av) 2 rfl rfl ?_
 refine off_i ?_
 refine s.store1 2 rfl rfl (by show 4 < 5; decide) rfl fun w5 s _ => ?_
 have s := s.add (T := rOT (.slice none 0 0) []) (.inl ⟨rfl, rfl, rfl⟩) (Ext.refl _ _) (by simp [rO, slB])
 have s := s.noTerms
 have s : Sep [] w w5 (rOT (.slice none 0 0) [] :: rOL v1 ls :: rB r zT 25 :: rB b [iv k, iv n, sv nm, v1, .slice none 0 0] 25 :: []) (rTs [] :: rT (TV.mk k n nm ls lv av args) :: []) := s
 refine bindX_i fun J0 g0 => bindX_i fun J1 g1 => ?_
 rw [ha1]
 refine bindX_i fun J2 g2 => ?_
 refine loop_i (fun m fr wr => ∃ (i : Nat) (v2 : Value) (ts : List TV), m = args.length - i ∧ i ≤ args.length ∧ fr 1 = .pointer (some ⟨b, 0, none⟩) ∧ fr 2 = .pointer (some ⟨r, 0, none⟩) ∧ fr 13 = av ∧ fr 14 = .int .i64 args.length ∧ fr 15 = .int .i64 i ∧ ts.map TV.e = (args.take i).map TV.e ∧ (∀ b ∈ TV.foots ts, w.heap.size ≤ b) ∧
  Sep [] w wr (rOT v2 ts :: rOL v1 ls :: rB r zT 25 :: rB b [iv k, iv n, sv nm, v1, v2] 25 :: []) (rTs ts :: rT (TV.mk k n nm ls lv av args) :: [])) args.length ?_ ?_
 ·exact ⟨0, .slice none 0 0, [], rfl, by omega, rfl, rfl, rfl, rfl, rfl, rfl, by simp [TV.foots], s⟩
 ·rintro m fr wr J ⟨i, v2, ts, rfl, hi, f1, f2, f13, f14, f15, heq, hfr, s⟩ hJ hX
  have htl : ts.length = i := by
   have := congrArg List.length heq
   rw [List.length_map, List.length_map, List.length_take] at this
   omega
  rw [f1, f13, f14, f15]
  refine nlss (cond_d (fun hlt => ?_) (fun hlt => ?_))
  ·have ko : TOk wr (TV.mk k n nm ls lv av args) := tok_iff.1 (s.rat 1 rfl)
   obtain ⟨b1, o1, hix1, hld1⟩ := ko.ar.term hlt .i64
   refine hix1 _ ?_
   refine hld1 _ ?_
   have hao : args[i].ok wr := ko.a _ (List.getElem_mem hlt)
   refine s.alloc zero_term rfl fun q w2 s _ => ?_
   refine s.storeAll (vs := args[i].cells) 0 rfl args[i].cells_len rfl (TV.one hao) fun w3 s _ => ?_
   have s : Sep [] w w3 (rB q args[i].cells 25 :: rOT v2 ts :: rOL v1 ls :: rB r zT 25 :: rB b [iv k, iv n, sv nm, v1, v2] 25 :: []) (rTs ts :: rT (TV.mk k n nm ls lv av args) :: []) := s
   have s := s.drew
   generalize w3.drew = w3 at *
   refine off_i ?_
   refine s.load1 (v := v2) 4 rfl rfl ?_
   refine s.loadAll 0 rfl args[i].cells_len ?_
   have ko : TOk w3 (TV.mk k n nm ls lv av args) := tok_iff.1 (s.rat 1 rfl)
   have hsi := sizes_le (List.getElem_mem hlt)
   refine fnW_of (by kernel_rfl) (ih args[i] (List.getElem_mem hlt) (ko.a _ (List.getElem_mem hlt)) (by omega) fun t' w5 he hok hfoot e5 => ?_)
   have hfoot2 : ∀ b ∈ t'.foot, w.heap.size ≤ b := fun b hb => Nat.le_trans s.ext.size (hfoot b hb)
   have s := (s.madeT hok e5 hfoot).drop 0
   have s : Sep [] w w5 (rOT v2 ts :: rOL v1 ls :: rB r zT 25 :: rB b [iv k, iv n, sv nm, v1, v2] 25 :: []) (rT t' :: rTs ts :: rT (TV.mk k n nm ls lv av args) :: []) := s
   refine ⟨s.load1 (v := v2) 3 rfl rfl ⟨rfl, rfl⟩, ?_⟩
   refine s.litT1 t' fun vl w6 s => ?_
   refine ⟨s.load1 (v := v2) 4 rfl rfl ⟨rfl, rfl⟩, ?_⟩
   refine s.apT (v := v2) (ts := ts) (us := [t']) 1 rfl (OwnAt.rd (s.at 0 rfl)) (fun u hu => by rw [List.mem_singleton] at hu; subst hu; exact s.rd (rT u) (by simp)) (by simp; omega) fun v3 w7 s => ?_
   have s := (s.drop 0).growT (t := t') (ts := ts) (by simp) (by simp)
   refine off_i ?_
   refine s.store1 3 rfl ((slice_one (OwnAt.rd (s.at 0 rfl))).2) (by show 4 < 5; decide) ((slice_one (OwnAt.rd (s.at 0 rfl))).1) fun w8 s _ => ?_
   refine nadd (y := 1) (by omega) ?_
   refine hJ (args.length - (i + 1)) _ _ (by omega) ⟨i + 1, v3, ts ++ [t'], rfl, by omega, f1, f2, f13, f14, rfl, ?_, ?_, s.less (fun T hT => ?_)⟩
   ·rw [List.take_succ_eq_append_getElem hlt, List.map_append, List.map_append, heq]
    simp [he]
   ·intro b hb
    obtain ⟨u, hu, hb2⟩ := foots_mem.1 hb
    rcases List.mem_append.1 hu with hu | hu
    ·exact hfr b (foots_mem.2 ⟨u, hu, hb2⟩)
    ·rw [List.mem_singleton] at hu
     subst hu
     exact hfoot2 b hb2
   ·simp only [List.mem_cons, List.not_mem_nil, or_false] at hT
    rcases hT with rfl | rfl <;> simp
  ·obtain rfl : i = args.length := by omega
   rw [List.take_length] at heq
   refine hX _ _ _ (by simp) (g2 _ _ _ (blk_x (seq_n g1 ?_)))
   show loadW _ (fr 1) _ _
   rw [f1]
   refine s.loadAll 3 rfl rfl ?_
   show storeW _ (fr 2) _ _ _
   rw [f2]
   refine s.storeAll 2 rfl rfl rfl (by
    intro x hx
    simp only [List.mem_cons, List.not_mem_nil, or_false] at hx
    rcases hx with rfl | rfl | rfl | rfl | rfl
    ·rfl
    ·rfl
    ·rfl
    ·exact (slice_one (OwnAt.rd (s.at 1 rfl))).1
    ·exact (slice_one (OwnAt.rd (s.at 0 rfl))).1) fun w8 s _ => ?_
   show loadW _ (fr 2) _ _
   rw [f2]
   refine s.loadAll 2 rfl rfl ?_
   have o1 : OwnAt w8 v1 95 5 (lcs ls) ls.length := s.at 1 rfl
   have o2 : OwnAt w8 v2 25 5 (tcs ts) ts.length := s.at 0 rfl
   refine hK (TV.mk k n nm ls v1 v2 ts) w8 ?_ (term_new hk.k hk.n hk.s hk.l hk.ll (by rw [htl]; exact hk.al) o1 o2 (fun a ha => s.rd (rTs ts) (by simp) a ha)) ?_ s.ext
   ·rw [TV.e_eq, TV.e_eq (TV.mk k n nm ls lv av args)]
    show TM.mk k n nm ls (ts.map TV.e) = TM.mk k n nm ls (args.map TV.e)
    rw [heq]
   ·intro b hb
    rw [TV.foot_eq] at hb
    simp only [List.mem_append] at hb
    rcases hb with hb | hb | hb
    ·exact s.fresh 1 rfl b (rdB_slB' b hb)
    ·exact s.fresh 0 rfl b (rdB_slB' b hb)
    ·exact hfr b hb
theorem leq_c {w : World} {K : VPost} {x y : Value} {ls ms : List Lv} (hx : RdSl w x 5 (lcs ls) ls.length) (hy : RdSl w y 5 (lcs ms) ms.length) (h1 : ∀ l ∈ ls, l.ok) (h2 : ∀ l ∈ ms, l.ok) (hn : ls.length < 2 ^ 50)
  (hK : ∀ w', Ext [] w w' -> K (.bool (decide (ls = ms))) w') : Calls Tryz.prog 116 #[x, y] w (retK K) := by
 refine c116_calls _ _ w K ?_
 unfold c116
 rw [hx.lenw, hy.lenw]
 refine nneq (cond_d (fun hne => ?_) (fun hne => ?_))
 ·have := hK w (Ext.refl _ _)
  rw [decide_eq_false (fun e => hne (by rw [e]))] at this
  exact this
 ·have hle : ls.length = ms.length := by omega
  refine bindX_i fun J0 g0 => bindX_i fun J1 g1 => ?_
  rw [hx.lenw]
  refine bindX_i fun J2 g2 => ?_
  refine loop_i (fun m fr wr => ∃ i : Nat, m = ls.length - i ∧ i ≤ ls.length ∧ ls.take i = ms.take i ∧ fr 0 = x ∧ fr 1 = y ∧ fr 12 = .int .i64 ls.length ∧ fr 13 = .int .i64 i ∧ Ext [] w wr) ls.length ?_ ?_
  ·exact ⟨0, rfl, by omega, rfl, rfl, rfl, rfl, rfl, Ext.refl _ _⟩
  ·rintro m fr wr J ⟨i, rfl, hi, heq, f0, f1, f12, f13, e1⟩ hJ hX
   rw [f12, f13]
   refine nlss (cond_d (fun hlt => ?_) (fun hlt => ?_))
   ·rw [f0, f1]
    have e2 := e1.new (Ext.drew [] wr)
    generalize wr.drew = wr at *
    have hlt2 : i < ms.length := by omega
    obtain ⟨b1, o1, hix1, hld1⟩ := (hx.keep e2 (by simp)).level hlt .i64
    obtain ⟨b2, o2, hix2, hld2⟩ := (hy.keep e2 (by simp)).level hlt2 .i64
    refine hix1 _ ?_
    refine hld1 _ ?_
    refine hix2 _ ?_
    refine hld2 _ ?_
    refine lvl_neq (h1 _ (List.getElem_mem hlt)) (h2 _ (List.getElem_mem hlt2)) ⟨rfl, ?_⟩
    by_cases hee : ls[i] = ms[i]
    ·rw [decide_eq_true hee, Bool.not_true]
     refine cndF ?_
     refine nadd (y := 1) (by omega) ?_
     refine hJ (ls.length - (i + 1)) _ _ (by omega) ⟨i + 1, rfl, by omega, ?_, f0, f1, f12, rfl, e2⟩
     rw [List.take_succ_eq_append_getElem hlt, List.take_succ_eq_append_getElem hlt2, heq, hee]
    ·rw [decide_eq_false hee, Bool.not_false]
     refine cndT ?_
     refine hX _ _ _ (by simp) (g2 _ _ _ (g1 _ _ _ (g0 _ _ _ ?_)))
     have := hK wr e2
     rw [decide_eq_false (fun e => hee (by subst e; rfl))] at this
     exact this
   ·obtain rfl : i = ls.length := by omega
    refine hX _ _ _ (by simp) (g2 _ _ _ (blk_x (seq_n g1 ?_)))
    rw [List.take_length, hle, List.take_length] at heq
    have := hK wr e1
    rw [decide_eq_true heq] at this
    exact this
theorem eqFunc_c {w : World} {K : VPost} {x y : Value} {ts us : List TV} (hx : RdSl w x 5 (tcs ts) ts.length) (hy : RdSl w y 5 (tcs us) us.length) (h1 : ∀ t ∈ ts, t.ok w) (h2 : ∀ t ∈ us, t.ok w) (hn : ts.length < 2 ^ 50)
  (ih : ∀ a ∈ ts, ∀ (u : TV) {w : World} {K : VPost}, a.ok w -> u.ok w -> (∀ w', Ext [] w w' -> K (.bool (sameB a.e u.e)) w') -> Calls Tryz.prog 80 #[a.v, u.v] w (retK K))
  (hT : ts.map TV.e = us.map TV.e -> ∀ w', Ext [] w w' -> K (.bool true) w') (hF : ts.map TV.e ≠ us.map TV.e -> ∀ w', Ext [] w w' -> K (.bool false) w') : Calls Tryz.prog 117 #[x, y, .func (.func 80) #[] #[]] w (retK K) := by
 refine c117_calls _ _ _ w K ?_
 unfold c117
 rw [hx.lenw, hy.lenw]
 refine nneq (cond_d (fun hne => ?_) (fun hne => ?_))
 ·exact hF (fun e => hne (by have := congrArg List.length e; rwa [List.length_map, List.length_map] at this)) w (Ext.refl _ _)
 ·have hle : ts.length = us.length := by omega
  refine bindX_i fun J0 g0 => bindX_i fun J1 g1 => ?_
  rw [hx.lenw]
  refine bindX_i fun J2 g2 => ?_
  refine loop_i (fun m fr wr => ∃ i : Nat, m = ts.length - i ∧ i ≤ ts.length ∧ (ts.take i).map TV.e = (us.take i).map TV.e ∧ fr 1 = y ∧ fr 2 = .func (.func 80) #[] #[] ∧ fr 15 = x ∧ fr 16 = .int .i64 ts.length ∧ fr 17 = .int .i64 i ∧ Ext [] w wr) ts.length ?_ ?_
  ·exact ⟨0, rfl, by omega, rfl, rfl, rfl, rfl, rfl, rfl, Ext.refl _ _⟩
  ·rintro m fr wr J ⟨i, rfl, hi, heq, f1, f2, f15, f16, f17, e1⟩ hJ hX
   rw [f16, f17]
   refine nlss (cond_d (fun hlt => ?_) (fun hlt => ?_))
   ·rw [f15, f1, f2]
    have hlt2 : i < us.length := by omega
    obtain ⟨b1, o1, hix1, hld1⟩ := (hx.keep e1 (by simp)).term hlt .i64
    refine hix1 _ ?_
    refine hld1 _ ?_
    have s := (Sep.nil w).ext0 e1
    refine s.alloc zero_term rfl fun q w2 s _ => ?_
    have ho1 : ts[i].ok w2 := TV.keep s.ext (h1 _ (List.getElem_mem hlt))
    refine s.storeAll (vs := ts[i].cells) 0 rfl ts[i].cells_len rfl (TV.one ho1) fun w3 s _ => ?_
    have s : Sep [] w w3 (rB q ts[i].cells 25 :: []) [] := s
    obtain ⟨b2, o2, hix2, hld2⟩ := (hy.keep s.ext (by simp)).term hlt2 .i64
    refine hix2 _ ?_
    refine hld2 _ ?_
    refine s.alloc zero_term rfl fun q2 w4 s _ => ?_
    have ho2 : us[i].ok w4 := TV.keep s.ext (h2 _ (List.getElem_mem hlt2))
    refine s.storeAll (vs := us[i].cells) 0 rfl us[i].cells_len rfl (TV.one ho2) fun w5 s _ => ?_
    have s : Sep [] w w5 (rB q2 us[i].cells 25 :: rB q ts[i].cells 25 :: []) [] := s
    refine s.loadAll 1 rfl ts[i].cells_len ?_
    refine s.loadAll 0 rfl us[i].cells_len ?_
    show fnW Tryz.prog 80 #[ts[i].v, us[i].v] w5 _
    refine fnW_of (by kernel_rfl) (ih ts[i] (List.getElem_mem hlt) us[i] (TV.keep s.ext (h1 _ (List.getElem_mem hlt))) (TV.keep s.ext (h2 _ (List.getElem_mem hlt2))) fun w6 e6 => ?_)
    have e2 := s.ext.new e6
    refine not_ti ?_
    by_cases hee : ts[i].e = us[i].e
    ·rw [sameB_t hee]
     refine cndF ?_
     refine nadd (y := 1) (by omega) ?_
     refine hJ (ts.length - (i + 1)) _ _ (by omega) ⟨i + 1, rfl, by omega, ?_, f1, f2, f15, f16, rfl, e2⟩
     rw [List.take_succ_eq_append_getElem hlt, List.take_succ_eq_append_getElem hlt2, List.map_append, List.map_append, heq]
     simp [hee]
    ·rw [sameB_f hee]
     refine cndT ?_
     refine hX _ _ _ (by simp) (g2 _ _ _ (g1 _ _ _ (g0 _ _ _ ?_)))
     refine hF (fun hm => hee ?_) w6 e2
     have h6 : (ts.map TV.e)[i]? = (us.map TV.e)[i]? := by rw [hm]
     simpa [hlt, hlt2] using h6
   ·obtain rfl : i = ts.length := by omega
    refine hX _ _ _ (by simp) (g2 _ _ _ (blk_x (seq_n g1 ?_)))
    rw [List.take_length, hle, List.take_length] at heq
    exact hT heq wr e1
set_option maxHeartbeats 800000 in
theorem tsame_c : ∀ (t u : TV) {w : World} {K : VPost}, t.ok w -> u.ok w -> (∀ w', Ext [] w w' -> K (.bool (sameB t.e u.e)) w') -> Calls Tryz.prog 80 #[t.v, u.v] w (retK K) := by
 refine TV.ind fun k n nm ls lv av args ih u w K h hu hK => ?_
 obtain ⟨k', n', nm', ls', lv', av', args'⟩ := u
 refine c80_calls _ _ w K ?_
 unfold c80
 refine TV.box h fun b w1 s => ?_
 have s := s.addBase (T := rT (TV.mk k' n' nm' ls' lv' av' args')) hu
 refine s.box fun b' w2 s _ => ?_
 have s : Sep [] w w2 (rB b' (TV.mk k' n' nm' ls' lv' av' args').cells 25 :: rB b (TV.mk k n nm ls lv av args).cells 25 :: []) (rT (TV.mk k' n' nm' ls' lv' av' args') :: rT (TV.mk k n nm ls lv av args) :: []) := s
 have hk := tok_iff.1 h
 have hk' := tok_iff.1 hu
 have no : ∀ w', Sep [] w w' (rB b' (TV.mk k' n' nm' ls' lv' av' args').cells 25 :: rB b (TV.mk k n nm ls lv av args).cells 25 :: []) (rT (TV.mk k' n' nm' ls' lv' av' args') :: rT (TV.mk k n nm ls lv av args) :: []) -> (TV.mk k n nm ls lv av args).e ≠ (TV.mk k' n' nm' ls' lv' av' args').e -> K (.bool false) w' := by
  intro w' s hne
  have := hK w' s.ext
  rw [sameB_f hne] at this
  exact this
 refine off_i ?_
 refine s.load1 (v := iv k) 1 rfl rfl ?_
 refine off_i ?_
 refine s.load1 (v := iv k') 0 rfl rfl ?_
 show binN _ _ _ _ (Value.int .i64 k) (Value.int .i64 k') _ _
 rw [ieql]
 by_cases h1 : k = k'
 case neg =>
  rw [decide_eq_false h1]
  iterate 4 ((repeat with_reducible refine gs_ft ?_); refine pick_fi ?_)
  exact no w2 s fun he => h1 (e_inj he).1
 rw [decide_eq_true h1]
 refine gs_t (off_i ?_)
 refine gs_t (s.load1 (v := iv n) 1 rfl rfl ?_)
 refine gs_t (off_i ?_)
 refine gs_t (s.load1 (v := iv n') 0 rfl rfl ?_)
 refine gs_t ?_
 show binN _ _ _ _ (Value.int .i64 n) (Value.int .i64 n') _ _
 rw [ieql]
 refine pick_ti ?_
 by_cases h2 : n = n'
 case neg =>
  rw [decide_eq_false h2]
  iterate 3 ((repeat with_reducible refine gs_ft ?_); refine pick_fi ?_)
  exact no w2 s fun he => h2 (e_inj he).2.1
 rw [decide_eq_true h2]
 refine gs_t (off_i ?_)
 refine gs_t (s.load1 (v := sv nm) 1 rfl rfl ?_)
 refine gs_t (off_i ?_)
 refine gs_t (s.load1 (v := sv nm') 0 rfl rfl ?_)
 refine gs_t (str_eql ?_)
 refine pick_ti ?_
 by_cases h3 : nm = nm'
 case neg =>
  rw [decide_eq_false h3]
  iterate 2 ((repeat with_reducible refine gs_ft ?_); refine pick_fi ?_)
  exact no w2 s fun he => h3 (e_inj he).2.2.1
 rw [decide_eq_true h3]
 refine gs_t (off_i ?_)
 refine gs_t (s.load1 (v := lv) 1 rfl rfl ?_)
 refine gs_t (off_i ?_)
 refine gs_t (s.load1 (v := lv') 0 rfl rfl ?_)
 have ko : TOk w2 (TV.mk k n nm ls lv av args) := tok_iff.1 (s.rat 1 rfl)
 have ko' : TOk w2 (TV.mk k' n' nm' ls' lv' av' args') := tok_iff.1 (s.rat 0 rfl)
 refine gs_t (fnW_of (by kernel_rfl) (leq_c ko.lr ko'.lr ko.l ko'.l ko.ll fun w3 e3 => ?_))
 have s := s.ext0 e3
 refine pick_ti ?_
 by_cases h4 : ls = ls'
 case neg =>
  have h4' : ¬ (TV.mk k n nm ls lv av args).ls = (TV.mk k' n' nm' ls' lv' av' args').ls := h4
  rw [decide_eq_false h4']
  iterate 1 ((repeat with_reducible refine gs_ft ?_); refine pick_fi ?_)
  exact no w3 s fun he => h4 (e_inj he).2.2.2.1
 have h4' : (TV.mk k n nm ls lv av args).ls = (TV.mk k' n' nm' ls' lv' av' args').ls := h4
 rw [decide_eq_true h4']
 refine gs_t (off_i ?_)
 refine gs_t (s.load1 (v := av) 1 rfl rfl ?_)
 refine gs_t (off_i ?_)
 refine gs_t (s.load1 (v := av') 0 rfl rfl ?_)
 have ko : TOk w3 (TV.mk k n nm ls lv av args) := tok_iff.1 (s.rat 1 rfl)
 have ko' : TOk w3 (TV.mk k' n' nm' ls' lv' av' args') := tok_iff.1 (s.rat 0 rfl)
 refine gs_t (fnW_of (by kernel_rfl) (eqFunc_c ko.ar ko'.ar ko.a ko'.a ko.al (fun a ha u w K => ih a ha u) (fun hT w4 e4 => ?_) (fun hF w4 e4 => ?_)))
 ·refine pick_ti ?_
  have := hK w4 (s.ext.new e4)
  rw [sameB_t (by
   rw [TV.e_eq, TV.e_eq (TV.mk k' n' nm' ls' lv' av' args')]
   show TM.mk k n nm ls (args.map TV.e) = TM.mk k' n' nm' ls' (args'.map TV.e)
   have hT : args.map TV.e = args'.map TV.e := hT
   rw [h1, h2, h3, h4, hT])] at this
  exact this
 ·refine pick_ti ?_
  exact no w4 (s.ext0 e4) fun he => hF (e_inj he).2.2.2.2
section
variable {S : List Nat} {w0 w : World} {L R : List Res} {K : VPost}
end
section
variable {S : List Nat} {w0 w : World} {L R : List Res} {K : VPost}
end
def rX (b : Nat) (o : Obj) : Res := ⟨[b], fun w => w.heap[b]? = some o, fun {w} h x hx => by
 simp at hx; subst hx
 exact (Array.getElem?_eq_some_iff.1 h).1, fun {S w w'} h e hd => by
  have hb := (Array.getElem?_eq_some_iff.1 h).1
  rw [e.same b hb (hd b (by simp))]; exact h⟩
abbrev dfr : Obj := .deferred (some [])
theorem Ext.putObj (w : World) (l : Nat) (o : Obj) : Ext [l] w (w.putObj l o) :=
 have h := grownBy_putObj' w l o
 ⟨h.os, h.tape, h.output, h.size, fun b hb hn => h.block b hb (fun e => hn (by
  have e : some b = some l := e
  simp only [Option.some.injEq] at e
  subst e; simp))⟩
theorem Ext.allocO (w : World) (o : Obj) : Ext [] w (w.alloc o) := ⟨rfl, rfl, rfl, by simp, fun b hb _ => RowKit.Below.heap_alloc w o b hb⟩
abbrev rEnd (esc : Bool) (l D : Nat) (rdy bsy : Obj) (dn : Exit -> Obj) (R : Bool -> World -> Prop) : XPost := fun e _ W3 => W3.heap[l]? = some bsy ∧ W3.heap[D]? = some dfr ∧ match e with
   | .normal => R true (W3.putObj l rdy)
   | .ret => match esc with | true => R false (W3.putObj l (dn .ret)) | false => False
   | .exit id => match esc with | true => R false (W3.putObj l (dn (.exit id))) | false => False
   | _ => False
def YieldR (P : Program) (esc : Bool) (np : Nat) (AB : Array Value -> World -> RoundT -> Prop) (l D : Nat) (rdy bsy : Obj) (dn : Exit -> Obj) : Prop :=
 ∀ (args : Array Value) (W : World) (R : Bool -> World -> Prop), args.size = np -> W.heap[l]? = some rdy -> W.heap[D]? = some dfr →
  AB args W (fun W' F => W'.heap[l]? = some rdy ∧ W'.heap[D]? = some dfr ∧ F (W'.putObj l bsy) (rEnd esc l D rdy bsy dn R)) →
  YieldAt Fence.wide 0 P l args W fun e W' => ∃ b, e = .returned (.bool b) ∧ R b W'
section
variable {S : List Nat} {w0 w : World} {L R : List Res} {K : VPost}
theorem Sep.putX {l : Nat} {a : Obj} (s : Sep S w0 w (rX l a :: L) R) (o : Obj) : Sep S w0 (w.putObj l o) (rX l o :: L) R := by
 have h : w.heap[l]? = some a := s.at 0 rfl
 exact s.upd 0 rfl (T := rX l a) (T' := rX l o) (World.putObj_heap_same (Array.getElem?_eq_some_iff.1 h).1) (Ext.putObj w l o) (fun b hb => .inl hb)
theorem range_i {P : Program} {esc : Bool} {gf : Nat} {lb : Array Value} {np : Nat} {AB : Array Value -> World -> RoundT -> Prop} {done : Nat -> World -> Prop} {stop : Exit -> Nat -> World -> Prop} (he : entersB P gf = true) (s : Sep S w0 w L R)
  (h : ∀ l D rdy bsy dn W1, YieldR P esc np AB l D rdy bsy dn -> Sep S w0 W1 (rX l rdy :: rX D dfr :: L) R -> Ext [] w W1 →
   Calls P gf (#[.func (.yield l) #[] #[]] ++ lb) W1 (retK fun _ W' => W'.heap[D]? = some dfr ∧ ((W'.heap[l]? = some rdy ∧ ∀ o, done D (W'.putObj l o)) ∨ (esc = true ∧ ∃ e, (e = .ret ∨ ∃ id, e = .exit id) ∧ W'.heap[l]? = some (dn e) ∧ ∀ o, stop e D (W'.putObj l o))))) :
  rangeH P esc (.func (.func gf) #[] lb) np AB w done stop := by
 refine .inr ⟨gf, lb, rfl, fun args w => ?_, fun l D W1 rdy bsy dn hl hD hW1 hY => ?_⟩
 ·unfold entersB at he
  unfold callFunc
  cases hf : P.funcs[gf]? with
  | none => simp [hf] at he
  | some fn =>
   simp only [hf, Bool.and_eq_true, bne_iff_ne, ne_eq] at he
   obtain ⟨h1, h2⟩ := he
   have h3 : fn.body.isNone = false := by cases hb : fn.body <;> simp [hb] at h1 ⊢
   simp only [Sem.run_bind, Go.program, Sem.run, Result.andThen_ok, hf, beq_iff_eq, h2, if_false, h3, Bool.false_eq_true, Sem.run_pure]
 ·subst hl hD hW1
  have s1 := s.add (T := rX w.heap.size dfr) (w' := w.alloc dfr) (World.alloc_heap_new w _) (Ext.allocO _ _) (by simp [rX])
  have hsz : (w.alloc dfr).heap.size = w.heap.size + 1 := by simp
  have s2 := s1.add (T := rX (w.heap.size + 1) rdy) (w' := (w.alloc dfr).alloc rdy) (by rw [← hsz]; exact World.alloc_heap_new _ _) (Ext.allocO _ _) (by
   intro b hb
   simp [rX] at hb
   omega)
  refine (h _ _ rdy bsy dn _ hY s2 ((Ext.allocO _ _).new (Ext.allocO _ _))).mono fun e W' hr => ?_
  cases e with
  | returned v => exact ⟨⟨v, rfl⟩, hr⟩
  | _ => exact hr.elim
theorem YieldR.call {P : Program} {esc : Bool} {np : Nat} {AB : Array Value -> World -> RoundT -> Prop} {l D : Nat} {rdy bsy : Obj} {dn : Exit -> Obj} (hY : YieldR P esc np AB l D rdy bsy dn) {args : Array Value} (hs : args.size = np) (s : Sep S w0 w (rX l rdy :: rX D dfr :: L) R)
  (h : AB args w (fun W' F => W'.heap[l]? = some rdy ∧ W'.heap[D]? = some dfr ∧ F (W'.putObj l bsy) (rEnd esc l D rdy bsy dn fun b W => K (.bool b) W))) : dynW P (.func (.yield l) #[] #[]) args w K :=
 yield_i (hY args w (fun b W => K (.bool b) W) hs (s.at 0 rfl) (s.at 1 rfl) h) fun e W' he => by
  obtain ⟨b, rfl, hR⟩ := he
  exact hR
end
def formsB (z o t h f m : Value) : Code :=
 (Code.region 0 #[{ dst := some 0, op := Op.alloc 193, type := 0, pos := "term.go:52", after := #[], guard := none }] false).seq
  ((Code.region 1 #[{ dst := some 1, op := Op.build 192 #[(0, Operand.const z), (1, Operand.const z), (2, Operand.const m)], type := 192, pos := "term.go:53", after := #[], guard := none },
   { dst := some 2, op := Op.build 192 #[(0, Operand.const z), (1, Operand.const z), (2, Operand.const m)], type := 192, pos := "term.go:53", after := #[], guard := none },
   { dst := some 3, op := Op.build 192 #[(0, Operand.const z), (1, Operand.const o), (2, Operand.const m)], type := 192, pos := "term.go:53", after := #[], guard := none },
   { dst := some 4, op := Op.build 192 #[(0, Operand.const z), (1, Operand.const f), (2, Operand.const m)], type := 192, pos := "term.go:53", after := #[], guard := none },
   { dst := some 5, op := Op.build 192 #[(0, Operand.const t), (1, Operand.const z), (2, Operand.const m)], type := 192, pos := "term.go:53", after := #[], guard := none },
   { dst := some 6, op := Op.build 192 #[(0, Operand.const t), (1, Operand.const z), (2, Operand.const o)], type := 192, pos := "term.go:53", after := #[], guard := none },
   { dst := some 7, op := Op.build 192 #[(0, Operand.const t), (1, Operand.const z), (2, Operand.const o)], type := 192, pos := "term.go:53", after := #[], guard := none },
   { dst := some 8, op := Op.build 192 #[(0, Operand.const h), (1, Operand.const z), (2, Operand.const t)], type := 192, pos := "term.go:53", after := #[], guard := none },
   { dst := some 9, op := Op.build 192 #[(0, Operand.const o), (1, Operand.const z), (2, Operand.const m)], type := 192, pos := "term.go:53", after := #[], guard := none },
   { dst := some 10, op := Op.build 193 #[(1, Operand.tmp 1), (2, Operand.tmp 2), (3, Operand.tmp 3), (4, Operand.tmp 4), (5, Operand.tmp 5), (6, Operand.tmp 6), (7, Operand.tmp 7), (8, Operand.tmp 8), (9, Operand.tmp 9)], type := 193, pos := "term.go:53", after := #[{ on := 0, ground := Ground.data }, { on := 1, ground := Ground.data }, { on := 2, ground := Ground.data }, { on := 3, ground := Ground.data }, { on := 4, ground := Ground.data }, { on := 5, ground := Ground.data }, { on := 6, ground := Ground.data }, { on := 7, ground := Ground.data }, { on := 8, ground := Ground.data }], guard := none },
   { dst := none, op := Op.store 193 (Operand.tmp 0) (Operand.tmp 10), type := 0, pos := "term.go:53", after := #[{ on := 9, ground := Ground.data }, { on := 0, ground := Ground.phase }, { on := 1, ground := Ground.phase }, { on := 2, ground := Ground.phase }, { on := 3, ground := Ground.phase }, { on := 4, ground := Ground.phase }, { on := 5, ground := Ground.phase }, { on := 6, ground := Ground.phase }, { on := 7, ground := Ground.phase }, { on := 8, ground := Ground.phase }, { on := 9, ground := Ground.phase }], guard := none }] false).seq Code.ret)
def cForms (z o t h f m : Value) (w : World) (K : VPost) : Prop :=
 allocW (zeroO Tryz.prog 193) 193 w fun t0 w1 =>
 insW Tryz.prog (Instr.build 192 #[(0, z), (1, z), (2, m)]) w1 fun t1 w2 =>
 insW Tryz.prog (Instr.build 192 #[(0, z), (1, z), (2, m)]) w2 fun t2 w3 =>
 insW Tryz.prog (Instr.build 192 #[(0, z), (1, o), (2, m)]) w3 fun t3 w4 =>
 insW Tryz.prog (Instr.build 192 #[(0, z), (1, f), (2, m)]) w4 fun t4 w5 =>
 insW Tryz.prog (Instr.build 192 #[(0, t), (1, z), (2, m)]) w5 fun t5 w6 =>
 insW Tryz.prog (Instr.build 192 #[(0, t), (1, z), (2, o)]) w6 fun t6 w7 =>
 insW Tryz.prog (Instr.build 192 #[(0, t), (1, z), (2, o)]) w7 fun t7 w8 =>
 insW Tryz.prog (Instr.build 192 #[(0, h), (1, z), (2, t)]) w8 fun t8 w9 =>
 insW Tryz.prog (Instr.build 192 #[(0, o), (1, z), (2, m)]) w9 fun t9 w10 =>
 insW Tryz.prog (Instr.build 193 #[(1, t1), (2, t2), (3, t3), (4, t4), (5, t5), (6, t6), (7, t7), (8, t8), (9, t9)]) w10 fun t10 w11 =>
 storeW (some (true, 30)) t0 t10 w11 fun w12 =>
 loadW (some (true, 30)) t0 w12 fun r _ =>
 K r w12
theorem cForms_eq (z o t h f m : Value) (w : World) (K : VPost) : cForms z o t h f m w K = WP true Tryz.prog 11 [] (formsB z o t h f m) (argF []) w [.cell 0 193] K := by kernel_rfl
theorem forms_body : bodyOf Tryz.f144 = formsB (.int .i64 0) (.int .i64 1) (.int .i64 2) (.int .i64 3) (.int .i64 4) (.int .i64 (-1)) := by kernel_rfl
theorem cForms_calls (w : World) (K : VPost) (h : cForms (.int .i64 0) (.int .i64 1) (.int .i64 2) (.int .i64 3) (.int .i64 4) (.int .i64 (-1)) w K) : Calls Tryz.prog 144 #[] w (retK K) :=
 calls_of_WP (by rw [forms_body]; exact cForms_eq _ _ _ _ _ _ w K) mixedG Tryz.func144 (by kernel_rfl) Tryz.ntmps144 (by kernel_rfl) (by kernel_rfl) h
def letB (c : UInt8) : Bool := decide (97 ≤ c.toNat ∧ c.toNat ≤ 122 ∨ 65 ≤ c.toNat ∧ c.toNat ≤ 90)
def digB (c : UInt8) : Bool := decide (48 ≤ c.toNat ∧ c.toNat ≤ 57)
def signB (c : UInt8) : Bool := letB c || digB c || decide (c.toNat = 95)
theorem or_let : ∀ c : UInt8, (decide (97 ≤ (c ||| 32).toNat) && decide ((c ||| 32).toNat ≤ 122)) = letB c := by
 have h : ∀ n, n < 256 -> (decide (97 ≤ (UInt8.ofNat n ||| 32).toNat) && decide ((UInt8.ofNat n ||| 32).toNat ≤ 122)) = letB (UInt8.ofNat n) := by decide +kernel
 intro c
 have := h c.toNat c.toNat_lt
 rwa [show UInt8.ofNat c.toNat = c by simp] at this
section
variable {P : Program} {w : World} {K : VPost} {t : TypeId} {c : Bool}
theorem bin_orV {k : IntKind} {x y : Int} : binW P .or t c (.int k x) (.int k y) w K = K (.int k (k.wrap (BitVec.ofInt k.bits x ||| BitVec.ofInt k.bits y).toNat)) w := by
 simp [binW, binE, guardE, eqGuard, binOp, Op.intBits, insW, okW, Sem.run_bind]
theorem u8_orV {x y : UInt8} (h : K (bv (x ||| y)) w) : binN P .or t c (bv x) (bv y) w K := by
 show binW P .or t c (bv x) (bv y) w K
 unfold bv
 rw [bin_orV]
 have e : (BitVec.ofInt IntKind.u8.bits (x.toNat : Int) ||| BitVec.ofInt IntKind.u8.bits (y.toNat : Int)).toNat = (x ||| y).toNat := by
  have h8 : IntKind.u8.bits = 8 := rfl
  rw [h8, BitVec.ofInt_natCast, BitVec.ofInt_natCast, BitVec.toNat_or, BitVec.toNat_ofNat, BitVec.toNat_ofNat, UInt8.toNat_or, Nat.mod_eq_of_lt x.toNat_lt, Nat.mod_eq_of_lt y.toNat_lt]
 rw [e, wrap_u8n]
 have e2 : UInt8.ofNat (x ||| y).toNat = x ||| y := by simp
 rw [e2]
 exact h
end
theorem letter_c {w : World} {K : VPost} {c : UInt8} (h : K (.bool (letB c)) w) : Calls Tryz.prog 150 #[bv c] w (retK K) := by
 refine c150_calls _ w K ?_
 unfold c150
 rw [show Value.int .u8 32 = bv 32 from rfl]
 refine u8_orV ?_
 have hl := or_let c
 have hge : ∀ (t : TypeId) (k : Bool) (K : VPost), K (.bool (decide (97 ≤ (c ||| 32).toNat))) w -> binN Tryz.prog .geq t k (bv (c ||| 32)) (.int .u8 97) w K := fun t k K h => ngeq (y := 97) h
 have hle : ∀ (t : TypeId) (k : Bool) (K : VPost), K (.bool (decide ((c ||| 32).toNat ≤ 122))) w -> binN Tryz.prog .leq t k (bv (c ||| 32)) (.int .u8 122) w K := fun t k K h => nleq (y := 122) h
 refine hge _ _ _ ?_
 cases h1 : decide (97 ≤ (c ||| 32).toNat) with
 | true =>
  rw [h1] at hl
  refine gs_t ?_
  refine gs_t (u8_orV ?_)
  refine gs_t (hle _ _ _ ?_)
  refine pick_ti ?_
  rw [← hl] at h
  simpa using h
 | false =>
  rw [h1] at hl
  iterate 3 refine gs_ft ?_
  refine pick_fi ?_
  rw [← hl] at h
  simpa using h
theorem sign_c {w : World} {K : VPost} {c : UInt8} (h : K (.bool (signB c)) w) : Calls Tryz.prog 151 #[bv c] w (retK K) := by
 refine c151_calls _ w K ?_
 unfold c151
 refine fnW_of (by kernel_rfl) (letter_c ?_)
 have last : ∀ d : Bool, (letB c || digB c) = d -> gstep (.bool d) false w (fun K => K (bv c) w) fun t14 w15 => gstep (.bool d) false w15 (fun K => binN Tryz.prog .eql 5 true t14 (.int .u8 95) w15 K) fun t15 w17 => pickW (.bool d) (.bool true) t15 w17 fun t16 w19 => K t16 w19 := by
  intro d hd
  have e : signB c = (d || decide (c.toNat = 95)) := by unfold signB; rw [hd]
  rw [e] at h
  cases d with
  | true =>
   iterate 2 refine gs_tf ?_
   refine pick_ti ?_
   exact h
  | false =>
   refine gs_f ?_
   refine gs_f (neql (x := c.toNat) (y := 95) ?_)
   refine pick_fi ?_
   simpa using h
 cases h1 : letB c with
 | true =>
  repeat with_reducible first | refine gs_tf ?_ | refine gs_u ?_
  refine pick_ti ?_
  exact last true (by rw [h1]; rfl)
 | false =>
  refine gs_f ?_
  refine gs_f (ngeq (x := c.toNat) (y := 48) ?_)
  refine gs_f ?_
  by_cases h3 : 48 ≤ c.toNat
  ·rw [decide_eq_true h3]
   refine gs_t ?_
   refine gs_t (nleq (x := c.toNat) (y := 57) ?_)
   refine gs_f (pick_ti ?_)
   refine pick_fi ?_
   refine last _ ?_
   rw [h1]
   unfold digB
   simp [h3]
  ·rw [decide_eq_false h3]
   iterate 2 refine gs_ft ?_
   refine gs_f (pick_fi ?_)
   refine pick_fi ?_
   refine last _ ?_
   rw [h1]
   unfold digB
   simp
   omega
theorem sv_len {P : Program} {w : World} {K : VPost} {ts : Array TypeId} {t : TypeId} {l : Bytes} : lenW P (some false) ts t #[sv l] w K = K (.int .i64 l.length) w := rfl
def partB (l : Bytes) : Bool := match l with | [] => false | c :: _ => letB c && l.all signB
theorem part_c {w : World} {K : VPost} {l : Bytes} (hn : l.length < 2 ^ 60) (h : K (.bool (partB l)) w) : Calls Tryz.prog 114 #[sv l] w (retK K) := by
 refine c114_calls _ w K ?_
 unfold c114
 refine str_eql (a := l) (b := []) ?_
 by_cases hl0 : l = []
 ·subst hl0
  rw [decide_eq_true rfl]
  repeat with_reducible first | refine gs_tf ?_ | refine gs_u ?_
  refine pick_ti ?_
  exact cndT h
 ·rw [decide_eq_false hl0]
  have hpos : 0 < l.length := List.length_pos_iff.2 hl0
  have hpb : partB l = (letB l[0] && l.all signB) := by
   cases l with
   | nil => exact absurd rfl hl0
   | cons c r => rfl
  refine gs_f ?_
  refine gs_f (ixv_s (i := 0) hpos ?_)
  refine gs_f (fnW_of (by kernel_rfl) (letter_c ?_))
  refine gs_f (not_ti ?_)
  refine pick_fi ?_
  show condW (.bool (!letB l[0])) _ _
  cases h1 : letB l[0] with
  | false =>
   refine cndT ?_
   rw [hpb, h1] at h; exact h
  | true =>
   refine cndF ?_
   rw [hpb, h1, Bool.true_and] at h
   refine bindX_i fun J0 g0 => bindX_i fun J1 g1 => ?_
   rw [sv_len]
   refine bindX_i fun J2 g2 => ?_
   refine loop_i (fun m fr wr => ∃ i : Nat, m = l.length - i ∧ i ≤ l.length ∧ (l.take i).all signB = true ∧ fr 0 = sv l ∧ fr 13 = .int .i64 l.length ∧ fr 14 = .int .i64 i ∧ wr = w) l.length ?_ ?_
   ·exact ⟨0, rfl, by omega, rfl, rfl, rfl, rfl, rfl⟩
   ·rintro m fr wr J ⟨i, rfl, hi, ha, f0, f13, f14, rfl⟩ hJ hX
    rw [f0, f13, f14]
    refine nlss (cond_d (fun hlt => ?_) (fun hlt => ?_))
    ·refine ixv_s hlt ?_
     refine fnW_of (by kernel_rfl) (sign_c ?_)
     refine not_ti ?_
     have ht : (l.take (i + 1)).all signB = signB l[i] := by
      rw [List.take_succ_eq_append_getElem hlt, List.all_append, ha]; simp
     cases h2 : signB l[i] with
     | true =>
      refine cndF ?_
      refine nadd (y := 1) (by omega) ?_
      exact hJ (l.length - (i + 1)) _ _ (by omega) ⟨i + 1, rfl, by omega, by rw [ht, h2], f0, f13, rfl, rfl⟩
     | false =>
      refine cndT ?_
      refine hX _ _ _ (by simp) (g2 _ _ _ (g1 _ _ _ (g0 _ _ _ ?_)))
      have e : l.all signB = false := by
       rw [List.all_eq_false]
       exact ⟨l[i], List.getElem_mem hlt, by rw [h2]; decide⟩
      rw [e] at h; exact h
    ·obtain rfl : i = l.length := by omega
     rw [List.take_length] at ha
     refine hX _ _ _ (by simp) (g2 _ _ _ (blk_x (seq_n g1 ?_)))
     rw [ha] at h; exact h
end Go.Proofs.YtcihccmkionliaaGreatDoor
/- Contracts of the library, laid in plain words. -/
namespace Go.Proofs.YtcihccmkionliaaGreatDoor
open Go Go.Proofs Go.Shelf
def lays143_ren : Go.Shelf.Ren := ⟨fun | 143 => 148 | 219 => 177 | 217 => 195 | 225 => 196 | 224 => 197 | 267 => 198 | 266 => 204 | 314 => 205 | n => n, fun | 9 => 9 | 3 => 3 | 4 => 4 | 5 => 5 | 46 => 114 | 146 => 152 | 51 => 151 | n => n, fun | 1 => 0 | n => n⟩
theorem lays143 : Go.Proofs.Lays.n143 Tryz.prog lays143_ren := {
 mixed := by kernel_rfl
 f143 := Tryz.func148.trans (congrArg some (by kernel_rfl))
 f217 := Tryz.func195.trans (congrArg some (by kernel_rfl))
 f219 := Tryz.func177.trans (congrArg some (by kernel_rfl))
 f224 := Tryz.func197.trans (congrArg some (by kernel_rfl))
 f225 := Tryz.func196.trans (congrArg some (by kernel_rfl))
 f266 := Tryz.func204.trans (congrArg some (by kernel_rfl))
 f267 := Tryz.func198.trans (congrArg some (by kernel_rfl))
 f314 := Tryz.func205.trans (congrArg some (by kernel_rfl))
 t3 := Tryz.underlying3
 a3 := Tryz.isAgg3
 z3 := Tryz.sizeOf3
 v3 := Tryz.zeroValue3
 t4 := Tryz.underlying4
 a4 := Tryz.isAgg4
 z4 := Tryz.sizeOf4
 v4 := Tryz.zeroValue4
 t5 := Tryz.underlying5
 a5 := Tryz.isAgg5
 z5 := Tryz.sizeOf5
 v5 := Tryz.zeroValue5
 t9 := Tryz.underlying9
 a9 := Tryz.isAgg9
 z9 := Tryz.sizeOf9
 v9 := Tryz.zeroValue9
 t46 := Tryz.underlying114
 a46 := Tryz.isAgg114
 z46 := Tryz.sizeOf114
 v46 := Tryz.zeroValue114
 t51 := Tryz.underlying151
 a51 := Tryz.isAgg151
 z51 := Tryz.sizeOf151
 v51 := Tryz.zeroValue151
 t146 := Tryz.underlying152
 a146 := Tryz.isAgg152
 z146 := Tryz.sizeOf152
 v146 := Tryz.zeroValue152
 g1 := by kernel_rfl }
open Go.RowKit Go.Lib in
theorem strings_Index_one (s : ByteArray) (c : UInt8) (w : World) :
  Calls Tryz.prog 148 #[.string s, .string ⟨#[c]⟩] w fun e w' => e = .returned (.int .i64 (Lib.indexByte s.data.toList c)) ∧ w' = w := Any.strings_Index_one lays143 s c w
def lays144_ren : Go.Shelf.Ren := ⟨fun | 144 => 112 | 143 => 148 | 219 => 177 | 217 => 195 | 225 => 196 | 224 => 197 | 267 => 198 | 266 => 204 | 314 => 205 | n => n, fun | 9 => 9 | 4 => 4 | 3 => 3 | 5 => 5 | 46 => 114 | 146 => 152 | 51 => 151 | n => n, fun | 1 => 0 | n => n⟩
theorem lays144 : Go.Proofs.Lays.n144 Tryz.prog lays144_ren := {
 mixed := by kernel_rfl
 f143 := Tryz.func148.trans (congrArg some (by kernel_rfl))
 f144 := Tryz.func112.trans (congrArg some (by kernel_rfl))
 f217 := Tryz.func195.trans (congrArg some (by kernel_rfl))
 f219 := Tryz.func177.trans (congrArg some (by kernel_rfl))
 f224 := Tryz.func197.trans (congrArg some (by kernel_rfl))
 f225 := Tryz.func196.trans (congrArg some (by kernel_rfl))
 f266 := Tryz.func204.trans (congrArg some (by kernel_rfl))
 f267 := Tryz.func198.trans (congrArg some (by kernel_rfl))
 f314 := Tryz.func205.trans (congrArg some (by kernel_rfl))
 t3 := Tryz.underlying3
 a3 := Tryz.isAgg3
 z3 := Tryz.sizeOf3
 v3 := Tryz.zeroValue3
 t4 := Tryz.underlying4
 a4 := Tryz.isAgg4
 z4 := Tryz.sizeOf4
 v4 := Tryz.zeroValue4
 t5 := Tryz.underlying5
 a5 := Tryz.isAgg5
 z5 := Tryz.sizeOf5
 v5 := Tryz.zeroValue5
 t9 := Tryz.underlying9
 a9 := Tryz.isAgg9
 z9 := Tryz.sizeOf9
 v9 := Tryz.zeroValue9
 t46 := Tryz.underlying114
 a46 := Tryz.isAgg114
 z46 := Tryz.sizeOf114
 v46 := Tryz.zeroValue114
 t51 := Tryz.underlying151
 a51 := Tryz.isAgg151
 z51 := Tryz.sizeOf151
 v51 := Tryz.zeroValue151
 t146 := Tryz.underlying152
 a146 := Tryz.isAgg152
 z146 := Tryz.sizeOf152
 v146 := Tryz.zeroValue152
 g1 := by kernel_rfl }
open Go.RowKit Go.Lib in
theorem strings_Contains (s sub : ByteArray) (m : Int) (w : World) (hs : s.size < 4294967281) (hm : w.cell? ⟨0, 0, none⟩ = some (.int .i64 m)) :
  Calls Tryz.prog 112 #[.string s, .string sub] w fun e w' => e = .returned (.bool (Lib.contains s.data.toList sub.data.toList)) ∧ w' = w := Any.strings_Contains lays144 s sub m w hs hm
end Go.Proofs.YtcihccmkionliaaGreatDoor
namespace Go.Proofs.YtcihccmkionliaaGreatDoor
open Go
set_option maxRecDepth 100000
theorem str_cutG {l : Bytes} {a b : Nat} {lo hi : Option Value} {w : World} {K : VPost} (hlo : bndIs lo 0 a) (hhi : bndIs hi l.length b) (hab : a ≤ b) (hbl : b ≤ l.length) (hK : K (sv ((l.drop a).take (b - a))) w) : sliceW .str (sv l) lo hi none w K := by
 have hs : (ByteArray.mk l.toArray).size = l.length := by show l.toArray.size = _; rw [List.size_toArray]
 show sliceW .str (.string ⟨l.toArray⟩) lo hi none w K
 refine ⟨rfl, ?_⟩
 rw [hs]
 refine ⟨by simp, a, b, l.length, rfl, hhi, hlo, hab, fun _ => hbl, Nat.le_refl _, ?_⟩
 have e : (ByteArray.mk l.toArray).extract a b = ⟨((l.drop a).take (b - a)).toArray⟩ := by
  apply ByteArray.ext
  rw [ByteArray.data_extract]
  apply Array.ext'
  simp [List.take_drop]
  try omega
 show K (.string ((ByteArray.mk l.toArray).extract a b)) w
 rw [e]
 exact hK
theorem str_add {P : Program} {w : World} {K : VPost} {t : TypeId} {c : Bool} {a b : Bytes} (hl : a.length + b.length < 2 ^ 60) (h : K (sv (a ++ b)) w) : binW P .add t c (sv a) (sv b) w K := by
 have e : (Op.stringOp .add ⟨a.toArray⟩ ⟨b.toArray⟩).run P w = .ok (.string ⟨(a ++ b).toArray⟩) w := by
  have hs : ∀ l : Bytes, (ByteArray.mk l.toArray).size = l.length := fun l => by show l.toArray.size = _; rw [List.size_toArray]
  have hmx : IntKind.max .i64 = 9223372036854775807 := rfl
  simp only [Op.stringOp]
  rw [if_neg (by rw [hs, hs, hmx]; omega), Sem.run_pure]
  congr 2
 show binW P .add t c (.string ⟨a.toArray⟩) (.string ⟨b.toArray⟩) w K
 unfold binW insW binE
 rw [Sem.run_bind]
 have hg : (guardE .add t c (.string ⟨a.toArray⟩) (.string ⟨b.toArray⟩)).run P w = .ok () w := by cases c <;> rfl
 rw [hg, Result.andThen_ok]
 show okW K ((Op.stringOp .add ⟨a.toArray⟩ ⟨b.toArray⟩).run P w)
 rw [e]
 exact h
def splitD : Bytes -> List Bytes
 | [] => [[]]
 | c :: r => if c = 46 then [] :: splitD r else match splitD r with
  | [] => [[c]]
  | x :: xs => (c :: x) :: xs
theorem split_no : ∀ l : Bytes, Lib.indexByte l 46 < 0 -> splitD l = [l]
 | [], _ => rfl
 | c :: r, h => by
  rw [Lib.indexByte] at h
  by_cases hc : c = 46
  ·subst hc; simp at h
  ·rw [if_neg (by simpa using hc)] at h
   have hr : Lib.indexByte r 46 < 0 := by
    split at h
    ·rename_i h1
     have h1 : Lib.indexByte r 46 = -1 := by simpa using h1
     omega
    ·omega
   rw [splitD, if_neg hc, split_no r hr]
theorem split_at : ∀ l : Bytes, 0 ≤ Lib.indexByte l 46 -> (Lib.indexByte l 46).toNat < l.length ∧ splitD l = l.take (Lib.indexByte l 46).toNat :: splitD (l.drop ((Lib.indexByte l 46).toNat + 1))
 | [], h => by simp [Lib.indexByte] at h
 | c :: r, h => by
  rw [Lib.indexByte] at h ⊢
  by_cases hc : c = 46
  ·subst hc
   simp [splitD]
  ·rw [if_neg (by simpa using hc)] at h ⊢
   split at h
   ·omega
   ·rename_i h1
    rw [if_neg h1]
    have hr : 0 ≤ Lib.indexByte r 46 := by
     have hne : Lib.indexByte r 46 ≠ -1 := by simpa using h1
     omega
    obtain ⟨h2, h3⟩ := split_at r hr
    have e : (Lib.indexByte r 46 + 1).toNat = (Lib.indexByte r 46).toNat + 1 := by omega
    rw [e]
    refine ⟨by simp; omega, ?_⟩
    rw [splitD, if_neg hc, h3]
    simp
section
variable {w : World} {L R : List Res}
set_option maxHeartbeats 400000 in
theorem split_w {l D bp bs bn : Nat} {rdy ro : Obj} {txt : Bytes} {W : World} {K : VPost} (ok : Bytes -> Bool) (s : Sep [] w W (rX l rdy :: rX D dfr :: rB bs [sv txt] 9 :: rB bp [sv [46]] 9 :: rB bn [.int .i64 0] 3 :: L) R) (hn : txt.length < 2 ^ 60)
  (hY : ∀ (p rest : Bytes) (W : World) (K' : VPost), p.length < 2 ^ 60 -> Sep [] w W (rX l rdy :: rX D dfr :: rB bs [sv rest] 9 :: rB bp [sv [46]] 9 :: rB bn [.int .i64 0] 3 :: L) R →
   (ok p = true -> ∀ W', Sep [] w W' (rX l rdy :: rX D dfr :: rB bs [sv rest] 9 :: rB bp [sv [46]] 9 :: rB bn [.int .i64 0] 3 :: L) R -> K' (.bool true) W') →
   (ok p = false -> ∀ W', Sep [] w W' (rX l ro :: rX D dfr :: rB bs [sv rest] 9 :: rB bp [sv [46]] 9 :: rB bn [.int .i64 0] 3 :: L) R -> K' (.bool false) W') -> dynW Tryz.prog (.func (.yield l) #[] #[]) #[sv p] W K')
  (hT : (splitD txt).all ok = true -> ∀ rest W', Sep [] w W' (rX l rdy :: rX D dfr :: rB bs [sv rest] 9 :: rB bp [sv [46]] 9 :: rB bn [.int .i64 0] 3 :: L) R -> K (.tuple #[]) W')
  (hF : (splitD txt).all ok = false -> ∀ rest W', Sep [] w W' (rX l ro :: rX D dfr :: rB bs [sv rest] 9 :: rB bp [sv [46]] 9 :: rB bn [.int .i64 0] 3 :: L) R -> K (.tuple #[]) W') :
  Calls Tryz.prog 178 #[.func (.yield l) #[] #[], .pointer (some ⟨bp, 0, none⟩), .pointer (some ⟨bs, 0, none⟩), .pointer (some ⟨bn, 0, none⟩)] W (retK K) := by
 refine c178_calls _ _ _ _ W K ?_
 unfold c178
 refine bindX_i fun J0 g0 => bindX_i fun J1 g1 => ?_
 refine s.load1 3 rfl rfl ?_
 rw [sv_len]
 refine neql (y := 0) ?_
 refine cndF ?_
 refine seq_n g1 ?_
 refine bindX_i fun J2 g2 => bindX_i fun J3 g3 => ?_
 refine loop_i (fun m fr wr => ∃ rest : Bytes, m = rest.length ∧ rest.length < 2 ^ 60 ∧ (splitD txt).all ok = (splitD rest).all ok ∧ fr 0 = .func (.yield l) #[] #[] ∧ fr 1 = .pointer (some ⟨bp, 0, none⟩) ∧ fr 2 = .pointer (some ⟨bs, 0, none⟩) ∧ fr 3 = .pointer (some ⟨bn, 0, none⟩) ∧
  Sep [] w wr (rX l rdy :: rX D dfr :: rB bs [sv rest] 9 :: rB bp [sv [46]] 9 :: rB bn [.int .i64 0] 3 :: L) R) txt.length ?_ ?_
 ·exact ⟨txt, rfl, hn, rfl, rfl, rfl, rfl, rfl, s⟩
 ·rintro m fr wr J ⟨rest, rfl, hrn, hall, f0, f1, f2, f3, s⟩ hJ hX
  rw [f0, f1, f2, f3]
  refine s.load1 2 rfl rfl ?_
  refine s.load1 3 rfl rfl ?_
  have hix := strings_Index_one ⟨rest.toArray⟩ 46 wr
  refine fnW_of (by kernel_rfl) (hix.mono fun e w' he => ?_)
  obtain ⟨rfl, rfl⟩ := he
  have hdl : (ByteArray.mk rest.toArray).data.toList = rest := rfl
  rw [hdl]
  refine retK_i ?_
  rw [ilss]
  refine cond_d (fun hlt => ?_) (fun hge => ?_)
  ·have hsp := split_no rest hlt
   rw [hsp] at hall
   refine hX _ _ _ (by simp) (g3 _ _ _ (blk_x (seq_n g2 ?_)))
   show loadW _ (fr 2) _ fun t w8 => dynW _ (fr 0) _ w8 _
   rw [f0, f2]
   refine s.load1 2 rfl rfl ?_
   refine hY rest rest w' _ hrn s (fun ho W' s => ?_) (fun ho W' s => ?_)
   ·exact g0 _ _ _ (hT (by rw [hall]; simp [ho]) rest W' s)
   ·exact g0 _ _ _ (hF (by rw [hall]; simp [ho]) rest W' s)
  ·obtain ⟨h1, h2⟩ := split_at rest (by omega)
   rw [h2] at hall
   obtain ⟨k, hk⟩ : ∃ k : Nat, Lib.indexByte rest 46 = k := ⟨(Lib.indexByte rest 46).toNat, by omega⟩
   rw [hk, Int.toNat_natCast] at h1 hall
   rw [hk]
   refine s.load1 2 rfl rfl ?_
   refine s.load1 4 rfl rfl ?_
   refine nadd (y := 0) (by omega) ?_
   refine str_cutG (a := 0) (b := k) rfl rfl (by omega) (by omega) ?_
   rw [List.drop_zero, Nat.sub_zero]
   refine hY (rest.take k) rest w' _ (by rw [List.length_take]; omega) s (fun ho W' s => ?_) (fun ho W' s => ?_)
   ·refine not_ti ?_
    refine cndF ?_
    refine s.load1 2 rfl rfl ?_
    refine s.load1 3 rfl rfl ?_
    rw [sv_len]
    refine nadd (y := 1) (by omega) ?_
    refine str_cutG (l := rest) (a := k + 1) (b := rest.length) rfl rfl (by omega) (by omega) ?_
    have htk : (rest.drop (k + 1)).take (rest.length - (k + 1)) = rest.drop (k + 1) := List.take_of_length_le (by rw [List.length_drop]; exact Nat.le_refl _)
    rw [htk]
    refine s.store1 2 rfl rfl (by show 0 < 1; decide) rfl fun w9 s _ => ?_
    refine hJ (rest.drop (k + 1)).length _ _ (by rw [List.length_drop]; omega) ⟨rest.drop (k + 1), rfl, by rw [List.length_drop]; omega, by rw [hall]; simp [ho], f0, f1, f2, f3, s⟩
   ·refine not_ti ?_
    refine cndT ?_
    refine hX _ _ _ (by simp) (g3 _ _ _ (g2 _ _ _ (g0 _ _ _ ?_)))
    exact hF (by rw [hall]; simp [ho]) rest W' s
end
def wordsL : List Bytes := [[80, 114, 111, 112], [84, 121, 112, 101], [102, 117, 110], [97, 108, 108], [108, 101, 116], [105, 110], [111, 102], [119, 105, 116, 104], [97, 120, 105, 111, 109], [100, 101, 102], [116, 104, 101, 111, 114, 101, 109], [102, 97, 109, 105, 108, 121], [117, 48], [117, 49], [117, 50], [117, 51]]
def reservedT : Bytes := 32 :: wordsL.flatMap fun w => w ++ [32]
def scanW : Bool -> Bytes -> Option Bool
 | b, [] => some b
 | b, c :: r => if b && !letB c then none else if c = 46 then scanW true r else if !letB c && !digB c && c != 95 then none else scanW false r
def wordR (s : Bytes) : Bool := decide (1 ≤ s.length ∧ s.length ≤ 32) && (match scanW true s with | some b => !b && !wordsL.contains s | none => false)
def wordB (s : Bytes) : Bool := decide (s.length ≤ 32) && !decide ((32 :: s ++ [32]) <:+: reservedT) && (splitD s).all partB
theorem let46 : letB 46 = false := by decide
theorem sign_iff (c : UInt8) : signB c = true ↔ letB c = true ∨ digB c = true ∨ c = 95 := by
 unfold signB
 simp only [Bool.or_eq_true, decide_eq_true_eq, or_assoc]
 have : c.toNat = 95 ↔ c = 95 := ⟨fun h => UInt8.toNat_inj.1 (by simpa using h), fun h => by subst h; rfl⟩
 rw [this]
theorem scan_split : ∀ (s : Bytes), (∀ x xs, splitD s = x :: xs -> (scanW true s = some false ↔ (partB x = true ∧ xs.all partB = true)) ∧ (scanW false s = some false ↔ (x.all signB = true ∧ xs.all partB = true)))
  | [] => by
    intro x xs h
    simp only [splitD, List.cons.injEq] at h
    obtain ⟨rfl, rfl⟩ := h
    simp [scanW, partB]
  | c :: r => by
    intro x xs h
    rw [splitD] at h
    by_cases hc : c = 46
    · subst hc
      rw [if_pos rfl] at h
      simp only [List.cons.injEq] at h
      obtain ⟨rfl, h⟩ := h
      have h2 : scanW false (46 :: r) = scanW true r := by rw [scanW]; simp
      have h3 : scanW true (46 :: r) = none := by rw [scanW]; simp [let46]
      rw [h2, h3]
      cases xs with
      | nil =>
        have hne : ∀ l : Bytes, splitD l ≠ [] := by
          intro l; cases l with
          | nil => simp [splitD]
          | cons c r => rw [splitD]; split; · simp
                        · split <;> simp
        exact absurd h (hne r)
      | cons y ys =>
        have ih := (scan_split r y ys h).1
        rw [ih]
        simp [partB]
    · rw [if_neg hc] at h
      have key : ∀ y ys, splitD r = y :: ys -> x = c :: y ∧ xs = ys := by
        intro y ys hy
        rw [hy] at h
        simp only [List.cons.injEq] at h
        exact ⟨h.1.symm, h.2.symm⟩
      cases hr : splitD r with
      | nil =>
        exfalso
        cases r with
        | nil => simp [splitD] at hr
        | cons d r => rw [splitD] at hr; split at hr; · simp at hr
                      · split at hr <;> simp at hr
      | cons y ys =>
        obtain ⟨rfl, rfl⟩ := key y ys hr
        have ih := (scan_split r y xs hr).2
        have hs := sign_iff c
        by_cases hl : letB c = true
        · have e1 : scanW true (c :: r) = scanW false r := by rw [scanW]; simp [hl, hc]
          have e2 : scanW false (c :: r) = scanW false r := by rw [scanW]; simp [hl, hc]
          have hsg := hs.2 (.inl hl)
          rw [e1, e2, ih]
          simp [partB, hl, hsg]
        · have hl : letB c = false := by simpa using hl
          have e1 : scanW true (c :: r) = none := by rw [scanW]; simp [hl]
          rw [e1]
          refine ⟨by simp [partB, hl], ?_⟩
          by_cases hd : digB c = true ∨ c = 95
          · have e2 : scanW false (c :: r) = scanW false r := by rw [scanW]; rcases hd with hd | hd <;> simp [hl, hc, hd]
            have hsg := hs.2 (.inr hd)
            rw [e2, ih]
            simp [hsg]
          · have hd' : digB c = false ∧ c ≠ 95 := by
              constructor
              · cases h : digB c with
                | false => rfl
                | true => exact absurd (.inl h) hd
              · exact fun h => hd (.inr h)
            have e2 : scanW false (c :: r) = none := by rw [scanW]; simp [hl, hc, hd'.1, hd'.2]
            have hsg : signB c = false := by
              cases h : signB c with
              | false => rfl
              | true => exact absurd (hs.1 h) (by simp [hl, hd'.1, hd'.2])
            rw [e2]
            simp [hsg]
theorem no_space {s : Bytes} (h : scanW true s = some false ∨ scanW false s = some false ∨ scanW true s = some true ∨ scanW false s = some true) : (32 : UInt8) ∉ s := by
 suffices H : ∀ (s : Bytes) (b : Bool), (scanW b s).isSome = true -> (32 : UInt8) ∉ s by
  rcases h with h | h | h | h
  ·exact H s true (by rw [h]; rfl)
  ·exact H s false (by rw [h]; rfl)
  ·exact H s true (by rw [h]; rfl)
  ·exact H s false (by rw [h]; rfl)
 intro s
 induction s with
 | nil => intro b _; simp
 | cons c r ih =>
  intro b h
  rw [scanW] at h
  split at h
  ·cases h
  ·split at h
   ·rename_i h2
    have := ih true h
    subst h2
    simp [this]
   ·split at h
    ·cases h
    ·rename_i h3
     have := ih false h
     simp only [List.mem_cons, not_or]
     refine ⟨fun e => ?_, this⟩
     subst e
     exact h3 (by decide)
theorem infix_words {s : Bytes} (h1 : s ≠ []) (h2 : (32 : UInt8) ∉ s) : ∀ {ws : List Bytes}, (∀ w ∈ ws, (32 : UInt8) ∉ w) -> ((32 :: s ++ [32]) <:+: (32 :: ws.flatMap fun w => w ++ [32]) ↔ s ∈ ws)
 | [], _ => by
  constructor
  ·intro h
   have := h.length_le
   have : 0 < s.length := List.length_pos_iff.2 h1
   simp at *
  ·simp
 | w :: ws, hw => by
  have hww := hw w (by simp)
  have ih := infix_words h1 h2 (ws := ws) (fun x hx => hw x (by simp [hx]))
  have e : (w :: ws).flatMap (fun w => w ++ [32]) = w ++ 32 :: ws.flatMap fun w => w ++ [32] := by simp
  rw [e]
  generalize hT : (32 :: ws.flatMap fun w => w ++ [(32 : UInt8)]) = T at *
  rw [List.infix_cons_iff]
  have drop : ∀ w : Bytes, (32 : UInt8) ∉ w -> ((32 :: s ++ [32]) <:+: (w ++ T) ↔ (32 :: s ++ [32]) <:+: T) := by
   intro w
   induction w with
   | nil => intro _; rfl
   | cons c r ihr =>
    intro hc
    simp only [List.mem_cons, not_or] at hc
    rw [show c :: r ++ T = c :: (r ++ T) from rfl, List.infix_cons_iff, ihr hc.2]
    constructor
    ·rintro (h | h)
     ·exfalso
      rw [List.cons_append, List.cons_prefix_cons] at h
      exact hc.1 h.1
     ·exact h
    ·exact .inr
  rw [drop w hww, ih]
  have pre : (32 :: s ++ [32]) <+: (32 :: (w ++ T)) ↔ s = w := by
   rw [List.cons_append, List.cons_prefix_cons]
   simp only [true_and]
   rw [← hT]
   clear drop ih e hT T hw
   induction s generalizing w with
   | nil => exact absurd rfl h1
   | cons c r ihs =>
    cases w with
    | nil =>
     simp only [List.mem_cons, not_or] at h2
     rw [List.nil_append, List.cons_append, List.cons_prefix_cons]
     constructor
     ·rintro ⟨h, _⟩; exact absurd h.symm h2.1
     ·intro h; cases h
    | cons d w =>
     simp only [List.mem_cons, not_or] at h2 hww
     rw [List.cons_append, List.cons_append, List.cons_prefix_cons]
     by_cases hr : r = []
     ·subst hr
      cases w with
      | nil => simp
      | cons x w =>
       simp only [List.mem_cons, not_or] at hww
       rw [List.nil_append, List.cons_append, List.cons_prefix_cons]
       constructor
       ·rintro ⟨_, h, _⟩; exact absurd h hww.2.1
       ·intro h; simp at h
     ·rw [ihs hr h2.2 w hww.2]
      simp
  rw [pre]
  simp
theorem word_eq (s : Bytes) : wordB s = wordR s := by
  by_cases hs : s = []
  · subst hs; decide
  · have hlen : 1 ≤ s.length := List.length_pos_iff.2 hs
    cases hsp : splitD s with
    | nil =>
      exfalso
      cases s with
      | nil => simp [splitD] at hsp
      | cons d r => rw [splitD] at hsp; split at hsp; · simp at hsp
                    · split at hsp <;> simp at hsp
    | cons x xs =>
      have hk := (scan_split s x xs hsp).1
      unfold wordB wordR
      rw [hsp]
      by_cases hsc : scanW true s = some false
      · have h32 := no_space (.inl hsc)
        have hw : ∀ w ∈ wordsL, (32 : UInt8) ∉ w := by decide
        have hi := infix_words hs h32 hw
        rw [hsc]
        have h3 := hk.1 hsc
        have hc : decide ((32 :: s ++ [32]) <:+: reservedT) = wordsL.contains s := by
          rw [Bool.eq_iff_iff, decide_eq_true_iff]
          unfold reservedT
          rw [hi]
          simp
        rw [hc, List.all_cons, h3.1, h3.2]
        simp [hlen]
      · have h4 : ((x :: xs).all partB) = false := by
          rw [List.all_cons]
          cases h5 : partB x with
          | false => rfl
          | true =>
            cases h6 : xs.all partB with
            | false => rfl
            | true => exact absurd (hk.2 ⟨h5, h6⟩) hsc
        rw [h4, Bool.and_false]
        cases h7 : scanW true s with
        | none => simp
        | some b =>
          cases b with
          | false => exact absurd h7 hsc
          | true => simp
namespace TM
def k : TM -> Int | mk k _ _ _ _ => k
def n : TM -> Int | mk _ n _ _ _ => n
def s : TM -> Bytes | mk _ _ s _ _ => s
def ls : TM -> List Lv | mk _ _ _ ls _ => ls
def args : TM -> List TM | mk _ _ _ _ args => args
theorem ind {P : TM -> Prop} (h : ∀ k n s ls args, (∀ a ∈ args, P a) -> P (mk k n s ls args)) : ∀ t, P t :=
 TM.rec (motive_1 := P) (motive_2 := fun l => ∀ a ∈ l, P a) (fun k n s ls args ih => h k n s ls args ih) (by simp) (fun a r h1 h2 b hb => by
  rcases List.mem_cons.1 hb with rfl | hb
  ·exact h1
  ·exact h2 b hb)
end TM
def bndA (k : Int) (i : Nat) : Nat := if (k = 6 ∨ k = 7) ∧ i = 1 ∨ k = 8 ∧ i = 2 then 1 else 0
mutual
def TM.nodesL : TM -> Nat -> List (TM × Nat)
 | .mk k n s ls args, d => (.mk k n s ls args, d) :: TM.nodesA k args 0 d
def TM.nodesA (k : Int) : List TM -> Nat -> Nat -> List (TM × Nat)
 | [], _, _ => []
 | a :: r, i, d => a.nodesL (d + bndA k i) ++ TM.nodesA k r (i + 1) d
end
theorem nodesL_eq (t : TM) (d : Nat) : t.nodesL d = (t, d) :: TM.nodesA t.k t.args 0 d := by cases t; rw [TM.nodesL]; rfl
theorem nodesA_mem {k : Int} {x : TM × Nat} : ∀ {l : List TM} {i d : Nat}, x ∈ TM.nodesA k l i d ↔ ∃ (j : Nat) (a : TM), l[j]? = some a ∧ x ∈ a.nodesL (d + bndA k (i + j))
 | [], i, d => by simp [TM.nodesA]
 | a :: r, i, d => by
  rw [TM.nodesA, List.mem_append, nodesA_mem (l := r)]
  constructor
  ·rintro (h | ⟨j, b, h1, h2⟩)
   ·exact ⟨0, a, rfl, h⟩
   ·exact ⟨j + 1, b, h1, by rw [show i + (j + 1) = i + 1 + j by omega]; exact h2⟩
  ·rintro ⟨j, b, h1, h2⟩
   cases j with
   | zero => simp at h1; subst h1; exact .inl h2
   | succ j => exact .inr ⟨j, b, h1, by rw [show i + 1 + j = i + (j + 1) by omega]; exact h2⟩
theorem nodesL_shift (m : Nat) : ∀ (t : TM) (d : Nat), t.nodesL (d + m) = (t.nodesL d).map fun x => (x.1, x.2 + m) :=
 TM.ind fun k n s ls args ih d => by
  rw [TM.nodesL, TM.nodesL, List.map_cons]
  congr 1
  suffices H : ∀ (l : List TM), (∀ a ∈ l, a ∈ args) -> ∀ i, TM.nodesA k l i (d + m) = (TM.nodesA k l i d).map fun x => (x.1, x.2 + m) from H args (fun _ h => h) 0
  intro l
  induction l with
  | nil => intro _ i; rfl
  | cons a r ihl =>
   intro hl i
   rw [TM.nodesA, TM.nodesA, List.map_append, ihl (fun b hb => hl b (by simp [hb])), ← ih a (hl a (by simp)), show d + m + bndA k i = d + bndA k i + m by omega]
def argsN (k : Int) : Nat := if k = 5 ∨ k = 6 ∨ k = 7 then 2 else if k = 8 then 3 else if k = 9 then 1 else 0
def lvR (l : Lv) : Bool := decide (0 ≤ l.base ∧ l.base ≤ 100 ∧ (-1 ≤ l.p0 ∧ l.p0 ≤ l.base) ∧ (-1 ≤ l.p1 ∧ l.p1 ≤ l.base) ∧ (-1 ≤ l.p2 ∧ l.p2 ≤ l.base) ∧ (-1 ≤ l.p3 ∧ l.p3 ≤ l.base))
def lvW (l : Lv) : Int := if l.p3 > -1 then 4 else if l.p2 > -1 then 3 else if l.p1 > -1 then 2 else if l.p0 > -1 then 1 else 0
def numR (t : TM) (v : Int) : Bool :=
 if t.k = 1 then decide (0 ≤ t.n ∧ t.n < v ∧ t.s = []) else if t.k = 4 then decide (t.n = 0) && wordB t.s else if t.k = 9 then decide (0 ≤ t.n ∧ t.n ≤ 31) && wordB t.s else decide (t.n = 0 ∧ t.s = [])
def lvsR (t : TM) (p : Int) : Bool :=
 (if t.k = 3 then decide (t.ls.length = 1) else if t.k = 4 then decide (t.ls.length ≤ 4) else decide (t.ls.length = 0)) && t.ls.all fun l => lvR l && decide (lvW l ≤ p)
def nodeR (t : TM) (p v : Int) (d : Nat) : Bool := decide (1 ≤ t.k ∧ t.k ≤ 9 ∧ d ≤ 200 ∧ t.args.length = argsN t.k) && numR t v && lvsR t p
def allR (t : TM) (p v : Int) (d : Nat) : Bool := (t.nodesL 0).all fun x => nodeR x.1 p (v + x.2) (d + x.2)
theorem allR_eq (t : TM) (p v : Int) (d : Nat) : allR t p v d = (nodeR t p v d && (List.range t.args.length).all fun i => match t.args[i]? with | some a => allR a p (v + bndA t.k i) (d + bndA t.k i) | none => true) := by
 rw [Bool.eq_iff_iff]
 unfold allR
 rw [nodesL_eq, List.all_cons, Bool.and_eq_true, Bool.and_eq_true]
 have h0 : nodeR t p (v + ((0 : Nat) : Int)) (d + 0) = nodeR t p v d := by rw [Int.natCast_zero, Int.add_zero, Nat.add_zero]
 rw [h0]
 refine and_congr_right fun _ => ?_
 rw [List.all_eq_true, List.all_eq_true]
 constructor
 ·intro h i hi
  rw [List.mem_range] at hi
  rw [List.getElem?_eq_getElem hi]
  show ((t.args[i]).nodesL 0).all _ = true
  rw [List.all_eq_true]
  intro x hx
  have := h (x.1, x.2 + bndA t.k i) (nodesA_mem.2 ⟨i, t.args[i], List.getElem?_eq_getElem hi, by
   rw [nodesL_shift, Nat.zero_add]
   exact List.mem_map.2 ⟨x, hx, rfl⟩⟩)
  rw [show v + ((bndA t.k i : Nat) : Int) + (x.2 : Int) = v + ((x.2 + bndA t.k i : Nat) : Int) by omega, show d + bndA t.k i + x.2 = d + (x.2 + bndA t.k i) by omega]
  exact this
 ·intro h x hx
  obtain ⟨i, a, h1, h2⟩ := nodesA_mem.1 hx
  have hi := (List.getElem?_eq_some_iff.1 h1).1
  have := h i (List.mem_range.2 hi)
  rw [h1] at this
  have := List.all_eq_true.1 this
  have h3 : x ∈ a.nodesL (0 + bndA t.k i) := by
   have : 0 + bndA t.k (0 + i) = 0 + bndA t.k i := by rw [Nat.zero_add i]
   rw [← this]; exact h2
  rw [nodesL_shift] at h3
  obtain ⟨y, hy, rfl⟩ := List.mem_map.1 h3
  have := this y hy
  show nodeR y.1 p (v + ((y.2 + bndA t.k i : Nat) : Int)) (d + (y.2 + bndA t.k i)) = true
  rw [show v + ((y.2 + bndA t.k i : Nat) : Int) = v + ((bndA t.k i : Nat) : Int) + (y.2 : Int) by omega, show d + (y.2 + bndA t.k i) = d + bndA t.k i + y.2 by omega]
  exact this
def rightR (t : TM) (p v : Int) : Bool := decide (0 ≤ p ∧ p ≤ 4 ∧ 0 ≤ v ∧ v ≤ 1099511627776 ∧ t.size ≤ 3000) && allR t p v 0
theorem zero_bool : zeroO Tryz.prog 4 = some (.bool false) := by kernel_rfl
theorem zero_int : zeroO Tryz.prog 3 = some (.int .i64 0) := by kernel_rfl
def GS (w : World) : Prop := ∃ m, w.cell? ⟨0, 0, none⟩ = some (.int .i64 m)
theorem GS.keep {S : List Nat} {w w' : World} (h : GS w) (e : Ext S w w') (hS : 0 ∉ S) : GS w' := by
 obtain ⟨m, h⟩ := h
 refine ⟨m, ?_⟩
 unfold World.cell? at h ⊢
 have hlt : 0 < w.heap.size := by
  cases h2 : w.heap[0]? with
  | none => rw [h2] at h; cases h
  | some o => exact (Array.getElem?_eq_some_iff.1 h2).1
 rw [e.same 0 hlt hS]
 exact h
theorem contains_eq (s sub : Bytes) : Lib.contains s sub = decide (sub <:+: s) := by
 unfold Lib.contains
 rw [decide_eq_decide]
 constructor
 ·intro h
  rcases Lib.index_spec s sub with ⟨h1, _⟩ | ⟨i, h1, h2, h3, _⟩
  ·omega
  ·unfold Lib.occAt at h3
   exact (List.isPrefixOf_iff_prefix.1 h3).isInfix.trans (List.drop_suffix i s).isInfix
 ·rintro ⟨a, b, h⟩
  rcases Lib.index_spec s sub with ⟨_, h2⟩ | ⟨i, h1, _⟩
  ·have h3 := h2 a.length (by rw [← h]; simp)
   unfold Lib.occAt at h3
   rw [← h, List.append_assoc, List.drop_left] at h3
   have h4 : sub.isPrefixOf (sub ++ b) = true := List.isPrefixOf_iff_prefix.2 (List.prefix_append _ _)
   rw [h4] at h3; cases h3
  ·omega
abbrev resBA : ByteArray := ⟨#[32, 80, 114, 111, 112, 32, 84, 121, 112, 101, 32, 102, 117, 110, 32, 97, 108, 108, 32, 108, 101, 116, 32, 105, 110, 32, 111, 102, 32, 119, 105, 116, 104, 32, 97, 120, 105, 111, 109, 32, 100, 101, 102, 32, 116, 104, 101, 111, 114, 101, 109, 32, 102, 97, 109, 105, 108, 121, 32, 117, 48, 32, 117, 49, 32, 117, 50, 32, 117, 51, 32]⟩
theorem res_eq : resBA.data.toList = reservedT := by decide
theorem res_size : resBA.size < 4294967281 := by
 have h1 : resBA.size = reservedT.length := by rw [← res_eq]; rfl
 have h2 : reservedT.length = 71 := by decide
 omega
theorem has_word {w : World} {s : Bytes} (hg : GS w) : Calls Tryz.prog 112 #[.string resBA, sv ([32] ++ s ++ [32])] w fun e w' => e = .returned (.bool (decide ((32 :: s ++ [32]) <:+: reservedT))) ∧ w' = w := by
 obtain ⟨m, hm⟩ := hg
 have h := strings_Contains resBA ⟨([32] ++ s ++ [32]).toArray⟩ m w res_size hm
 have e2 : (ByteArray.mk ([32] ++ s ++ [32]).toArray).data.toList = 32 :: s ++ [32] := by simp
 rw [e2, contains_eq, res_eq] at h
 exact h
set_option maxHeartbeats 1000000 in
theorem word_c {w : World} {K : VPost} {s : Bytes} (hn : s.length < 2 ^ 60) (hg : GS w) (hK : ∀ w', Ext [] w w' -> K (.bool (wordB s)) w') : Calls Tryz.prog 76 #[sv s] w (retK K) := by
 refine c76_calls _ w K ?_
 unfold c76
 refine (Sep.nil w).alloc zero_bool rfl fun r w1 q _ => ?_
 have no : ∀ w', Sep [] w w' (rB r [.bool false] 4 :: []) [] -> wordB s = false -> K (.bool false) w' := fun w' q h => by
  have := hK w' q.ext
  rwa [h] at this
 have ho : ∀ w', Sep [] w w' (rB r [.bool false] 4 :: []) [] -> wordB s = false -> storeW (some (false, 1)) (.pointer (some ⟨r, 0, none⟩)) (.bool false) w' fun w16 => loadW (some (false, 1)) (.pointer (some ⟨r, 0, none⟩)) w16 fun r17 _ => K r17 w16 := fun w' q h => by
  refine q.store1 0 rfl rfl (by show 0 < 1; decide) rfl fun w2 q _ => ?_
  exact q.load1 0 rfl rfl (no w2 q h)
 rw [sv_len]
 refine ngtr (y := 32) ?_
 by_cases h32 : 32 < s.length
 ·rw [decide_eq_true h32]
  iterate 4 refine gs_tf ?_
  refine pick_ti ?_
  refine cndT (ho w1 q ?_)
  unfold wordB
  rw [decide_eq_false (by omega)]; rfl
 ·rw [decide_eq_false h32]
  refine gs_f ?_
  refine gs_f ?_
  show binW _ _ _ _ (sv [32]) (sv s) _ _
  refine str_add (by simp; omega) ?_
  refine gs_f ?_
  show binW _ _ _ _ (sv ([32] ++ s)) (sv [32]) _ _
  refine str_add (by simp; omega) ?_
  have hhw := has_word (s := s) (hg.keep q.ext (by simp))
  refine gs_f (fnW_of (by kernel_rfl) (hhw.mono fun e w' he => ?_))
  obtain ⟨rfl, rfl⟩ := he
  refine retK_i ?_
  refine pick_fi ?_
  have hw : wordB s = (!decide ((32 :: s ++ [32]) <:+: reservedT) && (splitD s).all partB) := by
   unfold wordB
   rw [decide_eq_true (show s.length ≤ 32 by omega), Bool.true_and]
  refine cond_d (fun hin => ?_) (fun hin => ?_)
  ·refine ho w' q ?_
   rw [hw, decide_eq_true hin]; rfl
  ·rw [decide_eq_false hin, Bool.not_false, Bool.true_and] at hw
   refine bindV_i fun K19 h19 => bindV_i fun K20 h20 => ?_
   refine fnW_of (by kernel_rfl) (c113_calls _ _ _ _ ?_)
   unfold c113
   refine fnW_of (by kernel_rfl) (c149_calls _ _ _ _ _ ?_)
   unfold c149
   refine q.box fun bs w2 q _ => ?_
   refine q.box fun bp w3 q _ => ?_
   refine q.box fun bn w4 q _ => ?_
   refine mkfunc_i ?_
   have q := q.swap.toFront 2 rfl
   have q : Sep [] w w4 (rB bs [sv s] 9 :: rB bp [sv [46]] 9 :: rB bn [.int .i64 0] 3 :: rB r [.bool false] 4 :: []) [] := q
   refine bindV_i fun K30 h30 => ?_
   refine range_i (by kernel_rfl) q fun l D rdy bsy dn W1 hY q1 _ => ?_
   show Calls Tryz.prog _ #[.func (.yield l) #[] #[], .pointer (some ⟨bp, 0, none⟩), .pointer (some ⟨bs, 0, none⟩), .pointer (some ⟨bn, 0, none⟩)] W1 _
   refine split_w (txt := s) (ro := dn .ret) partB q1 (by omega) ?_ ?_ ?_
   ·intro p rest W K' hp q hT hF
    refine hY.call rfl q ?_
    refine ⟨q.at 0 rfl, q.at 1 rfl, ?_⟩
    have q := q.putX bsy
    refine fnW_of (by kernel_rfl) (part_c hp ?_)
    refine not_ti ?_
    cases hpb : partB p with
    | true =>
     refine cndF ?_
     refine ⟨q.at 0 rfl, q.at 1 rfl, ?_⟩
     exact hT hpb _ (q.putX rdy)
    | false =>
     refine cndT ?_
     refine q.store1 5 rfl rfl (by show 0 < 1; decide) rfl fun w5 q _ => ?_
     refine ⟨q.at 0 rfl, q.at 1 rfl, ?_⟩
     exact hF hpb _ (q.putX (dn .ret))
   ·intro hall rest W q
    refine ⟨q.at 1 rfl, .inl ⟨q.at 0 rfl, fun ob => ?_⟩⟩
    have q := q.putX ob
    rw [h20]
    refine q.store1 5 rfl rfl (by show 0 < 1; decide) rfl fun w5 q _ => ?_
    refine ⟨q.at 1 rfl, fun W8 hW8 => ?_⟩
    subst hW8
    have q := (q.drop 0).putX (.deferred none)
    refine q.load1 4 rfl rfl ?_
    have := hK _ q.ext
    rw [hw, hall] at this
    exact this
   ·intro hall rest W q
    refine ⟨q.at 1 rfl, .inr ⟨rfl, .ret, .inl rfl, q.at 0 rfl, fun ob => ?_⟩⟩
    have q := q.putX ob
    rw [h30]
    show K20 _ _ _ _
    rw [h20]
    show K19 _ _ _ _
    rw [h19]
    refine ⟨q.at 1 rfl, fun W8 hW8 => ?_⟩
    subst hW8
    have q := (q.drop 0).putX (.deferred none)
    refine q.load1 4 rfl rfl ?_
    have := hK _ q.ext
    rw [hw, hall] at this
    exact this
def levN (k : Int) : Nat := if k = 3 then 1 else if k = 4 then 4 else 0
def bndN (k : Int) : Int := if k = 6 ∨ k = 7 then 1 else if k = 8 then 2 else -1
abbrev formC (a b c : Int) : List Value := [iv a, iv b, iv c]
def formsC : List Value := formC 0 0 0 ++ formC 0 0 (-1) ++ formC 0 0 (-1) ++ formC 0 1 (-1) ++ formC 0 4 (-1) ++ formC 2 0 (-1) ++ formC 2 0 1 ++ formC 2 0 1 ++ formC 3 0 2 ++ formC 1 0 (-1)
theorem str_form : strI Tryz.prog 192 = some ([(0, 1), (1, 1), (2, 1)], formC 0 0 0) := by kernel_rfl
theorem fill_form (a b c : Int) : fillL [(0, 1), (1, 1), (2, 1)] (formC 0 0 0) [(0, iv a), (1, iv b), (2, iv c)] = some (formC a b c) := by
 have h1 : ∀ n : Int, (iv n).cells = #[iv n] := fun _ => rfl
 simp [fillL, h1, lspl]
theorem zero_forms : zeroO Tryz.prog 193 = some (.agg (formC 0 0 0 ++ formC 0 0 0 ++ formC 0 0 0 ++ formC 0 0 0 ++ formC 0 0 0 ++ formC 0 0 0 ++ formC 0 0 0 ++ formC 0 0 0 ++ formC 0 0 0 ++ formC 0 0 0).toArray) := by kernel_rfl
theorem form_i {w : World} {K : VPost} {a b c : Int} (h : K (.agg (formC a b c).toArray) w) : insW Tryz.prog (Instr.build 192 #[(0, .int .i64 a), (1, .int .i64 b), (2, .int .i64 c)]) w K := build_i str_form (fill_form a b c) h
theorem run_forms (w : World) : (Instr.build 193 #[(1, .agg (formC 0 0 (-1)).toArray), (2, .agg (formC 0 0 (-1)).toArray), (3, .agg (formC 0 1 (-1)).toArray), (4, .agg (formC 0 4 (-1)).toArray), (5, .agg (formC 2 0 (-1)).toArray), (6, .agg (formC 2 0 1).toArray), (7, .agg (formC 2 0 1).toArray), (8, .agg (formC 3 0 2).toArray), (9, .agg (formC 1 0 (-1)).toArray)]).run Tryz.prog w = .ok (.agg formsC.toArray) w := by kernel_rfl
theorem forms_c {w : World} {K : VPost} (hK : ∀ w', Ext [] w w' -> K (.agg formsC.toArray) w') : Calls Tryz.prog 144 #[] w (retK K) := by
 refine cForms_calls w K ?_
 unfold cForms
 refine (Sep.nil w).alloc zero_forms rfl fun b w1 s _ => ?_
 iterate 9 refine form_i ?_
 refine insW_ok (run_forms w1) ?_
 refine s.storeAll 0 rfl rfl rfl (by decide) fun w2 s _ => ?_
 refine s.loadAll 0 rfl rfl ?_
 exact hK w2 s.ext
theorem form_ix {w : World} {K : VPost} {k : Int} (h1 : 1 ≤ k) (h9 : k ≤ 9) (h : K (.agg (formC (argsN k) (levN k) (bndN k)).toArray) w) : ixvW (.arr 10 true 3) (.agg formsC.toArray) (.int .i64 k) w K := by
 refine ⟨by omega, by omega, ?_⟩
 have hk : k = 1 ∨ k = 2 ∨ k = 3 ∨ k = 4 ∨ k = 5 ∨ k = 6 ∨ k = 7 ∨ k = 8 ∨ k = 9 := by omega
 rcases hk with rfl | rfl | rfl | rfl | rfl | rfl | rfl | rfl | rfl <;> exact h
theorem fld_form {w : World} {K : VPost} {a b c : Int} {o : Nat} {v : Value} (hv : (formC a b c)[o]? = some v) (h : K v w) : fldW (some (false, o, 1)) (.agg (formC a b c).toArray) w K := ⟨v, by simpa using hv, h⟩
theorem deeper_c {w : World} {K : VPost} {k : Int} {i : Nat} (hK : ∀ w', Ext [] w w' -> K (.int .i64 (bndA k i : Nat)) w') : Calls Tryz.prog 147 #[.int .i64 k, .int .i64 i] w (retK K) := by
 refine c147_calls _ _ w K ?_
 unfold c147
 rw [igeq]
 have no : ∀ w', Ext [] w w' -> bndA k i = 0 -> K (.int .i64 0) w' := fun w' e h => by
  have := hK w' e
  rwa [h] at this
 by_cases h1 : 1 ≤ k
 ·rw [decide_eq_true h1]
  repeat (with_reducible first | apply gs_tf | apply gs_ft | apply gs_u | apply pick_ti | apply pick_fi | refine ⟨gs_tf ⟨rfl, rfl⟩, ?_⟩ | refine ⟨gs_ft ⟨rfl, rfl⟩, ?_⟩ | refine ⟨gs_u ⟨rfl, rfl⟩, ?_⟩ | apply gs_t | apply gs_f | apply off_i | apply cndT | apply cndF)
  rw [ileq]
  by_cases h9 : k ≤ 9
  ·rw [decide_eq_true h9]
   repeat (with_reducible first | apply gs_tf | apply gs_ft | apply gs_u | apply pick_ti | apply pick_fi | refine ⟨gs_tf ⟨rfl, rfl⟩, ?_⟩ | refine ⟨gs_ft ⟨rfl, rfl⟩, ?_⟩ | refine ⟨gs_u ⟨rfl, rfl⟩, ?_⟩ | apply gs_t | apply gs_f | apply off_i | apply cndT | apply cndF)
   refine fnW_of (by kernel_rfl) (forms_c fun w1 e1 => ?_)
   repeat (with_reducible first | apply gs_tf | apply gs_ft | apply gs_u | apply pick_ti | apply pick_fi | refine ⟨gs_tf ⟨rfl, rfl⟩, ?_⟩ | refine ⟨gs_ft ⟨rfl, rfl⟩, ?_⟩ | refine ⟨gs_u ⟨rfl, rfl⟩, ?_⟩ | apply gs_t | apply gs_f | apply off_i | apply cndT | apply cndF)
   refine form_ix h1 h9 ?_
   repeat (with_reducible first | apply gs_tf | apply gs_ft | apply gs_u | apply pick_ti | apply pick_fi | refine ⟨gs_tf ⟨rfl, rfl⟩, ?_⟩ | refine ⟨gs_ft ⟨rfl, rfl⟩, ?_⟩ | refine ⟨gs_u ⟨rfl, rfl⟩, ?_⟩ | apply gs_t | apply gs_f | apply off_i | apply cndT | apply cndF)
   refine fld_form (v := iv (bndN k)) rfl ?_
   repeat (with_reducible first | apply gs_tf | apply gs_ft | apply gs_u | apply pick_ti | apply pick_fi | refine ⟨gs_tf ⟨rfl, rfl⟩, ?_⟩ | refine ⟨gs_ft ⟨rfl, rfl⟩, ?_⟩ | refine ⟨gs_u ⟨rfl, rfl⟩, ?_⟩ | apply gs_t | apply gs_f | apply off_i | apply cndT | apply cndF)
   rw [ieql]
   refine pick_ti ?_
   refine cond_d (fun h => ?_) (fun h => ?_)
   ·have := hK w1 e1
    have hb : bndA k i = 1 := by
     unfold bndA bndN at *
     split at h
     ·rw [if_pos (.inl ⟨by assumption, by omega⟩)]
     ·split at h
      ·rw [if_pos (.inr ⟨by assumption, by omega⟩)]
      ·omega
    rwa [hb] at this
   ·refine no w1 e1 ?_
    unfold bndA bndN at *
    rw [if_neg]
    rintro (⟨h2, h3⟩ | ⟨h2, h3⟩)
    ·rw [if_pos h2] at h; omega
    ·rw [if_neg (by omega), if_pos h2] at h; omega
  ·rw [decide_eq_false h9]
   repeat (with_reducible first | apply gs_tf | apply gs_ft | apply gs_u | apply pick_ti | apply pick_fi | refine ⟨gs_tf ⟨rfl, rfl⟩, ?_⟩ | refine ⟨gs_ft ⟨rfl, rfl⟩, ?_⟩ | refine ⟨gs_u ⟨rfl, rfl⟩, ?_⟩ | apply gs_t | apply gs_f | apply off_i | apply cndT | apply cndF)
   refine no w (Ext.refl _ _) ?_
   unfold bndA
   rw [if_neg (by omega)]
 ·rw [decide_eq_false h1]
  repeat (with_reducible first | apply gs_tf | apply gs_ft | apply gs_u | apply pick_ti | apply pick_fi | refine ⟨gs_tf ⟨rfl, rfl⟩, ?_⟩ | refine ⟨gs_ft ⟨rfl, rfl⟩, ?_⟩ | refine ⟨gs_u ⟨rfl, rfl⟩, ?_⟩ | apply gs_t | apply gs_f | apply off_i | apply cndT | apply cndF)
  refine no w (Ext.refl _ _) ?_
  unfold bndA
  rw [if_neg (by omega)]
theorem str_ne_nil {P : Program} {w : World} {K : VPost} {t : TypeId} {c : Bool} {a : Bytes} (h : K (.bool (decide (a = []))) w) : binW P .eql t c (sv a) (.string ⟨#[]⟩) w K := str_eql (a := a) (b := []) h
set_option maxHeartbeats 400000 in
theorem numbered_c {w : World} {K : VPost} {t : TV} {v : Int} (h : t.ok w) (hg : GS w) (hK : ∀ w', Ext [] w w' -> K (.bool (numR t.e v)) w') : Calls Tryz.prog 145 #[t.v, .int .i64 v] w (retK K) := by
 obtain ⟨k, n, nm, ls, lv, av, args⟩ := t
 refine c145_calls _ _ w K ?_
 unfold c145
 refine TV.box h fun b w1 s => ?_
 have hk := tok_iff.1 h
 have hnm : nm.length < 2 ^ 60 := hk.s
 have hR : ∀ r : Bool, numR (TV.mk k n nm ls lv av args).e v = r -> ∀ w', Ext [] w w' -> K (.bool r) w' := fun r h w' e => by
  have := hK w' e
  rwa [h] at this
 have hde : numR (TV.mk k n nm ls lv av args).e v = if k = 1 then decide (0 ≤ n ∧ n < v ∧ nm = []) else if k = 4 then decide (n = 0) && wordB nm else if k = 9 then decide (0 ≤ n ∧ n ≤ 31) && wordB nm else decide (n = 0 ∧ nm = []) := by
  rw [TV.e_eq]; rfl
 rw [hde] at hR
 repeat (first | with_reducible refine gs_tf ?_ | with_reducible refine gs_ft ?_ | with_reducible refine gs_u ?_ | with_reducible refine pick_ti ?_ | with_reducible refine pick_fi ?_ | with_reducible refine ⟨gs_tf ⟨rfl, rfl⟩, ?_⟩ | with_reducible refine ⟨gs_ft ⟨rfl, rfl⟩, ?_⟩ | with_reducible refine ⟨gs_u ⟨rfl, rfl⟩, ?_⟩ | with_reducible refine gs_t ?_ | with_reducible refine gs_f ?_ | with_reducible refine off_i ?_ | with_reducible refine cndT ?_ | with_reducible refine cndF ?_ | (with_reducible show loadW _ _ _ _; first | refine s.load1 0 rfl rfl ?_))
 rw [ieql]
 refine cond_d (fun h1 => ?_) (fun h1 => ?_)
 ·rw [if_pos h1] at hR
  repeat (first | with_reducible refine gs_tf ?_ | with_reducible refine gs_ft ?_ | with_reducible refine gs_u ?_ | with_reducible refine pick_ti ?_ | with_reducible refine pick_fi ?_ | with_reducible refine ⟨gs_tf ⟨rfl, rfl⟩, ?_⟩ | with_reducible refine ⟨gs_ft ⟨rfl, rfl⟩, ?_⟩ | with_reducible refine ⟨gs_u ⟨rfl, rfl⟩, ?_⟩ | with_reducible refine gs_t ?_ | with_reducible refine gs_f ?_ | with_reducible refine off_i ?_ | with_reducible refine cndT ?_ | with_reducible refine cndF ?_ | (with_reducible show loadW _ _ _ _; first | refine s.load1 0 rfl rfl ?_))
  rw [igeq]
  by_cases h2 : 0 ≤ n
  ·rw [decide_eq_true h2]
   repeat (first | with_reducible refine gs_tf ?_ | with_reducible refine gs_ft ?_ | with_reducible refine gs_u ?_ | with_reducible refine pick_ti ?_ | with_reducible refine pick_fi ?_ | with_reducible refine ⟨gs_tf ⟨rfl, rfl⟩, ?_⟩ | with_reducible refine ⟨gs_ft ⟨rfl, rfl⟩, ?_⟩ | with_reducible refine ⟨gs_u ⟨rfl, rfl⟩, ?_⟩ | with_reducible refine gs_t ?_ | with_reducible refine gs_f ?_ | with_reducible refine off_i ?_ | with_reducible refine cndT ?_ | with_reducible refine cndF ?_ | (with_reducible show loadW _ _ _ _; first | refine s.load1 0 rfl rfl ?_))
   rw [ilss]
   by_cases h3 : n < v
   ·rw [decide_eq_true h3]
    repeat (first | with_reducible refine gs_tf ?_ | with_reducible refine gs_ft ?_ | with_reducible refine gs_u ?_ | with_reducible refine pick_ti ?_ | with_reducible refine pick_fi ?_ | with_reducible refine ⟨gs_tf ⟨rfl, rfl⟩, ?_⟩ | with_reducible refine ⟨gs_ft ⟨rfl, rfl⟩, ?_⟩ | with_reducible refine ⟨gs_u ⟨rfl, rfl⟩, ?_⟩ | with_reducible refine gs_t ?_ | with_reducible refine gs_f ?_ | with_reducible refine off_i ?_ | with_reducible refine cndT ?_ | with_reducible refine cndF ?_ | (with_reducible show loadW _ _ _ _; first | refine s.load1 0 rfl rfl ?_))
    refine str_ne_nil ?_
    repeat (with_reducible first | apply gs_tf | apply gs_ft | apply gs_u | apply pick_ti | apply pick_fi | refine ⟨gs_tf ⟨rfl, rfl⟩, ?_⟩ | refine ⟨gs_ft ⟨rfl, rfl⟩, ?_⟩ | refine ⟨gs_u ⟨rfl, rfl⟩, ?_⟩ | apply gs_t | apply gs_f | apply off_i | apply cndT | apply cndF)
    exact hR _ (by simp [h2, h3]) _ s.ext
   ·rw [decide_eq_false h3]
    repeat (with_reducible first | apply gs_tf | apply gs_ft | apply gs_u | apply pick_ti | apply pick_fi | refine ⟨gs_tf ⟨rfl, rfl⟩, ?_⟩ | refine ⟨gs_ft ⟨rfl, rfl⟩, ?_⟩ | refine ⟨gs_u ⟨rfl, rfl⟩, ?_⟩ | apply gs_t | apply gs_f | apply off_i | apply cndT | apply cndF)
    exact hR _ (by simp [h3]) _ s.ext
  ·rw [decide_eq_false h2]
   repeat (with_reducible first | apply gs_tf | apply gs_ft | apply gs_u | apply pick_ti | apply pick_fi | refine ⟨gs_tf ⟨rfl, rfl⟩, ?_⟩ | refine ⟨gs_ft ⟨rfl, rfl⟩, ?_⟩ | refine ⟨gs_u ⟨rfl, rfl⟩, ?_⟩ | apply gs_t | apply gs_f | apply off_i | apply cndT | apply cndF)
   exact hR _ (by simp [h2]) _ s.ext
 ·rw [if_neg h1] at hR
  rw [ieql]
  refine cond_d (fun h2 => ?_) (fun h2 => ?_)
  ·rw [if_pos h2] at hR
   repeat (first | with_reducible refine gs_tf ?_ | with_reducible refine gs_ft ?_ | with_reducible refine gs_u ?_ | with_reducible refine pick_ti ?_ | with_reducible refine pick_fi ?_ | with_reducible refine ⟨gs_tf ⟨rfl, rfl⟩, ?_⟩ | with_reducible refine ⟨gs_ft ⟨rfl, rfl⟩, ?_⟩ | with_reducible refine ⟨gs_u ⟨rfl, rfl⟩, ?_⟩ | with_reducible refine gs_t ?_ | with_reducible refine gs_f ?_ | with_reducible refine off_i ?_ | with_reducible refine cndT ?_ | with_reducible refine cndF ?_ | (with_reducible show loadW _ _ _ _; first | refine s.load1 0 rfl rfl ?_))
   rw [ieql]
   by_cases h3 : n = 0
   ·rw [decide_eq_true h3]
    repeat (first | with_reducible refine gs_tf ?_ | with_reducible refine gs_ft ?_ | with_reducible refine gs_u ?_ | with_reducible refine pick_ti ?_ | with_reducible refine pick_fi ?_ | with_reducible refine ⟨gs_tf ⟨rfl, rfl⟩, ?_⟩ | with_reducible refine ⟨gs_ft ⟨rfl, rfl⟩, ?_⟩ | with_reducible refine ⟨gs_u ⟨rfl, rfl⟩, ?_⟩ | with_reducible refine gs_t ?_ | with_reducible refine gs_f ?_ | with_reducible refine off_i ?_ | with_reducible refine cndT ?_ | with_reducible refine cndF ?_ | (with_reducible show loadW _ _ _ _; first | refine s.load1 0 rfl rfl ?_))
    refine fnW_of (by kernel_rfl) (word_c hnm (hg.keep s.ext (by simp)) fun w2 e2 => ?_)
    repeat (with_reducible first | apply gs_tf | apply gs_ft | apply gs_u | apply pick_ti | apply pick_fi | refine ⟨gs_tf ⟨rfl, rfl⟩, ?_⟩ | refine ⟨gs_ft ⟨rfl, rfl⟩, ?_⟩ | refine ⟨gs_u ⟨rfl, rfl⟩, ?_⟩ | apply gs_t | apply gs_f | apply off_i | apply cndT | apply cndF)
    exact hR _ (by simp [h3]) _ (s.ext.new e2)
   ·rw [decide_eq_false h3]
    repeat (with_reducible first | apply gs_tf | apply gs_ft | apply gs_u | apply pick_ti | apply pick_fi | refine ⟨gs_tf ⟨rfl, rfl⟩, ?_⟩ | refine ⟨gs_ft ⟨rfl, rfl⟩, ?_⟩ | refine ⟨gs_u ⟨rfl, rfl⟩, ?_⟩ | apply gs_t | apply gs_f | apply off_i | apply cndT | apply cndF)
    exact hR _ (by simp [h3]) _ s.ext
  ·rw [if_neg h2] at hR
   rw [ieql]
   refine cond_d (fun h3 => ?_) (fun h3 => ?_)
   ·rw [if_pos h3] at hR
    repeat (first | with_reducible refine gs_tf ?_ | with_reducible refine gs_ft ?_ | with_reducible refine gs_u ?_ | with_reducible refine pick_ti ?_ | with_reducible refine pick_fi ?_ | with_reducible refine ⟨gs_tf ⟨rfl, rfl⟩, ?_⟩ | with_reducible refine ⟨gs_ft ⟨rfl, rfl⟩, ?_⟩ | with_reducible refine ⟨gs_u ⟨rfl, rfl⟩, ?_⟩ | with_reducible refine gs_t ?_ | with_reducible refine gs_f ?_ | with_reducible refine off_i ?_ | with_reducible refine cndT ?_ | with_reducible refine cndF ?_ | (with_reducible show loadW _ _ _ _; first | refine s.load1 0 rfl rfl ?_))
    rw [igeq]
    by_cases h4 : 0 ≤ n
    ·rw [decide_eq_true h4]
     repeat (first | with_reducible refine gs_tf ?_ | with_reducible refine gs_ft ?_ | with_reducible refine gs_u ?_ | with_reducible refine pick_ti ?_ | with_reducible refine pick_fi ?_ | with_reducible refine ⟨gs_tf ⟨rfl, rfl⟩, ?_⟩ | with_reducible refine ⟨gs_ft ⟨rfl, rfl⟩, ?_⟩ | with_reducible refine ⟨gs_u ⟨rfl, rfl⟩, ?_⟩ | with_reducible refine gs_t ?_ | with_reducible refine gs_f ?_ | with_reducible refine off_i ?_ | with_reducible refine cndT ?_ | with_reducible refine cndF ?_ | (with_reducible show loadW _ _ _ _; first | refine s.load1 0 rfl rfl ?_))
     rw [ileq]
     by_cases h5 : n ≤ 31
     ·rw [decide_eq_true h5]
      repeat (first | with_reducible refine gs_tf ?_ | with_reducible refine gs_ft ?_ | with_reducible refine gs_u ?_ | with_reducible refine pick_ti ?_ | with_reducible refine pick_fi ?_ | with_reducible refine ⟨gs_tf ⟨rfl, rfl⟩, ?_⟩ | with_reducible refine ⟨gs_ft ⟨rfl, rfl⟩, ?_⟩ | with_reducible refine ⟨gs_u ⟨rfl, rfl⟩, ?_⟩ | with_reducible refine gs_t ?_ | with_reducible refine gs_f ?_ | with_reducible refine off_i ?_ | with_reducible refine cndT ?_ | with_reducible refine cndF ?_ | (with_reducible show loadW _ _ _ _; first | refine s.load1 0 rfl rfl ?_))
      refine fnW_of (by kernel_rfl) (word_c hnm (hg.keep s.ext (by simp)) fun w2 e2 => ?_)
      repeat (with_reducible first | apply gs_tf | apply gs_ft | apply gs_u | apply pick_ti | apply pick_fi | refine ⟨gs_tf ⟨rfl, rfl⟩, ?_⟩ | refine ⟨gs_ft ⟨rfl, rfl⟩, ?_⟩ | refine ⟨gs_u ⟨rfl, rfl⟩, ?_⟩ | apply gs_t | apply gs_f | apply off_i | apply cndT | apply cndF)
      exact hR _ (by simp [h4, h5]) _ (s.ext.new e2)
     ·rw [decide_eq_false h5]
      repeat (with_reducible first | apply gs_tf | apply gs_ft | apply gs_u | apply pick_ti | apply pick_fi | refine ⟨gs_tf ⟨rfl, rfl⟩, ?_⟩ | refine ⟨gs_ft ⟨rfl, rfl⟩, ?_⟩ | refine ⟨gs_u ⟨rfl, rfl⟩, ?_⟩ | apply gs_t | apply gs_f | apply off_i | apply cndT | apply cndF)
      exact hR _ (by simp [h5]) _ s.ext
    ·rw [decide_eq_false h4]
     repeat (with_reducible first | apply gs_tf | apply gs_ft | apply gs_u | apply pick_ti | apply pick_fi | refine ⟨gs_tf ⟨rfl, rfl⟩, ?_⟩ | refine ⟨gs_ft ⟨rfl, rfl⟩, ?_⟩ | refine ⟨gs_u ⟨rfl, rfl⟩, ?_⟩ | apply gs_t | apply gs_f | apply off_i | apply cndT | apply cndF)
     exact hR _ (by simp [h4]) _ s.ext
   ·rw [if_neg h3] at hR
    repeat (first | with_reducible refine gs_tf ?_ | with_reducible refine gs_ft ?_ | with_reducible refine gs_u ?_ | with_reducible refine pick_ti ?_ | with_reducible refine pick_fi ?_ | with_reducible refine ⟨gs_tf ⟨rfl, rfl⟩, ?_⟩ | with_reducible refine ⟨gs_ft ⟨rfl, rfl⟩, ?_⟩ | with_reducible refine ⟨gs_u ⟨rfl, rfl⟩, ?_⟩ | with_reducible refine gs_t ?_ | with_reducible refine gs_f ?_ | with_reducible refine off_i ?_ | with_reducible refine cndT ?_ | with_reducible refine cndF ?_ | (with_reducible show loadW _ _ _ _; first | refine s.load1 0 rfl rfl ?_))
    rw [ieql]
    by_cases h4 : n = 0
    ·rw [decide_eq_true h4]
     repeat (first | with_reducible refine gs_tf ?_ | with_reducible refine gs_ft ?_ | with_reducible refine gs_u ?_ | with_reducible refine pick_ti ?_ | with_reducible refine pick_fi ?_ | with_reducible refine ⟨gs_tf ⟨rfl, rfl⟩, ?_⟩ | with_reducible refine ⟨gs_ft ⟨rfl, rfl⟩, ?_⟩ | with_reducible refine ⟨gs_u ⟨rfl, rfl⟩, ?_⟩ | with_reducible refine gs_t ?_ | with_reducible refine gs_f ?_ | with_reducible refine off_i ?_ | with_reducible refine cndT ?_ | with_reducible refine cndF ?_ | (with_reducible show loadW _ _ _ _; first | refine s.load1 0 rfl rfl ?_))
     refine str_ne_nil ?_
     repeat (with_reducible first | apply gs_tf | apply gs_ft | apply gs_u | apply pick_ti | apply pick_fi | refine ⟨gs_tf ⟨rfl, rfl⟩, ?_⟩ | refine ⟨gs_ft ⟨rfl, rfl⟩, ?_⟩ | refine ⟨gs_u ⟨rfl, rfl⟩, ?_⟩ | apply gs_t | apply gs_f | apply off_i | apply cndT | apply cndF)
     exact hR _ (by simp [h4]) _ s.ext
    ·rw [decide_eq_false h4]
     repeat (with_reducible first | apply gs_tf | apply gs_ft | apply gs_u | apply pick_ti | apply pick_fi | refine ⟨gs_tf ⟨rfl, rfl⟩, ?_⟩ | refine ⟨gs_ft ⟨rfl, rfl⟩, ?_⟩ | refine ⟨gs_u ⟨rfl, rfl⟩, ?_⟩ | apply gs_t | apply gs_f | apply off_i | apply cndT | apply cndF)
     exact hR _ (by simp [h4]) _ s.ext
def Lv.ps (l : Lv) : List Int := [l.p0, l.p1, l.p2, l.p3]
theorem ixv4 {w : World} {K : VPost} {l : Lv} {i : Nat} (hi : i < 4) (h : K (iv (l.ps[i]'(by simpa [Lv.ps] using hi))) w) : ixvW (.arr 4 false 1) (.agg [iv l.p0, iv l.p1, iv l.p2, iv l.p3].toArray) (.int .i64 i) w K := by
 refine ⟨by omega, by omega, ?_⟩
 have hk : i = 0 ∨ i = 1 ∨ i = 2 ∨ i = 3 := by omega
 rcases hk with rfl | rfl | rfl | rfl <;> exact ⟨_, rfl, h⟩
theorem lvR_ps (l : Lv) : lvR l = (l.ps.all (fun n => decide (-1 ≤ n ∧ n ≤ l.base)) && decide (0 ≤ l.base ∧ l.base ≤ 100)) := by
 rw [Bool.eq_iff_iff]
 unfold lvR Lv.ps
 simp only [List.all_cons, List.all_nil, Bool.and_true, Bool.and_eq_true, decide_eq_true_eq]
 constructor
 ·rintro ⟨h1, h2, h3, h4, h5, h6⟩; exact ⟨⟨h3, h4, h5, h6⟩, h1, h2⟩
 ·rintro ⟨⟨h3, h4, h5, h6⟩, h1, h2⟩; exact ⟨h1, h2, h3, h4, h5, h6⟩
theorem lright_c {w : World} {K : VPost} {l : Lv} (hK : ∀ w', Ext [] w w' -> K (.bool (lvR l)) w') : Calls Tryz.prog 174 #[.agg l.cells.toArray] w (retK K) := by
 refine c174_calls _ w K ?_
 unfold c174
 refine (Sep.nil w).box fun b w1 s _ => ?_
 have s : Sep [] w w1 (rB b l.cells 95 :: []) [] := s
 refine bindX_i fun J0 g0 => bindX_i fun J1 g1 => ?_
 refine off_i ?_
 refine s.loadN 0 rfl (by show 0 + 1 + 4 ≤ 5; omega) ?_
 show bindX _ _
 refine bindX_i fun J2 g2 => ?_
 refine loop_i (fun m fr wr => ∃ i : Nat, m = 4 - i ∧ i ≤ 4 ∧ (l.ps.take i).all (fun n => decide (-1 ≤ n ∧ n ≤ l.base)) = true ∧ fr 1 = .pointer (some ⟨b, 0, none⟩) ∧ fr 6 = .agg [iv l.p0, iv l.p1, iv l.p2, iv l.p3].toArray ∧ fr 7 = .int .i64 i ∧ wr = w1) 4 ?_ ?_
 ·exact ⟨0, rfl, by omega, rfl, rfl, rfl, rfl, rfl⟩
 ·rintro m fr wr J ⟨i, rfl, hi, ha, f1, f6, f7, rfl⟩ hJ hX
  rw [f1, f6, f7]
  refine nlss (y := 4) (cond_d (fun hlt => ?_) (fun hlt => ?_))
  ·refine ixv4 hlt ?_
   have hl : i < l.ps.length := hlt
   have ht : (l.ps.take (i + 1)).all (fun n => decide (-1 ≤ n ∧ n ≤ l.base)) = decide (-1 ≤ l.ps[i] ∧ l.ps[i] ≤ l.base) := by
    rw [List.take_succ_eq_append_getElem hl, List.all_append, ha]; simp
   have no : ¬ (-1 ≤ l.ps[i] ∧ l.ps[i] ≤ l.base) -> K (.bool false) wr := fun hn => by
    have := hK wr s.ext
    rw [lvR_ps] at this
    have e : l.ps.all (fun n => decide (-1 ≤ n ∧ n ≤ l.base)) = false := by
     rw [List.all_eq_false]
     exact ⟨l.ps[i], List.getElem_mem hl, by simpa using hn⟩
    rwa [e] at this
   rw [ilss]
   by_cases h1 : l.ps[i] < -1
   ·rw [decide_eq_true h1]
    repeat (with_reducible first | apply gs_tf | apply gs_ft | apply gs_u | apply pick_ti | apply pick_fi | refine ⟨gs_tf ⟨rfl, rfl⟩, ?_⟩ | refine ⟨gs_ft ⟨rfl, rfl⟩, ?_⟩ | refine ⟨gs_u ⟨rfl, rfl⟩, ?_⟩ | apply gs_t | apply gs_f | apply off_i | apply cndT | apply cndF)
    exact hX _ _ _ (by simp) (g2 _ _ _ (g1 _ _ _ (g0 _ _ _ (no (by omega)))))
   ·rw [decide_eq_false h1]
    repeat (with_reducible first | apply gs_tf | apply gs_ft | apply gs_u | apply pick_ti | apply pick_fi | refine ⟨gs_tf ⟨rfl, rfl⟩, ?_⟩ | refine ⟨gs_ft ⟨rfl, rfl⟩, ?_⟩ | refine ⟨gs_u ⟨rfl, rfl⟩, ?_⟩ | apply gs_t | apply gs_f | apply off_i | apply cndT | apply cndF)
    refine s.load1 (v := iv l.base) 0 rfl rfl ?_
    repeat (with_reducible first | apply gs_tf | apply gs_ft | apply gs_u | apply pick_ti | apply pick_fi | refine ⟨gs_tf ⟨rfl, rfl⟩, ?_⟩ | refine ⟨gs_ft ⟨rfl, rfl⟩, ?_⟩ | refine ⟨gs_u ⟨rfl, rfl⟩, ?_⟩ | apply gs_t | apply gs_f | apply off_i | apply cndT | apply cndF)
    rw [igtr]
    repeat (with_reducible first | apply gs_tf | apply gs_ft | apply gs_u | apply pick_ti | apply pick_fi | refine ⟨gs_tf ⟨rfl, rfl⟩, ?_⟩ | refine ⟨gs_ft ⟨rfl, rfl⟩, ?_⟩ | refine ⟨gs_u ⟨rfl, rfl⟩, ?_⟩ | apply gs_t | apply gs_f | apply off_i | apply cndT | apply cndF)
    refine cond_d (fun h2 => ?_) (fun h2 => ?_)
    ·exact hX _ _ _ (by simp) (g2 _ _ _ (g1 _ _ _ (g0 _ _ _ (no (by omega)))))
    ·refine nadd (y := 1) (by omega) ?_
     exact hJ (4 - (i + 1)) _ _ (by omega) ⟨i + 1, rfl, by omega, by rw [ht]; simp; omega, f1, f6, rfl, rfl⟩
  ·obtain rfl : i = 4 := by omega
   refine hX _ _ _ (by simp) (g2 _ _ _ (blk_x (seq_n g1 ?_)))
   show offW _ (fr 1) _ _
   rw [f1]
   have e : l.ps.all (fun n => decide (-1 ≤ n ∧ n ≤ l.base)) = true := ha
   have hR := hK wr s.ext
   rw [lvR_ps, e, Bool.true_and] at hR
   repeat (first | with_reducible refine gs_tf ?_ | with_reducible refine gs_ft ?_ | with_reducible refine gs_u ?_ | with_reducible refine pick_ti ?_ | with_reducible refine pick_fi ?_ | with_reducible refine ⟨gs_tf ⟨rfl, rfl⟩, ?_⟩ | with_reducible refine ⟨gs_ft ⟨rfl, rfl⟩, ?_⟩ | with_reducible refine ⟨gs_u ⟨rfl, rfl⟩, ?_⟩ | with_reducible refine gs_t ?_ | with_reducible refine gs_f ?_ | with_reducible refine off_i ?_ | with_reducible refine cndT ?_ | with_reducible refine cndF ?_ | (with_reducible show loadW _ _ _ _; first | refine s.load1 0 rfl rfl ?_))
   rw [igeq]
   by_cases h1 : 0 ≤ l.base
   ·rw [decide_eq_true h1]
    repeat (with_reducible first | apply gs_tf | apply gs_ft | apply gs_u | apply pick_ti | apply pick_fi | refine ⟨gs_tf ⟨rfl, rfl⟩, ?_⟩ | refine ⟨gs_ft ⟨rfl, rfl⟩, ?_⟩ | refine ⟨gs_u ⟨rfl, rfl⟩, ?_⟩ | apply gs_t | apply gs_f | apply off_i | apply cndT | apply cndF)
    show offW _ (fr 1) _ _
    rw [f1]
    repeat (first | with_reducible refine gs_tf ?_ | with_reducible refine gs_ft ?_ | with_reducible refine gs_u ?_ | with_reducible refine pick_ti ?_ | with_reducible refine pick_fi ?_ | with_reducible refine ⟨gs_tf ⟨rfl, rfl⟩, ?_⟩ | with_reducible refine ⟨gs_ft ⟨rfl, rfl⟩, ?_⟩ | with_reducible refine ⟨gs_u ⟨rfl, rfl⟩, ?_⟩ | with_reducible refine gs_t ?_ | with_reducible refine gs_f ?_ | with_reducible refine off_i ?_ | with_reducible refine cndT ?_ | with_reducible refine cndF ?_ | (with_reducible show loadW _ _ _ _; first | refine s.load1 0 rfl rfl ?_))
    rw [ileq]
    repeat (with_reducible first | apply gs_tf | apply gs_ft | apply gs_u | apply pick_ti | apply pick_fi | refine ⟨gs_tf ⟨rfl, rfl⟩, ?_⟩ | refine ⟨gs_ft ⟨rfl, rfl⟩, ?_⟩ | refine ⟨gs_u ⟨rfl, rfl⟩, ?_⟩ | apply gs_t | apply gs_f | apply off_i | apply cndT | apply cndF)
    rw [decide_eq_decide.2 (show (l.base ≤ 100) ↔ (0 ≤ l.base ∧ l.base ≤ 100) by simp [h1])]
    exact hR
   ·rw [decide_eq_false h1]
    repeat (with_reducible first | apply gs_tf | apply gs_ft | apply gs_u | apply pick_ti | apply pick_fi | refine ⟨gs_tf ⟨rfl, rfl⟩, ?_⟩ | refine ⟨gs_ft ⟨rfl, rfl⟩, ?_⟩ | refine ⟨gs_u ⟨rfl, rfl⟩, ?_⟩ | apply gs_t | apply gs_f | apply off_i | apply cndT | apply cndF)
    rw [decide_eq_false (by omega)] at hR
    exact hR
def lvWi (l : Lv) : Nat -> Int
 | 0 => 0
 | i + 1 => if l.ps.getD i (-1) > -1 then i + 1 else lvWi l i
theorem lvWi_4 (l : Lv) : lvWi l 4 = lvW l := by
 simp [lvWi, lvW, Lv.ps]
theorem lwidth_c {w : World} {K : VPost} {l : Lv} (hK : ∀ w', Ext [] w w' -> K (.int .i64 (lvW l)) w') : Calls Tryz.prog 175 #[.agg l.cells.toArray] w (retK K) := by
 refine c175_calls _ w K ?_
 unfold c175
 refine (Sep.nil w).box fun b w1 s _ => ?_
 have s : Sep [] w w1 (rB b l.cells 95 :: []) [] := s
 refine bindX_i fun J0 g0 => bindX_i fun J1 g1 => ?_
 refine off_i ?_
 refine s.loadN 0 rfl (by show 0 + 1 + 4 ≤ 5; omega) ?_
 show bindX _ _
 refine bindX_i fun J2 g2 => ?_
 refine loop_i (fun m fr wr => ∃ i : Nat, m = 4 - i ∧ i ≤ 4 ∧ fr 3 = .int .i64 (lvWi l i) ∧ fr 7 = .agg [iv l.p0, iv l.p1, iv l.p2, iv l.p3].toArray ∧ fr 8 = .int .i64 i ∧ wr = w1) 4 ?_ ?_
 ·exact ⟨0, rfl, by omega, rfl, rfl, rfl, rfl⟩
 ·rintro m fr wr J ⟨i, rfl, hi, f3, f7, f8, rfl⟩ hJ hX
  rw [f7, f8]
  refine nlss (y := 4) (cond_d (fun hlt => ?_) (fun hlt => ?_))
  ·refine bindX_i fun J3 g3 => bindX_i fun J4 g4 => ?_
   refine ixv4 hlt ?_
   have hl : i < l.ps.length := hlt
   have hg : l.ps.getD i (-1) = l.ps[i] := by rw [List.getD_eq_getElem?_getD, List.getElem?_eq_getElem hl]; rfl
   rw [igtr]
   refine cond_d (fun h1 => ?_) (fun h1 => ?_)
   ·refine nadd (y := 1) (by omega) ?_
    refine seq_n g3 ?_
    show binN _ _ _ _ (fr 8) _ _ _
    rw [f8]
    refine nadd (y := 1) (by omega) ?_
    refine hJ (4 - (i + 1)) _ _ (by omega) ⟨i + 1, rfl, by omega, ?_, f7, rfl, rfl⟩
    show Value.int .i64 _ = Value.int .i64 _
    rw [lvWi, hg, if_pos h1]
    rfl
   ·refine seq_n g3 ?_
    show binN _ _ _ _ (fr 8) _ _ _
    rw [f8]
    refine nadd (y := 1) (by omega) ?_
    refine hJ (4 - (i + 1)) _ _ (by omega) ⟨i + 1, rfl, by omega, ?_, f7, rfl, rfl⟩
    show fr 3 = Value.int .i64 _
    rw [lvWi, hg, if_neg h1]
    exact f3
  ·obtain rfl : i = 4 := by omega
   refine hX _ _ _ (by simp) (g2 _ _ _ (blk_x (seq_n g1 ?_)))
   show K (fr 3) _
   rw [f3, lvWi_4]
   exact hK wr s.ext
def lvX (p : Int) (l : Lv) : Bool := !lvR l || decide (p < lvW l)
theorem leveled1_c {w : World} {K : VPost} {l : Lv} {bp : Nat} {p : Int} (hp : RBlk w bp [.int .i64 p]) (hK : ∀ w', Ext [] w w' -> K (.bool (lvX p l)) w') : Calls Tryz.prog 173 #[.agg l.cells.toArray, .pointer (some ⟨bp, 0, none⟩)] w (retK K) := by
 refine c173_calls _ _ w K ?_
 unfold c173
 refine (Sep.nil w).box fun b w1 s _ => ?_
 have s : Sep [] w w1 (rB b l.cells 95 :: []) [] := s
 have s := s.drew
 generalize w1.drew = w1 at *
 refine s.loadAll 0 rfl rfl ?_
 refine fnW_of (by kernel_rfl) (lright_c fun w2 e2 => ?_)
 have s := s.ext0 e2
 refine not_ti ?_
 unfold lvX at hK
 cases hr : lvR l with
 | false =>
  rw [hr] at hK
  rw [Bool.not_false]
  repeat (with_reducible first | apply gs_tf | apply gs_ft | apply gs_u | apply pick_ti | apply pick_fi | refine ⟨gs_tf ⟨rfl, rfl⟩, ?_⟩ | refine ⟨gs_ft ⟨rfl, rfl⟩, ?_⟩ | refine ⟨gs_u ⟨rfl, rfl⟩, ?_⟩ | apply gs_t | apply gs_f | apply off_i | apply cndT | apply cndF)
  exact hK w2 s.ext
 | true =>
  rw [hr] at hK
  rw [Bool.not_true]
  repeat (with_reducible first | apply gs_tf | apply gs_ft | apply gs_u | apply pick_ti | apply pick_fi | refine ⟨gs_tf ⟨rfl, rfl⟩, ?_⟩ | refine ⟨gs_ft ⟨rfl, rfl⟩, ?_⟩ | refine ⟨gs_u ⟨rfl, rfl⟩, ?_⟩ | apply gs_t | apply gs_f | apply off_i | apply cndT | apply cndF)
  refine s.loadAll 0 rfl rfl ?_
  repeat (with_reducible first | apply gs_tf | apply gs_ft | apply gs_u | apply pick_ti | apply pick_fi | refine ⟨gs_tf ⟨rfl, rfl⟩, ?_⟩ | refine ⟨gs_ft ⟨rfl, rfl⟩, ?_⟩ | refine ⟨gs_u ⟨rfl, rfl⟩, ?_⟩ | apply gs_t | apply gs_f | apply off_i | apply cndT | apply cndF)
  refine load1 (o := 0) (v := .int .i64 p) (hp.keep s.ext (by simp)) rfl ?_
  repeat (with_reducible first | apply gs_tf | apply gs_ft | apply gs_u | apply pick_ti | apply pick_fi | refine ⟨gs_tf ⟨rfl, rfl⟩, ?_⟩ | refine ⟨gs_ft ⟨rfl, rfl⟩, ?_⟩ | refine ⟨gs_u ⟨rfl, rfl⟩, ?_⟩ | apply gs_t | apply gs_f | apply off_i | apply cndT | apply cndF)
  refine fnW_of (by kernel_rfl) (lwidth_c fun w3 e3 => ?_)
  have s := s.ext0 e3
  refine ⟨gs_f (load1 (o := 0) (v := .int .i64 p) (hp.keep s.ext (by simp)) rfl ⟨rfl, rfl⟩), ?_⟩
  repeat (with_reducible first | apply gs_tf | apply gs_ft | apply gs_u | apply pick_ti | apply pick_fi | refine ⟨gs_tf ⟨rfl, rfl⟩, ?_⟩ | refine ⟨gs_ft ⟨rfl, rfl⟩, ?_⟩ | refine ⟨gs_u ⟨rfl, rfl⟩, ?_⟩ | apply gs_t | apply gs_f | apply off_i | apply cndT | apply cndF)
  rw [igtr]
  repeat (with_reducible first | apply gs_tf | apply gs_ft | apply gs_u | apply pick_ti | apply pick_fi | refine ⟨gs_tf ⟨rfl, rfl⟩, ?_⟩ | refine ⟨gs_ft ⟨rfl, rfl⟩, ?_⟩ | refine ⟨gs_u ⟨rfl, rfl⟩, ?_⟩ | apply gs_t | apply gs_f | apply off_i | apply cndT | apply cndF)
  exact hK w3 s.ext
theorem lindexF_c {w : World} {K : VPost} {x fv : Value} {ls : List Lv} (pr : Lv -> Bool) (hx : RdSl w x 5 (lcs ls) ls.length) (hn : ls.length < 2 ^ 50)
  (hf : ∀ l ∈ ls, ∀ w' K', Ext [] w w' -> (∀ w'', Ext [] w' w'' -> K' (.bool (pr l)) w'') -> dynW Tryz.prog fv #[.agg l.cells.toArray] w' K')
  (hT : ls.any pr = true -> ∀ (i : Nat) w', Ext [] w w' -> K (.int .i64 i) w') (hF : ls.any pr = false -> ∀ w', Ext [] w w' -> K (.int .i64 (-1)) w') : Calls Tryz.prog 194 #[x, fv] w (retK K) := by
 refine c194_calls _ _ w K ?_
 unfold c194
 refine bindX_i fun J0 g0 => bindX_i fun J1 g1 => ?_
 rw [hx.lenw]
 refine bindX_i fun J2 g2 => ?_
 refine loop_i (fun m fr wr => ∃ i : Nat, m = ls.length - i ∧ i ≤ ls.length ∧ (ls.take i).any pr = false ∧ fr 0 = x ∧ fr 1 = fv ∧ fr 7 = .int .i64 ls.length ∧ fr 8 = .int .i64 i ∧ Ext [] w wr) ls.length ?_ ?_
 ·exact ⟨0, rfl, by omega, rfl, rfl, rfl, rfl, rfl, Ext.refl _ _⟩
 ·rintro m fr wr J ⟨i, rfl, hi, ha, f0, f1, f7, f8, e1⟩ hJ hX
  rw [f7, f8]
  refine nlss (cond_d (fun hlt => ?_) (fun hlt => ?_))
  ·rw [f0, f1]
   obtain ⟨b1, o1, hix, hld⟩ := (hx.keep e1 (by simp)).level hlt .i64
   refine hix _ ?_
   refine hld _ ?_
   refine hf ls[i] (List.getElem_mem hlt) wr _ e1 fun w2 e2 => ?_
   have ht : (ls.take (i + 1)).any pr = pr ls[i] := by
    rw [List.take_succ_eq_append_getElem hlt, List.any_append, ha]; simp
   cases hp : pr ls[i] with
   | true =>
    refine cndT ?_
    exact hX _ _ _ (by simp) (g2 _ _ _ (g1 _ _ _ (g0 _ _ _ (hT (List.any_eq_true.2 ⟨_, List.getElem_mem hlt, hp⟩) i _ (e1.new e2)))))
   | false =>
    refine cndF ?_
    refine nadd (y := 1) (by omega) ?_
    exact hJ (ls.length - (i + 1)) _ _ (by omega) ⟨i + 1, rfl, by omega, by rw [ht, hp], f0, f1, f7, rfl, e1.new e2⟩
  ·obtain rfl : i = ls.length := by omega
   rw [List.take_length] at ha
   exact hX _ _ _ (by simp) (g2 _ _ _ (blk_x (seq_n g1 (hF ha wr e1))))
theorem lcontainsF_c {w : World} {K : VPost} {x fv : Value} {ls : List Lv} (pr : Lv -> Bool) (hx : RdSl w x 5 (lcs ls) ls.length) (hn : ls.length < 2 ^ 50)
  (hf : ∀ l ∈ ls, ∀ w' K', Ext [] w w' -> (∀ w'', Ext [] w' w'' -> K' (.bool (pr l)) w'') -> dynW Tryz.prog fv #[.agg l.cells.toArray] w' K')
  (hK : ∀ w', Ext [] w w' -> K (.bool (ls.any pr)) w') : Calls Tryz.prog 176 #[x, fv] w (retK K) := by
 refine c176_calls _ _ w K ?_
 unfold c176
 refine fnW_of (by kernel_rfl) (lindexF_c pr hx hn hf (fun h i w1 e1 => ?_) (fun h w1 e1 => ?_))
 ·rw [igeq, decide_eq_true (by omega)]
  have := hK w1 e1
  rwa [h] at this
 ·rw [igeq, decide_eq_false (by omega)]
  have := hK w1 e1
  rwa [h] at this
theorem form_one (a b c : Int) : ∀ x ∈ formC a b c, x.oneCell' = true := by
 intro x hx
 simp only [List.mem_cons, List.not_mem_nil, or_false] at hx
 rcases hx with rfl | rfl | rfl <;> rfl
theorem zero_form : zeroO Tryz.prog 192 = some (.agg (formC 0 0 0).toArray) := by kernel_rfl
theorem lvsR_eq {k n : Int} {s : Bytes} {ls : List Lv} {args : List TM} (p : Int) (h1 : 1 ≤ k) (h9 : k ≤ 9) : lvsR (.mk k n s ls args) p = (!(decide (levN k < ls.length) || decide (k = 3 ∧ ls.length = 0)) && !ls.any (lvX p)) := by
 have e : lvsR (.mk k n s ls args) p = ((if k = 3 then decide (ls.length = 1) else if k = 4 then decide (ls.length ≤ 4) else decide (ls.length = 0)) && ls.all fun l => lvR l && decide (lvW l ≤ p)) := rfl
 rw [e, Bool.eq_iff_iff]
 unfold levN
 simp only [Bool.and_eq_true, Bool.not_eq_true', Bool.or_eq_false_iff, decide_eq_false_iff_not]
 refine and_congr ?_ ?_
 ·by_cases h3 : k = 3
  ·rw [if_pos h3, if_pos h3, decide_eq_true_eq]; omega
  ·rw [if_neg h3, if_neg h3]
   by_cases h4 : k = 4
   ·rw [if_pos h4, if_pos h4, decide_eq_true_eq]; omega
   ·rw [if_neg h4, if_neg h4, decide_eq_true_eq]; omega
 ·rw [List.all_eq_true, List.any_eq_false]
  refine forall_congr' fun l => forall_congr' fun _ => ?_
  unfold lvX
  cases lvR l with
  | false => simp
  | true => simp
set_option maxHeartbeats 400000 in
theorem leveled_c {w : World} {K : VPost} {t : TV} {p : Int} (h : t.ok w) (h1 : 1 ≤ t.k) (h9 : t.k ≤ 9) (hK : ∀ w', Ext [] w w' -> K (.bool (lvsR t.e p)) w') : Calls Tryz.prog 146 #[t.v, .int .i64 p] w (retK K) := by
 obtain ⟨k, n, nm, ls, lv, av, args⟩ := t
 have h1 : 1 ≤ k := h1
 have h9 : k ≤ 9 := h9
 refine c146_calls _ _ w K ?_
 unfold c146
 refine TV.box h fun b w1 s => ?_
 refine s.box fun bp w2 s _ => ?_
 have s : Sep [] w w2 (rB bp [.int .i64 p] 3 :: rB b [iv k, iv n, sv nm, lv, av] 25 :: []) (rT (TV.mk k n nm ls lv av args) :: []) := s
 have hk := tok_iff.1 h
 have hl1 : ∀ (w : World) (K : VPost), lenW Tryz.prog (some true) #[22] 3 #[lv] w K = K (.int .i64 ls.length) w := fun w K => RdSl.lenw hk.lr
 have s := s.drew
 generalize w2.drew = w2 at *
 repeat (first | with_reducible refine gs_tf ?_ | with_reducible refine gs_ft ?_ | with_reducible refine gs_u ?_ | with_reducible refine pick_ti ?_ | with_reducible refine pick_fi ?_ | with_reducible refine ⟨gs_tf ⟨rfl, rfl⟩, ?_⟩ | with_reducible refine ⟨gs_ft ⟨rfl, rfl⟩, ?_⟩ | with_reducible refine ⟨gs_u ⟨rfl, rfl⟩, ?_⟩ | with_reducible refine gs_t ?_ | with_reducible refine gs_f ?_ | with_reducible refine off_i ?_ | with_reducible refine cndT ?_ | with_reducible refine cndF ?_ | (with_reducible show loadW _ _ _ _; first | refine s.load1 0 rfl rfl ?_ | refine s.load1 1 rfl rfl ?_))
 refine bindV_i fun J8 h8 => ?_
 have hR : ∀ r : Bool, lvsR (TV.mk k n nm ls lv av args).e p = r -> ∀ w', Ext [] w w' -> K (.bool r) w' := fun r h w' e => by
  have := hK w' e
  rwa [h] at this
 rw [TV.e_eq] at hR
 have hde := lvsR_eq (n := n) (s := nm) (ls := ls) (args := args.map TV.e) p h1 h9
 have tail : ∀ (x : Value) (b5 : Nat) (w3 : World), Sep [] w w3 (rB b5 (formC 0 0 0) 192 :: rB bp [.int .i64 p] 3 :: rB b [iv k, iv n, sv nm, lv, av] 25 :: []) (rT (TV.mk k n nm ls lv av args) :: []) →
   J8 x (.agg (formC (argsN k) (levN k) (bndN k)).toArray) (.pointer (some ⟨b5, 0, none⟩)) w3 := by
  intro x b5 w3 s
  rw [h8]
  refine s.storeAll 0 rfl rfl rfl (form_one _ _ _) fun w4 s _ => ?_
  have s : Sep [] w w4 (rB b5 (formC (argsN k) (levN k) (bndN k)) 192 :: rB bp [.int .i64 p] 3 :: rB b [iv k, iv n, sv nm, lv, av] 25 :: []) (rT (TV.mk k n nm ls lv av args) :: []) := s
  repeat (first | with_reducible refine gs_tf ?_ | with_reducible refine gs_ft ?_ | with_reducible refine gs_u ?_ | with_reducible refine pick_ti ?_ | with_reducible refine pick_fi ?_ | with_reducible refine ⟨gs_tf ⟨rfl, rfl⟩, ?_⟩ | with_reducible refine ⟨gs_ft ⟨rfl, rfl⟩, ?_⟩ | with_reducible refine ⟨gs_u ⟨rfl, rfl⟩, ?_⟩ | with_reducible refine gs_t ?_ | with_reducible refine gs_f ?_ | with_reducible refine off_i ?_ | with_reducible refine cndT ?_ | with_reducible refine cndF ?_ | (with_reducible show loadW _ _ _ _; first | refine s.load1 0 rfl rfl ?_ | refine s.load1 1 rfl rfl ?_ | refine s.load1 2 rfl rfl ?_))
  rw [hl1]
  repeat (first | with_reducible refine gs_tf ?_ | with_reducible refine gs_ft ?_ | with_reducible refine gs_u ?_ | with_reducible refine pick_ti ?_ | with_reducible refine pick_fi ?_ | with_reducible refine ⟨gs_tf ⟨rfl, rfl⟩, ?_⟩ | with_reducible refine ⟨gs_ft ⟨rfl, rfl⟩, ?_⟩ | with_reducible refine ⟨gs_u ⟨rfl, rfl⟩, ?_⟩ | with_reducible refine gs_t ?_ | with_reducible refine gs_f ?_ | with_reducible refine off_i ?_ | with_reducible refine cndT ?_ | with_reducible refine cndF ?_ | (with_reducible show loadW _ _ _ _; first | refine s.load1 0 rfl rfl ?_ | refine s.load1 1 rfl rfl ?_ | refine s.load1 2 rfl rfl ?_))
  rw [igtr]
  have rest : ¬ ((levN k : Int) < ls.length) -> ¬ (k = 3 ∧ ls.length = 0) -> insW Tryz.prog (Instr.makeFunc (.func 173) #[] #[.pointer (some ⟨bp, 0, none⟩)]) w4 fun t28_47 w48 => offW (some 3) (.pointer (some ⟨b, 0, none⟩)) w48 fun t29_49 w50 => loadW (some (false, 1)) t29_49 w50 fun t30_51 w52 => fnW Tryz.prog 176 #[t30_51, t28_47] w52 fun t32_53 w54 => unN Tryz.prog .not t32_53 w54 fun t33_55 w56 => K t33_55 w56 := by
   intro h2 h3
   refine mkfunc_i ?_
   repeat (first | with_reducible refine gs_tf ?_ | with_reducible refine gs_ft ?_ | with_reducible refine gs_u ?_ | with_reducible refine pick_ti ?_ | with_reducible refine pick_fi ?_ | with_reducible refine ⟨gs_tf ⟨rfl, rfl⟩, ?_⟩ | with_reducible refine ⟨gs_ft ⟨rfl, rfl⟩, ?_⟩ | with_reducible refine ⟨gs_u ⟨rfl, rfl⟩, ?_⟩ | with_reducible refine gs_t ?_ | with_reducible refine gs_f ?_ | with_reducible refine off_i ?_ | with_reducible refine cndT ?_ | with_reducible refine cndF ?_ | (with_reducible show loadW _ _ _ _; first | refine s.load1 0 rfl rfl ?_ | refine s.load1 1 rfl rfl ?_ | refine s.load1 2 rfl rfl ?_))
   have ko : TOk w4 (TV.mk k n nm ls lv av args) := tok_iff.1 (s.rat 0 rfl)
   refine fnW_of (by kernel_rfl) (lcontainsF_c (lvX p) ko.lr ko.ll (fun l hl w' K' e' hK' => ?_) fun w5 e5 => ?_)
   ·show fnW Tryz.prog 173 #[.agg l.cells.toArray, .pointer (some ⟨bp, 0, none⟩)] w' K'
    exact fnW_of (by kernel_rfl) (leveled1_c (Blk.r ((s.ext0 e').at 1 rfl)) hK')
   ·refine not_ti ?_
    refine hR _ ?_ w5 (s.ext.new e5)
    show lvsR (TM.mk k n nm ls (args.map TV.e)) p = _
    rw [hde, decide_eq_false (by omega), decide_eq_false h3]
    rfl
  have no : (levN k : Int) < ls.length ∨ (k = 3 ∧ ls.length = 0) -> K (.bool false) w4 := fun hn => by
   refine hR _ ?_ w4 s.ext
   show lvsR (TM.mk k n nm ls (args.map TV.e)) p = _
   rw [hde]
   have e : (decide (levN k < ls.length) || decide (k = 3 ∧ ls.length = 0)) = true := by
    rw [Bool.or_eq_true, decide_eq_true_eq, decide_eq_true_eq]
    rcases hn with hn | hn
    ·left; omega
    ·exact .inr hn
   rw [e]; rfl
  by_cases h2 : (levN k : Int) < ls.length
  ·rw [decide_eq_true h2]
   repeat (with_reducible first | apply gs_tf | apply gs_ft | apply gs_u | apply pick_ti | apply pick_fi | refine ⟨gs_tf ⟨rfl, rfl⟩, ?_⟩ | refine ⟨gs_ft ⟨rfl, rfl⟩, ?_⟩ | refine ⟨gs_u ⟨rfl, rfl⟩, ?_⟩ | apply gs_t | apply gs_f | apply off_i | apply cndT | apply cndF)
   exact no (.inl h2)
  ·rw [decide_eq_false h2]
   repeat (first | with_reducible refine gs_tf ?_ | with_reducible refine gs_ft ?_ | with_reducible refine gs_u ?_ | with_reducible refine pick_ti ?_ | with_reducible refine pick_fi ?_ | with_reducible refine ⟨gs_tf ⟨rfl, rfl⟩, ?_⟩ | with_reducible refine ⟨gs_ft ⟨rfl, rfl⟩, ?_⟩ | with_reducible refine ⟨gs_u ⟨rfl, rfl⟩, ?_⟩ | with_reducible refine gs_t ?_ | with_reducible refine gs_f ?_ | with_reducible refine off_i ?_ | with_reducible refine cndT ?_ | with_reducible refine cndF ?_ | (with_reducible show loadW _ _ _ _; first | refine s.load1 0 rfl rfl ?_ | refine s.load1 1 rfl rfl ?_ | refine s.load1 2 rfl rfl ?_))
   rw [ieql]
   by_cases h3 : k = 3
   ·rw [decide_eq_true h3]
    repeat (first | with_reducible refine gs_tf ?_ | with_reducible refine gs_ft ?_ | with_reducible refine gs_u ?_ | with_reducible refine pick_ti ?_ | with_reducible refine pick_fi ?_ | with_reducible refine ⟨gs_tf ⟨rfl, rfl⟩, ?_⟩ | with_reducible refine ⟨gs_ft ⟨rfl, rfl⟩, ?_⟩ | with_reducible refine ⟨gs_u ⟨rfl, rfl⟩, ?_⟩ | with_reducible refine gs_t ?_ | with_reducible refine gs_f ?_ | with_reducible refine off_i ?_ | with_reducible refine cndT ?_ | with_reducible refine cndF ?_ | (with_reducible show loadW _ _ _ _; first | refine s.load1 0 rfl rfl ?_ | refine s.load1 1 rfl rfl ?_ | refine s.load1 2 rfl rfl ?_))
    rw [hl1]
    repeat (first | with_reducible refine gs_tf ?_ | with_reducible refine gs_ft ?_ | with_reducible refine gs_u ?_ | with_reducible refine pick_ti ?_ | with_reducible refine pick_fi ?_ | with_reducible refine ⟨gs_tf ⟨rfl, rfl⟩, ?_⟩ | with_reducible refine ⟨gs_ft ⟨rfl, rfl⟩, ?_⟩ | with_reducible refine ⟨gs_u ⟨rfl, rfl⟩, ?_⟩ | with_reducible refine gs_t ?_ | with_reducible refine gs_f ?_ | with_reducible refine off_i ?_ | with_reducible refine cndT ?_ | with_reducible refine cndF ?_ | (with_reducible show loadW _ _ _ _; first | refine s.load1 0 rfl rfl ?_ | refine s.load1 1 rfl rfl ?_ | refine s.load1 2 rfl rfl ?_))
    refine neql (y := 0) ?_
    repeat (with_reducible first | apply gs_tf | apply gs_ft | apply gs_u | apply pick_ti | apply pick_fi | refine ⟨gs_tf ⟨rfl, rfl⟩, ?_⟩ | refine ⟨gs_ft ⟨rfl, rfl⟩, ?_⟩ | refine ⟨gs_u ⟨rfl, rfl⟩, ?_⟩ | apply gs_t | apply gs_f | apply off_i | apply cndT | apply cndF)
    refine cond_d (fun h4 => ?_) (fun h4 => ?_)
    ·exact no (.inr ⟨h3, h4⟩)
    ·exact rest h2 (fun hh => h4 hh.2)
   ·rw [decide_eq_false h3]
    repeat (with_reducible first | apply gs_tf | apply gs_ft | apply gs_u | apply pick_ti | apply pick_fi | refine ⟨gs_tf ⟨rfl, rfl⟩, ?_⟩ | refine ⟨gs_ft ⟨rfl, rfl⟩, ?_⟩ | refine ⟨gs_u ⟨rfl, rfl⟩, ?_⟩ | apply gs_t | apply gs_f | apply off_i | apply cndT | apply cndF)
    exact rest h2 (fun hh => h3 hh.1)
 refine ⟨?_, ?_⟩
 ·refine fnW_of (by kernel_rfl) (forms_c fun w3 e3 => ?_)
  have s := s.ext0 e3
  refine ⟨s.load1 1 rfl rfl ⟨rfl, rfl⟩, ?_⟩
  refine form_ix h1 h9 ?_
  refine s.alloc zero_form rfl fun b5 w4 s _ => ?_
  refine ⟨s.load1 2 rfl rfl ⟨rfl, rfl⟩, ?_⟩
  exact tail _ b5 w4 s
 ·refine s.alloc zero_form rfl fun b5 w4 s _ => ?_
  refine ⟨s.load1 2 rfl rfl ⟨rfl, rfl⟩, ?_⟩
  refine fnW_of (by kernel_rfl) (forms_c fun w5 e5 => ?_)
  have s := s.ext0 e5
  refine ⟨s.load1 2 rfl rfl ⟨rfl, rfl⟩, ?_⟩
  refine form_ix h1 h9 ?_
  exact tail _ b5 w5 s
mutual
def TV.nodesV : TV -> Nat -> List (TV × Nat)
 | .mk k n s ls lv av args, d => (.mk k n s ls lv av args, d) :: TV.nodesVA k args 0 d
def TV.nodesVA (k : Int) : List TV -> Nat -> Nat -> List (TV × Nat)
 | [], _, _ => []
 | a :: r, i, d => a.nodesV (d + bndA k i) ++ TV.nodesVA k r (i + 1) d
end
theorem nodesV_eq (t : TV) (d : Nat) : t.nodesV d = (t, d) :: TV.nodesVA t.k t.args 0 d := by cases t; rw [TV.nodesV]; rfl
theorem nodesVA_app (k : Int) (d : Nat) : ∀ (a b : List TV) (i : Nat), TV.nodesVA k (a ++ b) i d = TV.nodesVA k a i d ++ TV.nodesVA k b (i + a.length) d
 | [], b, i => rfl
 | x :: a, b, i => by
  rw [List.cons_append, TV.nodesVA, TV.nodesVA, nodesVA_app k d a b, List.append_assoc, List.length_cons, show i + 1 + a.length = i + (a.length + 1) by omega]
theorem nodesVA_take {k : Int} {d : Nat} {ts : List TV} {i : Nat} (hi : i < ts.length) : TV.nodesVA k (ts.take (i + 1)) 0 d = TV.nodesVA k (ts.take i) 0 d ++ ts[i].nodesV (d + bndA k i) := by
 rw [List.take_succ_eq_append_getElem hi, nodesVA_app, List.length_take, Nat.min_eq_left (by omega), Nat.zero_add, TV.nodesVA, TV.nodesVA, List.append_nil]
theorem nodesVA_mem {k : Int} {x : TV × Nat} : ∀ {l : List TV} {i d : Nat}, x ∈ TV.nodesVA k l i d ↔ ∃ (j : Nat) (a : TV), l[j]? = some a ∧ x ∈ a.nodesV (d + bndA k (i + j))
 | [], i, d => by simp [TV.nodesVA]
 | a :: r, i, d => by
  rw [TV.nodesVA, List.mem_append, nodesVA_mem (l := r)]
  constructor
  ·rintro (h | ⟨j, b, h1, h2⟩)
   ·exact ⟨0, a, rfl, h⟩
   ·exact ⟨j + 1, b, h1, by rw [show i + (j + 1) = i + 1 + j by omega]; exact h2⟩
  ·rintro ⟨j, b, h1, h2⟩
   cases j with
   | zero => simp at h1; subst h1; exact .inl h2
   | succ j => exact .inr ⟨j, b, h1, by rw [show i + 1 + j = i + (j + 1) by omega]; exact h2⟩
theorem bnd_le (k : Int) (i : Nat) : bndA k i ≤ 1 := by unfold bndA; split <;> omega
theorem nodesV_le : ∀ (t : TV) (d : Nat), ∀ x ∈ t.nodesV d, x.2 + x.1.size ≤ d + t.size ∧ d ≤ x.2 :=
 TV.ind fun k n s ls lv av args ih d x hx => by
  rw [nodesV_eq] at hx
  rcases List.mem_cons.1 hx with rfl | hx
  ·exact ⟨Nat.le_refl _, Nat.le_refl _⟩
  ·obtain ⟨j, a, h1, h2⟩ := nodesVA_mem.1 hx
   have hm : a ∈ args := List.mem_of_getElem? h1
   have := ih a hm _ x h2
   have hb := bnd_le (TV.mk k n s ls lv av args).k (0 + j)
   have hs := sizes_le hm
   have hz : (TV.mk k n s ls lv av args).size = 1 + ls.length + TV.sizes args := by rw [TV.size]
   omega
set_option maxHeartbeats 800000 in
theorem visit_c {fv : Value} {T : List Nat} {I : List (TV × Nat) -> World -> Prop} {F : World -> Prop} (hI : ∀ p W W', I p W -> Ext [] W W' -> I p W') : ∀ (t : TV) (d : Nat) (pre : List (TV × Nat)) {W : World} {K : VPost}, I pre W -> (∀ b ∈ T, b < W.heap.size) -> (∀ p W, I p W -> t.ok W) -> t.size ≤ 1000000 -> d + t.size ≤ 2 ^ 40 →
  (∀ x p rest, p ++ x :: rest = pre ++ t.nodesV d -> ∀ W K', I p W -> (∀ W', Ext T W W' -> I (p ++ [x]) W' -> K' (.bool true) W') -> (∀ W', Ext T W W' -> F W' -> K' (.bool false) W') -> dynW Tryz.prog fv #[x.1.v, .int .i64 x.2] W K') →
  (∀ W', Ext T W W' -> I (pre ++ t.nodesV d) W' -> K (.bool true) W') -> (∀ W', Ext T W W' -> F W' -> K (.bool false) W') -> Calls Tryz.prog 139 #[t.v, .int .i64 d, fv] W (retK K) := by
 refine TV.ind fun k n nm ls lv av args ih d pre W K hin hT hok hsz hd hY hKt hKf => ?_
 refine c139_calls _ _ _ W K ?_
 unfold c139
 refine boxW_i fun b W1 hb0 e1 hb hb1 => ?_
 have hb : Blk W1 b [iv k, iv n, sv nm, lv, av] 25 := hb
 have hbT : b ∉ T := fun h => by have := hT b h; omega
 have hszz : 1 + ls.length + TV.sizes args ≤ 1000000 := by rw [TV.size] at hsz; exact hsz
 have hd2 : d + (1 + ls.length + TV.sizes args) ≤ 2 ^ 40 := by rw [TV.size] at hd; exact hd
 have hk := tok_iff.1 (hok _ _ hin)
 have ha1 : ∀ (w : World) (K : VPost), lenW Tryz.prog (some true) #[23] 3 #[av] w K = K (.int .i64 args.length) w := fun w K => RdSl.lenw hk.ar
 have hnv : (TV.mk k n nm ls lv av args).nodesV d = (TV.mk k n nm ls lv av args, d) :: TV.nodesVA k args 0 d := by rw [TV.nodesV]
 refine loadAll hb.r rfl ?_
 refine hY (TV.mk k n nm ls lv av args, d) pre (TV.nodesVA k args 0 d) (by rw [hnv]) W1 _ (hI _ _ _ hin e1) (fun W2 e2 hi2 => ?_) (fun W2 e2 hf2 => ?_)
 ·refine not_ti ?_
  refine cndF ?_
  refine bindX_i fun J0 g0 => bindX_i fun J1 g1 => ?_
  refine off_i ?_
  have hb2 : Blk W2 b [iv k, iv n, sv nm, lv, av] 25 := hb.keep e2 hbT
  refine load1 (v := av) hb2.r rfl ?_
  rw [ha1]
  refine bindX_i fun J2 g2 => ?_
  have e12 : Ext T W W2 := (e1.mono (by simp)).step e2 (fun x hx _ => hx)
  refine loop_i (fun m fr wr => ∃ i : Nat, m = args.length - i ∧ i ≤ args.length ∧ fr 1 = .int .i64 d ∧ fr 2 = fv ∧ fr 3 = .pointer (some ⟨b, 0, none⟩) ∧ fr 15 = av ∧ fr 16 = .int .i64 args.length ∧ fr 17 = .int .i64 i ∧ Ext T W wr ∧ Blk wr b [iv k, iv n, sv nm, lv, av] 25 ∧ I (pre ++ (TV.mk k n nm ls lv av args, d) :: TV.nodesVA k (args.take i) 0 d) wr) args.length ?_ ?_
  ·exact ⟨0, rfl, by omega, rfl, rfl, rfl, rfl, rfl, rfl, e12, hb2, hi2⟩
  ·rintro m fr wr J ⟨i, rfl, hi, f1, f2, f3, f15, f16, f17, e3, hb3, hinv⟩ hJ hX
   have hal2 := len_sizes args
   rw [f16, f17]
   refine nlss (cond_d (fun hlt => ?_) (fun hlt => ?_))
   ·rw [f15, f3, f1, f2]
    have ko : TOk wr (TV.mk k n nm ls lv av args) := tok_iff.1 (hok _ _ hinv)
    obtain ⟨b1, o1, hix, hld⟩ := ko.ar.term hlt .i64
    refine hix _ ?_
    refine hld _ ?_
    have hao : args[i].ok wr := ko.a _ (List.getElem_mem hlt)
    refine (Sep.nil wr).alloc zero_term rfl fun q w2 s _ => ?_
    refine s.storeAll (vs := args[i].cells) 0 rfl args[i].cells_len rfl (TV.one hao) fun w3 s _ => ?_
    have s : Sep [] wr w3 (rB q args[i].cells 25 :: []) [] := s
    have s := s.drew
    generalize w3.drew = w3 at *
    refine s.loadAll 0 rfl args[i].cells_len ?_
    refine off_i ?_
    refine load1 (v := iv k) (hb3.keep s.ext (by simp)).r rfl ?_
    refine fnW_of (by kernel_rfl) (deeper_c fun w4 e4 => ?_)
    have s := s.ext0 e4
    refine ⟨s.loadAll 0 rfl args[i].cells_len ⟨rfl, rfl⟩, ?_⟩
    have hbl := bnd_le k i
    have hsi := sizes_le (List.getElem_mem hlt)
    refine nadd (by omega) ?_
    have e34 : Ext T W w4 := e3.new s.ext
    have hTw : ∀ b ∈ T, b < w4.heap.size := fun x hx => Nat.lt_of_lt_of_le (hT x hx) e34.size
    refine fnW_of (by kernel_rfl) (ih args[i] (List.getElem_mem hlt) (d + bndA k i) (pre ++ (TV.mk k n nm ls lv av args, d) :: TV.nodesVA k (args.take i) 0 d) (hI _ _ _ hinv s.ext) hTw (fun p W hp => (tok_iff.1 (hok p W hp)).a _ (List.getElem_mem hlt)) (by omega) (by omega) (fun x p rest hx => hY x p (rest ++ TV.nodesVA k (args.drop (i + 1)) (i + 1) d) ?_) (fun W5 e5 hi5 => ?_) (fun W5 e5 hf5 => ?_))
    ·rw [hnv, ← List.cons_append, ← List.append_assoc, hx]
     have hsp : args = args.take i ++ args[i] :: args.drop (i + 1) := by rw [← List.drop_eq_getElem_cons hlt, List.take_append_drop]
     have hal : (args.take i).length = i := by rw [List.length_take]; omega
     have e : TV.nodesVA k args 0 d = TV.nodesVA k (args.take i) 0 d ++ (args[i].nodesV (d + bndA k i) ++ TV.nodesVA k (args.drop (i + 1)) (i + 1) d) := by
      conv => lhs; rw [hsp]
      rw [nodesVA_app, hal, Nat.zero_add, TV.nodesVA]
     rw [e]
     simp
    ·refine not_ti ?_
     refine cndF ?_
     refine nadd (y := 1) (by omega) ?_
     refine hJ (args.length - (i + 1)) _ _ (by omega) ⟨i + 1, rfl, by omega, f1, f2, f3, f15, f16, rfl, e34.step e5 (fun x hx _ => hx), (hb3.keep s.ext (by simp)).keep e5 hbT, ?_⟩
     rw [nodesVA_take hlt]
     rw [List.append_assoc, List.cons_append] at hi5
     exact hi5
    ·refine not_ti ?_
     refine cndT ?_
     exact hX _ _ _ (by simp) (g2 _ _ _ (g1 _ _ _ (g0 _ _ _ (hKf _ (e34.step e5 (fun x hx _ => hx)) hf5))))
   ·obtain rfl : i = args.length := by omega
    rw [List.take_length] at hinv
    refine hX _ _ _ (by simp) (g2 _ _ _ (blk_x (seq_n g1 (hKt _ e3 ?_))))
    rw [hnv]
    exact hinv
 ·refine not_ti ?_
  refine cndT ?_
  exact hKf _ ((e1.mono (by simp)).step e2 (fun x hx _ => hx)) hf2
def wtN (x : TV × Nat) : Nat := 1 + x.1.ls.length
def wtS (l : List (TV × Nat)) : Nat := (l.map wtN).sum
theorem wtS_app (a b : List (TV × Nat)) : wtS (a ++ b) = wtS a + wtS b := by simp [wtS]
theorem wtS_nodes : ∀ (t : TV) (d : Nat), wtS (t.nodesV d) = t.size :=
 TV.ind fun k n s ls lv av args ih d => by
  rw [TV.nodesV, TV.size]
  have H : ∀ (l : List TV), (∀ a ∈ l, a ∈ args) -> ∀ i, wtS (TV.nodesVA k l i d) = TV.sizes l := by
   intro l
   induction l with
   | nil => intro _ i; rfl
   | cons a r ihl =>
    intro hl i
    rw [TV.nodesVA, wtS_app, ih a (hl a (by simp)), ihl (fun b hb => hl b (by simp [hb])), TV.sizes]
  have := H args (fun _ h => h) 0
  simp only [wtS, List.map_cons, List.sum_cons] at this ⊢
  rw [this]; rfl
theorem nodes1_c {w : World} {K : VPost} {S : List Nat} {w0 : World} {L R : List Res} {t : TV} {d : Value} {bn n : Nat} (s : Sep S w0 w (rB bn [.int .i64 n] 3 :: L) (rT t :: R)) (hn : n + t.size ≤ 2 ^ 50)
  (hK : ∀ w', Sep S w0 w' (rB bn [.int .i64 (n + (1 + t.ls.length) : Nat)] 3 :: L) (rT t :: R) -> K (.bool (decide (n + (1 + t.ls.length) ≤ 3000))) w') : Calls Tryz.prog 143 #[t.v, d, .pointer (some ⟨bn, 0, none⟩)] w (retK K) := by
 obtain ⟨k, m, nm, ls, lv, av, args⟩ := t
 have h : TV.ok w (TV.mk k m nm ls lv av args) := s.rat 0 rfl
 have hk := tok_iff.1 h
 have hl1 : ∀ (w : World) (K : VPost), lenW Tryz.prog (some true) #[22] 3 #[lv] w K = K (.int .i64 ls.length) w := fun w K => RdSl.lenw hk.lr
 have hz : (TV.mk k m nm ls lv av args).size = 1 + ls.length + TV.sizes args := by rw [TV.size]
 refine c143_calls _ _ _ w K ?_
 unfold c143
 refine s.box fun b w1 s _ => ?_
 have s : Sep S w0 w1 (rB b [iv k, iv m, sv nm, lv, av] 25 :: rB bn [.int .i64 n] 3 :: L) (rT (TV.mk k m nm ls lv av args) :: R) := s
 repeat (first | with_reducible refine gs_tf ?_ | with_reducible refine gs_ft ?_ | with_reducible refine gs_u ?_ | with_reducible refine pick_ti ?_ | with_reducible refine pick_fi ?_ | with_reducible refine ⟨gs_tf ⟨rfl, rfl⟩, ?_⟩ | with_reducible refine ⟨gs_ft ⟨rfl, rfl⟩, ?_⟩ | with_reducible refine ⟨gs_u ⟨rfl, rfl⟩, ?_⟩ | with_reducible refine gs_t ?_ | with_reducible refine gs_f ?_ | with_reducible refine off_i ?_ | with_reducible refine cndT ?_ | with_reducible refine cndF ?_ | (with_reducible show loadW _ _ _ _; first | refine s.load1 0 rfl rfl ?_ | refine s.load1 1 rfl rfl ?_))
 rw [hl1]
 refine nadd (x := 1) (by omega) ?_
 refine nadd (by omega) ?_
 refine s.store1 1 rfl rfl (by show 0 < 1; decide) rfl fun w2 s _ => ?_
 repeat (first | with_reducible refine gs_tf ?_ | with_reducible refine gs_ft ?_ | with_reducible refine gs_u ?_ | with_reducible refine pick_ti ?_ | with_reducible refine pick_fi ?_ | with_reducible refine ⟨gs_tf ⟨rfl, rfl⟩, ?_⟩ | with_reducible refine ⟨gs_ft ⟨rfl, rfl⟩, ?_⟩ | with_reducible refine ⟨gs_u ⟨rfl, rfl⟩, ?_⟩ | with_reducible refine gs_t ?_ | with_reducible refine gs_f ?_ | with_reducible refine off_i ?_ | with_reducible refine cndT ?_ | with_reducible refine cndF ?_ | (with_reducible show loadW _ _ _ _; first | refine s.load1 0 rfl rfl ?_ | refine s.load1 1 rfl rfl ?_))
 refine nleq (y := 3000) ?_
 exact hK _ (s.drop 0)
theorem wtS_le {t : TV} {p rest : List (TV × Nat)} {x : TV × Nat} (h : p ++ x :: rest = t.nodesV 0) : wtS (p ++ [x]) ≤ t.size := by
 have e : t.size = wtS (p ++ [x]) + wtS rest := by rw [← wtS_nodes t 0, ← h, show p ++ x :: rest = (p ++ [x]) ++ rest by simp, wtS_app]
 omega
theorem Sep.node {S : List Nat} {w0 w : World} {L R : List Res} {t : TV} {d : Nat} {x : TV × Nat} (s : Sep S w0 w L R) (ht : rT t ∈ R) (hx : x ∈ t.nodesV d) : Sep S w0 w L (rT x.1 :: R) := by
 have H : ∀ (t : TV) (d : Nat), x ∈ t.nodesV d -> t.ok w -> x.1.ok w ∧ ∀ b ∈ x.1.foot, b ∈ t.foot :=
  TV.ind fun k n nm ls lv av args ih d hx h => by
   rw [nodesV_eq] at hx
   rcases List.mem_cons.1 hx with rfl | hx
   ·exact ⟨h, fun b hb => hb⟩
   ·obtain ⟨j, a, h1, h2⟩ := nodesVA_mem.1 hx
    have hm : a ∈ args := List.mem_of_getElem? h1
    obtain ⟨h3, h4⟩ := ih a hm _ h2 ((tok_iff.1 h).a a hm)
    refine ⟨h3, fun b hb => ?_⟩
    rw [TV.foot_eq]
    simp only [List.mem_append]
    exact .inr (.inr (foots_mem.2 ⟨a, hm, h4 b hb⟩))
 obtain ⟨h1, h2⟩ := H t d hx (s.rd (rT t) ht)
 exact s.part ht (T := rT x.1) h1 h2
theorem mem_mid {α : Type} {p rest l : List α} {x : α} (h : p ++ x :: rest = l) : x ∈ l := by rw [← h]; simp
theorem wtS_one (p : List (TV × Nat)) (x : TV × Nat) : wtS (p ++ [x]) = wtS p + (1 + x.1.ls.length) := by rw [wtS_app]; simp [wtS, wtN]
theorem tnodes_c {w : World} {K : VPost} {t : TV} (h : t.ok w) (hs : t.size ≤ 1000000) (hK : ∀ w', Ext [] w w' -> K (.int .i64 (min t.size 3001 : Nat)) w') : Calls Tryz.prog 110 #[t.v] w (retK K) := by
 refine c110_calls _ w K ?_
 unfold c110
 refine TV.box h fun b w1 s => ?_
 refine s.alloc zero_int rfl fun bn w2 s hbn => ?_
 refine s.store1 0 rfl rfl (by show 0 < 1; decide) rfl fun w3 s _ => ?_
 have s : Sep [] w w3 (rB bn [.int .i64 0] 3 :: rB b t.cells 25 :: []) (rT t :: []) := s
 refine s.loadAll 1 rfl t.cells_len ?_
 refine mkfunc_i ?_
 have fin : ∀ (m : Nat) (W : World), Sep [] w W (rB bn [.int .i64 m] 3 :: rB b t.cells 25 :: []) (rT t :: []) -> min m 3001 = min t.size 3001 -> loadW (some (false, 1)) (.pointer (some ⟨bn, 0, none⟩)) W fun t7_11 w12 => insW Tryz.prog (Builtin.min_ #[3, 3] 3 #[t7_11, .int .i64 3001]) w12 fun t8_13 w14 => K t8_13 w14 := by
  intro m W s he
  refine s.load1 0 rfl rfl ?_
  rw [min_e, show min (m : Int) 3001 = ((min m 3001 : Nat) : Int) by omega, he]
  exact hK W s.ext
 refine fnW_of (by kernel_rfl) (visit_c (T := [bn]) (I := fun p W => wtS p ≤ 3000 ∧ Sep [] w W (rB bn [.int .i64 (wtS p : Nat)] 3 :: rB b t.cells 25 :: []) (rT t :: [])) (F := fun W => ∃ m : Nat, 3000 < m ∧ m ≤ t.size ∧ Sep [] w W (rB bn [.int .i64 m] 3 :: rB b t.cells 25 :: []) (rT t :: [])) (fun p W W' hp e => ⟨hp.1, hp.2.ext0 e⟩) t 0 [] ⟨by simp [wtS], s⟩ ?_ (fun p W hp => hp.2.rat 0 rfl) hs (by omega) ?_ ?_ ?_)
 ·intro x hx
  rw [List.mem_singleton] at hx
  subst hx
  exact Blk.lt (s.at 0 rfl)
 ·intro x p rest hx W K' hp hT hF
  rw [List.nil_append] at hx
  have hxm : x ∈ t.nodesV 0 := mem_mid hx
  have hle := wtS_le hx
  have hxs := nodesV_le t 0 x hxm
  have s2 := hp.2.node (t := t) (by simp) hxm
  show fnW Tryz.prog 143 #[x.1.v, .int .i64 x.2, .pointer (some ⟨bn, 0, none⟩)] W K'
  have s3 : Sep [bn] W W (rB bn [.int .i64 (wtS p : Nat)] 3 :: []) (rT x.1 :: []) := Sep.one1 (T := rB bn [.int .i64 (wtS p : Nat)] 3) (U := rT x.1) (s2.at 0 rfl) (s2.rat 0 rfl) (fun b hb => s2.disR _ (by simp) _ (by simp) b hb)
  refine fnW_of (by kernel_rfl) (nodes1_c s3 (by omega) fun W' s4 => ?_)
  have hu : Sep [] w W' (rB bn [.int .i64 (wtS p + (1 + x.1.ls.length) : Nat)] 3 :: rB b t.cells 25 :: []) (rT t :: []) := hp.2.upd 0 rfl (T := rB bn [.int .i64 (wtS p : Nat)] 3) (T' := rB bn [.int .i64 (wtS p + (1 + x.1.ls.length) : Nat)] 3) (s4.at 0 rfl) s4.ext (fun b hb => .inl hb)
  rw [wtS_one] at hle hT
  by_cases hc : wtS p + (1 + x.1.ls.length) ≤ 3000
  ·rw [decide_eq_true hc]
   exact hT W' s4.ext ⟨hc, hu⟩
  ·rw [decide_eq_false hc]
   exact hF W' s4.ext ⟨_, by omega, hle, hu⟩
 ·rintro W' _ ⟨h1, s⟩
  rw [List.nil_append, wtS_nodes] at s h1
  exact fin _ W' s rfl
 ·rintro W' _ ⟨m, h1, h2, s⟩
  exact fin m W' s (by omega)
theorem allR_args {k n : Int} {nm : Bytes} {ls : List Lv} {args : List TM} {p v : Int} {d : Nat} : allR (.mk k n nm ls args) p v d = (nodeR (.mk k n nm ls args) p v d && (List.range args.length).all fun i => match args[i]? with | some a => allR a p (v + bndA k i) (d + bndA k i) | none => true) := allR_eq _ _ _ _
set_option maxHeartbeats 1000000 in
theorem all_c : ∀ (t : TV) (p v : Int) (d : Nat) {w : World} {K : VPost}, t.ok w -> GS w -> t.size ≤ 1000000 -> 0 ≤ v -> v + t.size ≤ 2 ^ 42 -> d + t.size ≤ 2 ^ 42 -> (∀ w', Ext [] w w' -> K (.bool (allR t.e p v d)) w') -> Calls Tryz.prog 111 #[t.v, .int .i64 p, .int .i64 v, .int .i64 d] w (retK K) := by
 refine TV.ind fun k n nm ls lv av args ih p v d w K h hg hsz hv0 hv hd hK => ?_
 refine c111_calls _ _ _ _ w K ?_
 unfold c111
 refine TV.box h fun b w1 s => ?_
 have hk := tok_iff.1 h
 have hz : (TV.mk k n nm ls lv av args).size = 1 + ls.length + TV.sizes args := by rw [TV.size]
 have ha1 : ∀ (w : World) (K : VPost), lenW Tryz.prog (some true) #[23] 3 #[av] w K = K (.int .i64 args.length) w := fun w K => RdSl.lenw hk.ar
 have s := s.drew
 generalize w1.drew = w1 at *
 have he : (TV.mk k n nm ls lv av args).e = TM.mk k n nm ls (args.map TV.e) := by rw [TV.e_eq]; rfl
 have no : ∀ w', Ext [] w w' -> nodeR (TM.mk k n nm ls (args.map TV.e)) p v d = false -> K (.bool false) w' := fun w' e hn => by
  have := hK w' e
  rwa [he, allR_args, hn, Bool.false_and] at this
 have hnd : nodeR (TM.mk k n nm ls (args.map TV.e)) p v d = (decide (1 ≤ k ∧ k ≤ 9 ∧ d ≤ 200 ∧ (args.map TV.e).length = argsN k) && numR (TM.mk k n nm ls (args.map TV.e)) v && lvsR (TM.mk k n nm ls (args.map TV.e)) p) := rfl
 rw [List.length_map] at hnd
 have s : Sep [] w w1 (rB b [iv k, iv n, sv nm, lv, av] 25 :: []) (rT (TV.mk k n nm ls lv av args) :: []) := s
 repeat (first | with_reducible refine gs_tf ?_ | with_reducible refine gs_ft ?_ | with_reducible refine gs_u ?_ | with_reducible refine pick_ti ?_ | with_reducible refine pick_fi ?_ | with_reducible refine ⟨gs_tf ⟨rfl, rfl⟩, ?_⟩ | with_reducible refine ⟨gs_ft ⟨rfl, rfl⟩, ?_⟩ | with_reducible refine ⟨gs_u ⟨rfl, rfl⟩, ?_⟩ | with_reducible refine gs_t ?_ | with_reducible refine gs_f ?_ | with_reducible refine off_i ?_ | with_reducible refine cndT ?_ | with_reducible refine cndF ?_ | (with_reducible show loadW _ _ _ _; first | refine s.load1 0 rfl rfl ?_))
 rw [ilss]
 by_cases h1 : k < 1
 ·rw [decide_eq_true h1]
  repeat (with_reducible first | apply gs_tf | apply gs_ft | apply gs_u | apply pick_ti | apply pick_fi | refine ⟨gs_tf ⟨rfl, rfl⟩, ?_⟩ | refine ⟨gs_ft ⟨rfl, rfl⟩, ?_⟩ | refine ⟨gs_u ⟨rfl, rfl⟩, ?_⟩ | apply gs_t | apply gs_f | apply off_i | apply cndT | apply cndF)
  exact no _ s.ext (by rw [hnd, decide_eq_false (by omega)]; rfl)
 rw [decide_eq_false h1]
 repeat (first | with_reducible refine gs_tf ?_ | with_reducible refine gs_ft ?_ | with_reducible refine gs_u ?_ | with_reducible refine pick_ti ?_ | with_reducible refine pick_fi ?_ | with_reducible refine ⟨gs_tf ⟨rfl, rfl⟩, ?_⟩ | with_reducible refine ⟨gs_ft ⟨rfl, rfl⟩, ?_⟩ | with_reducible refine ⟨gs_u ⟨rfl, rfl⟩, ?_⟩ | with_reducible refine gs_t ?_ | with_reducible refine gs_f ?_ | with_reducible refine off_i ?_ | with_reducible refine cndT ?_ | with_reducible refine cndF ?_ | (with_reducible show loadW _ _ _ _; first | refine s.load1 0 rfl rfl ?_))
 rw [igtr]
 by_cases h9 : 9 < k
 ·rw [decide_eq_true h9]
  repeat (with_reducible first | apply gs_tf | apply gs_ft | apply gs_u | apply pick_ti | apply pick_fi | refine ⟨gs_tf ⟨rfl, rfl⟩, ?_⟩ | refine ⟨gs_ft ⟨rfl, rfl⟩, ?_⟩ | refine ⟨gs_u ⟨rfl, rfl⟩, ?_⟩ | apply gs_t | apply gs_f | apply off_i | apply cndT | apply cndF)
  exact no _ s.ext (by rw [hnd, decide_eq_false (by omega)]; rfl)
 rw [decide_eq_false h9]
 repeat (first | with_reducible refine gs_tf ?_ | with_reducible refine gs_ft ?_ | with_reducible refine gs_u ?_ | with_reducible refine pick_ti ?_ | with_reducible refine pick_fi ?_ | with_reducible refine ⟨gs_tf ⟨rfl, rfl⟩, ?_⟩ | with_reducible refine ⟨gs_ft ⟨rfl, rfl⟩, ?_⟩ | with_reducible refine ⟨gs_u ⟨rfl, rfl⟩, ?_⟩ | with_reducible refine gs_t ?_ | with_reducible refine gs_f ?_ | with_reducible refine off_i ?_ | with_reducible refine cndT ?_ | with_reducible refine cndF ?_ | (with_reducible show loadW _ _ _ _; first | refine s.load1 0 rfl rfl ?_))
 refine ngtr (y := 200) ?_
 by_cases hd2 : 200 < d
 ·rw [decide_eq_true hd2]
  repeat (with_reducible first | apply gs_tf | apply gs_ft | apply gs_u | apply pick_ti | apply pick_fi | refine ⟨gs_tf ⟨rfl, rfl⟩, ?_⟩ | refine ⟨gs_ft ⟨rfl, rfl⟩, ?_⟩ | refine ⟨gs_u ⟨rfl, rfl⟩, ?_⟩ | apply gs_t | apply gs_f | apply off_i | apply cndT | apply cndF)
  exact no _ s.ext (by rw [hnd, decide_eq_false (by omega)]; rfl)
 rw [decide_eq_false hd2]
 repeat (first | with_reducible refine gs_tf ?_ | with_reducible refine gs_ft ?_ | with_reducible refine gs_u ?_ | with_reducible refine pick_ti ?_ | with_reducible refine pick_fi ?_ | with_reducible refine ⟨gs_tf ⟨rfl, rfl⟩, ?_⟩ | with_reducible refine ⟨gs_ft ⟨rfl, rfl⟩, ?_⟩ | with_reducible refine ⟨gs_u ⟨rfl, rfl⟩, ?_⟩ | with_reducible refine gs_t ?_ | with_reducible refine gs_f ?_ | with_reducible refine off_i ?_ | with_reducible refine cndT ?_ | with_reducible refine cndF ?_ | (with_reducible show loadW _ _ _ _; first | refine s.load1 0 rfl rfl ?_))
 rw [ha1]
 repeat (first | with_reducible refine gs_tf ?_ | with_reducible refine gs_ft ?_ | with_reducible refine gs_u ?_ | with_reducible refine pick_ti ?_ | with_reducible refine pick_fi ?_ | with_reducible refine ⟨gs_tf ⟨rfl, rfl⟩, ?_⟩ | with_reducible refine ⟨gs_ft ⟨rfl, rfl⟩, ?_⟩ | with_reducible refine ⟨gs_u ⟨rfl, rfl⟩, ?_⟩ | with_reducible refine gs_t ?_ | with_reducible refine gs_f ?_ | with_reducible refine off_i ?_ | with_reducible refine cndT ?_ | with_reducible refine cndF ?_ | (with_reducible show loadW _ _ _ _; first | refine s.load1 0 rfl rfl ?_))
 refine fnW_of (by kernel_rfl) (forms_c fun w2 e2 => ?_)
 have s := s.ext0 e2
 refine ⟨gs_f (s.load1 0 rfl rfl ⟨rfl, rfl⟩), ?_⟩
 refine ⟨gs_f (s.load1 0 rfl rfl ⟨rfl, rfl⟩), ?_⟩
 repeat (with_reducible first | apply gs_tf | apply gs_ft | apply gs_u | apply pick_ti | apply pick_fi | refine ⟨gs_tf ⟨rfl, rfl⟩, ?_⟩ | refine ⟨gs_ft ⟨rfl, rfl⟩, ?_⟩ | refine ⟨gs_u ⟨rfl, rfl⟩, ?_⟩ | apply gs_t | apply gs_f | apply off_i | apply cndT | apply cndF)
 refine form_ix (by omega) (by omega) ?_
 repeat (with_reducible first | apply gs_tf | apply gs_ft | apply gs_u | apply pick_ti | apply pick_fi | refine ⟨gs_tf ⟨rfl, rfl⟩, ?_⟩ | refine ⟨gs_ft ⟨rfl, rfl⟩, ?_⟩ | refine ⟨gs_u ⟨rfl, rfl⟩, ?_⟩ | apply gs_t | apply gs_f | apply off_i | apply cndT | apply cndF)
 refine fld_form (v := iv (argsN k)) rfl ?_
 repeat (with_reducible first | apply gs_tf | apply gs_ft | apply gs_u | apply pick_ti | apply pick_fi | refine ⟨gs_tf ⟨rfl, rfl⟩, ?_⟩ | refine ⟨gs_ft ⟨rfl, rfl⟩, ?_⟩ | refine ⟨gs_u ⟨rfl, rfl⟩, ?_⟩ | apply gs_t | apply gs_f | apply off_i | apply cndT | apply cndF)
 refine nneq ?_
 by_cases hal : args.length = argsN k
 case neg =>
  rw [decide_eq_true (by simpa using hal)]
  repeat (with_reducible first | apply gs_tf | apply gs_ft | apply gs_u | apply pick_ti | apply pick_fi | refine ⟨gs_tf ⟨rfl, rfl⟩, ?_⟩ | refine ⟨gs_ft ⟨rfl, rfl⟩, ?_⟩ | refine ⟨gs_u ⟨rfl, rfl⟩, ?_⟩ | apply gs_t | apply gs_f | apply off_i | apply cndT | apply cndF)
  exact no _ s.ext (by rw [hnd, decide_eq_false (by omega)]; rfl)
 rw [decide_eq_false (by simpa using hal)]
 have hd1 : decide (1 ≤ k ∧ k ≤ 9 ∧ d ≤ 200 ∧ args.length = argsN k) = true := decide_eq_true ⟨by omega, by omega, by omega, hal⟩
 rw [hd1, Bool.true_and] at hnd
 repeat (with_reducible first | apply gs_tf | apply gs_ft | apply gs_u | apply pick_ti | apply pick_fi | refine ⟨gs_tf ⟨rfl, rfl⟩, ?_⟩ | refine ⟨gs_ft ⟨rfl, rfl⟩, ?_⟩ | refine ⟨gs_u ⟨rfl, rfl⟩, ?_⟩ | apply gs_t | apply gs_f | apply off_i | apply cndT | apply cndF)
 refine s.loadAll 0 rfl rfl ?_
 repeat (with_reducible first | apply gs_tf | apply gs_ft | apply gs_u | apply pick_ti | apply pick_fi | refine ⟨gs_tf ⟨rfl, rfl⟩, ?_⟩ | refine ⟨gs_ft ⟨rfl, rfl⟩, ?_⟩ | refine ⟨gs_u ⟨rfl, rfl⟩, ?_⟩ | apply gs_t | apply gs_f | apply off_i | apply cndT | apply cndF)
 refine fnW_of (by kernel_rfl) (numbered_c (t := TV.mk k n nm ls lv av args) (s.rat 0 rfl) (hg.keep s.ext (by simp)) fun w3 e3 => ?_)
 have s := s.ext0 e3
 repeat (with_reducible first | apply gs_tf | apply gs_ft | apply gs_u | apply pick_ti | apply pick_fi | refine ⟨gs_tf ⟨rfl, rfl⟩, ?_⟩ | refine ⟨gs_ft ⟨rfl, rfl⟩, ?_⟩ | refine ⟨gs_u ⟨rfl, rfl⟩, ?_⟩ | apply gs_t | apply gs_f | apply off_i | apply cndT | apply cndF)
 refine not_ti ?_
 rw [he]
 cases hnum : numR (TM.mk k n nm ls (args.map TV.e)) v with
 | false =>
  rw [Bool.not_false]
  repeat (with_reducible first | apply gs_tf | apply gs_ft | apply gs_u | apply pick_ti | apply pick_fi | refine ⟨gs_tf ⟨rfl, rfl⟩, ?_⟩ | refine ⟨gs_ft ⟨rfl, rfl⟩, ?_⟩ | refine ⟨gs_u ⟨rfl, rfl⟩, ?_⟩ | apply gs_t | apply gs_f | apply off_i | apply cndT | apply cndF)
  exact no _ s.ext (by rw [hnd, hnum]; rfl)
 | true =>
  rw [hnum, Bool.true_and] at hnd
  rw [Bool.not_true]
  repeat (with_reducible first | apply gs_tf | apply gs_ft | apply gs_u | apply pick_ti | apply pick_fi | refine ⟨gs_tf ⟨rfl, rfl⟩, ?_⟩ | refine ⟨gs_ft ⟨rfl, rfl⟩, ?_⟩ | refine ⟨gs_u ⟨rfl, rfl⟩, ?_⟩ | apply gs_t | apply gs_f | apply off_i | apply cndT | apply cndF)
  refine s.loadAll 0 rfl rfl ?_
  repeat (with_reducible first | apply gs_tf | apply gs_ft | apply gs_u | apply pick_ti | apply pick_fi | refine ⟨gs_tf ⟨rfl, rfl⟩, ?_⟩ | refine ⟨gs_ft ⟨rfl, rfl⟩, ?_⟩ | refine ⟨gs_u ⟨rfl, rfl⟩, ?_⟩ | apply gs_t | apply gs_f | apply off_i | apply cndT | apply cndF)
  refine fnW_of (by kernel_rfl) (leveled_c (t := TV.mk k n nm ls lv av args) (s.rat 0 rfl) (by show 1 ≤ k; omega) (by show k ≤ 9; omega) fun w4 e4 => ?_)
  have s := s.ext0 e4
  repeat (with_reducible first | apply gs_tf | apply gs_ft | apply gs_u | apply pick_ti | apply pick_fi | refine ⟨gs_tf ⟨rfl, rfl⟩, ?_⟩ | refine ⟨gs_ft ⟨rfl, rfl⟩, ?_⟩ | refine ⟨gs_u ⟨rfl, rfl⟩, ?_⟩ | apply gs_t | apply gs_f | apply off_i | apply cndT | apply cndF)
  refine not_ti ?_
  rw [he]
  cases hlev : lvsR (TM.mk k n nm ls (args.map TV.e)) p with
  | false =>
   rw [Bool.not_false]
   repeat (with_reducible first | apply gs_tf | apply gs_ft | apply gs_u | apply pick_ti | apply pick_fi | refine ⟨gs_tf ⟨rfl, rfl⟩, ?_⟩ | refine ⟨gs_ft ⟨rfl, rfl⟩, ?_⟩ | refine ⟨gs_u ⟨rfl, rfl⟩, ?_⟩ | apply gs_t | apply gs_f | apply off_i | apply cndT | apply cndF)
   exact no _ s.ext (by rw [hnd, hlev])
  | true =>
   rw [hlev] at hnd
   rw [Bool.not_true]
   repeat (with_reducible first | apply gs_tf | apply gs_ft | apply gs_u | apply pick_ti | apply pick_fi | refine ⟨gs_tf ⟨rfl, rfl⟩, ?_⟩ | refine ⟨gs_ft ⟨rfl, rfl⟩, ?_⟩ | refine ⟨gs_u ⟨rfl, rfl⟩, ?_⟩ | apply gs_t | apply gs_f | apply off_i | apply cndT | apply cndF)
   have hK2 : ∀ w', Ext [] w w' -> K (.bool ((List.range args.length).all fun i => match (args.map TV.e)[i]? with | some a => allR a p (v + bndA k i) (d + bndA k i) | none => true)) w' := fun w' e => by
    have := hK w' e
    rwa [he, allR_args, hnd, Bool.true_and, List.length_map] at this
   refine bindX_i fun J0 g0 => bindX_i fun J1 g1 => ?_
   repeat (first | with_reducible refine gs_tf ?_ | with_reducible refine gs_ft ?_ | with_reducible refine gs_u ?_ | with_reducible refine pick_ti ?_ | with_reducible refine pick_fi ?_ | with_reducible refine ⟨gs_tf ⟨rfl, rfl⟩, ?_⟩ | with_reducible refine ⟨gs_ft ⟨rfl, rfl⟩, ?_⟩ | with_reducible refine ⟨gs_u ⟨rfl, rfl⟩, ?_⟩ | with_reducible refine gs_t ?_ | with_reducible refine gs_f ?_ | with_reducible refine off_i ?_ | with_reducible refine cndT ?_ | with_reducible refine cndF ?_ | (with_reducible show loadW _ _ _ _; first | refine s.load1 0 rfl rfl ?_))
   rw [ha1]
   refine bindX_i fun J2 g2 => ?_
   refine loop_i (fun m fr wr => ∃ i : Nat, m = args.length - i ∧ i ≤ args.length ∧ ((List.range i).all fun i => match (args.map TV.e)[i]? with | some a => allR a p (v + bndA k i) (d + bndA k i) | none => true) = true ∧ fr 1 = .int .i64 p ∧ fr 2 = .int .i64 v ∧ fr 3 = .int .i64 d ∧ fr 4 = .pointer (some ⟨b, 0, none⟩) ∧ fr 48 = av ∧ fr 49 = .int .i64 args.length ∧ fr 50 = .int .i64 i ∧
    Sep [] w wr (rB b [iv k, iv n, sv nm, lv, av] 25 :: []) (rT (TV.mk k n nm ls lv av args) :: [])) args.length ?_ ?_
   ·exact ⟨0, rfl, by omega, rfl, rfl, rfl, rfl, rfl, rfl, rfl, rfl, s⟩
   ·rintro m fr wr J ⟨i, rfl, hi, hall, f1, f2, f3, f4, f48, f49, f50, s⟩ hJ hX
    have hal2 := len_sizes args
    rw [f49, f50]
    refine nlss (cond_d (fun hlt => ?_) (fun hlt => ?_))
    ·rw [f48, f4, f1, f2, f3]
     have ko : TOk wr (TV.mk k n nm ls lv av args) := tok_iff.1 (s.rat 0 rfl)
     obtain ⟨b1, o1, hix, hld⟩ := ko.ar.term hlt .i64
     refine hix _ ?_
     refine hld _ ?_
     have hao : args[i].ok wr := ko.a _ (List.getElem_mem hlt)
     refine s.alloc zero_term rfl fun q w2 s _ => ?_
     refine s.storeAll (vs := args[i].cells) 0 rfl args[i].cells_len rfl (TV.one hao) fun w3 s _ => ?_
     have s : Sep [] w w3 (rB q args[i].cells 25 :: rB b [iv k, iv n, sv nm, lv, av] 25 :: []) (rT (TV.mk k n nm ls lv av args) :: []) := s
     refine off_i ?_
     refine s.load1 (v := iv k) 1 rfl rfl ?_
     refine fnW_of (by kernel_rfl) (deeper_c fun w4 e4 => ?_)
     have s := s.ext0 e4
     refine s.loadAll 0 rfl args[i].cells_len ?_
     have hbl := bnd_le k i
     have hsi := sizes_le (List.getElem_mem hlt)
     have hsp := size_pos args[i]
     refine iadd (by omega) ?_
     refine nadd (by omega) ?_
     have ko : TOk w4 (TV.mk k n nm ls lv av args) := tok_iff.1 (s.rat 0 rfl)
     refine fnW_of (by kernel_rfl) (ih args[i] (List.getElem_mem hlt) p (v + bndA k i) (d + bndA k i) (ko.a _ (List.getElem_mem hlt)) (hg.keep s.ext (by simp)) (by omega) (by omega) (by omega) (by omega) fun w5 e5 => ?_)
     have s := s.ext0 e5
     have hget : (args.map TV.e)[i]? = some args[i].e := by simp [hlt]
     have hcut : ((List.range (i + 1)).all fun i => match (args.map TV.e)[i]? with | some a => allR a p (v + bndA k i) (d + bndA k i) | none => true) = allR args[i].e p (v + bndA k i) (d + bndA k i) := by
      rw [List.range_succ, List.all_append, hall]
      simp [hlt]
     refine not_ti ?_
     cases hr : allR args[i].e p (v + bndA k i) (d + bndA k i) with
     | true =>
      refine cndF ?_
      refine nadd (y := 1) (by omega) ?_
      exact hJ (args.length - (i + 1)) _ _ (by omega) ⟨i + 1, rfl, by omega, by rw [hcut, hr], f1, f2, f3, f4, f48, f49, rfl, s.drop 0⟩
     | false =>
      refine cndT ?_
      refine hX _ _ _ (by simp) (g2 _ _ _ (g1 _ _ _ (g0 _ _ _ ?_)))
      have := hK2 w5 s.ext
      have e : ((List.range args.length).all fun i => match (args.map TV.e)[i]? with | some a => allR a p (v + bndA k i) (d + bndA k i) | none => true) = false := by
       rw [List.all_eq_false]
       refine ⟨i, List.mem_range.2 hlt, ?_⟩
       rw [hget]
       simp [hr]
      rw [e] at this
      exact this
    ·obtain rfl : i = args.length := by omega
     refine hX _ _ _ (by simp) (g2 _ _ _ (blk_x (seq_n g1 ?_)))
     have := hK2 wr s.ext
     rw [hall] at this
     exact this
theorem tright_c {w : World} {K : VPost} {t : TV} {p v : Int} (h : t.ok w) (hg : GS w) (hsz : t.size ≤ 1000000) (hK : ∀ w', Ext [] w w' -> K (.bool (rightR t.e p v)) w') : Calls Tryz.prog 74 #[t.v, .int .i64 p, .int .i64 v] w (retK K) := by
 refine c74_calls _ _ _ w K ?_
 unfold c74
 refine TV.box h fun b w1 s => ?_
 have hR : ∀ r : Bool, rightR t.e p v = r -> ∀ w', Ext [] w w' -> K (.bool r) w' := fun r h w' e => by
  have := hK w' e
  rwa [h] at this
 have hde : rightR t.e p v = (decide (0 ≤ p ∧ p ≤ 4 ∧ 0 ≤ v ∧ v ≤ 1099511627776 ∧ t.size ≤ 3000) && allR t.e p v 0) := by unfold rightR; rw [size_e]
 rw [hde] at hR
 rw [igeq]
 by_cases h1 : 0 ≤ p
 case neg =>
  rw [decide_eq_false h1]
  repeat (with_reducible first | apply gs_tf | apply gs_ft | apply gs_u | apply pick_ti | apply pick_fi | refine ⟨gs_tf ⟨rfl, rfl⟩, ?_⟩ | refine ⟨gs_ft ⟨rfl, rfl⟩, ?_⟩ | refine ⟨gs_u ⟨rfl, rfl⟩, ?_⟩ | apply gs_t | apply gs_f | apply off_i | apply cndT | apply cndF)
  exact hR _ (by rw [decide_eq_false (by omega)]; rfl) _ s.ext
 rw [decide_eq_true h1]
 repeat (with_reducible first | apply gs_tf | apply gs_ft | apply gs_u | apply pick_ti | apply pick_fi | refine ⟨gs_tf ⟨rfl, rfl⟩, ?_⟩ | refine ⟨gs_ft ⟨rfl, rfl⟩, ?_⟩ | refine ⟨gs_u ⟨rfl, rfl⟩, ?_⟩ | apply gs_t | apply gs_f | apply off_i | apply cndT | apply cndF)
 rw [ileq]
 by_cases h2 : p ≤ 4
 case neg =>
  rw [decide_eq_false h2]
  repeat (with_reducible first | apply gs_tf | apply gs_ft | apply gs_u | apply pick_ti | apply pick_fi | refine ⟨gs_tf ⟨rfl, rfl⟩, ?_⟩ | refine ⟨gs_ft ⟨rfl, rfl⟩, ?_⟩ | refine ⟨gs_u ⟨rfl, rfl⟩, ?_⟩ | apply gs_t | apply gs_f | apply off_i | apply cndT | apply cndF)
  exact hR _ (by rw [decide_eq_false (by omega)]; rfl) _ s.ext
 rw [decide_eq_true h2]
 repeat (with_reducible first | apply gs_tf | apply gs_ft | apply gs_u | apply pick_ti | apply pick_fi | refine ⟨gs_tf ⟨rfl, rfl⟩, ?_⟩ | refine ⟨gs_ft ⟨rfl, rfl⟩, ?_⟩ | refine ⟨gs_u ⟨rfl, rfl⟩, ?_⟩ | apply gs_t | apply gs_f | apply off_i | apply cndT | apply cndF)
 rw [igeq]
 by_cases h3 : 0 ≤ v
 case neg =>
  rw [decide_eq_false h3]
  repeat (with_reducible first | apply gs_tf | apply gs_ft | apply gs_u | apply pick_ti | apply pick_fi | refine ⟨gs_tf ⟨rfl, rfl⟩, ?_⟩ | refine ⟨gs_ft ⟨rfl, rfl⟩, ?_⟩ | refine ⟨gs_u ⟨rfl, rfl⟩, ?_⟩ | apply gs_t | apply gs_f | apply off_i | apply cndT | apply cndF)
  exact hR _ (by rw [decide_eq_false (by omega)]; rfl) _ s.ext
 rw [decide_eq_true h3]
 repeat (with_reducible first | apply gs_tf | apply gs_ft | apply gs_u | apply pick_ti | apply pick_fi | refine ⟨gs_tf ⟨rfl, rfl⟩, ?_⟩ | refine ⟨gs_ft ⟨rfl, rfl⟩, ?_⟩ | refine ⟨gs_u ⟨rfl, rfl⟩, ?_⟩ | apply gs_t | apply gs_f | apply off_i | apply cndT | apply cndF)
 rw [ileq]
 by_cases h4 : v ≤ 1099511627776
 case neg =>
  rw [decide_eq_false h4]
  repeat (with_reducible first | apply gs_tf | apply gs_ft | apply gs_u | apply pick_ti | apply pick_fi | refine ⟨gs_tf ⟨rfl, rfl⟩, ?_⟩ | refine ⟨gs_ft ⟨rfl, rfl⟩, ?_⟩ | refine ⟨gs_u ⟨rfl, rfl⟩, ?_⟩ | apply gs_t | apply gs_f | apply off_i | apply cndT | apply cndF)
  exact hR _ (by rw [decide_eq_false (by omega)]; rfl) _ s.ext
 rw [decide_eq_true h4]
 repeat (with_reducible first | apply gs_tf | apply gs_ft | apply gs_u | apply pick_ti | apply pick_fi | refine ⟨gs_tf ⟨rfl, rfl⟩, ?_⟩ | refine ⟨gs_ft ⟨rfl, rfl⟩, ?_⟩ | refine ⟨gs_u ⟨rfl, rfl⟩, ?_⟩ | apply gs_t | apply gs_f | apply off_i | apply cndT | apply cndF)
 refine s.loadAll 0 rfl t.cells_len ?_
 repeat (with_reducible first | apply gs_tf | apply gs_ft | apply gs_u | apply pick_ti | apply pick_fi | refine ⟨gs_tf ⟨rfl, rfl⟩, ?_⟩ | refine ⟨gs_ft ⟨rfl, rfl⟩, ?_⟩ | refine ⟨gs_u ⟨rfl, rfl⟩, ?_⟩ | apply gs_t | apply gs_f | apply off_i | apply cndT | apply cndF)
 refine fnW_of (by kernel_rfl) (tnodes_c (s.rat 0 rfl) hsz fun w2 e2 => ?_)
 have s := s.ext0 e2
 repeat (with_reducible first | apply gs_tf | apply gs_ft | apply gs_u | apply pick_ti | apply pick_fi | refine ⟨gs_tf ⟨rfl, rfl⟩, ?_⟩ | refine ⟨gs_ft ⟨rfl, rfl⟩, ?_⟩ | refine ⟨gs_u ⟨rfl, rfl⟩, ?_⟩ | apply gs_t | apply gs_f | apply off_i | apply cndT | apply cndF)
 refine nleq (y := 3000) ?_
 by_cases h5 : t.size ≤ 3000
 case neg =>
  rw [decide_eq_false (by omega)]
  repeat (with_reducible first | apply gs_tf | apply gs_ft | apply gs_u | apply pick_ti | apply pick_fi | refine ⟨gs_tf ⟨rfl, rfl⟩, ?_⟩ | refine ⟨gs_ft ⟨rfl, rfl⟩, ?_⟩ | refine ⟨gs_u ⟨rfl, rfl⟩, ?_⟩ | apply gs_t | apply gs_f | apply off_i | apply cndT | apply cndF)
  exact hR _ (by rw [decide_eq_false (by omega)]; rfl) _ s.ext
 rw [decide_eq_true (by omega)]
 repeat (with_reducible first | apply gs_tf | apply gs_ft | apply gs_u | apply pick_ti | apply pick_fi | refine ⟨gs_tf ⟨rfl, rfl⟩, ?_⟩ | refine ⟨gs_ft ⟨rfl, rfl⟩, ?_⟩ | refine ⟨gs_u ⟨rfl, rfl⟩, ?_⟩ | apply gs_t | apply gs_f | apply off_i | apply cndT | apply cndF)
 refine s.loadAll 0 rfl t.cells_len ?_
 repeat (with_reducible first | apply gs_tf | apply gs_ft | apply gs_u | apply pick_ti | apply pick_fi | refine ⟨gs_tf ⟨rfl, rfl⟩, ?_⟩ | refine ⟨gs_ft ⟨rfl, rfl⟩, ?_⟩ | refine ⟨gs_u ⟨rfl, rfl⟩, ?_⟩ | apply gs_t | apply gs_f | apply off_i | apply cndT | apply cndF)
 refine fnW_of (by kernel_rfl) (all_c t p v 0 (s.rat 0 rfl) (hg.keep s.ext (by simp)) hsz h3 (by omega) (by omega) fun w3 e3 => ?_)
 repeat (with_reducible first | apply gs_tf | apply gs_ft | apply gs_u | apply pick_ti | apply pick_fi | refine ⟨gs_tf ⟨rfl, rfl⟩, ?_⟩ | refine ⟨gs_ft ⟨rfl, rfl⟩, ?_⟩ | refine ⟨gs_u ⟨rfl, rfl⟩, ?_⟩ | apply gs_t | apply gs_f | apply off_i | apply cndT | apply cndF)
 refine hR _ ?_ _ (s.ext.new e3)
 rw [decide_eq_true ⟨h1, h2, h3, h4, h5⟩, Bool.true_and]
structure CV where
 s : Bytes
 t : TV
structure DV where
 k : Int
 p : Int
 s : Bytes
 t : TV
 u : TV
 f : Int
 cv : Value
 cs : List CV
structure DM where
 k : Int
 p : Int
 s : Bytes
 t : TM
 u : TM
 f : Int
 cs : List (Bytes × TM)
def CV.cells (c : CV) : List Value := [sv c.s, iv c.t.k, iv c.t.n, sv c.t.s, c.t.lv, c.t.av]
def CV.v (c : CV) : Value := .agg c.cells.toArray
theorem CV.cells_len (c : CV) : c.cells.length = 6 := rfl
theorem CV.cells_eq (c : CV) : c.cells = sv c.s :: c.t.cells := by rw [TV.cells_eq]; rfl
abbrev CV.e (c : CV) : Bytes × TM := (c.s, c.t.e)
structure CV.ok (w : World) (c : CV) : Prop where
 s : c.s.length < 2 ^ 60
 t : c.t.ok w
def CV.foot (c : CV) : List Nat := c.t.foot
theorem CV.keepS {S : List Nat} {w w' : World} (e : Ext S w w') {c : CV} (h : c.ok w) (hd : ∀ b ∈ c.foot, b ∉ S) : c.ok w' := ⟨h.s, TV.keepS e c.t h.t hd⟩
theorem CV.keep {w w' : World} (e : Ext [] w w') {c : CV} (h : c.ok w) : c.ok w' := CV.keepS e h (by simp)
theorem CV.lt {w : World} {c : CV} (h : c.ok w) : ∀ b ∈ c.foot, b < w.heap.size := TV.lt c.t h.t
abbrev ccs (cs : List CV) : List Value := cs.flatMap CV.cells
def cfoots (cs : List CV) : List Nat := cs.flatMap CV.foot
def rC (c : CV) : Res := ⟨c.foot, fun w => c.ok w, fun {_} h => CV.lt h, fun {_ _ _} h e hd => CV.keepS e h hd⟩
def rCs (cs : List CV) : Res := ⟨cfoots cs, fun w => ∀ c ∈ cs, c.ok w, fun {_} h b hb => by
 obtain ⟨c, hc, hb⟩ := List.mem_flatMap.1 hb
 exact CV.lt (h c hc) b hb, fun {_ _ _} h e hd c hc => CV.keepS e (h c hc) fun b hb => hd b (List.mem_flatMap.2 ⟨c, hc, hb⟩)⟩
theorem ccs_get {cs : List CV} {i : Nat} (hi : i < cs.length) : ((ccs cs).drop (i * 6)).take 6 = cs[i].cells := flat_get CV.cells 6 cs (fun c _ => c.cells_len) i hi
def ptB : Value -> Nat
 | .slice (some ⟨b, _, _⟩) _ _ => b
 | _ => 0
def ptO : Value -> Nat
 | .slice (some ⟨_, o, _⟩) _ _ => o
 | _ => 0
abbrev ptE (v : Value) (s i j : Nat) : Value := .pointer (some ⟨ptB v, ptO v + i * s + j, none⟩)
theorem RdSl.elemF {w : World} {v : Value} {s m i : Nat} {ys : List Value} (h : RdSl w v s ys m) (hi : i < m) (hs : 0 < s) (k : IntKind) :
  (∀ K : VPost, K (ptE v s i 0) w -> idxW (some (none, s)) v (.int k i) w K) ∧ (∀ (j n : Nat) (x : Value) (K : VPost), j < s -> ((ys.drop (i * s)).take s)[j]? = some x -> K x w -> loadW (some (false, n)) (ptE v s i j) w K) ∧
   (∀ (j n : Nat) (K : VPost), j + n ≤ s -> K (.agg ((((ys.drop (i * s)).take s).drop j).take n).toArray) w -> loadW (some (true, n)) (ptE v s i j) w K) := by
 obtain ⟨hl, ⟨rfl, _⟩ | ⟨b, o, c, cs, rfl, hb, h1, h2⟩⟩ := h
 ·have : 0 < m * s := Nat.mul_pos (by omega) hs
  rw [List.length_nil] at hl
  omega
 ·have hi2 : i * s + s ≤ m * s := by
   have := Nat.mul_le_mul_right s (show i + 1 ≤ m from hi)
   rw [Nat.add_mul, Nat.one_mul] at this; exact this
  have q4 : (cs.drop (o + i * s)).take s = (ys.drop (i * s)).take s := by rw [← h1, List.drop_take, List.take_take, List.drop_drop, Nat.min_eq_left (by omega)]
  refine ⟨fun K hK => idx_i hi hK, fun j n x K hj hx hK => load1 hb ((at_get q4 hj).trans hx) hK, fun j n K hj hK => loadN (o := o + i * s + j) hb (by omega) ?_⟩
  rw [at_part q4 hj]
  exact hK
theorem RdSl.ctor {w : World} {x : Value} {cs : List CV} (h : RdSl w x 6 (ccs cs) cs.length) {i : Nat} (hi : i < cs.length) (kk : IntKind) :
  (∀ K : VPost, K (ptE x 6 i 0) w -> idxW (some (none, 6)) x (.int kk i) w K) ∧ (∀ K : VPost, K cs[i].v w -> loadW (some (true, 6)) (ptE x 6 i 0) w K) ∧
   (∀ (n : Nat) (K : VPost), K (sv cs[i].s) w -> loadW (some (false, n)) (ptE x 6 i 0) w K) ∧ (∀ K : VPost, K cs[i].t.v w -> loadW (some (true, 5)) (ptE x 6 i 1) w K) := by
 obtain ⟨q1, q2, q3⟩ := h.elemF hi (by decide) kk
 rw [ccs_get hi] at q2 q3
 refine ⟨q1, fun K hK => q3 0 6 K (by decide) hK, fun n K hK => q2 0 n _ K (by decide) rfl hK, fun K hK => q3 1 5 K (by decide) ?_⟩
 have : (cs[i].cells.drop 1).take 5 = cs[i].t.cells := by rw [TV.cells_eq]; rfl
 rw [this]
 exact hK
def DV.cells (d : DV) : List Value := [iv d.k, iv d.p, sv d.s, iv d.t.k, iv d.t.n, sv d.t.s, d.t.lv, d.t.av, iv d.u.k, iv d.u.n, sv d.u.s, d.u.lv, d.u.av, iv d.f, d.cv]
def DV.v (d : DV) : Value := .agg d.cells.toArray
theorem DV.cells_len (d : DV) : d.cells.length = 15 := rfl
def DV.e (d : DV) : DM := ⟨d.k, d.p, d.s, d.t.e, d.u.e, d.f, d.cs.map CV.e⟩
structure DV.ok (w : World) (d : DV) : Prop where
 k : i64ok d.k
 p : i64ok d.p
 s : d.s.length < 2 ^ 60
 t : d.t.ok w
 u : d.u.ok w
 f : i64ok d.f
 cr : RdSl w d.cv 6 (ccs d.cs) d.cs.length
 cc : capOk d.cv
 cl : d.cs.length < 2 ^ 50
 c : ∀ c ∈ d.cs, c.ok w
def DV.foot (d : DV) : List Nat := d.t.foot ++ (d.u.foot ++ (rdB d.cv (ccs d.cs) ++ cfoots d.cs))
theorem DV.keepS {S : List Nat} {w w' : World} (e : Ext S w w') {d : DV} (h : d.ok w) (hd : ∀ b ∈ d.foot, b ∉ S) : d.ok w' := by
 unfold DV.foot at hd
 simp only [List.mem_append] at hd
 exact ⟨h.k, h.p, h.s, TV.keepS e d.t h.t fun b hb => hd b (.inl hb), TV.keepS e d.u h.u fun b hb => hd b (.inr (.inl hb)), h.f, (rR d.cv 6 (ccs d.cs) d.cs.length).keep h.cr e fun b hb => hd b (.inr (.inr (.inl hb))), h.cc, h.cl, fun c hc => CV.keepS e (h.c c hc) fun b hb => hd b (.inr (.inr (.inr (List.mem_flatMap.2 ⟨c, hc, hb⟩))))⟩
theorem DV.keep {w w' : World} (e : Ext [] w w') {d : DV} (h : d.ok w) : d.ok w' := DV.keepS e h (by simp)
theorem DV.lt {w : World} {d : DV} (h : d.ok w) : ∀ b ∈ d.foot, b < w.heap.size := by
 intro b hb
 unfold DV.foot at hb
 simp only [List.mem_append] at hb
 rcases hb with hb | hb | hb | hb
 ·exact TV.lt d.t h.t b hb
 ·exact TV.lt d.u h.u b hb
 ·exact (rR d.cv 6 (ccs d.cs) d.cs.length).lt h.cr b hb
 ·obtain ⟨c, hc, hb⟩ := List.mem_flatMap.1 hb
  exact CV.lt (h.c c hc) b hb
abbrev dcs (ds : List DV) : List Value := ds.flatMap DV.cells
def dfoots (ds : List DV) : List Nat := ds.flatMap DV.foot
def rD (d : DV) : Res := ⟨d.foot, fun w => d.ok w, fun {_} h => DV.lt h, fun {_ _ _} h e hd => DV.keepS e h hd⟩
def rDs (ds : List DV) : Res := ⟨dfoots ds, fun w => ∀ d ∈ ds, d.ok w, fun {_} h b hb => by
 obtain ⟨d, hd, hb⟩ := List.mem_flatMap.1 hb
 exact DV.lt (h d hd) b hb, fun {_ _ _} h e hd c hc => DV.keepS e (h c hc) fun b hb => hd b (List.mem_flatMap.2 ⟨c, hc, hb⟩)⟩
theorem dcs_get {ds : List DV} {i : Nat} (hi : i < ds.length) : ((dcs ds).drop (i * 15)).take 15 = ds[i].cells := flat_get DV.cells 15 ds (fun d _ => d.cells_len) i hi
theorem RdSl.decl {w : World} {x : Value} {ds : List DV} (h : RdSl w x 15 (dcs ds) ds.length) {i : Nat} (hi : i < ds.length) (kk : IntKind) :
  (∀ K : VPost, K (ptE x 15 i 0) w -> idxW (some (none, 15)) x (.int kk i) w K) ∧ (∀ K : VPost, K ds[i].v w -> loadW (some (true, 15)) (ptE x 15 i 0) w K) := by
 obtain ⟨q1, _, q3⟩ := h.elemF hi (by decide) kk
 rw [dcs_get hi] at q3
 exact ⟨q1, fun K hK => q3 0 15 K (by decide) hK⟩
theorem RdSl.declF {w : World} {x : Value} {ds : List DV} (h : RdSl w x 15 (dcs ds) ds.length) {i : Nat} (hi : i < ds.length) (kk : IntKind) :
  (∀ (j n : Nat) (y : Value) (K : VPost), j < 15 -> ds[i].cells[j]? = some y -> K y w -> loadW (some (false, n)) (ptE x 15 i j) w K) ∧
   (∀ K : VPost, K ds[i].t.v w -> loadW (some (true, 5)) (ptE x 15 i 3) w K) ∧ (∀ K : VPost, K ds[i].u.v w -> loadW (some (true, 5)) (ptE x 15 i 8) w K) := by
 obtain ⟨q1, q2, q3⟩ := h.elemF hi (by decide) kk
 rw [dcs_get hi] at q2 q3
 refine ⟨q2, fun K hK => q3 3 5 K (by decide) ?_, fun K hK => q3 8 5 K (by decide) ?_⟩
 ·have : (ds[i].cells.drop 3).take 5 = ds[i].t.cells := by rw [TV.cells_eq]; rfl
  rw [this]; exact hK
 ·have : (ds[i].cells.drop 8).take 5 = ds[i].u.cells := by rw [TV.cells_eq]; rfl
  rw [this]; exact hK
theorem DV.ty (d : DV) : Value.agg ((d.cells.drop 3).take 5).toArray = d.t.v := by
 show Value.agg [iv d.t.k, iv d.t.n, sv d.t.s, d.t.lv, d.t.av].toArray = _
 rw [← TV.cells_eq]; rfl
theorem DV.va (d : DV) : Value.agg ((d.cells.drop 8).take 5).toArray = d.u.v := by
 show Value.agg [iv d.u.k, iv d.u.n, sv d.u.s, d.u.lv, d.u.av].toArray = _
 rw [← TV.cells_eq]; rfl
theorem DV.box {w : World} {d : DV} (h : d.ok w) {K : VPost} (hK : ∀ b w', Sep [] w w' [rB b d.cells 28] [rD d] -> K (.pointer (some ⟨b, 0, none⟩)) w') : boxW 28 d.v w K :=
 (Sep.zero1 (U := rD d) h).box fun b w1 s _ => hK b w1 s
section
variable {S : List Nat} {w0 w : World} {L R : List Res} {K : VPost}
theorem Sep.declT {b : Nat} {d : DV} {t : TypeId} (s : Sep S w0 w L R) (i : Nat) (hL : L[i]? = some (rB b d.cells t)) (h : K d.t.v w) : loadW (some (true, 5)) (.pointer (some ⟨b, 0 + 3, none⟩)) w K :=
 s.loadN i hL (by show 0 + 3 + 5 ≤ 15; decide) (by rw [Nat.zero_add, DV.ty]; exact h)
theorem Sep.declU {b : Nat} {d : DV} {t : TypeId} (s : Sep S w0 w L R) (i : Nat) (hL : L[i]? = some (rB b d.cells t)) (h : K d.u.v w) : loadW (some (true, 5)) (.pointer (some ⟨b, 0 + 8, none⟩)) w K :=
 s.loadN i hL (by show 0 + 8 + 5 ≤ 15; decide) (by rw [Nat.zero_add, DV.va]; exact h)
end
def CV.size (c : CV) : Nat := 1 + c.s.length + c.t.size
def DV.size (d : DV) : Nat := d.t.size + d.u.size + d.s.length + (d.cs.map CV.size).sum
theorem sum_take {cs : List CV} {i : Nat} (hi : i < cs.length) : ((cs.take (i + 1)).map CV.size).sum = ((cs.take i).map CV.size).sum + cs[i].size := by
 rw [List.take_succ_eq_append_getElem hi, List.map_append, List.sum_append]; simp
theorem sum_take_le (cs : List CV) (i : Nat) : ((cs.take i).map CV.size).sum ≤ (cs.map CV.size).sum := by
 conv => rhs; rw [← List.take_append_drop i cs]
 rw [List.map_append, List.sum_append]
 omega
set_option maxHeartbeats 800000 in
theorem dnodes_c {w : World} {K : VPost} {d : DV} {most : Nat} (h : d.ok w) (hm : most ≤ 2 ^ 40) (hK : ∀ w', Ext [] w w' -> K (.int .i64 ((min d.size (most + 1) : Nat) : Int)) w') : Calls Tryz.prog 44 #[d.v, .int .i64 most] w (retK K) := by
 refine c44_calls _ _ w K ?_
 unfold c44
 refine DV.box h fun b w1 s => ?_
 have s := s.drew
 generalize w1.drew = w1 at *
 have hs := h.s
 have hcl := h.cl
 refine off_i ?_
 refine s.declT 0 rfl ?_
 refine off_i ?_
 refine s.declU 0 rfl ?_
 refine off_i ?_
 refine s.load1 (v := sv d.s) 0 rfl rfl ?_
 rw [sv_len]
 refine fnW_of (by kernel_rfl) (nodes_c d.t (DV.ok.t (s.rat 0 rfl)) hm fun w2 e => ?_)
 have s := s.ext0 e
 refine ⟨s.declU 0 rfl ⟨rfl, rfl⟩, ?_⟩
 refine ⟨s.load1 (v := sv d.s) 0 rfl rfl ⟨rfl, rfl⟩, ?_⟩
 refine fnW_of (by kernel_rfl) (nodes_c d.u (DV.ok.u (s.rat 0 rfl)) hm fun w3 e => ?_)
 have s := s.ext0 e
 refine ⟨s.load1 (v := sv d.s) 0 rfl rfl ⟨rfl, rfl⟩, ?_⟩
 refine nadd (by omega) ?_
 refine nadd (by omega) ?_
 refine bindX_i fun J0 g0 => bindX_i fun J1 g1 => bindX_i fun J2 g2 => ?_
 refine loop_i (fun m fr wr => ∃ i q : Nat, m = d.cs.length - i ∧ i ≤ d.cs.length ∧ fr 1 = .int .i64 most ∧ fr 2 = .pointer (some ⟨b, 0, none⟩) ∧ fr 5 = .int .i64 q ∧ fr 6 = .int .i64 i ∧ q ≤ 2 ^ 62 ∧ min q (most + 1) = min (d.t.size + d.u.size + d.s.length + ((d.cs.take i).map CV.size).sum) (most + 1) ∧ Sep [] w wr [rB b d.cells 28] [rD d]) d.cs.length ?_ ?_
 ·refine ⟨0, _, rfl, by omega, rfl, rfl, rfl, rfl, by omega, ?_, s⟩
  rw [List.take_zero, List.map_nil, List.sum_nil]
  omega
 ·rintro m fr wr J ⟨i, q, rfl, hi, f1, f2, f5, f6, hq, hmin, s⟩ hJ hX
  have hl : ∀ (w : World) (K : VPost), lenW Tryz.prog (some true) #[26] 3 #[d.cv] w K = K (.int .i64 d.cs.length) w := fun w K => RdSl.lenw h.cr
  rw [f2]
  refine off_i ?_
  refine s.load1 (v := d.cv) 0 rfl rfl ?_
  rw [hl, f6]
  refine nlss ?_
  have out : ∀ (fr' : Fr), fr' 1 = .int .i64 most -> fr' 5 = .int .i64 q -> min q (most + 1) = min d.size (most + 1) -> J1 .normal fr' wr := by
   intro fr' k1 k5 he
   refine seq_n g1 ?_
   rw [k1, k5]
   refine nadd (y := 1) (by omega) ?_
   rw [min_e, show min (q : Int) ((most + 1 : Nat) : Int) = ((min q (most + 1) : Nat) : Int) by omega, he]
   exact hK wr s.ext
  by_cases hlt : i < d.cs.length
  ·rw [decide_eq_true hlt]
   refine gs_t ?_
   refine gs_t ?_
   refine gs_t ?_
   rw [f5, f1]
   refine nleq ?_
   refine pick_ti ?_
   refine cond_d (fun hle => ?_) (fun hle => ?_)
   ·have s := s.drew
    generalize wr.drew = wr at *
    have hok : d.ok wr := s.rat 0 rfl
    obtain ⟨hix, _, hln, hlt1⟩ := hok.cr.ctor hlt .i64
    have hcs := (hok.c _ (List.getElem_mem hlt)).s
    refine off_i ?_
    refine s.load1 (v := d.cv) 0 rfl rfl ?_
    refine hix _ ?_
    refine off_i ?_
    refine hln _ _ ?_
    rw [sv_len]
    refine nadd (x := 1) (by omega) ?_
    refine off_i ?_
    refine s.load1 (v := d.cv) 0 rfl rfl ?_
    refine hix _ ?_
    refine off_i ?_
    refine hlt1 _ ?_
    refine fnW_of (by kernel_rfl) (nodes_c d.cs[i].t (hok.c _ (List.getElem_mem hlt)).t hm fun w2 e2 => ?_)
    have s := s.ext0 e2
    have hok2 : d.ok w2 := s.rat 0 rfl
    obtain ⟨_, _, hln2, _⟩ := hok2.cr.ctor hlt .i64
    refine ⟨s.load1 (v := d.cv) 0 rfl rfl ⟨rfl, rfl⟩, ?_⟩
    refine ⟨hln2 _ _ ⟨rfl, rfl⟩, ?_⟩
    refine nadd (by omega) ?_
    refine nadd (by omega) ?_
    refine nadd (y := 1) (by omega) ?_
    have hst := sum_take hlt
    have hcz : d.cs[i].size = 1 + d.cs[i].s.length + d.cs[i].t.size := rfl
    exact hJ (d.cs.length - (i + 1)) _ _ (by omega) ⟨i + 1, _, rfl, by omega, f1, f2, rfl, rfl, by omega, by omega, s⟩
   ·refine hX _ _ _ (by simp) (g2 _ _ _ (blk_x (out _ f1 f5 ?_)))
    have := sum_take_le d.cs i
    unfold DV.size
    omega
  ·rw [decide_eq_false hlt]
   refine gs_ft ?_
   refine gs_ft ?_
   refine gs_ft ?_
   refine pick_fi ?_
   refine cndF ?_
   obtain rfl : i = d.cs.length := by omega
   rw [List.take_length] at hmin
   exact hX _ _ _ (by simp) (g2 _ _ _ (blk_x (out _ f1 f5 hmin)))
section
variable {P : Program} {w : World} {K : VPost} {t : TypeId} {c : Bool}
theorem ineq_d {k : IntKind} {x y : Int} (ht : x ≠ y -> K (.bool true) w) (hf : x = y -> K (.bool false) w) : binN P .neq t c (.int k x) (.int k y) w K := by
 rw [ineq]
 by_cases h : x = y
 ·rw [decide_eq_false (by simpa using h)]; exact hf h
 ·rw [decide_eq_true h]; exact ht h
theorem ieql_d {k : IntKind} {x y : Int} (ht : x = y -> K (.bool true) w) (hf : x ≠ y -> K (.bool false) w) : binN P .eql t c (.int k x) (.int k y) w K := by
 rw [ieql]
 by_cases h : x = y
 ·rw [decide_eq_true h]; exact ht h
 ·rw [decide_eq_false h]; exact hf h
theorem ilss_d {k : IntKind} {x y : Int} (ht : x < y -> K (.bool true) w) (hf : ¬ x < y -> K (.bool false) w) : binN P .lss t c (.int k x) (.int k y) w K := by
 rw [ilss]
 by_cases h : x < y
 ·rw [decide_eq_true h]; exact ht h
 ·rw [decide_eq_false h]; exact hf h
theorem igtr_d {k : IntKind} {x y : Int} (ht : y < x -> K (.bool true) w) (hf : ¬ y < x -> K (.bool false) w) : binN P .gtr t c (.int k x) (.int k y) w K := by
 rw [igtr]
 by_cases h : y < x
 ·rw [decide_eq_true h]; exact ht h
 ·rw [decide_eq_false h]; exact hf h
theorem sneq_d {a b : Bytes} (ht : a ≠ b -> K (.bool true) w) (hf : a = b -> K (.bool false) w) : binW P .neq t c (sv a) (sv b) w K := by
 refine str_neq ?_
 by_cases h : a = b
 ·rw [decide_eq_true h]; exact hf h
 ·rw [decide_eq_false h]; exact ht h
theorem seql_d {a b : Bytes} (ht : a = b -> K (.bool true) w) (hf : a ≠ b -> K (.bool false) w) : binW P .eql t c (sv a) (sv b) w K := by
 refine str_eql ?_
 by_cases h : a = b
 ·rw [decide_eq_true h]; exact ht h
 ·rw [decide_eq_false h]; exact hf h
end
noncomputable def sameDB (a b : DM) : Bool := @decide (a = b) (Classical.propDecidable _)
theorem sameDB_t {a b : DM} (h : a = b) : sameDB a b = true := by unfold sameDB; simp [h]
theorem sameDB_f {a b : DM} (h : a ≠ b) : sameDB a b = false := by unfold sameDB; simp [h]
theorem de_inj {a b : DV} (h : a.e = b.e) : a.k = b.k ∧ a.p = b.p ∧ a.s = b.s ∧ a.t.e = b.t.e ∧ a.u.e = b.u.e ∧ a.f = b.f ∧ a.cs.map CV.e = b.cs.map CV.e := by
 unfold DV.e at h
 simpa using h
theorem ce_take {cs : List CV} {i : Nat} (hi : i < cs.length) : (cs.take (i + 1)).map CV.e = (cs.take i).map CV.e ++ [cs[i].e] := by
 rw [List.take_succ_eq_append_getElem hi, List.map_append]; rfl
set_option maxHeartbeats 1600000 in
theorem sameD_c {w : World} {K : VPost} {d d' : DV} (h : d.ok w) (h' : d'.ok w) (hK : ∀ w', Ext [] w w' -> K (.bool (sameDB d.e d'.e)) w') : Calls Tryz.prog 9 #[d.v, d'.v] w (retK K) := by
 refine c9_calls _ _ w K ?_
 unfold c9
 refine DV.box h fun b w1 s => ?_
 have s := s.addBase (T := rD d') h'
 refine s.box fun b' w2 s _ => ?_
 have s : Sep [] w w2 (rB b' d'.cells 28 :: rB b d.cells 28 :: []) (rD d' :: rD d :: []) := s
 have no : ∀ w', Sep [] w w' (rB b' d'.cells 28 :: rB b d.cells 28 :: []) (rD d' :: rD d :: []) -> d.e ≠ d'.e -> K (.bool false) w' := by
  intro w' s hne
  have := hK w' s.ext
  rw [sameDB_f hne] at this
  exact this
 have hl : ∀ (w : World) (K : VPost), lenW Tryz.prog (some true) #[26] 3 #[d.cv] w K = K (.int .i64 d.cs.length) w := fun w K => RdSl.lenw h.cr
 have hl' : ∀ (w : World) (K : VPost), lenW Tryz.prog (some true) #[26] 3 #[d'.cv] w K = K (.int .i64 d'.cs.length) w := fun w K => RdSl.lenw h'.cr
 refine off_i ?_
 refine s.load1 (v := iv d.k) 1 rfl rfl ?_
 refine off_i ?_
 refine s.load1 (v := iv d'.k) 0 rfl rfl ?_
 refine ineq_d (fun h1 => ?_) (fun h1 => ?_)
 ·repeat (with_reducible first | apply gs_tf | apply gs_ft | apply gs_u | apply pick_ti | apply pick_fi | apply gs_t | apply gs_f | apply off_i | apply cndT | apply cndF)
  exact no _ s fun e => h1 (de_inj e).1
 repeat with_reducible refine gs_f ?_
 refine off_i ?_
 repeat with_reducible refine gs_f ?_
 refine s.load1 (v := iv d.p) 1 rfl rfl ?_
 repeat with_reducible refine gs_f ?_
 refine off_i ?_
 repeat with_reducible refine gs_f ?_
 refine s.load1 (v := iv d'.p) 0 rfl rfl ?_
 repeat with_reducible refine gs_f ?_
 refine ineq_d (fun h2 => ?_) (fun h2 => ?_)
 ·repeat (with_reducible first | apply gs_tf | apply gs_ft | apply gs_u | apply pick_ti | apply pick_fi | apply gs_t | apply gs_f | apply off_i | apply cndT | apply cndF)
  exact no _ s fun e => h2 (de_inj e).2.1
 repeat (with_reducible first | apply gs_tf | apply gs_ft | apply gs_u | apply pick_ti | apply pick_fi | apply gs_t | apply gs_f | apply off_i | apply cndT | apply cndF)
 refine s.load1 (v := sv d.s) 1 rfl rfl ?_
 repeat (with_reducible first | apply gs_tf | apply gs_ft | apply gs_u | apply pick_ti | apply pick_fi | apply gs_t | apply gs_f | apply off_i | apply cndT | apply cndF)
 refine s.load1 (v := sv d'.s) 0 rfl rfl ?_
 repeat (with_reducible first | apply gs_tf | apply gs_ft | apply gs_u | apply pick_ti | apply pick_fi | apply gs_t | apply gs_f | apply off_i | apply cndT | apply cndF)
 refine sneq_d (fun h3 => ?_) (fun h3 => ?_)
 ·repeat (with_reducible first | apply gs_tf | apply gs_ft | apply gs_u | apply pick_ti | apply pick_fi | apply gs_t | apply gs_f | apply off_i | apply cndT | apply cndF)
  exact no _ s fun e => h3 (de_inj e).2.2.1
 repeat (with_reducible first | apply gs_tf | apply gs_ft | apply gs_u | apply pick_ti | apply pick_fi | apply gs_t | apply gs_f | apply off_i | apply cndT | apply cndF)
 refine s.load1 (v := iv d.f) 1 rfl rfl ?_
 repeat (with_reducible first | apply gs_tf | apply gs_ft | apply gs_u | apply pick_ti | apply pick_fi | apply gs_t | apply gs_f | apply off_i | apply cndT | apply cndF)
 refine s.load1 (v := iv d'.f) 0 rfl rfl ?_
 repeat (with_reducible first | apply gs_tf | apply gs_ft | apply gs_u | apply pick_ti | apply pick_fi | apply gs_t | apply gs_f | apply off_i | apply cndT | apply cndF)
 refine ineq_d (fun h4 => ?_) (fun h4 => ?_)
 ·repeat (with_reducible first | apply gs_tf | apply gs_ft | apply gs_u | apply pick_ti | apply pick_fi | apply gs_t | apply gs_f | apply off_i | apply cndT | apply cndF)
  exact no _ s fun e => h4 (de_inj e).2.2.2.2.2.1
 repeat (with_reducible first | apply gs_tf | apply gs_ft | apply gs_u | apply pick_ti | apply pick_fi | apply gs_t | apply gs_f | apply off_i | apply cndT | apply cndF)
 refine s.load1 (v := d.cv) 1 rfl rfl ?_
 repeat (with_reducible first | apply gs_tf | apply gs_ft | apply gs_u | apply pick_ti | apply pick_fi | apply gs_t | apply gs_f | apply off_i | apply cndT | apply cndF)
 rw [hl]
 repeat (with_reducible first | apply gs_tf | apply gs_ft | apply gs_u | apply pick_ti | apply pick_fi | apply gs_t | apply gs_f | apply off_i | apply cndT | apply cndF)
 refine s.load1 (v := d'.cv) 0 rfl rfl ?_
 repeat (with_reducible first | apply gs_tf | apply gs_ft | apply gs_u | apply pick_ti | apply pick_fi | apply gs_t | apply gs_f | apply off_i | apply cndT | apply cndF)
 rw [hl']
 repeat (with_reducible first | apply gs_tf | apply gs_ft | apply gs_u | apply pick_ti | apply pick_fi | apply gs_t | apply gs_f | apply off_i | apply cndT | apply cndF)
 refine ineq_d (fun h5 => ?_) (fun h5 => ?_)
 ·repeat (with_reducible first | apply gs_tf | apply gs_ft | apply gs_u | apply pick_ti | apply pick_fi | apply gs_t | apply gs_f | apply off_i | apply cndT | apply cndF)
  refine no _ s fun e => h5 ?_
  have := congrArg List.length (de_inj e).2.2.2.2.2.2
  rw [List.length_map, List.length_map] at this
  rw [this]
 have hlen : d.cs.length = d'.cs.length := by omega
 repeat (with_reducible first | apply gs_tf | apply gs_ft | apply gs_u | apply pick_ti | apply pick_fi | apply gs_t | apply gs_f | apply off_i | apply cndT | apply cndF)
 refine s.declT 1 rfl ?_
 repeat (with_reducible first | apply gs_tf | apply gs_ft | apply gs_u | apply pick_ti | apply pick_fi | apply gs_t | apply gs_f | apply off_i | apply cndT | apply cndF)
 refine s.declT 0 rfl ?_
 repeat (with_reducible first | apply gs_tf | apply gs_ft | apply gs_u | apply pick_ti | apply pick_fi | apply gs_t | apply gs_f | apply off_i | apply cndT | apply cndF)
 refine fnW_of (by kernel_rfl) (same_c d.t d'.t (DV.ok.t (s.rat 1 rfl)) (DV.ok.t (s.rat 0 rfl)) fun w3 e => ?_)
 have s := s.ext0 e
 repeat (with_reducible first | apply gs_tf | apply gs_ft | apply gs_u | apply pick_ti | apply pick_fi | apply gs_t | apply gs_f | apply off_i | apply cndT | apply cndF)
 refine not_ti ?_
 by_cases h6 : d.t.e = d'.t.e
 case neg =>
  rw [sameB_f h6, Bool.not_false]
  repeat (with_reducible first | apply gs_tf | apply gs_ft | apply gs_u | apply pick_ti | apply pick_fi | apply gs_t | apply gs_f | apply off_i | apply cndT | apply cndF)
  exact no _ s fun e => h6 (de_inj e).2.2.2.1
 rw [sameB_t h6, Bool.not_true]
 repeat (with_reducible first | apply gs_tf | apply gs_ft | apply gs_u | apply pick_ti | apply pick_fi | apply gs_t | apply gs_f | apply off_i | apply cndT | apply cndF)
 refine s.declU 1 rfl ?_
 repeat (with_reducible first | apply gs_tf | apply gs_ft | apply gs_u | apply pick_ti | apply pick_fi | apply gs_t | apply gs_f | apply off_i | apply cndT | apply cndF)
 refine s.declU 0 rfl ?_
 repeat (with_reducible first | apply gs_tf | apply gs_ft | apply gs_u | apply pick_ti | apply pick_fi | apply gs_t | apply gs_f | apply off_i | apply cndT | apply cndF)
 refine fnW_of (by kernel_rfl) (same_c d.u d'.u (DV.ok.u (s.rat 1 rfl)) (DV.ok.u (s.rat 0 rfl)) fun w4 e => ?_)
 have s := s.ext0 e
 repeat (with_reducible first | apply gs_tf | apply gs_ft | apply gs_u | apply pick_ti | apply pick_fi | apply gs_t | apply gs_f | apply off_i | apply cndT | apply cndF)
 refine not_ti ?_
 by_cases h7 : d.u.e = d'.u.e
 case neg =>
  rw [sameB_f h7, Bool.not_false]
  repeat (with_reducible first | apply gs_tf | apply gs_ft | apply gs_u | apply pick_ti | apply pick_fi | apply gs_t | apply gs_f | apply off_i | apply cndT | apply cndF)
  exact no _ s fun e => h7 (de_inj e).2.2.2.2.1
 rw [sameB_t h7, Bool.not_true]
 repeat (with_reducible first | apply gs_tf | apply gs_ft | apply gs_u | apply pick_ti | apply pick_fi | apply gs_t | apply gs_f | apply off_i | apply cndT | apply cndF)
 refine bindX_i fun J0 g0 => bindX_i fun J1 g1 => bindX_i fun J2 g2 => ?_
 refine loop_i (fun m fr wr => ∃ i : Nat, m = d.cs.length - i ∧ i ≤ d.cs.length ∧ (d.cs.take i).map CV.e = (d'.cs.take i).map CV.e ∧ fr 2 = .pointer (some ⟨b, 0, none⟩) ∧ fr 3 = .pointer (some ⟨b', 0, none⟩) ∧ fr 5 = .int .i64 i ∧ Sep [] w wr (rB b' d'.cells 28 :: rB b d.cells 28 :: []) (rD d' :: rD d :: [])) d.cs.length ?_ ?_
 ·exact ⟨0, rfl, by omega, rfl, rfl, rfl, rfl, s⟩
 ·rintro m fr wr J ⟨i, rfl, hi, heq, f2, f3, f5, s⟩ hJ hX
  rw [f2, f5]
  refine off_i ?_
  refine s.load1 (v := d.cv) 1 rfl rfl ?_
  rw [hl]
  refine nlss (cond_d (fun hlt => ?_) (fun hlt => ?_))
  ·have s := s.drew
   generalize wr.drew = wr at *
   have hlt2 : i < d'.cs.length := by omega
   have hok : d.ok wr := s.rat 1 rfl
   have hok' : d'.ok wr := s.rat 0 rfl
   obtain ⟨hix, _, hln, hlt1⟩ := hok.cr.ctor hlt .i64
   obtain ⟨hix', _, hln', hlt1'⟩ := hok'.cr.ctor hlt2 .i64
   have bad : ∀ fr' w', fr' 4 = .bool false -> Sep [] w w' (rB b' d'.cells 28 :: rB b d.cells 28 :: []) (rD d' :: rD d :: []) -> d.cs[i].e ≠ d'.cs[i].e -> J .ret fr' w' := by
    intro fr' w' f4 s hne
    refine hX _ _ _ (by simp) (g2 _ _ _ (g1 _ _ _ (g0 _ _ _ ?_)))
    show K (fr' 4) w'
    rw [f4]
    refine no _ s fun he => hne ?_
    have h6 : (d.cs.map CV.e)[i]? = (d'.cs.map CV.e)[i]? := by rw [(de_inj he).2.2.2.2.2.2]
    simpa [hlt, hlt2] using h6
   refine off_i ?_
   refine s.load1 (v := d.cv) 1 rfl rfl ?_
   refine hix _ ?_
   refine off_i ?_
   refine hln _ _ ?_
   rw [f3]
   refine off_i ?_
   refine s.load1 (v := d'.cv) 0 rfl rfl ?_
   refine hix' _ ?_
   refine off_i ?_
   refine hln' _ _ ?_
   refine sneq_d (fun hn => ?_) (fun hn => ?_)
   ·refine ⟨rfl, ?_⟩
    repeat (with_reducible first | apply gs_tf | apply gs_ft | apply gs_u | apply pick_ti | apply pick_fi | apply gs_t | apply gs_f | apply off_i | apply cndT | apply cndF)
    exact bad _ _ rfl s fun he => hn (Prod.ext_iff.1 he).1
   refine ⟨rfl, ?_⟩
   repeat (with_reducible first | apply gs_tf | apply gs_ft | apply gs_u | apply pick_ti | apply pick_fi | apply gs_t | apply gs_f | apply off_i | apply cndT | apply cndF)
   refine s.load1 (v := d.cv) 1 rfl rfl ?_
   repeat (with_reducible first | apply gs_tf | apply gs_ft | apply gs_u | apply pick_ti | apply pick_fi | apply gs_t | apply gs_f | apply off_i | apply cndT | apply cndF)
   refine hix _ ?_
   repeat (with_reducible first | apply gs_tf | apply gs_ft | apply gs_u | apply pick_ti | apply pick_fi | apply gs_t | apply gs_f | apply off_i | apply cndT | apply cndF)
   refine hlt1 _ ?_
   repeat (with_reducible first | apply gs_tf | apply gs_ft | apply gs_u | apply pick_ti | apply pick_fi | apply gs_t | apply gs_f | apply off_i | apply cndT | apply cndF)
   refine s.load1 (v := d'.cv) 0 rfl rfl ?_
   repeat (with_reducible first | apply gs_tf | apply gs_ft | apply gs_u | apply pick_ti | apply pick_fi | apply gs_t | apply gs_f | apply off_i | apply cndT | apply cndF)
   refine hix' _ ?_
   repeat (with_reducible first | apply gs_tf | apply gs_ft | apply gs_u | apply pick_ti | apply pick_fi | apply gs_t | apply gs_f | apply off_i | apply cndT | apply cndF)
   refine hlt1' _ ?_
   repeat (with_reducible first | apply gs_tf | apply gs_ft | apply gs_u | apply pick_ti | apply pick_fi | apply gs_t | apply gs_f | apply off_i | apply cndT | apply cndF)
   refine fnW_of (by kernel_rfl) (same_c d.cs[i].t d'.cs[i].t (hok.c _ (List.getElem_mem hlt)).t (hok'.c _ (List.getElem_mem hlt2)).t fun w5 e => ?_)
   have s := s.ext0 e
   repeat (with_reducible first | apply gs_tf | apply gs_ft | apply gs_u | apply pick_ti | apply pick_fi | apply gs_t | apply gs_f | apply off_i | apply cndT | apply cndF)
   refine not_ti ?_
   by_cases h8 : d.cs[i].t.e = d'.cs[i].t.e
   ·rw [sameB_t h8, Bool.not_true]
    repeat (with_reducible first | apply gs_tf | apply gs_ft | apply gs_u | apply pick_ti | apply pick_fi | apply gs_t | apply gs_f | apply off_i | apply cndT | apply cndF)
    refine nadd (y := 1) (by have := h.cl; omega) ?_
    refine hJ (d.cs.length - (i + 1)) _ _ (by omega) ⟨i + 1, rfl, by omega, ?_, f2, f3, rfl, s⟩
    rw [ce_take hlt, ce_take hlt2, heq, show d.cs[i].e = d'.cs[i].e from Prod.ext hn h8]
   ·rw [sameB_f h8, Bool.not_false]
    repeat (with_reducible first | apply gs_tf | apply gs_ft | apply gs_u | apply pick_ti | apply pick_fi | apply gs_t | apply gs_f | apply off_i | apply cndT | apply cndF)
    exact bad _ _ rfl s fun he => h8 (Prod.ext_iff.1 he).2
  ·obtain rfl : i = d.cs.length := by omega
   rw [List.take_length, hlen, List.take_length] at heq
   refine hX _ _ _ (by simp) (g2 _ _ _ (blk_x (seq_n g1 ?_)))
   have := hK wr s.ext
   rw [sameDB_t (by unfold DV.e; rw [h1, h2, h3, h4, h6, h7, heq])] at this
   exact this
theorem dsize_take {ds : List DV} {i : Nat} (hi : i < ds.length) : ((ds.take (i + 1)).map DV.size).sum = ((ds.take i).map DV.size).sum + ds[i].size := by
 rw [List.take_succ_eq_append_getElem hi, List.map_append, List.sum_append]; simp
theorem de_take {ds : List DV} {i : Nat} (hi : i < ds.length) : (ds.take (i + 1)).map DV.e = (ds.take i).map DV.e ++ [ds[i].e] := by
 rw [List.take_succ_eq_append_getElem hi, List.map_append]; rfl
theorem mem_take_succ {α : Type} {l : List α} {i : Nat} (hi : i < l.length) {x : α} (h : x ∈ l.take (i + 1)) : x ∈ l.take i ∨ x = l[i] := by
 rw [List.take_succ_eq_append_getElem hi, List.mem_append, List.mem_singleton] at h
 exact h
structure Small (ds : List DV) : Prop where
 n : ds.length ≤ 70
 c : ∀ d ∈ ds, d.cs.length ≤ 20
 s : (ds.map DV.size).sum ≤ 8000
theorem great10_c {w : World} {K : VPost} {x : Value} {ds : List DV} (hx : RdSl w x 15 (dcs ds) ds.length) (hds : ∀ d ∈ ds, d.ok w) (hT : ∀ w', Ext [] w w' -> K (.bool true) w') (hF : Small ds -> ∀ w', Ext [] w w' -> K (.bool false) w') : Calls Tryz.prog 19 #[x] w (retK K) := by
 refine c19_calls _ w K ?_
 unfold c19
 rw [hx.lenw]
 refine ngtr (y := 70) (cond_d (fun h70 => ?_) (fun h70 => ?_))
 ·exact hT w (Ext.refl _ _)
 refine bindX_i fun J0 g0 => bindX_i fun J1 g1 => bindX_i fun J2 g2 => ?_
 refine loop_i (fun m fr wr => ∃ i : Nat, m = ds.length - i ∧ i ≤ ds.length ∧ fr 0 = x ∧ fr 3 = .int .i64 (((ds.take i).map DV.size).sum : Nat) ∧ fr 4 = .int .i64 i ∧ ((ds.take i).map DV.size).sum ≤ 8000 ∧ (∀ d ∈ ds.take i, d.cs.length ≤ 20) ∧ Ext [] w wr) ds.length ?_ ?_
 ·exact ⟨0, rfl, by omega, rfl, rfl, rfl, by simp, by simp, Ext.refl _ _⟩
 ·rintro m fr wr J ⟨i, rfl, hi, f0, f3, f4, hq, hc, e1⟩ hJ hX
  have out : ∀ fr' w', fr' 2 = .bool true -> Ext [] w w' -> J .ret fr' w' := by
   intro fr' w' f2 e
   refine hX _ _ _ (by simp) (g2 _ _ _ (g1 _ _ _ (g0 _ _ _ ?_)))
   show K (fr' 2) w'
   rw [f2]
   exact hT _ e
  rw [f0, f4, hx.lenw]
  refine nlss (cond_d (fun hlt => ?_) (fun hlt => ?_))
  ·have hok : ds[i].ok wr := DV.keep e1 (hds _ (List.getElem_mem hlt))
   obtain ⟨hix, hld⟩ := (hx.keep e1 (by simp)).decl hlt .i64
   obtain ⟨hl1, _, _⟩ := (hx.keep e1 (by simp)).declF hlt .i64
   refine hix _ ?_
   refine off_i ?_
   refine hl1 14 1 ds[i].cv _ (by decide) rfl ?_
   rw [hok.cr.lenw]
   refine ngtr (y := 20) (cond_d (fun h20 => ?_) (fun h20 => ?_))
   ·exact out _ _ rfl e1
   refine hix _ ?_
   refine hld _ ?_
   refine fnW_of (by kernel_rfl) (dnodes_c (most := 8000) hok (by omega) fun w2 e2 => ?_)
   have e2 := e1.new e2
   rw [f3]
   refine nadd (by omega) ?_
   have hst := dsize_take hlt
   refine ngtr (y := 8000) (cond_d (fun h8 => ?_) (fun h8 => ?_))
   ·exact out _ _ rfl e2
   refine nadd (y := 1) (by omega) ?_
   refine hJ (ds.length - (i + 1)) _ _ (by omega) ⟨i + 1, rfl, by omega, f0, ?_, rfl, by omega, ?_, e2⟩
   ·show Value.int .i64 ((((ds.take i).map DV.size).sum + min ds[i].size (8000 + 1) : Nat) : Int) = _
    rw [hst, show min ds[i].size (8000 + 1) = ds[i].size by omega]
   ·intro d hd
    rcases mem_take_succ hlt hd with hd | rfl
    ·exact hc d hd
    ·omega
  ·obtain rfl : i = ds.length := by omega
   rw [List.take_length] at hq hc
   exact hX _ _ _ (by simp) (g2 _ _ _ (blk_x (seq_n g1 (hF ⟨by omega, hc, hq⟩ wr e1))))
theorem same24_c {w : World} {K : VPost} {x y : Value} {ds es : List DV} (hx : RdSl w x 15 (dcs ds) ds.length) (hy : RdSl w y 15 (dcs es) es.length) (h1 : ∀ d ∈ ds, d.ok w) (h2 : ∀ d ∈ es, d.ok w) (hn : ds.length < 2 ^ 50)
  (hT : ds.map DV.e = es.map DV.e -> ∀ w', Ext [] w w' -> K (.bool true) w') (hF : ds.map DV.e ≠ es.map DV.e -> ∀ w', Ext [] w w' -> K (.bool false) w') : Calls Tryz.prog 14 #[x, y] w (retK K) := by
 refine c14_calls _ _ w K ?_
 unfold c14
 rw [hx.lenw, hy.lenw]
 refine nneq (cond_d (fun hne => ?_) (fun hne => ?_))
 ·exact hF (fun h => hne (by have := congrArg List.length h; simpa using this)) w (Ext.refl _ _)
 have hle : ds.length = es.length := by omega
 refine bindX_i fun J0 g0 => bindX_i fun J1 g1 => bindX_i fun J2 g2 => ?_
 refine loop_i (fun m fr wr => ∃ i : Nat, m = ds.length - i ∧ i ≤ ds.length ∧ (ds.take i).map DV.e = (es.take i).map DV.e ∧ fr 0 = x ∧ fr 1 = y ∧ fr 5 = .int .i64 i ∧ Ext [] w wr) ds.length ?_ ?_
 ·exact ⟨0, rfl, by omega, rfl, rfl, rfl, rfl, Ext.refl _ _⟩
 ·rintro m fr wr J ⟨i, rfl, hi, ht, f0, f1, f5, e1⟩ hJ hX
  rw [f0, f1, f5, hx.lenw]
  refine nlss (cond_d (fun hlt => ?_) (fun hlt => ?_))
  ·have e2 := e1.new (Ext.drew [] wr)
   generalize wr.drew = wr at *
   have hlt2 : i < es.length := by omega
   obtain ⟨hix1, hld1⟩ := (hx.keep e2 (by simp)).decl hlt .i64
   obtain ⟨hix2, hld2⟩ := (hy.keep e2 (by simp)).decl hlt2 .i64
   refine hix1 _ ?_
   refine hld1 _ ?_
   refine hix2 _ ?_
   refine hld2 _ ?_
   refine fnW_of (by kernel_rfl) (sameD_c (DV.keep e2 (h1 _ (List.getElem_mem hlt))) (DV.keep e2 (h2 _ (List.getElem_mem hlt2))) fun w3 e3 => ?_)
   refine not_ti ?_
   by_cases he : ds[i].e = es[i].e
   ·rw [sameDB_t he, Bool.not_true]
    refine cndF ?_
    refine nadd (y := 1) (by omega) ?_
    refine hJ (ds.length - (i + 1)) _ _ (by omega) ⟨i + 1, rfl, by omega, ?_, f0, f1, rfl, e2.new e3⟩
    rw [de_take hlt, de_take hlt2, ht, he]
   ·rw [sameDB_f he, Bool.not_false]
    refine cndT ?_
    refine hX _ _ _ (by simp) (g2 _ _ _ (g1 _ _ _ (g0 _ _ _ (hF (fun h => he ?_) _ (e2.new e3)))))
    have h6 : (ds.map DV.e)[i]? = (es.map DV.e)[i]? := by rw [h]
    simpa [hlt, hlt2] using h6
  ·obtain rfl : i = ds.length := by omega
   rw [List.take_length, hle, List.take_length] at ht
   exact hX _ _ _ (by simp) (g2 _ _ _ (blk_x (seq_n g1 (hT ht wr e1))))
end Go.Proofs.YtcihccmkionliaaGreatDoor
