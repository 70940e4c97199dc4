/- Frames: counts, rows in one: the walks of the program's. Condition: at most 2^30 bytes. -/
import Derived.Test.YtedebapgmfnflaaK2
import Derived.Test.YtedebapgmfnflaaRA
namespace Go.Proofs.Ytedebapgmfnflaa
open Go
set_option maxRecDepth 100000

/-- A number as four bytes, the least first. -/
def le4 (n : Nat) : Bytes := [UInt8.ofNat n, UInt8.ofNat (n >>> 8), UInt8.ofNat (n >>> 16), UInt8.ofNat (n >>> 24)]
/-- The number of bytes, the least first. -/
def leN : Bytes → Nat
  | [] => 0
  | c :: r => c.toNat + 256 * leN r
theorem leN_snoc (l : Bytes) (c : UInt8) : leN (l ++ [c]) = leN l + 2 ^ (8 * l.length) * c.toNat := by
  induction l with
  | nil => simp [leN]
  | cons x r ih =>
    rw [List.cons_append, leN, ih, leN, List.length_cons, show 8 * (r.length + 1) = 8 * r.length + 8 by omega, Nat.pow_add]
    generalize 2 ^ (8 * r.length) = p
    rw [Nat.mul_add, Nat.mul_comm p (2 ^ 8), Nat.mul_assoc]
    omega
theorem leN_lt (l : Bytes) : leN l < 2 ^ (8 * l.length) := by
  induction l with
  | nil => decide
  | cons x r ih =>
    rw [leN, List.length_cons, show 8 * (r.length + 1) = 8 * r.length + 8 by omega, Nat.pow_add]
    have := x.toNat_lt
    generalize 2 ^ (8 * r.length) = p at *
    omega
def frameL (ls : List Bytes) : Bytes := ls.flatMap fun l => le4 l.length ++ l
def frameB (ls : List Bytes) : Bytes := le4 ls.length ++ frameL ls
theorem frameL_snoc (ls : List Bytes) (l : Bytes) : frameL (ls ++ [l]) = frameL ls ++ le4 l.length ++ l := by simp [frameL]
theorem frameL_length (ls : List Bytes) : (frameL ls).length = 4 * ls.length + ls.flatten.length := by
  induction ls with
  | nil => rfl
  | cons x r ih =>
    have e : frameL (x :: r) = le4 x.length ++ x ++ frameL r := by simp [frameL]
    rw [e, List.length_append, List.length_append, ih]
    simp [le4]
    omega

theorem count_c {w : World} {K : VPost} {n : Nat} (hK : ∀ v w', OwnAt w' v 5 1 (bc (le4 n)) 4 → Ext [] w w' → (∀ b ∈ slB v, w.heap.size ≤ b) → K v w') : Calls Try.prog 94 #[.int .i64 n] w (retK K) := by
  refine c94_calls _ w K ?_
  unfold c94
  rw [conv_byte und_int und_u8]
  refine nshr (s := 8) (by decide) ?_
  rw [conv_byte und_int und_u8]
  refine nshr (s := 16) (by decide) ?_
  rw [conv_byte und_int und_u8]
  refine nshr (s := 24) (by decide) ?_
  rw [conv_byte und_int und_u8]
  exact (Sep.nil w).litB (le4 n) rfl (by simp [le4]) fun t w1 s _ _ => hK t w1 (s.at 0 rfl) s.ext (s.fresh 0 rfl)

set_option maxHeartbeats 1000000 in
theorem cut_c {w : World} {K : VPost} {x : Value} {l : Bytes} (hx : RdSl w x 1 (bc l) l.length) (hc : capOk x) (hno : l.length < 4 → K (.tuple #[.int .i64 0, .slice none 0 0, .bool false]) w)
    (hK : 4 ≤ l.length → ∀ v w', RdSl w' v 1 (bc (l.drop 4)) (l.length - 4) → capOk v → (∀ b ∈ rdB v (bc (l.drop 4)), b ∈ rdB x (bc l)) → Ext [] w w' → K (.tuple #[.int .i64 (leN (l.take 4)), v, .bool true]) w') : Calls Try.prog 95 #[x] w (retK K) := by
  refine c95_calls _ w K ?_
  unfold c95
  obtain ⟨xa, xc, hxa⟩ := hx.len
  have hlen : ∀ (w : World) (K : VPost), lenW Try.prog (some true) #[34] 3 #[x] w K = K (.int .i64 l.length) w := fun w K => by rw [hxa, len_s]
  rw [hlen]
  refine nlss (y := 4) (cond_d (fun h => hno h) (fun h => ?_))
  replace hK := hK (by omega)
  refine bindX_i fun J0 h0 => bindX_i fun J1 h1 => ?_
  refine hx.cut hc (l := 0) (h := 4) rfl rfl (by omega) (by omega) fun v4 hv4 _ _ _ => ?_
  have e4 : (((bc l).drop (0 * 1)).take ((4 - 0) * 1)) = bc (l.take 4) := by simp [bc, List.map_take]
  rw [e4] at hv4
  have hv4 : RdSl w v4 1 (bc (l.take 4)) 4 := hv4
  have h4l : (l.take 4).length = 4 := by rw [List.length_take]; omega
  obtain ⟨va, vc, hva⟩ := hv4.len
  rw [hva, len_s, ← hva]
  refine bindX_i fun J2 h2 => ?_
  refine loop_i (fun m fr wr => ∃ (i : Nat), m = 4 - i ∧ i ≤ 4 ∧ fr 0 = x ∧ fr 5 = .int .i64 (leN ((l.take 4).take i)) ∧ fr 12 = v4 ∧ fr 13 = .int .i64 (4 : Nat) ∧ fr 14 = .int .i64 i ∧ w = wr) 4 ?_ ?_
  · exact ⟨0, rfl, by omega, rfl, rfl, rfl, rfl, rfl, rfl⟩
  · rintro m fr wr J ⟨i, rfl, hi, f0, f5, f12, f13, f14, rfl⟩ hJ hX
    rw [f12, f13, f14]
    refine nlss (cond_d (fun hlt => ?_) (fun hlt => ?_))
    · obtain ⟨b, o, hix, hld⟩ := RdSl.at1 hv4 (i := i) (by omega) .i64
      refine hix _ ?_
      refine hld _ ?_
      rw [conv_b64 (k := .u8) und_u8 und_int]
      refine nmul (x := 8) (by omega) ?_
      have hil : ((l.take 4).take i).length = i := by rw [List.length_take, h4l]; omega
      have hlt0 := leN_lt ((l.take 4).take i)
      rw [hil] at hlt0
      have hby := ((l.take 4).getD i 0).toNat_lt
      have hp : 2 ^ (8 * i) ≤ 2 ^ 24 := Nat.pow_le_pow_right (by decide) (by omega)
      have hsn : leN ((l.take 4).take (i + 1)) = leN ((l.take 4).take i) + 2 ^ (8 * i) * ((l.take 4).getD i 0).toNat := by
        rw [List.take_succ_eq_append_getElem (by omega), leN_snoc, hil]
        congr 3
        rw [List.getD_eq_getElem?_getD, List.getElem?_eq_getElem (by omega)]
        rfl
      generalize ((l.take 4).getD i 0).toNat = y at *
      generalize leN ((l.take 4).take i) = z at *
      have hor := Nat.two_pow_add_eq_or_of_lt hlt0 y
      have hm : y * 2 ^ (8 * i) < 256 * 2 ^ 24 := by
        refine Nat.lt_of_le_of_lt (Nat.mul_le_mul_left y hp) ?_
        omega
      refine nshl (by omega) (by omega) ?_
      rw [f5]
      refine nor (by omega) (by omega) ?_
      have hz : z ||| y * 2 ^ (8 * i) = leN ((l.take 4).take (i + 1)) := by
        rw [hsn, Nat.mul_comm y, Nat.or_comm, ← hor, Nat.add_comm]
      rw [hz]
      refine nadd (y := 1) (by omega) ?_
      exact hJ (4 - (i + 1)) _ _ (by omega) ⟨i + 1, rfl, by omega, f0, rfl, f12, f13, rfl, rfl⟩
    · obtain rfl : i = 4 := by omega
      refine hX _ _ _ (by simp) (h2 _ _ _ (blk_x (seq_n h1 ?_)))
      have e44 : (l.take 4).take 4 = l.take 4 := by rw [List.take_take, Nat.min_self]
      rw [e44] at f5
      show sliceW (.sl 1) (fr 0) (some (.int .i64 4)) none none w.drew (fun t w9 => K (.tuple #[fr 5, t, .bool true]) w9)
      rw [f0, f5]
      have hxd : RdSl w.drew x 1 (bc l) l.length := (rR x 1 (bc l) l.length).keep hx (Ext.drew [] w) (by simp)
      refine hxd.cut hc (l := 4) (h := l.length) rfl rfl (by omega) (by omega) fun v hv hcv _ hf => ?_
      have e : (((bc l).drop (4 * 1)).take ((l.length - 4) * 1)) = bc (l.drop 4) := by
        rw [Nat.mul_one, Nat.mul_one, List.take_of_length_le (by simp [bc])]
        simp [bc]
      rw [e] at hv hf
      exact hK v _ hv hcv hf (Ext.drew [] w)
end Go.Proofs.Ytedebapgmfnflaa
