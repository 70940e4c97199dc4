/- The law of changed sectors: its walk. -/
import Derived.Test.YtedebapgmfnflaaDoorW0
namespace Go.Proofs.YtedebapgmfnflaaDoor
open Go
set_option maxRecDepth 100000

section
variable {P : Program} {w : World} {K : VPost} {t : TypeId} {c : Bool}
theorem iand {x : Int} (n : Nat) (hn : n < 63) (h : K (.int .i64 (x % 2 ^ n)) w) : binN P .and t c (.int .i64 x) (.int .i64 (2 ^ n - 1)) w K := by
  show binW P .and t c _ _ w K
  rw [bin_and, and_mask x n hn]
  exact h
theorem u8_xor {a b : UInt8} (h : K (bv (a ^^^ b)) w) : binN P .xor t c (bv a) (bv b) w K := by
  show K (.int .u8 (IntKind.u8.wrap ((BitVec.ofInt 8 (a.toNat : Int) ^^^ BitVec.ofInt 8 (b.toNat : Int) : BitVec 8).toNat : Nat))) w
  have ha : ∀ x : UInt8, BitVec.ofInt 8 (x.toNat : Int) = x.toBitVec := by
    intro x
    apply BitVec.eq_of_toNat_eq
    rw [BitVec.toNat_ofInt]
    have h1 := x.toNat_lt
    have e : x.toBitVec.toNat = x.toNat := rfl
    rw [e]
    omega
  rw [ha, ha, wrap_u8n]
  have e : UInt8.ofNat (a.toBitVec ^^^ b.toBitVec).toNat = a ^^^ b := by
    apply UInt8.toNat_inj.1
    rw [UInt8.toNat_ofNat', Nat.mod_eq_of_lt (BitVec.isLt _)]
    rfl
  rw [e]
  exact h
end

def ub (b : Int) : UInt8 := UInt8.ofNat (b % 256).toNat
theorem wrap_ub (b : Int) : Value.int .u8 (IntKind.u8.wrap b) = bv (ub b) := by
  unfold bv ub
  rw [IntKind.wrap_u8, UInt8.toNat_ofNat']
  congr 1
  omega
theorem ub_ne {b : Int} (h : b % 256 ≠ 0) : ub b ≠ 0 := by
  intro e
  have h2 := congrArg UInt8.toNat e
  unfold ub at h2
  rw [UInt8.toNat_ofNat'] at h2
  have h3 : (0 : UInt8).toNat = 0 := rfl
  rw [h3] at h2
  omega
theorem xor_ne {x y : UInt8} (h : y ≠ 0) : x ^^^ y ≠ x := by
  intro e
  have : x ^^^ (x ^^^ y) = x ^^^ x := by rw [e]
  rw [← UInt8.xor_assoc, UInt8.xor_self, UInt8.zero_xor] at this
  exact h this

theorem OwnAt.cell {w : World} {v : Value} {e : TypeId} {s : Nat} {xs : List Value} {n q : Nat} (h : OwnAt w v e s xs n) (hq : q < n * s) : ∃ b o c, v = .slice (some ⟨b, o, none⟩) n c ∧
    (∀ (y : Value) (K : VPost), xs[q]? = some y → K y w → loadW (some (false, 1)) (.pointer (some ⟨b, o + q, none⟩)) w K) ∧
    (∀ (g : Bool) (y : Value) (K : World → Prop), y.cells = #[y] → y.oneCell' = true → (∀ w', Ext [b] w w' → OwnAt w' v e s (xs.set q y) n → K w') → storeW (some (g, 1)) (.pointer (some ⟨b, o + q, none⟩)) y w K) := by
  rcases h with ⟨rfl, rfl, rfl⟩ | ⟨b, o, c, cs, rfl, hb, hl, ht, hc, hn⟩
  · omega
  · have hnc : n * s ≤ c * s := Nat.mul_le_mul_right _ hn
    refine ⟨b, o, c, rfl, fun y K hy hK => load1 hb.r ?_ hK, fun g y K hy h1 hK => store1 hb hy (by omega) h1 fun w' e' hb' _ => hK w' e' (.inr ⟨b, o, c, _, rfl, hb', ?_, ?_, ?_, hn⟩)⟩
    · rw [← ht, List.getElem?_take, if_pos hq, List.getElem?_drop] at hy
      exact hy
    · rw [List.length_set]; exact hl
    · rw [← ht]
      apply List.ext_getElem?
      intro j
      rw [List.getElem?_take, List.getElem?_drop, List.getElem?_set, List.getElem?_set, List.getElem?_take, List.getElem?_drop, List.length_take, List.length_drop]
      by_cases hj : j < n * s
      · by_cases hjk : q = j
        · subst hjk
          have h1 : o + q < cs.length := by omega
          have h2 : q < min (n * s) (cs.length - o) := by omega
          simp [hj, h1, h2]
        · have h3 : ¬ o + q = o + j := by omega
          simp [hj, hjk, h3]
      · have hjk : ¬ q = j := by omega
        simp [hj, hjk]
    · rw [List.length_set]; exact hc

theorem flat_set {y : UInt8} : ∀ (ls : List Bytes) (j p : Nat), (∀ l ∈ ls, l.length = 64) → p < 64 → ls.flatten.set (64 * j + p) y = (ls.modify j fun b => b.set p y).flatten
  | [], j, p, _, _ => by simp
  | x :: r, 0, p, h, hp => by
    have hx := h x (by simp)
    rw [List.modify_zero_cons, List.flatten_cons, List.flatten_cons, Nat.mul_zero, Nat.zero_add, List.set_append_left _ _ (by omega)]
  | x :: r, j + 1, p, h, hp => by
    have hx := h x (by simp)
    rw [List.modify_succ_cons, List.flatten_cons, List.flatten_cons, List.set_append_right _ _ (by omega), hx, ← flat_set r j p (fun l hl => h l (by simp [hl])) hp]
    congr 2
    omega

/-- A byte of a sector of one's own. -/
theorem Sep.secByte {S : List Nat} {w0 w : World} {L R : List Res} {v : Value} {ls : List Bytes} {j p : Nat} (s : Sep S w0 w L R) (i : Nat) (hL : L[i]? = some (rK v ls)) (h64 : ∀ l ∈ ls, l.length = 64) (hj : j < ls.length) (hp : p < 64) (k1 k2 : IntKind) :
    ∃ b o o', (∀ K : VPost, K (.pointer (some ⟨b, o, none⟩)) w → idxW (some (none, 64)) v (.int k1 j) w K) ∧ (∀ (w : World) (K : VPost), K (.pointer (some ⟨b, o', none⟩)) w → idxW (some (some 64, 1)) (.pointer (some ⟨b, o, none⟩)) (.int k2 p) w K) ∧
      (∀ K : VPost, K (bv ((ls[j]).getD p 0)) w → loadW (some (false, 1)) (.pointer (some ⟨b, o', none⟩)) w K) ∧
      (∀ (g : Bool) (y : UInt8) (K : World → Prop), (∀ w', Sep S w0 w' (L.set i (rK v (ls.modify j fun b => b.set p y))) R → K w') → storeW (some (g, 1)) (.pointer (some ⟨b, o', none⟩)) (bv y) w K) := by
  have ho : OwnAt w v 37 64 (bc ls.flatten) ls.length := s.at i hL
  obtain ⟨b, o, c, hv, hl, hs⟩ := ho.cell (q := 64 * j + p) (by omega)
  have hfl := flat64 h64
  refine ⟨b, o + j * 64, o + (64 * j + p), fun K hK => by rw [hv]; exact idx_i hj hK, fun w K hK => ?_, fun K hK => hl _ K ?_ hK, fun g y K hK => hs g (bv y) K rfl rfl fun w' e hw => hK w' ?_⟩
  · refine idxA_i hp ?_
    rw [show o + j * 64 + p * 1 = o + (64 * j + p) by omega]
    exact hK
  · have e : (ls[j]).getD p 0 = ls.flatten.getD (64 * j + p) 0 := by
      rw [← flat64_get h64 hj, List.getD_eq_getElem?_getD, List.getD_eq_getElem?_getD, List.getElem?_take, if_pos hp, List.getElem?_drop, Nat.mul_comm]
    rw [e]
    exact getD_lt (by omega)
  · rw [bc_set, flat_set ls j p h64 hp] at hw
    have hll : (ls.modify j fun b => b.set p y).length = ls.length := List.length_modify ..
    refine s.upd (T := rK v ls) i hL (T' := rK v (ls.modify j fun b => b.set p y)) ?_ (by show Ext (slB v) w w'; rw [hv]; exact e) (fun x hx => .inl hx)
    show OwnAt w' v _ 64 _ _
    rw [hll]
    exact hw
end Go.Proofs.YtedebapgmfnflaaDoor
