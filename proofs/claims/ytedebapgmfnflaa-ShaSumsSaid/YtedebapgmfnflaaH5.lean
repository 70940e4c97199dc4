/- A place of a slice of one's own, read and written. -/
import Derived.Test.YtedebapgmfnflaaH4
import Derived.Test.YtedebapgmfnflaaS0
namespace Go.Proofs.Ytedebapgmfnflaa
open Go

theorem OwnAt.at1 {w : World} {v : Value} {e : TypeId} {xs : List Value} {n k : Nat} (h : OwnAt w v e 1 xs n) (hk : k < n) (kk : IntKind) : ∃ b o, slB v = [b] ∧ (∀ K : VPost, K (.pointer (some ⟨b, o, none⟩)) w → idxW (some (none, 1)) v (.int kk k) w K) ∧
    (∀ (y : Value) (K : VPost), xs[k]? = some y → K y w → loadW (some (false, 1)) (.pointer (some ⟨b, o, none⟩)) w K) ∧
    (∀ (g : Bool) (y : Value) (K : World → Prop), y.cells = #[y] → y.oneCell' = true → (∀ w', Ext [b] w w' → OwnAt w' v e 1 (xs.set k y) n → K w') → storeW (some (g, 1)) (.pointer (some ⟨b, o, none⟩)) y w K) := by
  rcases h with ⟨rfl, rfl, rfl⟩ | ⟨b, o, c, cs, rfl, hb, hl, ht, hc, hn⟩
  · omega
  · rw [Nat.mul_one] at hl ht hc
    refine ⟨b, o + k * 1, rfl, fun K hK => idx_i hk hK, fun y K hy hK => load1 hb.r ?_ hK, fun g y K hy h1 hK => store1 hb hy (by omega) h1 fun w' e' hb' _ => hK w' e' (.inr ⟨b, o, c, _, rfl, hb', ?_, ?_, ?_, hn⟩)⟩
    · rw [← ht, List.getElem?_take, if_pos hk, List.getElem?_drop] at hy
      rw [Nat.mul_one]; exact hy
    · rw [List.length_set, Nat.mul_one]; exact hl
    · rw [Nat.mul_one, Nat.mul_one, ← ht]
      apply List.ext_getElem?
      intro j
      rw [List.getElem?_take, List.getElem?_drop, List.getElem?_set, List.getElem?_set, List.getElem?_take, List.getElem?_drop, List.length_take, List.length_drop]
      by_cases hj : j < n
      · by_cases hjk : k = j
        · subst hjk
          have h1 : o + k < cs.length := by omega
          have h2 : k < min n (cs.length - o) := by omega
          simp [hj, h1, h2]
        · have h3 : ¬ o + k = o + j := by omega
          simp [hj, hjk, h3]
      · have hjk : ¬ k = j := by omega
        simp [hj, hjk]
    · rw [List.length_set, Nat.mul_one]; exact hc

section
variable {P : Program} {w : World} {K : VPost} {t : TypeId} {c : Bool}
theorem u8_add {a b : UInt8} : binN P .add t c (bv a) (bv b) w K = K (bv (a + b)) w := by
  show binW P .add t c (bv a) (bv b) w K = _
  unfold bv
  rw [bin_add, ← Int.natCast_add, wrap_u8n]
  congr 3
end

/-- A byte of one's own, read and written. -/
theorem Sep.byteAt {S : List Nat} {w0 w : World} {L R : List Res} {v : Value} {l : Bytes} {n k : Nat} (s : Sep S w0 w L R) (i : Nat) (hL : L[i]? = some (rO v 5 1 (bc l) n)) (hk : k < n) (kk : IntKind) :
    ∃ b o, (∀ K : VPost, K (.pointer (some ⟨b, o, none⟩)) w → idxW (some (none, 1)) v (.int kk k) w K) ∧ (∀ (K : VPost), K (bv (l.getD k 0)) w → loadW (some (false, 1)) (.pointer (some ⟨b, o, none⟩)) w K) ∧
    (∀ (g : Bool) (y : UInt8) (K : World → Prop), (∀ w', Sep S w0 w' (L.set i (rO v 5 1 (bc (l.set k y)) n)) R → K w') → storeW (some (g, 1)) (.pointer (some ⟨b, o, none⟩)) (bv y) w K) := by
  have ho : OwnAt w v 5 1 (bc l) n := s.at i hL
  have hl : l.length = n := by have := ho.rd.1; rw [bc_length, Nat.mul_one] at this; exact this
  obtain ⟨b, o, hb, h1, h2, h3⟩ := ho.at1 hk kk
  refine ⟨b, o, h1, fun K hK => h2 _ K (bc_get (by omega)) hK, fun g y K hK => h3 g (bv y) K rfl rfl fun w' e hw => hK w' ?_⟩
  rw [bc_set] at hw
  exact s.upd (T := rO v 5 1 (bc l) n) i hL (T' := rO v 5 1 (bc (l.set k y)) n) hw (by show Ext (slB v) w w'; rw [hb]; exact e) (fun x hx => .inl hx)
end Go.Proofs.Ytedebapgmfnflaa
