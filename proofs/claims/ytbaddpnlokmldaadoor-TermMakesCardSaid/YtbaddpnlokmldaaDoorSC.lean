/- Digests, hashes and literal bytes in hand. -/
import Derived.Test.YtbaddpnlokmldaaDoorSB
namespace Go.Proofs.YtbaddpnlokmldaaDoor
open Go
set_option maxRecDepth 100000

section
variable {S : List Nat} {w0 w : World} {L R : List Res} {K : Value → VPost}
end

theorem cells_b64 : (Value.agg (Array.replicate 64 (.int .u8 0))).cells.toList = bc (List.replicate 64 0) := by rw [bc_zeros]; simp [Value.cells]
/-- The beginning of an array, as a slice. -/
theorem Blk.rdTo {w : World} {b n k : Nat} {l : Bytes} {t : TypeId} (h : Blk w b (bc l) t) (hl : l.length = n) (hk : k ≤ n) : RdSl w (.slice (some ⟨b, 0, none⟩) k n) 1 (bc (l.take k)) (l.take k).length := by
  have hlen : (l.take k).length = k := by rw [List.length_take]; omega
  rw [hlen]
  refine ⟨by rw [bc_length, hlen, Nat.mul_one], .inr ⟨b, 0, n, _, rfl, h.r, ?_, by rw [bc_length]; omega⟩⟩
  rw [bc_part, List.drop_zero, Nat.mul_one]
theorem rdB_slB {v : Value} {ys : List Value} {b : Nat} (h : b ∈ rdB v ys) : b ∈ slB v := by
  unfold rdB at h
  split at h
  · cases h
  · exact h
/-- A place of a slice of one's own whose elements are of one cell. -/
theorem Sep.elAt {α : Type} {f : α → Value} (hf : ∀ x, (f x).cells = #[f x] ∧ (f x).oneCell' = true) (d : α) {S : List Nat} {w0 w : World} {L R : List Res} {v : Value} {e : TypeId} {l : List α} {n k : Nat} (s : Sep S w0 w L R) (i : Nat) (hL : L[i]? = some (rO v e 1 (l.map f) n)) (hk : k < n) (kk : IntKind) :
    ∃ b o, (∀ K : VPost, K (.pointer (some ⟨b, o, none⟩)) w → idxW (some (none, 1)) v (.int kk k) w K) ∧ (∀ (K : VPost), K (f (l.getD k d)) w → loadW (some (false, 1)) (.pointer (some ⟨b, o, none⟩)) w K) ∧
    (∀ (g : Bool) (y : α) (K : World → Prop), (∀ w', Sep S w0 w' (L.set i (rO v e 1 ((l.set k y).map f) n)) R → K w') → storeW (some (g, 1)) (.pointer (some ⟨b, o, none⟩)) (f y) w K) := by
  have ho : OwnAt w v e 1 (l.map f) n := s.at i hL
  have hl : l.length = n := by have := ho.rd.1; rw [List.length_map, Nat.mul_one] at this; exact this
  obtain ⟨b, o, hb, h1, h2, h3⟩ := ho.at1 hk kk
  refine ⟨b, o, h1, fun K hK => h2 _ K (by simp [hl, hk, List.getD_eq_getElem?_getD]) hK, fun g y K hK => h3 g (f y) K (hf y).1 (hf y).2 fun w' e hw => hK w' ?_⟩
  rw [← List.map_set] at hw
  exact s.upd (T := rO v _ 1 (l.map f) n) i hL (T' := rO v _ 1 ((l.set k y).map f) n) hw (by show Ext (slB v) w w'; rw [hb]; exact e) (fun x hx => .inl hx)
/-- A place of a slice that is read, of one-cell elements. -/
theorem RdSl.elAt {α : Type} {f : α → Value} (d : α) {w : World} {v : Value} {l : List α} {m k : Nat} (h : RdSl w v 1 (l.map f) m) (hk : k < l.length) (kk : IntKind) :
    ∃ b o, (∀ K : VPost, K (.pointer (some ⟨b, o, none⟩)) w → idxW (some (none, 1)) v (.int kk k) w K) ∧ (∀ (K : VPost), K (f (l.getD k d)) w → loadW (some (false, 1)) (.pointer (some ⟨b, o, none⟩)) w K) := by
  obtain ⟨b, o, h1, h2⟩ := h.get1 (i := k) (by simpa using hk) kk
  refine ⟨b, o, h1, fun K hK => h2 K ?_⟩
  rw [List.getElem_map]
  rw [List.getD_eq_getElem?_getD, List.getElem?_eq_getElem hk] at hK
  exact hK
end Go.Proofs.YtbaddpnlokmldaaDoor
