/- Elements of several cells in a slice of one's own: read and written; digests in slices. -/
import Derived.Test.YtedebapgmfnflaaK9
namespace Go.Proofs.Ytedebapgmfnflaa
open Go
set_option maxRecDepth 100000

theorem lspl_at (l vs : List Value) (o j : Nat) (h : o + vs.length ≤ l.length) : (lspl l o vs)[j]? = if j < o then l[j]? else if j < o + vs.length then vs[j - o]? else l[j]? := by
  unfold lspl
  have ht : (l.take o).length = o := by rw [List.length_take]; omega
  rw [List.append_assoc]
  by_cases h1 : j < o
  · rw [if_pos h1, List.getElem?_append_left (by omega), List.getElem?_take, if_pos h1]
  · rw [if_neg h1, List.getElem?_append_right (by omega), ht]
    by_cases h2 : j < o + vs.length
    · rw [if_pos h2, List.getElem?_append_left (by omega)]
    · rw [if_neg h2, List.getElem?_append_right (by omega), List.getElem?_drop]
      congr 1
      omega
theorem lspl_len (l vs : List Value) (o : Nat) (h : o + vs.length ≤ l.length) : (lspl l o vs).length = l.length := by
  unfold lspl
  simp only [List.length_append, List.length_take, List.length_drop]
  omega

theorem OwnAt.atN {w : World} {v : Value} {e : TypeId} {s : Nat} {xs : List Value} {n k : Nat} (h : OwnAt w v e s xs n) (hk : k < n) (kk : IntKind) :
    ∃ b o, slB v = [b] ∧ (∀ K : VPost, K (.pointer (some ⟨b, o, none⟩)) w → idxW (some (none, s)) v (.int kk k) w K) ∧
    (∀ (K : VPost), K (.agg ((xs.drop (k * s)).take s).toArray) w → loadW (some (true, s)) (.pointer (some ⟨b, o, none⟩)) w K) ∧
    (∀ (g : Bool) (vs : List Value) (K : World → Prop), vs.length = s → (∀ x ∈ vs, x.oneCell' = true) → (∀ w', Ext [b] w w' → OwnAt w' v e s (lspl xs (k * s) vs) n → K w') → storeW (some (g, s)) (.pointer (some ⟨b, o, none⟩)) (.agg vs.toArray) w K) := by
  have hks : k * s + s ≤ n * s := by
    have := Nat.mul_le_mul_right s (show k + 1 ≤ n from hk)
    rwa [Nat.add_mul, Nat.one_mul] at this
  rcases h with ⟨rfl, rfl, rfl⟩ | ⟨b, o, c, cs, rfl, hb, hl, ht, hc, hn⟩
  · omega
  · have hcs : n * s ≤ c * s := Nat.mul_le_mul_right s hn
    refine ⟨b, o + k * s, rfl, fun K hK => idx_i hk hK, fun K hK => loadN hb.r (by omega) ?_, fun g vs K hv h1 hK => storeW_i hb rfl hv (by omega) h1 fun w' e' hb' _ => hK w' e' (.inr ⟨b, o, c, _, rfl, hb', ?_, ?_, ?_, hn⟩)⟩
    · rw [at_part ht hks]; exact hK
    · rw [lspl_len _ _ _ (by omega)]; exact hl
    · apply List.ext_getElem?
      intro j
      rw [List.getElem?_take, List.getElem?_drop, lspl_at _ _ _ _ (by omega), lspl_at _ _ _ _ (by omega)]
      have hx : j < n * s → xs[j]? = cs[o + j]? := fun hj => by rw [← ht, List.getElem?_take, if_pos hj, List.getElem?_drop]
      have hx2 : ¬ j < n * s → xs[j]? = none := fun hj => by rw [List.getElem?_eq_none]; omega
      by_cases hj : j < n * s
      · rw [if_pos hj, hx hj]
        by_cases h2 : j < k * s
        · rw [if_pos h2, if_pos (by omega)]
        · rw [if_neg h2, if_neg (by omega)]
          by_cases h3 : j < k * s + vs.length
          · rw [if_pos h3, if_pos (by omega)]
            congr 1
            omega
          · rw [if_neg h3, if_neg (by omega)]
      · rw [if_neg hj, if_neg (by omega), if_neg (by omega), hx2 hj]
    · rw [lspl_len _ _ _ (by omega)]; exact hc

/-- Digests one behind the other, as cells. -/
def fl (ds : List Bytes) : List Value := ds.flatMap bc
theorem fl_get {ds : List Bytes} (hd : ∀ d ∈ ds, d.length = 32) {i : Nat} (h : i < ds.length) : ((fl ds).drop (i * 32)).take 32 = bc ds[i] :=
  flat_get bc 32 ds (fun d hm => by rw [bc_length]; exact hd d hm) i h
theorem fl_len {ds : List Bytes} (hd : ∀ d ∈ ds, d.length = 32) : (fl ds).length = ds.length * 32 := flat_len bc 32 ds (fun d hm => by rw [bc_length]; exact hd d hm)
theorem fl_append (a b : List Bytes) : fl (a ++ b) = fl a ++ fl b := by simp [fl]
theorem fl_set {ds : List Bytes} (hd : ∀ d ∈ ds, d.length = 32) {i : Nat} (h : i < ds.length) {x : Bytes} (hx : x.length = 32) : lspl (fl ds) (i * 32) (bc x) = fl (ds.set i x) := by
  have hsp : ds = ds.take i ++ ds[i] :: ds.drop (i + 1) := by rw [← List.drop_eq_getElem_cons h, List.take_append_drop]
  have h1 : (fl (ds.take i)).length = i * 32 := by rw [fl_len (fun d hm => hd d (List.mem_of_mem_take hm)), List.length_take, Nat.min_eq_left (by omega)]
  have h2 : ds.set i x = ds.take i ++ x :: ds.drop (i + 1) := by rw [List.set_eq_take_append_cons_drop, if_pos h]
  have h3 : fl ds = fl (ds.take i) ++ (bc ds[i] ++ fl (ds.drop (i + 1))) := by
    conv => lhs; rw [hsp]
    rw [fl_append]; rfl
  have h4 : (bc ds[i]).length = 32 := by rw [bc_length]; exact hd _ (List.getElem_mem h)
  rw [h2, fl_append, h3]
  unfold lspl
  rw [← h1, List.take_left, bc_length, hx, List.append_assoc]
  congr 1
  show bc x ++ _ = bc x ++ fl (ds.drop (i + 1))
  congr 1
  rw [List.drop_append, List.drop_of_length_le (by omega), List.nil_append, show (fl (ds.take i)).length + 32 - (fl (ds.take i)).length = 32 by omega, ← h4, List.drop_left]
end Go.Proofs.Ytedebapgmfnflaa
