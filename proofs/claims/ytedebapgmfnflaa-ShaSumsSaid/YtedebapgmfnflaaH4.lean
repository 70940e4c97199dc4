/- Rows: slices of slices of bytes, that are read; one-cell elements of a slice. -/
import Derived.Test.YtedebapgmfnflaaH3
import Derived.Test.YtedebapgmfnflaaD6
namespace Go.Proofs.Ytedebapgmfnflaa
open Go

/-- An element of one cell. -/
theorem RdSl.get1 {w : World} {v : Value} {ys : List Value} {i m : Nat} (h : RdSl w v 1 ys m) (hi : i < ys.length) (k : IntKind) :
    ∃ b o, (∀ K : VPost, K (.pointer (some ⟨b, o, none⟩)) w → idxW (some (none, 1)) v (.int k i) w K) ∧ (∀ K : VPost, K ys[i] w → loadW (some (false, 1)) (.pointer (some ⟨b, o, none⟩)) w K) := by
  obtain ⟨hl, ⟨h0, _⟩ | ⟨b, o, c, cs, rfl, hb, h1, h2⟩⟩ := h
  · rw [h0] at hi; simp at hi
  · refine ⟨b, o + i * 1, fun K hK => idx_i (by omega) hK, fun K hK => load1 hb ?_ hK⟩
    have h3 : ys[i]? = some ys[i] := List.getElem?_eq_getElem hi
    rw [← h3, ← h1, List.getElem?_take, if_pos (by omega), List.getElem?_drop, Nat.mul_one]

/-- The rows that headers head. -/
def RowsL (w : World) : List Value → List Bytes → Prop
  | [], [] => True
  | h :: hs, l :: ls => (RdSl w h 1 (bc l) l.length ∧ capOk h) ∧ RowsL w hs ls
  | _, _ => False
def rowsF : List Value → List Bytes → List Nat
  | h :: hs, l :: ls => rdB h (bc l) ++ rowsF hs ls
  | _, _ => []
theorem RowsL.length {w : World} : ∀ {hs : List Value} {ls : List Bytes}, RowsL w hs ls → hs.length = ls.length
  | [], [], _ => rfl
  | _ :: hs, _ :: ls, h => by simp [RowsL.length h.2]
theorem RowsL.get {w : World} : ∀ {hs : List Value} {ls : List Bytes}, RowsL w hs ls → ∀ (i : Nat) (h1 : i < hs.length) (h2 : i < ls.length), RdSl w hs[i] 1 (bc ls[i]) ls[i].length ∧ capOk hs[i]
  | _ :: _, _ :: _, h, 0, _, _ => h.1
  | _ :: hs, _ :: ls, h, i + 1, h1, h2 => RowsL.get h.2 i (by simpa using h1) (by simpa using h2)
theorem rowsF_get : ∀ {hs : List Value} {ls : List Bytes} (i : Nat) (h1 : i < hs.length) (h2 : i < ls.length), ∀ b ∈ rdB hs[i] (bc ls[i]), b ∈ rowsF hs ls
  | _ :: _, _ :: _, 0, _, _, b, hb => List.mem_append_left _ hb
  | _ :: hs, _ :: ls, i + 1, h1, h2, b, hb => List.mem_append_right _ (rowsF_get i (by simpa using h1) (by simpa using h2) b hb)
theorem RowsL.lt {w : World} : ∀ {hs : List Value} {ls : List Bytes}, RowsL w hs ls → ∀ b ∈ rowsF hs ls, b < w.heap.size
  | [], [], _, b, hb => by simp [rowsF] at hb
  | h :: hs, l :: ls, hh, b, hb => by
    rcases List.mem_append.1 hb with hb | hb
    · exact (rR h 1 (bc l) l.length).lt hh.1.1 b hb
    · exact RowsL.lt hh.2 b hb
theorem RowsL.keep {w w' : World} {S : List Nat} (e : Ext S w w') : ∀ {hs : List Value} {ls : List Bytes}, RowsL w hs ls → (∀ b ∈ rowsF hs ls, b ∉ S) → RowsL w' hs ls
  | [], [], _, _ => trivial
  | h :: hs, l :: ls, hh, hd => ⟨⟨(rR h 1 (bc l) l.length).keep hh.1.1 e (fun b hb => hd b (List.mem_append_left _ hb)), hh.1.2⟩, RowsL.keep e hh.2 (fun b hb => hd b (List.mem_append_right _ hb))⟩
theorem RowsL.append {w : World} {h : Value} {l : Bytes} (h1 : RdSl w h 1 (bc l) l.length) (h2 : capOk h) : ∀ {hs : List Value} {ls : List Bytes}, RowsL w hs ls → RowsL w (hs ++ [h]) (ls ++ [l])
  | [], [], _ => ⟨⟨h1, h2⟩, trivial⟩
  | _ :: _, _ :: _, hh => ⟨hh.1, RowsL.append h1 h2 hh.2⟩

/-- A slice of rows that is read. -/
def RowsR (w : World) (v : Value) (hs : List Value) (ls : List Bytes) : Prop := RdSl w v 1 hs hs.length ∧ RowsL w hs ls
def rW (v : Value) (hs : List Value) (ls : List Bytes) : Res :=
  ⟨rdB v hs ++ rowsF hs ls, fun w => RowsR w v hs ls, fun h b hb => by
    rcases List.mem_append.1 hb with hb | hb
    · exact (rR v 1 hs hs.length).lt h.1 b hb
    · exact h.2.lt b hb, fun h e hd => ⟨(rR v 1 hs hs.length).keep h.1 e (fun b hb => hd b (List.mem_append_left _ hb)), h.2.keep e (fun b hb => hd b (List.mem_append_right _ hb))⟩⟩
theorem RowsR.len {w : World} {v : Value} {hs : List Value} {ls : List Bytes} (h : RowsR w v hs ls) : ∃ a c, v = .slice a ls.length c := by
  obtain ⟨a, c, e⟩ := h.1.len
  exact ⟨a, c, by rw [e, h.2.length]⟩
/-- A row. -/
theorem RowsR.elem {w : World} {v : Value} {hs : List Value} {ls : List Bytes} (h : RowsR w v hs ls) {i : Nat} (hi : i < ls.length) (k : IntKind) :
    ∃ b o r, (∀ K : VPost, K (.pointer (some ⟨b, o, none⟩)) w → idxW (some (none, 1)) v (.int k i) w K) ∧ (∀ K : VPost, K r w → loadW (some (false, 1)) (.pointer (some ⟨b, o, none⟩)) w K) ∧
      RdSl w r 1 (bc ls[i]) ls[i].length ∧ capOk r ∧ ∀ c ∈ rdB r (bc ls[i]), c ∈ rdB v hs ++ rowsF hs ls := by
  have hl := h.2.length
  obtain ⟨b, o, h1, h2⟩ := h.1.get1 (i := i) (by omega) k
  obtain ⟨h3, h4⟩ := h.2.get i (by omega) hi
  exact ⟨b, o, _, h1, h2, h3, h4, fun c hc => List.mem_append_right _ (rowsF_get i (by omega) hi c hc)⟩
end Go.Proofs.Ytedebapgmfnflaa
