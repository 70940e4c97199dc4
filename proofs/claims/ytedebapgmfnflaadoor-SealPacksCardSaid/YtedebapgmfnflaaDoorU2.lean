/- Torn sectors, changed sectors, records one behind the other: plain laws. -/
import Derived.Test.YtedebapgmfnflaaDoorU1
namespace Go.Proofs.YtedebapgmfnflaaDoor
open Go
set_option maxRecDepth 100000

theorem whole_ends {b : Bytes} (h : wholeB b = true) : b.take 8 = b.drop 56 := by
  unfold wholeB at h
  rw [Bool.and_eq_true, Bool.and_eq_true] at h
  exact of_decide_eq_true h.2.1
theorem mark_gen {b : Bytes} (hb : b.length = 64) (h : wholeB b = true) : b.take 4 = beP 4 (markB b).1 := by
  unfold markB
  rw [if_pos h]
  exact (beP_beN (by rw [List.length_take]; omega)).symm

/-- A sector of which neither end has a generation, over which one of that generation is written and torn, isn't whole with that generation, unless it is as it was to be. -/
theorem torn_whole {old b x : Bytes} (ho : old.length = 64) (hb : b.length = 64) (hw : wholeB b = true) (h1 : old.take 4 ≠ b.take 4) (h2 : (old.drop 56).take 4 ≠ b.take 4) {k : Nat} (hk : k ≤ 64)
    (hx : x = b.take k ++ old.drop k ∨ x = old.take k ++ b.drop k) (hxw : wholeB x = true) (hg : x.take 4 = b.take 4) : x = b := by
  have e8 := whole_ends hw
  have x8 := whole_ends hxw
  have hxl : x.length = 64 := by
    rcases hx with rfl | rfl
    · rw [List.length_append, List.length_take, List.length_drop]; omega
    · rw [List.length_append, List.length_take, List.length_drop]; omega
  have x56 : (x.drop 56).take 4 = b.take 4 := by
    rw [← x8, List.take_take]; exact hg
  rcases hx with hx | hx
  · by_cases hk56 : k ≤ 56
    · have : x.drop 56 = old.drop 56 := by
        rw [hx, List.drop_append, List.drop_of_length_le (by rw [List.length_take]; omega), List.nil_append, List.drop_drop, List.length_take]
        congr 1
        omega
      rw [this] at x56
      exact absurd x56 h2
    · have t : ∀ m, m ≤ 57 → x.take m = b.take m := by
        intro m hm
        rw [hx, List.take_append_of_le_length (by rw [List.length_take]; omega), List.take_take, Nat.min_eq_left (by omega)]
      have d : x.drop 56 = b.drop 56 := by rw [← x8, ← e8, t 8 (by omega)]
      rw [← List.take_append_drop 56 x, t 56 (by omega), d, List.take_append_drop]
  · by_cases hk4 : 4 ≤ k
    · have : x.take 4 = old.take 4 := by
        rw [hx, List.take_append_of_le_length (by rw [List.length_take]; omega), List.take_take, Nat.min_eq_left (by omega)]
      rw [this] at hg
      exact absurd hg h1
    · have d : x.drop 4 = b.drop 4 := by
        rw [hx, List.drop_append, List.drop_of_length_le (by rw [List.length_take]; omega), List.nil_append, List.drop_drop, List.length_take]
        congr 1
        omega
      rw [← List.take_append_drop 4 x, hg, d, List.take_append_drop]

/-- A sector of a record of which one byte is another one makes another record, or none. -/
theorem changed_other {g n : Nat} {r : Bytes} {l : List Bytes} (hl : ∀ b ∈ l, b.length = 64) (hg : g < 2 ^ 32) (hk : l.length = needN r.length) (hne : l ≠ packB g n r) (r' : Bytes) (k : Nat) (h : unpackB l g n = some (r', k)) : r' ≠ r := by
  rintro rfl
  obtain ⟨⟨⟨_, _, h3⟩, _⟩, _⟩ := (unpack_iff hl hg r' k).1 h
  rw [← hk, List.take_length] at h3
  exact hne h3

def rowsB (g : Nat) : Nat → List Bytes → List Bytes
  | _, [] => []
  | n, r :: rs => packB g n r ++ rowsB g (n + needN r.length) rs
theorem rowsB_snoc (g : Nat) : ∀ (n : Nat) (rs : List Bytes) (r : Bytes), rowsB g n (rs ++ [r]) = rowsB g n rs ++ packB g (n + (rowsB g n rs).length) r
  | n, [], r => by simp [rowsB]
  | n, x :: rs, r => by
    rw [List.cons_append, rowsB, rowsB_snoc, rowsB, List.append_assoc, List.length_append, packB_length, Nat.add_assoc]
theorem packB_64 (g n : Nat) (r : Bytes) : ∀ b ∈ packB g n r, b.length = 64 := by
  intro b hb
  obtain ⟨i, _, rfl⟩ := List.mem_map.1 hb
  exact secB_length _ _ (partB_le _ _)
theorem rowsB_64 (g : Nat) : ∀ (n : Nat) (rs : List Bytes), ∀ b ∈ rowsB g n rs, b.length = 64
  | _, [], b, hb => by simp [rowsB] at hb
  | n, r :: rs, b, hb => by
    rw [rowsB, List.mem_append] at hb
    rcases hb with hb | hb
    · exact packB_64 _ _ _ b hb
    · exact rowsB_64 g _ rs b hb
theorem rowsB_take (g : Nat) (n : Nat) (rs : List Bytes) (i : Nat) : rowsB g n rs = rowsB g n (rs.take i) ++ rowsB g (n + (rowsB g n (rs.take i)).length) (rs.drop i) := by
  induction i generalizing n rs with
  | zero => simp [rowsB]
  | succ i ih =>
    cases rs with
    | nil => simp [rowsB]
    | cons r rs =>
      rw [List.take_succ_cons, List.drop_succ_cons, rowsB, rowsB, ih, List.append_assoc, List.length_append, packB_length, Nat.add_assoc]
end Go.Proofs.YtedebapgmfnflaaDoor
