/- Digests in rising order, each once: plain laws. -/
import Derived.Test.YtedebapgmfnflaaQ1
import Derived.Test.YtedebapgmfnflaaM3
namespace Go.Proofs.Ytedebapgmfnflaa
open Go
set_option maxRecDepth 100000

theorem cmp_lt : ∀ (x y : Bytes), Lib.compareBytes x y < 0 ↔ x < y
  | [], [] => by simp [Lib.compareBytes]
  | [], _ :: _ => by simp [Lib.compareBytes]
  | _ :: _, [] => by simp [Lib.compareBytes]
  | a :: x, b :: y => by
    rw [Lib.compareBytes, List.cons_lt_cons_iff, ← cmp_lt x y]
    by_cases h1 : a < b
    · rw [if_pos h1]; simp [h1]
    · rw [if_neg h1]
      by_cases h2 : b < a
      · rw [if_pos h2]
        refine ⟨fun h => by simp at h, fun h => ?_⟩
        rcases h with h | ⟨rfl, _⟩
        · exact absurd h h1
        · exact absurd h2 h1
      · have he : a = b := UInt8.le_antisymm (UInt8.not_lt.1 h2) (UInt8.not_lt.1 h1)
        subst he
        rw [if_neg h2]
        simp [h1]
theorem dlt_str : dlt = Sort.ltStr := by
  funext x y
  unfold dlt Sort.ltStr
  exact decide_eq_decide.2 (cmp_lt x y)
theorem swo_dlt : Sort.SWO dlt := dlt_str ▸ Sort.swo_ltStr

/-- Rising, each once. -/
def rise (l : List Bytes) : Prop := l.Pairwise fun x y => x < y
theorem rise_unique : ∀ {a b : List Bytes}, rise a → rise b → (∀ x, x ∈ a ↔ x ∈ b) → a = b
  | [], [], _, _, _ => rfl
  | [], y :: b, _, _, h => by have := (h y).2 (by simp); cases this
  | x :: a, [], _, _, h => by have := (h x).1 (by simp); cases this
  | x :: a, y :: b, ha, hb, h => by
    obtain ⟨ha1, ha2⟩ := List.pairwise_cons.1 ha
    obtain ⟨hb1, hb2⟩ := List.pairwise_cons.1 hb
    have hxy : x = y := by
      rcases List.mem_cons.1 ((h x).1 (by simp)) with e | e
      · exact e
      · rcases List.mem_cons.1 ((h y).2 (by simp)) with e' | e'
        · exact e'.symm
        · exact absurd (List.lt_trans (hb1 x e) (ha1 y e')) (List.lt_irrefl _)
    subst hxy
    congr 1
    refine rise_unique ha2 hb2 fun z => ⟨fun hz => ?_, fun hz => ?_⟩
    · rcases List.mem_cons.1 ((h z).1 (by simp [hz])) with e | e
      · subst e; exact absurd (ha1 z hz) (List.lt_irrefl _)
      · exact e
    · rcases List.mem_cons.1 ((h z).2 (by simp [hz])) with e | e
      · subst e; exact absurd (hb1 z hz) (List.lt_irrefl _)
      · exact e

/-- What slices.Compact leaves of the first so many. -/
def cplN (xs : List Bytes) : Nat → List Bytes
  | 0 => []
  | j + 1 => if 0 < j ∧ xs.getD j [] = xs.getD (j - 1) [] then cplN xs j else cplN xs j ++ [xs.getD j []]
theorem cplN_le (xs : List Bytes) (j : Nat) : (cplN xs j).length ≤ j := by
  induction j with
  | zero => simp [cplN]
  | succ j ih =>
    rw [cplN]
    split
    · omega
    · rw [List.length_append, List.length_singleton]; omega
theorem cplN_one (xs : List Bytes) : cplN xs 1 = [xs.getD 0 []] := by simp [cplN]
theorem getD_at (xs : List Bytes) (i : Nat) (h : i < xs.length) : xs.getD i [] = xs[i] := by
  rw [List.getD_eq_getElem?_getD, List.getElem?_eq_getElem h]; rfl

theorem cplN_ok (xs : List Bytes) (hs : ∀ i k (hi : i < xs.length) (hk : k < xs.length), i < k → ¬ xs[k] < xs[i]) : ∀ j, j ≤ xs.length → rise (cplN xs j) ∧ (∀ x, x ∈ cplN xs j ↔ x ∈ xs.take j)
  | 0, _ => by simp [cplN, rise]
  | j + 1, h => by
    have hj : j < xs.length := by omega
    obtain ⟨h1, h2⟩ := cplN_ok xs hs j (by omega)
    have htk : xs.take (j + 1) = xs.take j ++ [xs[j]] := List.take_succ_eq_append_getElem hj
    rw [cplN, htk]
    by_cases c : 0 < j ∧ xs.getD j [] = xs.getD (j - 1) []
    · rw [if_pos c]
      refine ⟨h1, fun x => ?_⟩
      rw [h2, List.mem_append, List.mem_singleton]
      refine ⟨fun h => .inl h, fun h => ?_⟩
      rcases h with h | rfl
      · exact h
      · have e := c.2
        rw [getD_at _ _ hj, getD_at _ _ (by omega)] at e
        rw [e]
        exact List.mem_take_iff_getElem.2 ⟨j - 1, by omega, rfl⟩
    · rw [if_neg c, getD_at _ _ hj]
      refine ⟨?_, fun x => by rw [List.mem_append, List.mem_append, h2]⟩
      unfold rise
      rw [List.pairwise_append]
      refine ⟨h1, by simp, fun a ha b hb => ?_⟩
      rw [List.mem_singleton] at hb
      subst hb
      obtain ⟨i, hi, rfl⟩ := List.mem_take_iff_getElem.1 ((h2 a).1 ha)
      have hij : i < j := by omega
      have hne : xs[i] ≠ xs[j] := by
        intro e
        refine c ⟨by omega, ?_⟩
        rw [getD_at _ _ hj, getD_at _ _ (by omega)]
        by_cases hi1 : i = j - 1
        · subst hi1; exact e.symm
        · have a1 := hs i (j - 1) (by omega) (by omega) (by omega)
          have a2 := hs (j - 1) j (by omega) hj (by omega)
          rw [e] at a1
          exact List.le_antisymm (List.not_lt.1 a1) (List.not_lt.1 a2)
      have hle := List.not_lt.1 (hs i j (by omega) hj hij)
      by_cases hlt : xs[i] < xs[j]
      · exact hlt
      · exact absurd (List.le_antisymm hle (List.not_lt.1 hlt)) hne

/-- What Sort answers. -/
def sortD (ds : List Bytes) : List Bytes := cplN (Sort.sort dlt ds.toArray).toList ds.length
theorem sortD_ok (ds : List Bytes) : rise (sortD ds) ∧ ∀ x, x ∈ sortD ds ↔ x ∈ ds := by
  obtain ⟨⟨p1, _, p3⟩, p4⟩ := Sort.sort_sorts dlt swo_dlt ds.toArray
  generalize hr : Sort.sort dlt ds.toArray = r at *
  have hsz : r.toList.length = ds.length := by rw [Array.length_toList, p1, List.size_toArray]
  have hperm : r.toList.Perm ds := by
    have e1 : (r.extract 0 ds.toArray.size).toList = r.toList := by rw [← p1]; simp
    have e2 : (ds.toArray.extract 0 ds.toArray.size).toList = ds := by simp
    rw [e1, e2] at p3
    exact p3
  unfold sortD
  rw [hr, ← hsz]
  obtain ⟨h1, h2⟩ := cplN_ok r.toList (fun i k hi hk hik hlt => by
    have hkr : k < r.size := by rw [Array.length_toList] at hk; exact hk
    have h := p4 i k (Nat.zero_le _) hik (by rw [← p1]; exact hkr)
    rw [arr_get r k hkr, arr_get r i (by omega)] at h
    unfold dlt at h
    rw [decide_eq_false_iff_not, cmp_lt] at h
    exact h hlt) r.toList.length (Nat.le_refl _)
  refine ⟨h1, fun x => ?_⟩
  rw [h2, List.take_length]
  exact hperm.mem_iff
theorem sortD_of {ds l : List Bytes} (h : rise l) (hm : ∀ x, x ∈ l ↔ x ∈ ds) : sortD ds = l :=
  rise_unique (sortD_ok ds).1 h fun x => ((sortD_ok ds).2 x).trans (hm x).symm
theorem sortD_mem {a b : List Bytes} (h : ∀ x, x ∈ a ↔ x ∈ b) : sortD a = sortD b :=
  sortD_of (sortD_ok b).1 fun x => ((sortD_ok b).2 x).trans (h x).symm
theorem sortD_self {l : List Bytes} (h : rise l) : sortD l = l := sortD_of h fun _ => .rfl
end Go.Proofs.Ytedebapgmfnflaa
