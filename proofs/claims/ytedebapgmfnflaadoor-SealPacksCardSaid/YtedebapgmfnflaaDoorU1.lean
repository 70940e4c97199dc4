/- Records of sectors: plain laws. What Unpack tells, and when. -/
import Derived.Test.YtedebapgmfnflaaDoorU0
namespace Go.Proofs.YtedebapgmfnflaaDoor
open Go
set_option maxRecDepth 100000

def okS (g n : Nat) (b : Bytes) : Bool := wholeB b && (decide ((markB b).1 = g) && decide ((markB b).2.1 = n))
/-- The bytes of sectors of a generation, from a number on, up to the first that is none of these, or has room left. -/
def gatherB (g n : Nat) : List Bytes → Bytes → Nat → Bytes × Nat
  | [], acc, i => (acc, i)
  | b :: r, acc, i => if okS g (n + i) b then
      if (dataB b).length < 46 ∨ 2034 ≤ (acc ++ dataB b).length then (acc ++ dataB b, i + 1) else gatherB g n r (acc ++ dataB b) (i + 1)
    else (acc, i)
def unpackB (l : List Bytes) (g n : Nat) : Option (Bytes × Nat) :=
  match l with
  | [] => none
  | b :: _ =>
    if (dataB b).length < 2 then none else
    let m := beN ((dataB b).take 2)
    let k := needN m
    if k = 0 ∨ l.length < k then none else
    let p := gatherB g n (l.take k) [] 0
    if p.2 ≠ k ∨ p.1.length ≠ m + 34 ∨ sealB ((p.1.drop 2).take m) ≠ p.1 then none else some ((p.1.drop 2).take m, k)
def refUnpackB (l : List Bytes) (g n : Nat) : Option (Bytes × Nat) :=
  match l with
  | [] => none
  | b :: _ =>
    if (dataB b).length < 2 then none else
    let m := beN ((dataB b).take 2)
    let k := needN m
    if k = 0 ∨ l.length < k then none else
    let a := ((l.take k).map dataB).flatten
    if a.length ≠ m + 34 then none else
    if 2 ^ 32 < n + k ∨ packB g n ((a.drop 2).take m) ≠ l.take k then none else some ((a.drop 2).take m, k)

theorem gather_all {g n : Nat} : ∀ (l : List Bytes) (acc : Bytes) (i : Nat) (out : Bytes), (∀ b ∈ l, b.length = 64) → gatherB g n l acc i = (out, i + l.length) →
    (∀ j (h : j < l.length), l[j] = secB g (n + (i + j)) (dataB l[j]) ∧ n + (i + j) < 2 ^ 32 ∧ (j + 1 < l.length → (dataB l[j]).length = 46)) ∧ out = acc ++ (l.map dataB).flatten
  | [], acc, i, out, _, h => by
    rw [gatherB] at h
    refine ⟨fun j hj => by simp at hj, ?_⟩
    have := (Prod.mk.inj h).1
    simpa using this.symm
  | b :: r, acc, i, out, hl, h => by
    rw [gatherB] at h
    by_cases hok : okS g (n + i) b = true
    · rw [if_pos hok] at h
      have hbl := hl b (by simp)
      unfold okS at hok
      rw [Bool.and_eq_true, Bool.and_eq_true] at hok
      obtain ⟨hw, h1, h2⟩ := hok
      have h1 := of_decide_eq_true h1
      have h2 := of_decide_eq_true h2
      have hs := whole_sec hbl hw
      rw [h1, h2] at hs
      have hnn : n + i < 2 ^ 32 := by
        rw [← h2]
        unfold markB
        rw [if_pos hw]
        have := beN_lt ((b.drop 4).take 4)
        rw [List.length_take, List.length_drop, hbl] at this
        exact this
      have hdl := data_le hbl
      by_cases hst : (dataB b).length < 46 ∨ 2034 ≤ (acc ++ dataB b).length
      · rw [if_pos hst] at h
        obtain ⟨e1, e2⟩ := Prod.mk.inj h
        rw [List.length_cons] at e2
        have hr : r = [] := List.eq_nil_of_length_eq_zero (by omega)
        subst hr
        refine ⟨fun j hj => ?_, ?_⟩
        · obtain rfl : j = 0 := by simpa using hj
          exact ⟨hs, hnn, fun h => by simp at h⟩
        · rw [← e1]; simp
      · rw [if_neg hst] at h
        have hst : ¬ (dataB b).length < 46 := fun h => hst (.inl h)
        have ih := gather_all r (acc ++ dataB b) (i + 1) out (fun x hx => hl x (by simp [hx])) (by rw [h, List.length_cons]; congr 1; omega)
        refine ⟨fun j hj => ?_, ?_⟩
        · cases j with
          | zero => exact ⟨hs, hnn, fun _ => by show (dataB b).length = 46; omega⟩
          | succ j =>
            have hj' : j < r.length := by simpa using hj
            obtain ⟨q1, q2, q3⟩ := ih.1 j hj'
            rw [show i + 1 + j = i + (j + 1) by omega] at q1 q2
            refine ⟨q1, q2, fun h => q3 (by simpa using h)⟩
        · rw [ih.2]; simp
    · rw [if_neg hok] at h
      have := (Prod.mk.inj h).2
      rw [List.length_cons] at this
      omega

theorem gather_sec {g n : Nat} {s : Bytes} {k : Nat} (hg : g < 2 ^ 32) (hn : n + k ≤ 2 ^ 32) (h1 : s.length ≤ 46 * k) (h2 : 46 * (k - 1) < s.length) (h3 : s.length ≤ 2034) : ∀ (m i : Nat), i + m = k →
    gatherB g n ((List.range' i m).map fun j => secB g (n + j) (partB s j)) (s.take (46 * i)) i = (s, k)
  | 0, i, hi => by
    obtain rfl : i = k := by omega
    rw [List.range'_zero, List.map_nil, gatherB, List.take_of_length_le h1]
  | m + 1, i, hi => by
    have hle := partB_le s i
    have hok : okS g (n + i) (secB g (n + i) (partB s i)) = true := by
      unfold okS
      rw [sec_whole g _ hle, sec_mark hle hg (by omega)]
      simp
    have hacc : s.take (46 * i) ++ partB s i = s.take (46 * (i + 1)) := by
      rw [Nat.mul_succ, List.take_add]; rfl
    have hpl : (partB s i).length = min 46 (s.length - 46 * i) := by rw [partB, List.length_take, List.length_drop]
    rw [List.range'_succ, List.map_cons, gatherB, if_pos hok, sec_data g _ hle, hacc, List.length_take, hpl]
    by_cases hst : min 46 (s.length - 46 * i) < 46 ∨ 2034 ≤ min (46 * (i + 1)) s.length
    · rw [if_pos hst]
      have e : i + 1 = k := by omega
      rw [e, List.take_of_length_le h1]
    · rw [if_neg hst]
      exact gather_sec hg hn h1 h2 h3 m (i + 1) (by omega)

/-- When there is a record: its sectors stand there, with numbers that there are. -/
def recOk (l : List Bytes) (g n : Nat) (r : Bytes) : Prop := recAt l g n r ∧ n + needN r.length ≤ 2 ^ 32

theorem flat46 {α : Type} : ∀ (ds : List (List α)), (∀ j (h : j < ds.length), ds[j].length ≤ 46 ∧ (j + 1 < ds.length → ds[j].length = 46)) → ∀ i (h : i < ds.length), (ds.flatten.drop (46 * i)).take 46 = ds[i]
  | [], _, i, h => by simp at h
  | d :: ds, hd, i, h => by
    have hd0 := hd 0 (by simp)
    cases i with
    | zero =>
      rw [Nat.mul_zero, List.drop_zero, List.flatten_cons]
      show _ = d
      have hle : d.length ≤ 46 := hd0.1
      by_cases he : ds = []
      · subst he
        simp only [List.flatten_nil, List.append_nil]
        exact List.take_of_length_le hle
      · have : d.length = 46 := hd0.2 (by have := List.length_pos_iff.2 he; simpa using this)
        exact List.take_left' this
    | succ i =>
      have h' : i < ds.length := by simpa using h
      have h46 : d.length = 46 := hd0.2 (by simp; omega)
      rw [List.flatten_cons, show 46 * (i + 1) = d.length + 46 * i by omega, ← List.drop_drop, List.drop_left]
      refine flat46 ds (fun j hj => ?_) i h'
      obtain ⟨a, b⟩ := hd (j + 1) (by simpa using hj)
      exact ⟨a, fun h => b (by simpa using h)⟩

theorem parts_of {l : List Bytes} {g n : Nat} {s : Bytes} (hs : (l.map dataB).flatten = s) (hl : ∀ b ∈ l, b.length = 64) (h : ∀ j (h : j < l.length), l[j] = secB g (n + j) (dataB l[j]) ∧ (j + 1 < l.length → (dataB l[j]).length = 46)) : l = (List.range l.length).map fun i => secB g (n + i) (partB s i) := by
  apply List.ext_getElem
  · simp
  · intro j h1 h2
    rw [List.getElem_map, List.getElem_range]
    have hp := flat46 (l.map dataB) (fun i hi => by
      have hi' : i < l.length := by simpa using hi
      rw [List.getElem_map]
      refine ⟨data_le (hl _ (List.getElem_mem hi')), fun h' => (h i hi').2 (by simpa using h')⟩) j (by simpa using h1)
    rw [List.getElem_map, hs] at hp
    unfold partB
    rw [hp]
    exact (h j h1).1

theorem unpack_iff {l : List Bytes} {g n : Nat} (hl : ∀ b ∈ l, b.length = 64) (hg : g < 2 ^ 32) (r : Bytes) (k : Nat) : unpackB l g n = some (r, k) ↔ recOk l g n r ∧ k = needN r.length := by
  constructor
  · intro h
    cases l with
    | nil => cases h
    | cons b t =>
      simp only [unpackB] at h
      generalize hm : beN ((dataB b).take 2) = m at *
      generalize hlist : b :: t = l at *
      by_cases c1 : (dataB b).length < 2
      · rw [if_pos c1] at h; cases h
      rw [if_neg c1] at h
      by_cases c2 : needN m = 0 ∨ l.length < needN m
      · rw [if_pos c2] at h; cases h
      rw [if_neg c2] at h
      by_cases c3 : (gatherB g n (l.take (needN m)) [] 0).2 ≠ needN m ∨ (gatherB g n (l.take (needN m)) [] 0).1.length ≠ m + 34 ∨ sealB (((gatherB g n (l.take (needN m)) [] 0).1.drop 2).take m) ≠ (gatherB g n (l.take (needN m)) [] 0).1
      · rw [if_pos c3] at h; cases h
      rw [if_neg c3] at h
      obtain ⟨rfl, rfl⟩ := Prod.mk.inj (Option.some.inj h)
      clear h
      have hkl : needN m ≤ l.length := by omega
      have htl : (l.take (needN m)).length = needN m := by rw [List.length_take]; omega
      generalize hp : gatherB g n (l.take (needN m)) [] 0 = p at *
      obtain ⟨out, used⟩ := p
      simp only [ne_eq, not_or, Decidable.not_not] at c3
      obtain ⟨e1, e2, e3⟩ := c3
      subst e1
      have hl' : ∀ b ∈ l.take (needN m), b.length = 64 := fun x hx => hl x (List.mem_of_mem_take hx)
      obtain ⟨q1, q2⟩ := gather_all _ _ _ _ hl' (by rw [hp, htl, Nat.zero_add])
      rw [List.nil_append] at q2
      have hml : ((out.drop 2).take m).length = m := by rw [List.length_take, List.length_drop]; omega
      have hm2 : m ≤ 2000 := by
        have := c2
        rw [not_or, need_zero] at this
        omega
      obtain ⟨p1, p2, p3⟩ := need_pos hm2
      have hpk := parts_of (g := g) (n := n) (s := sealB ((out.drop 2).take m)) (by rw [e3, q2]) hl' (fun j hj => ⟨by have := (q1 j hj).1; rwa [Nat.zero_add] at this, (q1 j hj).2.2⟩)
      refine ⟨⟨⟨by rw [hml]; exact hm2, by rw [hml]; exact hkl, ?_⟩, ?_⟩, by rw [hml]⟩
      · rw [packB, hml]
        rw [htl] at hpk
        exact hpk
      · rw [hml]
        have := (q1 (needN m - 1) (by omega)).2.1
        omega
  · rintro ⟨⟨hr, hn⟩, rfl⟩
    obtain ⟨b, e1, e2, e3, e4⟩ := recAt_first hr
    obtain ⟨h1, h2, h3⟩ := hr
    obtain ⟨p1, p2, p3⟩ := need_pos h1
    cases l with
    | nil => cases e1
    | cons b' t =>
      obtain rfl : b' = b := by simpa using e1
      have hsl := sealB_length r
      have hga := gather_sec (g := g) (n := n) (s := sealB r) hg hn (by omega) (by omega) (by omega) (needN r.length) 0 (by omega)
      rw [Nat.mul_zero, List.take_zero, ← List.range_eq_range'] at hga
      simp only [unpackB]
      rw [if_neg (by omega), e3, if_neg (by omega), h3]
      unfold packB
      rw [hga, if_neg]
      · rw [seal_rec]
      · simp only [ne_eq, not_true_eq_false, false_or, not_or, Decidable.not_not]
        exact ⟨hsl, by rw [seal_rec]⟩

theorem refUnpack_iff {l : List Bytes} {g n : Nat} (hg : g < 2 ^ 32) (r : Bytes) (k : Nat) : refUnpackB l g n = some (r, k) ↔ recOk l g n r ∧ k = needN r.length := by
  constructor
  · intro h
    cases l with
    | nil => cases h
    | cons b t =>
      simp only [refUnpackB] at h
      generalize hm : beN ((dataB b).take 2) = m at *
      generalize hlist : b :: t = l at *
      by_cases c1 : (dataB b).length < 2
      · rw [if_pos c1] at h; cases h
      rw [if_neg c1] at h
      by_cases c2 : needN m = 0 ∨ l.length < needN m
      · rw [if_pos c2] at h; cases h
      rw [if_neg c2] at h
      generalize (((l.take (needN m)).map dataB)).flatten = a at *
      by_cases c3 : a.length ≠ m + 34
      · rw [if_pos c3] at h; cases h
      rw [if_neg c3] at h
      by_cases c4 : 2 ^ 32 < n + needN m ∨ packB g n ((a.drop 2).take m) ≠ l.take (needN m)
      · rw [if_pos c4] at h; cases h
      rw [if_neg c4] at h
      obtain ⟨rfl, rfl⟩ := Prod.mk.inj (Option.some.inj h)
      simp only [ne_eq, not_or, Decidable.not_not] at c3 c4
      have hml : ((a.drop 2).take m).length = m := by rw [List.length_take, List.length_drop]; omega
      have hm2 : m ≤ 2000 := by
        have := c2
        rw [not_or, need_zero] at this
        omega
      exact ⟨⟨⟨by rw [hml]; exact hm2, by rw [hml]; omega, by rw [hml]; exact c4.2.symm⟩, by rw [hml]; omega⟩, by rw [hml]⟩
  · rintro ⟨⟨hr, hn⟩, rfl⟩
    obtain ⟨b, e1, e2, e3, e4⟩ := recAt_first hr
    obtain ⟨h1, h2, h3⟩ := hr
    obtain ⟨p1, p2, p3⟩ := need_pos h1
    cases l with
    | nil => cases e1
    | cons b' t =>
      obtain rfl : b' = b := by simpa using e1
      have hsl := sealB_length r
      have e : ((packB g n r).map dataB).flatten = sealB r := by
        have e : (packB g n r).map dataB = (List.range (needN r.length)).map (partB (sealB r)) := by
          rw [packB, List.map_map]
          refine List.map_congr_left fun i _ => ?_
          exact sec_data g (n + i) (partB_le (sealB r) i)
        rw [e, parts_join, List.take_of_length_le (by omega)]
      simp only [refUnpackB]
      rw [if_neg (by omega), e3, if_neg (by omega), h3, e, if_neg (by omega), seal_rec, if_neg]
      simp only [ne_eq, not_true_eq_false, or_false]
      omega
theorem unpack_ref {l : List Bytes} {g n : Nat} (hl : ∀ b ∈ l, b.length = 64) (hg : g < 2 ^ 32) : unpackB l g n = refUnpackB l g n := by
  cases h : unpackB l g n with
  | none =>
    cases h' : refUnpackB l g n with
    | none => rfl
    | some p =>
      obtain ⟨r, k⟩ := p
      rw [(unpack_iff hl hg r k).2 ((refUnpack_iff hg r k).1 h')] at h
      cases h
  | some p =>
    obtain ⟨r, k⟩ := p
    rw [(refUnpack_iff hg r k).2 ((unpack_iff hl hg r k).1 h)]
/-- What is packed is unpacked, with sectors behind it. -/
theorem unpack_pack {g n : Nat} {r : Bytes} (h : r.length ≤ 2000) (hg : g < 2 ^ 32) (hn : n + needN r.length ≤ 2 ^ 32) (more : List Bytes) (hm : ∀ b ∈ more, b.length = 64) : unpackB (packB g n r ++ more) g n = some (r, needN r.length) := by
  have hpl := packB_length g n r
  refine (unpack_iff (fun b hb => ?_) hg r _).2 ⟨⟨⟨h, by rw [List.length_append]; omega, ?_⟩, hn⟩, rfl⟩
  · rcases List.mem_append.1 hb with hb | hb
    · obtain ⟨i, _, rfl⟩ := List.mem_map.1 hb
      exact secB_length _ _ (partB_le _ _)
    · exact hm b hb
  · rw [← hpl, List.take_left]
end Go.Proofs.YtedebapgmfnflaaDoor
