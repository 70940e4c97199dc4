/- Sealed sectors: plain laws. What is packed, and when sectors are a record's. -/
import Derived.Test.YtedebapgmfnflaaDoorSC
namespace Go.Proofs.YtedebapgmfnflaaDoor
open Go
set_option maxRecDepth 100000

/-- A number as so many bytes, the greatest first. -/
def beP : Nat → Nat → Bytes
  | 0, _ => []
  | k + 1, n => UInt8.ofNat (n >>> (8 * k)) :: beP k n
def beN (b : Bytes) : Nat := b.foldl (fun n c => n * 256 + c.toNat) 0
theorem beP_length (k n : Nat) : (beP k n).length = k := by
  induction k with
  | zero => rfl
  | succ k ih => simp [beP, ih]
theorem beF (b : Bytes) (z : Nat) : b.foldl (fun n c => n * 256 + c.toNat) z = z * 256 ^ b.length + beN b := by
  induction b generalizing z with
  | nil => simp [beN]
  | cons c r ih =>
    unfold beN
    rw [List.foldl_cons, List.foldl_cons, ih, ih (0 * 256 + c.toNat), List.length_cons, Nat.pow_succ, Nat.add_mul, Nat.zero_mul, Nat.zero_add, Nat.mul_assoc, Nat.mul_comm 256]
    omega
theorem beN_cons (c : UInt8) (r : Bytes) : beN (c :: r) = c.toNat * 256 ^ r.length + beN r := by
  have := beF r (0 * 256 + c.toNat)
  unfold beN
  rw [List.foldl_cons, this, Nat.zero_mul, Nat.zero_add]
  rfl
theorem beN_snoc (b : Bytes) (c : UInt8) : beN (b ++ [c]) = beN b * 256 + c.toNat := by simp [beN]
theorem beN_lt (b : Bytes) : beN b < 256 ^ b.length := by
  induction b with
  | nil => decide
  | cons c r ih =>
    rw [beN_cons, List.length_cons, Nat.pow_succ]
    have := c.toNat_lt
    have h2 : (c.toNat + 1) * 256 ^ r.length ≤ 256 * 256 ^ r.length := Nat.mul_le_mul_right _ (by omega)
    rw [Nat.add_mul, Nat.one_mul] at h2
    rw [Nat.mul_comm (256 ^ r.length)]
    omega
theorem beN_beP (k n : Nat) : beN (beP k n) = n % 256 ^ k := by
  induction k with
  | zero => simp [beP, beN, Nat.mod_one]
  | succ k ih =>
    rw [beP, beN_cons, beP_length, ih, Nat.pow_succ, Nat.mod_mul, UInt8.toNat_ofNat', Nat.shiftRight_eq_div_pow, Nat.pow_mul, Nat.mul_comm (256 ^ k)]
    exact Nat.add_comm _ _
theorem beN_inj : ∀ {a b : Bytes}, a.length = b.length → beN a = beN b → a = b
  | [], [], _, _ => rfl
  | c :: a, d :: b, hl, h => by
    have hl' : a.length = b.length := by simpa using hl
    rw [beN_cons, beN_cons, ← hl'] at h
    have ha := beN_lt a
    have hb := beN_lt b
    rw [← hl'] at hb
    have hp : 0 < 256 ^ a.length := Nat.pow_pos (by decide)
    generalize 256 ^ a.length = p at *
    have e1 : (c.toNat * p + beN a) / p = c.toNat := by rw [Nat.mul_comm, Nat.mul_add_div hp, Nat.div_eq_of_lt ha, Nat.add_zero]
    have e2 : (d.toNat * p + beN b) / p = d.toNat := by rw [Nat.mul_comm, Nat.mul_add_div hp, Nat.div_eq_of_lt hb, Nat.add_zero]
    have e : c.toNat = d.toNat := by rw [← e1, ← e2, h]
    rw [e] at h
    rw [UInt8.toNat_inj.1 e, beN_inj hl' (by omega)]
  | [], _ :: _, hl, _ => by simp at hl
  | _ :: _, [], hl, _ => by simp at hl
theorem beP_beN {k : Nat} {l : Bytes} (h : l.length = k) : beP k (beN l) = l := by
  refine beN_inj (by rw [beP_length, h]) ?_
  have := beN_lt l
  rw [h] at this
  rw [beN_beP, Nat.mod_eq_of_lt this]
theorem beP_inj {k m n : Nat} (hm : m < 256 ^ k) (hn : n < 256 ^ k) (h : beP k m = beP k n) : m = n := by
  have := congrArg beN h
  rwa [beN_beP, beN_beP, Nat.mod_eq_of_lt hm, Nat.mod_eq_of_lt hn] at this

/-! ### sectors -/
def mkB (g n : Nat) : Bytes := beP 4 g ++ beP 4 n
theorem mkB_length (g n : Nat) : (mkB g n).length = 8 := by simp [mkB, beP_length]
def secB (g n : Nat) (d : Bytes) : Bytes := mkB g n ++ (beP 2 d.length ++ (d ++ (List.replicate (46 - d.length) 0 ++ mkB g n)))
theorem secB_length (g n : Nat) {d : Bytes} (h : d.length ≤ 46) : (secB g n d).length = 64 := by
  simp only [secB, List.length_append, mkB_length, beP_length, List.length_replicate]
  omega
def cntB (b : Bytes) : Nat := beN ((b.drop 8).take 2)
def wholeB (b : Bytes) : Bool := decide (cntB b ≤ 46) && (decide (b.take 8 = b.drop 56) && ((b.take 56).drop (10 + cntB b)).all (· == 0))
def markB (b : Bytes) : Nat × Nat × Bool := if wholeB b then (beN (b.take 4), beN ((b.drop 4).take 4), true) else (0, 0, false)
def dataB (b : Bytes) : Bytes := if wholeB b then (b.drop 10).take (cntB b) else []

theorem sec_cnt (g n : Nat) {d : Bytes} (h : d.length ≤ 46) : cntB (secB g n d) = d.length := by
  have e : (secB g n d).drop 8 = beP 2 d.length ++ (d ++ (List.replicate (46 - d.length) 0 ++ mkB g n)) := by
    unfold secB
    exact List.drop_left' (mkB_length g n)
  unfold cntB
  rw [e, List.take_left' (beP_length 2 _), beN_beP, Nat.mod_eq_of_lt (by omega)]
theorem sec_back (g n : Nat) {d : Bytes} (h : d.length ≤ 46) : (secB g n d).take 8 = mkB g n ∧ (secB g n d).drop 56 = mkB g n ∧ (secB g n d).take 56 = mkB g n ++ (beP 2 d.length ++ (d ++ List.replicate (46 - d.length) 0)) := by
  have e : secB g n d = (mkB g n ++ (beP 2 d.length ++ (d ++ List.replicate (46 - d.length) 0))) ++ mkB g n := by simp [secB]
  have hl : (mkB g n ++ (beP 2 d.length ++ (d ++ List.replicate (46 - d.length) 0))).length = 56 := by
    simp only [List.length_append, mkB_length, beP_length, List.length_replicate]
    omega
  refine ⟨List.take_left' (mkB_length g n), ?_, ?_⟩
  · rw [e]; exact List.drop_left' hl
  · rw [e]; exact List.take_left' hl
theorem sec_whole (g n : Nat) {d : Bytes} (h : d.length ≤ 46) : wholeB (secB g n d) = true := by
  obtain ⟨h1, h2, h3⟩ := sec_back g n h
  unfold wholeB
  rw [sec_cnt g n h, h1, h2, h3]
  have e : (mkB g n ++ (beP 2 d.length ++ (d ++ List.replicate (46 - d.length) 0))).drop (10 + d.length) = List.replicate (46 - d.length) 0 := by
    have e1 : mkB g n ++ (beP 2 d.length ++ (d ++ List.replicate (46 - d.length) 0)) = (mkB g n ++ (beP 2 d.length ++ d)) ++ List.replicate (46 - d.length) 0 := by simp
    rw [e1]
    exact List.drop_left' (by simp only [List.length_append, mkB_length, beP_length]; omega)
  rw [e]
  simp [h]
theorem sec_data (g n : Nat) {d : Bytes} (h : d.length ≤ 46) : dataB (secB g n d) = d := by
  unfold dataB
  rw [sec_whole g n h, sec_cnt g n h, if_pos rfl]
  have e : (secB g n d).drop 10 = d ++ (List.replicate (46 - d.length) 0 ++ mkB g n) := by
    have e1 : secB g n d = (mkB g n ++ beP 2 d.length) ++ (d ++ (List.replicate (46 - d.length) 0 ++ mkB g n)) := by simp [secB]
    rw [e1]
    exact List.drop_left' (by simp only [List.length_append, mkB_length, beP_length])
  rw [e, List.take_left]
theorem sec_mark {g n : Nat} {d : Bytes} (h : d.length ≤ 46) (hg : g < 2 ^ 32) (hn : n < 2 ^ 32) : markB (secB g n d) = (g, n, true) := by
  obtain ⟨h1, h2, h3⟩ := sec_back g n h
  unfold markB
  rw [sec_whole g n h, if_pos rfl]
  have e1 : (secB g n d).take 4 = beP 4 g := by
    have : (secB g n d).take 4 = ((secB g n d).take 8).take 4 := by rw [List.take_take]; rfl
    rw [this, h1]
    exact List.take_left' (beP_length 4 g)
  have e2 : ((secB g n d).drop 4).take 4 = beP 4 n := by
    have : ((secB g n d).drop 4).take 4 = ((secB g n d).take 8).drop 4 := by rw [List.drop_take]
    rw [this, h1]
    exact List.drop_left' (beP_length 4 g)
  rw [e1, e2, beN_beP, beN_beP, Nat.mod_eq_of_lt hg, Nat.mod_eq_of_lt hn]
theorem whole_cnt {b : Bytes} (h : wholeB b = true) : cntB b ≤ 46 := by
  unfold wholeB at h
  rw [Bool.and_eq_true] at h
  exact of_decide_eq_true h.1
theorem data_length {b : Bytes} (hb : b.length = 64) (h : wholeB b = true) : (dataB b).length = cntB b := by
  have := whole_cnt h
  unfold dataB
  rw [if_pos h, List.length_take, List.length_drop]
  omega
theorem data_le {b : Bytes} (hb : b.length = 64) : (dataB b).length ≤ 46 := by
  by_cases h : wholeB b = true
  · rw [data_length hb h]; exact whole_cnt h
  · unfold dataB; rw [if_neg h]; simp
/-- A whole sector is that of its mark and its data. -/
theorem whole_sec {b : Bytes} (hb : b.length = 64) (h : wholeB b = true) : b = secB (markB b).1 (markB b).2.1 (dataB b) := by
  have hdl := data_length hb h
  have h' := h
  unfold wholeB at h'
  rw [Bool.and_eq_true, Bool.and_eq_true] at h'
  obtain ⟨h1, h2, h3⟩ := h'
  have h1 := of_decide_eq_true h1
  have h2 := of_decide_eq_true h2
  have em : mkB (markB b).1 (markB b).2.1 = b.take 8 := by
    unfold markB mkB
    rw [if_pos h, beP_beN (by rw [List.length_take]; omega), beP_beN (by rw [List.length_take, List.length_drop]; omega)]
    rw [show (8 : Nat) = 4 + 4 from rfl, List.take_add]
  have ez : List.replicate (46 - (dataB b).length) (0 : UInt8) = (b.take 56).drop (10 + cntB b) := by
    symm
    rw [List.eq_replicate_iff]
    refine ⟨by rw [List.length_drop, List.length_take]; omega, fun x hx => ?_⟩
    have := List.all_eq_true.1 h3 x hx
    simpa using this
  unfold secB
  rw [em, ez, hdl]
  have ec : beP 2 (cntB b) = (b.drop 8).take 2 := beP_beN (by rw [List.length_take, List.length_drop]; omega)
  have ed : dataB b = (b.drop 10).take (cntB b) := by unfold dataB; rw [if_pos h]
  rw [ec, ed]
  have e56 : (b.take 56).drop (10 + cntB b) ++ b.take 8 = b.drop (10 + cntB b) := by
    rw [h2, List.drop_take]
    have : b.drop 56 = (b.drop (10 + cntB b)).drop (56 - (10 + cntB b)) := by rw [List.drop_drop]; congr 1; omega
    rw [this, List.take_append_drop]
  rw [e56]
  have e10 : (b.drop 10).take (cntB b) ++ b.drop (10 + cntB b) = b.drop 10 := by
    rw [← List.drop_drop, List.take_append_drop]
  rw [e10]
  have e8 : (b.drop 8).take 2 ++ b.drop 10 = b.drop 8 := by
    have : b.drop 10 = (b.drop 8).drop 2 := by rw [List.drop_drop]
    rw [this, List.take_append_drop]
  rw [e8, List.take_append_drop]

/-! ### records -/
def needN (n : Nat) : Nat := if 2000 < n then 0 else (n + 79) / 46
def sealB (r : Bytes) : Bytes := beP 2 r.length ++ r ++ digest (beP 2 r.length ++ r)
theorem sealB_length (r : Bytes) : (sealB r).length = r.length + 34 := by
  have := digest_length (beP 2 r.length ++ r)
  rw [sealB, List.length_append, List.length_append, this, beP_length]
  omega
def partB (b : Bytes) (i : Nat) : Bytes := (b.drop (46 * i)).take 46
def packB (g n : Nat) (r : Bytes) : List Bytes := (List.range (needN r.length)).map fun i => secB g (n + i) (partB (sealB r) i)
theorem packB_length (g n : Nat) (r : Bytes) : (packB g n r).length = needN r.length := by simp [packB]
theorem partB_le (b : Bytes) (i : Nat) : (partB b i).length ≤ 46 := by rw [partB, List.length_take]; omega
theorem parts_join (b : Bytes) : ∀ k : Nat, ((List.range k).map (partB b)).flatten = b.take (46 * k)
  | 0 => by simp
  | k + 1 => by
    rw [List.range_succ, List.map_append, List.flatten_append, parts_join b k, Nat.mul_succ, List.take_add]
    simp [partB]
theorem need_pos {n : Nat} (h : n ≤ 2000) : 0 < needN n ∧ 46 * (needN n - 1) < n + 34 ∧ n + 34 ≤ 46 * needN n := by
  unfold needN
  rw [if_neg (by omega)]
  omega
theorem need_zero {n : Nat} : needN n = 0 ↔ 2000 < n := by
  unfold needN
  split <;> omega
theorem seal_rec (r : Bytes) : ((sealB r).drop 2).take r.length = r := by
  unfold sealB
  rw [List.append_assoc, List.drop_left' (beP_length 2 _), List.take_left]
theorem seal_len {r : Bytes} (h : r.length ≤ 2000) : beN ((sealB r).take 2) = r.length := by
  unfold sealB
  rw [List.append_assoc, List.take_left' (beP_length 2 _), beN_beP, Nat.mod_eq_of_lt (by omega)]

/-- The bytes of sectors of a generation, from a number on, up to the first that is none of these. (All parts but the last are full.) -/
def okAt (g n : Nat) (l : List Bytes) (i : Nat) : Bool :=
  match l[i]? with
  | some b => wholeB b && (decide ((markB b).1 = g) && decide ((markB b).2.1 = n + i))
  | none => false

/-- When sectors are a record's: what the program tells, and what the reference tells. -/
def recAt (l : List Bytes) (g n : Nat) (r : Bytes) : Prop := r.length ≤ 2000 ∧ needN r.length ≤ l.length ∧ l.take (needN r.length) = packB g n r
theorem recAt_first {l : List Bytes} {g n : Nat} {r : Bytes} (h : recAt l g n r) : ∃ b, l[0]? = some b ∧ dataB b = partB (sealB r) 0 ∧ beN ((dataB b).take 2) = r.length ∧ 2 ≤ (dataB b).length := by
  obtain ⟨h1, h2, h3⟩ := h
  obtain ⟨p1, p2, p3⟩ := need_pos h1
  have hg : (l.take (needN r.length))[0]? = some (secB g (n + 0) (partB (sealB r) 0)) := by rw [h3]; simp [packB, p1]
  rw [List.getElem?_take, if_pos p1] at hg
  have hd := sec_data g (n + 0) (partB_le (sealB r) 0)
  refine ⟨_, hg, hd, ?_, ?_⟩
  · rw [hd, partB, Nat.mul_zero, List.drop_zero, List.take_take]
    exact seal_len h1
  · rw [hd, partB, Nat.mul_zero, List.drop_zero, List.length_take, sealB_length]
    omega
theorem recAt_inj {l : List Bytes} {g n : Nat} {r r' : Bytes} (h : recAt l g n r) (h' : recAt l g n r') : r = r' := by
  obtain ⟨b, e1, e2, e3, e4⟩ := recAt_first h
  obtain ⟨b', e1', e2', e3', e4'⟩ := recAt_first h'
  obtain rfl : b = b' := Option.some.inj (e1.symm.trans e1')
  have hl : r.length = r'.length := e3.symm.trans e3'
  have hk := h'.2.2
  rw [← hl, h.2.2] at hk
  have key : ∀ r : Bytes, r.length ≤ 2000 → ((packB g n r).map dataB).flatten = sealB r := by
    intro r hr
    have e : (packB g n r).map dataB = (List.range (needN r.length)).map (partB (sealB r)) := by
      rw [packB, List.map_map]
      refine List.map_congr_left fun i _ => ?_
      exact sec_data g (n + i) (partB_le (sealB r) i)
    rw [e, parts_join, List.take_of_length_le]
    have := need_pos hr
    rw [sealB_length]
    omega
  have hs : sealB r = sealB r' := by rw [← key r h.1, ← key r' h'.1, hk]
  rw [← seal_rec r, hs, hl, seal_rec r']
end Go.Proofs.YtedebapgmfnflaaDoor
