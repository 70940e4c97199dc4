/- Digits, frames and their way back: plain laws. -/
import Derived.Test.YtedebapgmfnflaaK9
import Derived.Test.YtedebapgmfnflaaK3
namespace Go.Proofs.Ytedebapgmfnflaa
open Go
set_option maxRecDepth 100000

/-! ### digits -/
theorem dval_dig (n : UInt8) (h : n.toNat < 16) : dval (dig n) = n.toNat := by
  have H : ∀ k : Fin 16, dval (digs.getD k.val 0) = (k.val : Int) := by decide +kernel
  exact H ⟨n.toNat, h⟩
theorem byte_digs (b : UInt8) : ((0 : UInt8) <<< 4 ||| UInt8.ofNat (b >>> 4).toNat) <<< 4 ||| UInt8.ofNat (b &&& 15).toNat = b := by
  have H : ∀ k : Fin 256, ((0 : UInt8) <<< 4 ||| UInt8.ofNat ((UInt8.ofNat k.val) >>> 4).toNat) <<< 4 ||| UInt8.ofNat ((UInt8.ofNat k.val) &&& 15).toNat = UInt8.ofNat k.val := by decide +kernel
  have := H ⟨b.toNat, b.toNat_lt⟩
  simpa using this
theorem hexB_cons (b : UInt8) (d : Bytes) : hexB (b :: d) = dig (b >>> 4) :: dig (b &&& 15) :: hexB d := rfl
theorem fromHexL_hexB : ∀ (r pre : Bytes), fromHexL (hexB r) (2 * pre.length) (pre ++ List.replicate r.length 0) = some (pre ++ r)
  | [], pre => by simp [hexB, fromHexL]
  | b :: r, pre => by
    have h1 := dval_dig _ (hi_lt b)
    have h2 := dval_dig _ (lo_lt b)
    have e1 : 2 * pre.length / 2 = pre.length := by omega
    have e2 : (2 * pre.length + 1) / 2 = pre.length := by omega
    rw [hexB_cons, fromHexL, if_neg (by omega), fromHexL, if_neg (by omega), h1, h2, e1, e2, Int.toNat_natCast, Int.toNat_natCast, List.length_cons, List.replicate_succ]
    have g1 : (pre ++ (0 : UInt8) :: List.replicate r.length 0).getD pre.length 0 = 0 := by simp [List.getD_eq_getElem?_getD]
    have s1 : ∀ x y : UInt8, (pre ++ x :: List.replicate r.length 0).set pre.length y = pre ++ y :: List.replicate r.length 0 := by intro x y; simp
    have g2 : ∀ x : UInt8, (pre ++ x :: List.replicate r.length 0).getD pre.length 0 = x := by intro x; simp [List.getD_eq_getElem?_getD]
    rw [g1, s1, g2, s1, byte_digs]
    have ih := fromHexL_hexB r (pre ++ [b])
    rw [List.length_append, List.length_singleton, List.append_assoc, List.append_assoc] at ih
    exact ih
theorem fromHex_hexB {d : Bytes} (hd : d.length = 32) : fromHex (hexB d) = (d, true) := by
  have h := fromHexL_hexB d []
  rw [List.nil_append, List.nil_append, List.length_nil, hd] at h
  unfold fromHex
  rw [if_pos (by rw [hexB_length, hd])]
  rw [show 2 * 0 = 0 from rfl] at h
  rw [h]
theorem hexB_inj {a b : Bytes} (ha : a.length = 32) (hb : b.length = 32) : hexB a = hexB b ↔ a = b := by
  refine ⟨fun h => ?_, fun h => by rw [h]⟩
  have h1 := fromHex_hexB ha
  rw [h, fromHex_hexB hb] at h1
  exact (Prod.mk.inj h1).1.symm
theorem dig_lt (m n : UInt8) (hm : m.toNat < 16) (hn : n.toNat < 16) : (dig m < dig n ↔ m.toNat < n.toNat) ∧ (dig m = dig n ↔ m.toNat = n.toNat) := by
  have H : ∀ k j : Fin 16, (digs.getD k.val 0 < digs.getD j.val 0 ↔ k.val < j.val) ∧ (digs.getD k.val 0 = digs.getD j.val 0 ↔ k.val = j.val) := by decide +kernel
  exact H ⟨m.toNat, hm⟩ ⟨n.toNat, hn⟩
theorem byte_split (x : UInt8) : x.toNat = 16 * (x >>> 4).toNat + (x &&& 15).toNat := by
  have H : ∀ k : Fin 256, (UInt8.ofNat k.val).toNat = 16 * ((UInt8.ofNat k.val) >>> 4).toNat + ((UInt8.ofNat k.val) &&& 15).toNat := by decide +kernel
  have := H ⟨x.toNat, x.toNat_lt⟩
  simpa using this
theorem compare_hexB : ∀ (a b : Bytes), a.length = b.length → Lib.compareBytes (hexB a) (hexB b) = Lib.compareBytes a b
  | [], [], _ => rfl
  | x :: a, y :: b, h => by
    have ih := compare_hexB a b (by simpa using h)
    rw [hexB_cons, hexB_cons, Lib.compareBytes, Lib.compareBytes, Lib.compareBytes, ih]
    obtain ⟨p1, p2⟩ := dig_lt (x >>> 4) (y >>> 4) (hi_lt x) (hi_lt y)
    obtain ⟨p3, p4⟩ := dig_lt (y >>> 4) (x >>> 4) (hi_lt y) (hi_lt x)
    obtain ⟨q1, q2⟩ := dig_lt (x &&& 15) (y &&& 15) (lo_lt x) (lo_lt y)
    obtain ⟨q3, q4⟩ := dig_lt (y &&& 15) (x &&& 15) (lo_lt y) (lo_lt x)
    have hx := byte_split x
    have hy := byte_split y
    have lx := lo_lt x
    have ly := lo_lt y
    simp only [p1, p3, q1, q3, UInt8.lt_iff_toNat_lt]
    generalize (x >>> 4).toNat = m at *
    generalize (y >>> 4).toNat = n at *
    generalize (x &&& 15).toNat = p at *
    generalize (y &&& 15).toNat = q at *
    rw [hx, hy]
    by_cases h1 : m < n
    · rw [if_pos h1, if_pos (show 16 * m + p < 16 * n + q by omega)]
    · rw [if_neg h1]
      by_cases h2 : n < m
      · rw [if_pos h2, if_neg (show ¬ 16 * m + p < 16 * n + q by omega), if_pos (show 16 * n + q < 16 * m + p by omega)]
      · rw [if_neg h2]
        obtain rfl : m = n := by omega
        by_cases h3 : p < q
        · rw [if_pos h3, if_pos (show 16 * m + p < 16 * m + q by omega)]
        · rw [if_neg h3, if_neg (show ¬ 16 * m + p < 16 * m + q by omega)]
          by_cases h4 : q < p
          · rw [if_pos h4, if_pos (show 16 * m + q < 16 * m + p by omega)]
          · rw [if_neg h4, if_neg (show ¬ 16 * m + q < 16 * m + p by omega)]
  | [], _ :: _, h => by simp at h
  | _ :: _, [], h => by simp at h

theorem less_cmp : ∀ (a b : Bytes), Op.bytesLess a b = decide (Lib.compareBytes a b < 0)
  | [], [] => rfl
  | [], _ :: _ => rfl
  | _ :: _, [] => rfl
  | x :: a, y :: b => by
    rw [Op.bytesLess, Lib.compareBytes, less_cmp a b]
    by_cases h1 : x < y
    · rw [if_pos h1]; simp [h1]
    · rw [if_neg h1]
      by_cases h2 : y < x
      · have hne : (x == y) = false := by
          rw [beq_eq_false_iff_ne]
          intro e
          subst e
          exact UInt8.lt_irrefl _ h2
        rw [if_pos h2]; simp [h1, hne]
      · have he : x = y := UInt8.le_antisymm (UInt8.not_lt.1 h2) (UInt8.not_lt.1 h1)
        subst he
        rw [if_neg h2]; simp [h1]
theorem cmp_self (a : Bytes) : Lib.compareBytes a a = 0 := by
  induction a with
  | nil => rfl
  | cons x r ih => rw [Lib.compareBytes, if_neg (UInt8.lt_irrefl x), if_neg (UInt8.lt_irrefl x), ih]
theorem cmp_swap : ∀ (a b : Bytes), Lib.compareBytes b a = - Lib.compareBytes a b
  | [], [] => rfl
  | [], _ :: _ => rfl
  | _ :: _, [] => rfl
  | x :: a, y :: b => by
    rw [Lib.compareBytes, Lib.compareBytes, cmp_swap a b]
    by_cases h1 : x < y
    · rw [if_pos h1, if_neg (UInt8.lt_asymm h1), if_pos h1]; rfl
    · by_cases h2 : y < x
      · rw [if_pos h2, if_neg h1, if_pos h2]
      · rw [if_neg h1, if_neg h2, if_neg h2, if_neg h1]
theorem cmp_zero : ∀ (a b : Bytes), Lib.compareBytes a b = 0 ↔ a = b
  | [], [] => by simp [Lib.compareBytes]
  | [], _ :: _ => by simp [Lib.compareBytes]
  | _ :: _, [] => by simp [Lib.compareBytes]
  | x :: a, y :: b => by
    rw [Lib.compareBytes]
    by_cases h1 : x < y
    · rw [if_pos h1]
      refine ⟨fun h => by simp at h, fun h => ?_⟩
      have := (List.cons.inj h).1
      subst this
      exact absurd h1 (UInt8.lt_irrefl _)
    · by_cases h2 : y < x
      · rw [if_neg h1, if_pos h2]
        refine ⟨fun h => by simp at h, fun h => ?_⟩
        have := (List.cons.inj h).1
        subst this
        exact absurd h2 (UInt8.lt_irrefl _)
      · have he : x = y := UInt8.le_antisymm (UInt8.not_lt.1 h2) (UInt8.not_lt.1 h1)
        subst he
        rw [if_neg h1, if_neg h2, cmp_zero a b]
        simp
theorem cmp_three (a b : Bytes) : Lib.compareBytes a b = -1 ∨ Lib.compareBytes a b = 0 ∨ Lib.compareBytes a b = 1 := by
  induction a generalizing b with
  | nil => cases b <;> simp [Lib.compareBytes]
  | cons x r ih =>
    cases b with
    | nil => simp [Lib.compareBytes]
    | cons y b =>
      rw [Lib.compareBytes]
      split
      · simp
      · split
        · simp
        · exact ih b

/-! ### frames -/
theorem le4_leN {l : Bytes} (h : l.length = 4) : le4 (leN l) = l := by
  match l, h with
  | [a, b, c, d], _ =>
    have ha := a.toNat_lt
    have hb := b.toNat_lt
    have hc := c.toNat_lt
    have hd := d.toNat_lt
    unfold le4
    simp only [leN, Nat.shiftRight_eq_div_pow]
    congr 1
    · apply UInt8.toNat_inj.1
      rw [UInt8.toNat_ofNat']
      omega
    congr 1
    · apply UInt8.toNat_inj.1
      rw [UInt8.toNat_ofNat']
      omega
    congr 1
    · apply UInt8.toNat_inj.1
      rw [UInt8.toNat_ofNat']
      omega
    congr 1
    apply UInt8.toNat_inj.1
    rw [UInt8.toNat_ofNat']
    omega
theorem leN_le4 {n : Nat} (h : n < 2 ^ 32) : leN (le4 n) = n := by
  unfold le4
  simp only [leN, Nat.shiftRight_eq_div_pow, UInt8.toNat_ofNat']
  omega
theorem take4 (n : Nat) (r : Bytes) : (le4 n ++ r).take 4 = le4 n := rfl
theorem drop4 (n : Nat) (r : Bytes) : (le4 n ++ r).drop 4 = r := rfl
theorem frameL_cons (l : Bytes) (ls : List Bytes) : frameL (l :: ls) = le4 l.length ++ (l ++ frameL ls) := by simp [frameL]
theorem unframeL_frame : ∀ (ls : List Bytes) (r : Bytes) (acc : List Bytes), (frameL ls).length < 2 ^ 32 → unframeL ls.length (frameL ls ++ r) acc = some (acc ++ ls, r)
  | [], r, acc, _ => by simp [unframeL, frameL]
  | l :: ls, r, acc, h => by
    have h' := h
    rw [frameL_cons, List.length_append, List.length_append, le4_length] at h'
    have hl : leN (le4 l.length) = l.length := leN_le4 (by omega)
    rw [frameL_cons, List.append_assoc, List.append_assoc, List.length_cons, unframeL, take4, drop4, hl, if_neg (by rw [List.length_append, le4_length]; omega), if_neg (by rw [List.length_append]; omega), List.take_left, List.drop_left, unframeL_frame ls r (acc ++ [l]) (by omega)]
    simp
theorem unframe_frame {ls : List Bytes} (h : (frameL ls).length < 2 ^ 32) : unframe (frameB ls) = some ls := by
  have hfl := frameL_length ls
  have hl : leN (le4 ls.length) = ls.length := leN_le4 (by omega)
  have hu := unframeL_frame ls [] [] h
  rw [List.append_nil, List.nil_append] at hu
  unfold unframe frameB
  rw [take4, drop4, hl, hu, List.length_append, le4_length, if_neg (by omega), if_neg (by omega)]
theorem frameB_inj {a b : List Bytes} (ha : (frameL a).length < 2 ^ 32) (hb : (frameL b).length < 2 ^ 32) : frameB a = frameB b ↔ a = b := by
  refine ⟨fun h => ?_, fun h => by rw [h]⟩
  have h1 := unframe_frame ha
  rw [h, unframe_frame hb] at h1
  exact (Option.some.inj h1).symm
theorem unframeL_some : ∀ (n : Nat) (b : Bytes) (acc out : List Bytes) (r : Bytes), unframeL n b acc = some (out, r) → ∃ ls : List Bytes, out = acc ++ ls ∧ ls.length = n ∧ b = frameL ls ++ r
  | 0, b, acc, out, r, h => by
    rw [unframeL] at h
    obtain ⟨rfl, rfl⟩ := Prod.mk.inj (Option.some.inj h)
    exact ⟨[], by simp, rfl, by simp [frameL]⟩
  | n + 1, b, acc, out, r, h => by
    rw [unframeL] at h
    by_cases h4 : b.length < 4
    · rw [if_pos h4] at h; cases h
    · rw [if_neg h4] at h
      by_cases hk : (b.drop 4).length < leN (b.take 4)
      · rw [if_pos hk] at h; cases h
      · rw [if_neg hk] at h
        obtain ⟨ls, e1, e2, e3⟩ := unframeL_some n _ _ _ _ h
        have hb4 : (b.take 4).length = 4 := by rw [List.length_take]; omega
        have hll : ((b.drop 4).take (leN (b.take 4))).length = leN (b.take 4) := by rw [List.length_take]; omega
        refine ⟨(b.drop 4).take (leN (b.take 4)) :: ls, by rw [e1]; simp, by simp [e2], ?_⟩
        rw [frameL_cons, hll, le4_leN hb4, List.append_assoc, List.append_assoc, ← e3, List.take_append_drop, List.take_append_drop]
theorem frame_unframe {b : Bytes} {ls : List Bytes} (h : unframe b = some ls) : frameB ls = b := by
  unfold unframe at h
  by_cases h4 : b.length < 4
  · rw [if_pos h4] at h; cases h
  · rw [if_neg h4] at h
    by_cases hk : (b.length - 4) / 4 < leN (b.take 4)
    · rw [if_pos hk] at h; cases h
    · rw [if_neg hk] at h
      have hb4 : (b.take 4).length = 4 := by rw [List.length_take]; omega
      cases hu : unframeL (leN (b.take 4)) (b.drop 4) [] with
      | none => rw [hu] at h; cases h
      | some p =>
        obtain ⟨acc, r⟩ := p
        rw [hu] at h
        cases r with
        | cons x r => cases h
        | nil =>
          obtain rfl := Option.some.inj h
          obtain ⟨ls', e1, e2, e3⟩ := unframeL_some _ _ _ _ _ hu
          rw [List.nil_append] at e1
          subst e1
          rw [frameB, e2, le4_leN hb4, ← List.append_nil (frameL acc), ← e3, List.take_append_drop]
/-- Without the bound on the parts' count: it follows. -/
theorem unframe_alt (b : Bytes) : unframe b = if b.length < 4 then none else match unframeL (leN (b.take 4)) (b.drop 4) [] with
    | some (acc, []) => some acc
    | _ => none := by
  unfold unframe
  by_cases h4 : b.length < 4
  · rw [if_pos h4, if_pos h4]
  · rw [if_neg h4, if_neg h4]
    by_cases hk : (b.length - 4) / 4 < leN (b.take 4)
    · rw [if_pos hk]
      cases hu : unframeL (leN (b.take 4)) (b.drop 4) [] with
      | none => rfl
      | some p =>
        obtain ⟨acc, r⟩ := p
        obtain ⟨ls', e1, e2, e3⟩ := unframeL_some _ _ _ _ _ hu
        have hfl := frameL_length ls'
        have hb : (b.drop 4).length = b.length - 4 := List.length_drop
        rw [e3, List.length_append] at hb
        omega
    · rw [if_neg hk]
      generalize unframeL (leN (b.take 4)) (b.drop 4) [] = u
      match u with
      | none => rfl
      | some (acc, []) => rfl
      | some (acc, _ :: _) => rfl
end Go.Proofs.Ytedebapgmfnflaa
