/- Terms' plain laws: words, what is right, how many variables a term needs, spines and binders. No condition. -/
import Derived.Test.YtbaddpnlokmldaaDoorI9
namespace Go.Proofs.YtbaddpnlokmldaaDoor
open Go
set_option maxRecDepth 100000

/-! Words. -/
/-- The text of what may be no name. -/
def wordsL : List Bytes := [[80, 114, 111, 112], [84, 121, 112, 101], [102, 117, 110], [97, 108, 108], [108, 101, 116], [105, 110], [111, 102], [119, 105, 116, 104], [97, 120, 105, 111, 109], [100, 101, 102], [116, 104, 101, 111, 114, 101, 109], [102, 97, 109, 105, 108, 121], [117, 48], [117, 49], [117, 50], [117, 51]]
def reservedT : Bytes := 32 :: wordsL.flatMap fun w => w ++ [32]
/-- What the scan of a name comes to: none: it is none; else: does a part begin? -/
def scanW : Bool → Bytes → Option Bool
  | b, [] => some b
  | b, c :: r => if b && !letB c then none else if c = 46 then scanW true r else if !letB c && !digB c && c != 95 then none else scanW false r
def wordR (s : Bytes) : Bool := decide (1 ≤ s.length ∧ s.length ≤ 32) && (match scanW true s with | some b => !b && !wordsL.contains s | none => false)
def wordB (s : Bytes) : Bool := decide (s.length ≤ 32) && !decide ((32 :: s ++ [32]) <:+: reservedT) && (splitD s).all partB

theorem let46 : letB 46 = false := by decide
theorem sign_iff (c : UInt8) : signB c = true ↔ letB c = true ∨ digB c = true ∨ c = 95 := by
  unfold signB
  simp only [Bool.or_eq_true, decide_eq_true_eq, or_assoc]
  have : c.toNat = 95 ↔ c = 95 := ⟨fun h => UInt8.toNat_inj.1 (by simpa using h), fun h => by subst h; rfl⟩
  rw [this]
theorem scan_split : ∀ (s : Bytes), (∀ x xs, splitD s = x :: xs → (scanW true s = some false ↔ (partB x = true ∧ xs.all partB = true)) ∧ (scanW false s = some false ↔ (x.all signB = true ∧ xs.all partB = true)))
  | [] => by
    intro x xs h
    simp only [splitD, List.cons.injEq] at h
    obtain ⟨rfl, rfl⟩ := h
    simp [scanW, partB]
  | c :: r => by
    intro x xs h
    rw [splitD] at h
    by_cases hc : c = 46
    · subst hc
      rw [if_pos rfl] at h
      simp only [List.cons.injEq] at h
      obtain ⟨rfl, h⟩ := h
      have h2 : scanW false (46 :: r) = scanW true r := by rw [scanW]; simp
      have h3 : scanW true (46 :: r) = none := by rw [scanW]; simp [let46]
      rw [h2, h3]
      cases xs with
      | nil =>
        have hne : ∀ l : Bytes, splitD l ≠ [] := by
          intro l; cases l with
          | nil => simp [splitD]
          | cons c r => rw [splitD]; split; · simp
                        · split <;> simp
        exact absurd h (hne r)
      | cons y ys =>
        have ih := (scan_split r y ys h).1
        rw [ih]
        simp [partB]
    · rw [if_neg hc] at h
      have key : ∀ y ys, splitD r = y :: ys → x = c :: y ∧ xs = ys := by
        intro y ys hy
        rw [hy] at h
        simp only [List.cons.injEq] at h
        exact ⟨h.1.symm, h.2.symm⟩
      cases hr : splitD r with
      | nil =>
        exfalso
        cases r with
        | nil => simp [splitD] at hr
        | cons d r => rw [splitD] at hr; split at hr; · simp at hr
                      · split at hr <;> simp at hr
      | cons y ys =>
        obtain ⟨rfl, rfl⟩ := key y ys hr
        have ih := (scan_split r y xs hr).2
        have hs := sign_iff c
        by_cases hl : letB c = true
        · have e1 : scanW true (c :: r) = scanW false r := by rw [scanW]; simp [hl, hc]
          have e2 : scanW false (c :: r) = scanW false r := by rw [scanW]; simp [hl, hc]
          have hsg := hs.2 (.inl hl)
          rw [e1, e2, ih]
          simp [partB, hl, hsg]
        · have hl : letB c = false := by simpa using hl
          have e1 : scanW true (c :: r) = none := by rw [scanW]; simp [hl]
          rw [e1]
          refine ⟨by simp [partB, hl], ?_⟩
          by_cases hd : digB c = true ∨ c = 95
          · have e2 : scanW false (c :: r) = scanW false r := by rw [scanW]; rcases hd with hd | hd <;> simp [hl, hc, hd]
            have hsg := hs.2 (.inr hd)
            rw [e2, ih]
            simp [hsg]
          · have hd' : digB c = false ∧ c ≠ 95 := by
              constructor
              · cases h : digB c with
                | false => rfl
                | true => exact absurd (.inl h) hd
              · exact fun h => hd (.inr h)
            have e2 : scanW false (c :: r) = none := by rw [scanW]; simp [hl, hc, hd'.1, hd'.2]
            have hsg : signB c = false := by
              cases h : signB c with
              | false => rfl
              | true => exact absurd (hs.1 h) (by simp [hl, hd'.1, hd'.2])
            rw [e2]
            simp [hsg]
theorem no_space {s : Bytes} (h : scanW true s = some false ∨ scanW false s = some false ∨ scanW true s = some true ∨ scanW false s = some true) : (32 : UInt8) ∉ s := by
  suffices H : ∀ (s : Bytes) (b : Bool), (scanW b s).isSome = true → (32 : UInt8) ∉ s by
    rcases h with h | h | h | h
    · exact H s true (by rw [h]; rfl)
    · exact H s false (by rw [h]; rfl)
    · exact H s true (by rw [h]; rfl)
    · exact H s false (by rw [h]; rfl)
  intro s
  induction s with
  | nil => intro b _; simp
  | cons c r ih =>
    intro b h
    rw [scanW] at h
    split at h
    · cases h
    · split at h
      · rename_i h2
        have := ih true h
        subst h2
        simp [this]
      · split at h
        · cases h
        · rename_i h3
          have := ih false h
          simp only [List.mem_cons, not_or]
          refine ⟨fun e => ?_, this⟩
          subst e
          exact h3 (by decide)
theorem infix_words {s : Bytes} (h1 : s ≠ []) (h2 : (32 : UInt8) ∉ s) : ∀ {ws : List Bytes}, (∀ w ∈ ws, (32 : UInt8) ∉ w) → ((32 :: s ++ [32]) <:+: (32 :: ws.flatMap fun w => w ++ [32]) ↔ s ∈ ws)
  | [], _ => by
    constructor
    · intro h
      have := h.length_le
      have : 0 < s.length := List.length_pos_iff.2 h1
      simp at *
    · simp
  | w :: ws, hw => by
    have hww := hw w (by simp)
    have ih := infix_words h1 h2 (ws := ws) (fun x hx => hw x (by simp [hx]))
    have e : (w :: ws).flatMap (fun w => w ++ [32]) = w ++ 32 :: ws.flatMap fun w => w ++ [32] := by simp
    rw [e]
    generalize hT : (32 :: ws.flatMap fun w => w ++ [(32 : UInt8)]) = T at *
    rw [List.infix_cons_iff]
    have drop : ∀ w : Bytes, (32 : UInt8) ∉ w → ((32 :: s ++ [32]) <:+: (w ++ T) ↔ (32 :: s ++ [32]) <:+: T) := by
      intro w
      induction w with
      | nil => intro _; rfl
      | cons c r ihr =>
        intro hc
        simp only [List.mem_cons, not_or] at hc
        rw [show c :: r ++ T = c :: (r ++ T) from rfl, List.infix_cons_iff, ihr hc.2]
        constructor
        · rintro (h | h)
          · exfalso
            rw [List.cons_append, List.cons_prefix_cons] at h
            exact hc.1 h.1
          · exact h
        · exact .inr
    rw [drop w hww, ih]
    have pre : (32 :: s ++ [32]) <+: (32 :: (w ++ T)) ↔ s = w := by
      rw [List.cons_append, List.cons_prefix_cons]
      simp only [true_and]
      rw [← hT]
      clear drop ih e hT T hw
      induction s generalizing w with
      | nil => exact absurd rfl h1
      | cons c r ihs =>
        cases w with
        | nil =>
          simp only [List.mem_cons, not_or] at h2
          rw [List.nil_append, List.cons_append, List.cons_prefix_cons]
          constructor
          · rintro ⟨h, _⟩; exact absurd h.symm h2.1
          · intro h; cases h
        | cons d w =>
          simp only [List.mem_cons, not_or] at h2 hww
          rw [List.cons_append, List.cons_append, List.cons_prefix_cons]
          by_cases hr : r = []
          · subst hr
            cases w with
            | nil => simp
            | cons x w =>
              simp only [List.mem_cons, not_or] at hww
              rw [List.nil_append, List.cons_append, List.cons_prefix_cons]
              constructor
              · rintro ⟨_, h, _⟩; exact absurd h hww.2.1
              · intro h; simp at h
          · rw [ihs hr h2.2 w hww.2]
            simp
    rw [pre]
    simp
theorem word_eq (s : Bytes) : wordB s = wordR s := by
  by_cases hs : s = []
  · subst hs; decide
  · have hlen : 1 ≤ s.length := List.length_pos_iff.2 hs
    cases hsp : splitD s with
    | nil =>
      exfalso
      cases s with
      | nil => simp [splitD] at hsp
      | cons d r => rw [splitD] at hsp; split at hsp; · simp at hsp
                    · split at hsp <;> simp at hsp
    | cons x xs =>
      have hk := (scan_split s x xs hsp).1
      unfold wordB wordR
      rw [hsp]
      by_cases hsc : scanW true s = some false
      · have h32 := no_space (.inl hsc)
        have hw : ∀ w ∈ wordsL, (32 : UInt8) ∉ w := by decide
        have hi := infix_words hs h32 hw
        rw [hsc]
        have h3 := hk.1 hsc
        have hc : decide ((32 :: s ++ [32]) <:+: reservedT) = wordsL.contains s := by
          rw [Bool.eq_iff_iff, decide_eq_true_iff]
          unfold reservedT
          rw [hi]
          simp
        rw [hc, List.all_cons, h3.1, h3.2]
        simp [hlen]
      · have h4 : ((x :: xs).all partB) = false := by
          rw [List.all_cons]
          cases h5 : partB x with
          | false => rfl
          | true =>
            cases h6 : xs.all partB with
            | false => rfl
            | true => exact absurd (hk.2 ⟨h5, h6⟩) hsc
        rw [h4, Bool.and_false]
        cases h7 : scanW true s with
        | none => simp
        | some b =>
          cases b with
          | false => exact absurd h7 hsc
          | true => simp
/-! A term's nodes, with how many binders they stand in. -/
namespace TM
def k : TM → Int | mk k _ _ _ _ => k
def n : TM → Int | mk _ n _ _ _ => n
def s : TM → Bytes | mk _ _ s _ _ => s
def ls : TM → List Lv | mk _ _ _ ls _ => ls
def args : TM → List TM | mk _ _ _ _ args => args
theorem ind {P : TM → Prop} (h : ∀ k n s ls args, (∀ a ∈ args, P a) → P (mk k n s ls args)) : ∀ t, P t :=
  TM.rec (motive_1 := P) (motive_2 := fun l => ∀ a ∈ l, P a) (fun k n s ls args ih => h k n s ls args ih) (by simp) (fun a r h1 h2 b hb => by
    rcases List.mem_cons.1 hb with rfl | hb
    · exact h1
    · exact h2 b hb)
end TM
/-- How many binders more the Args at a place stand in. -/
def bndA (k : Int) (i : Nat) : Nat := if (k = 6 ∨ k = 7) ∧ i = 1 ∨ k = 8 ∧ i = 2 then 1 else 0
mutual
def TM.nodesL : TM → Nat → List (TM × Nat)
  | .mk k n s ls args, d => (.mk k n s ls args, d) :: TM.nodesA k args 0 d
def TM.nodesA (k : Int) : List TM → Nat → Nat → List (TM × Nat)
  | [], _, _ => []
  | a :: r, i, d => a.nodesL (d + bndA k i) ++ TM.nodesA k r (i + 1) d
end
theorem nodesL_eq (t : TM) (d : Nat) : t.nodesL d = (t, d) :: TM.nodesA t.k t.args 0 d := by cases t; rw [TM.nodesL]; rfl
theorem nodesA_mem {k : Int} {x : TM × Nat} : ∀ {l : List TM} {i d : Nat}, x ∈ TM.nodesA k l i d ↔ ∃ (j : Nat) (a : TM), l[j]? = some a ∧ x ∈ a.nodesL (d + bndA k (i + j))
  | [], i, d => by simp [TM.nodesA]
  | a :: r, i, d => by
    rw [TM.nodesA, List.mem_append, nodesA_mem (l := r)]
    constructor
    · rintro (h | ⟨j, b, h1, h2⟩)
      · exact ⟨0, a, rfl, h⟩
      · exact ⟨j + 1, b, h1, by rw [show i + (j + 1) = i + 1 + j by omega]; exact h2⟩
    · rintro ⟨j, b, h1, h2⟩
      cases j with
      | zero => simp at h1; subst h1; exact .inl h2
      | succ j => exact .inr ⟨j, b, h1, by rw [show i + 1 + j = i + (j + 1) by omega]; exact h2⟩
/-- Nodes further in. -/
theorem nodesL_shift (m : Nat) : ∀ (t : TM) (d : Nat), t.nodesL (d + m) = (t.nodesL d).map fun x => (x.1, x.2 + m) :=
  TM.ind fun k n s ls args ih d => by
    rw [TM.nodesL, TM.nodesL, List.map_cons]
    congr 1
    suffices H : ∀ (l : List TM), (∀ a ∈ l, a ∈ args) → ∀ i, TM.nodesA k l i (d + m) = (TM.nodesA k l i d).map fun x => (x.1, x.2 + m) from H args (fun _ h => h) 0
    intro l
    induction l with
    | nil => intro _ i; rfl
    | cons a r ihl =>
      intro hl i
      rw [TM.nodesA, TM.nodesA, List.map_append, ihl (fun b hb => hl b (by simp [hb])), ← ih a (hl a (by simp)), show d + m + bndA k i = d + bndA k i + m by omega]

/-! What is right. -/
def argsN (k : Int) : Nat := if k = 5 ∨ k = 6 ∨ k = 7 then 2 else if k = 8 then 3 else if k = 9 then 1 else 0
def lvR (l : Lv) : Bool := decide (0 ≤ l.base ∧ l.base ≤ 100 ∧ (-1 ≤ l.p0 ∧ l.p0 ≤ l.base) ∧ (-1 ≤ l.p1 ∧ l.p1 ≤ l.base) ∧ (-1 ≤ l.p2 ∧ l.p2 ≤ l.base) ∧ (-1 ≤ l.p3 ∧ l.p3 ≤ l.base))
def lvW (l : Lv) : Int := if l.p3 > -1 then 4 else if l.p2 > -1 then 3 else if l.p1 > -1 then 2 else if l.p0 > -1 then 1 else 0
def numR (t : TM) (v : Int) : Bool :=
  if t.k = 1 then decide (0 ≤ t.n ∧ t.n < v ∧ t.s = []) else if t.k = 4 then decide (t.n = 0) && wordB t.s else if t.k = 9 then decide (0 ≤ t.n ∧ t.n ≤ 31) && wordB t.s else decide (t.n = 0 ∧ t.s = [])
def lvsR (t : TM) (p : Int) : Bool :=
  (if t.k = 3 then decide (t.ls.length = 1) else if t.k = 4 then decide (t.ls.length ≤ 4) else decide (t.ls.length = 0)) && t.ls.all fun l => lvR l && decide (lvW l ≤ p)
def nodeR (t : TM) (p v : Int) (d : Nat) : Bool := decide (1 ≤ t.k ∧ t.k ≤ 9 ∧ d ≤ 200 ∧ t.args.length = argsN t.k) && numR t v && lvsR t p
def allR (t : TM) (p v : Int) (d : Nat) : Bool := (t.nodesL 0).all fun x => nodeR x.1 p (v + x.2) (d + x.2)
theorem allR_eq (t : TM) (p v : Int) (d : Nat) : allR t p v d = (nodeR t p v d && (List.range t.args.length).all fun i => match t.args[i]? with | some a => allR a p (v + bndA t.k i) (d + bndA t.k i) | none => true) := by
  rw [Bool.eq_iff_iff]
  unfold allR
  rw [nodesL_eq, List.all_cons, Bool.and_eq_true, Bool.and_eq_true]
  have h0 : nodeR t p (v + ((0 : Nat) : Int)) (d + 0) = nodeR t p v d := by rw [Int.natCast_zero, Int.add_zero, Nat.add_zero]
  rw [h0]
  refine and_congr_right fun _ => ?_
  rw [List.all_eq_true, List.all_eq_true]
  constructor
  · intro h i hi
    rw [List.mem_range] at hi
    rw [List.getElem?_eq_getElem hi]
    show ((t.args[i]).nodesL 0).all _ = true
    rw [List.all_eq_true]
    intro x hx
    have := h (x.1, x.2 + bndA t.k i) (nodesA_mem.2 ⟨i, t.args[i], List.getElem?_eq_getElem hi, by
      rw [nodesL_shift, Nat.zero_add]
      exact List.mem_map.2 ⟨x, hx, rfl⟩⟩)
    rw [show v + ((bndA t.k i : Nat) : Int) + (x.2 : Int) = v + ((x.2 + bndA t.k i : Nat) : Int) by omega, show d + bndA t.k i + x.2 = d + (x.2 + bndA t.k i) by omega]
    exact this
  · intro h x hx
    obtain ⟨i, a, h1, h2⟩ := nodesA_mem.1 hx
    have hi := (List.getElem?_eq_some_iff.1 h1).1
    have := h i (List.mem_range.2 hi)
    rw [h1] at this
    have := List.all_eq_true.1 this
    have h3 : x ∈ a.nodesL (0 + bndA t.k i) := by
      have : 0 + bndA t.k (0 + i) = 0 + bndA t.k i := by rw [Nat.zero_add i]
      rw [← this]; exact h2
    rw [nodesL_shift] at h3
    obtain ⟨y, hy, rfl⟩ := List.mem_map.1 h3
    have := this y hy
    show nodeR y.1 p (v + ((y.2 + bndA t.k i : Nat) : Int)) (d + (y.2 + bndA t.k i)) = true
    rw [show v + ((y.2 + bndA t.k i : Nat) : Int) = v + ((bndA t.k i : Nat) : Int) + (y.2 : Int) by omega, show d + (y.2 + bndA t.k i) = d + bndA t.k i + y.2 by omega]
    exact this
def rightR (t : TM) (p v : Int) : Bool := decide (0 ≤ p ∧ p ≤ 4 ∧ 0 ≤ v ∧ v ≤ 1099511627776 ∧ t.size ≤ 3000) && allR t p v 0
/-- How many variables it needs: of nodes. -/
def looseS (o : Int) (x : TM × Nat) : Int := if x.1.k = 1 then max o (x.1.n - x.2 + 1) else o
def looseL (t : TM) : Int := (t.nodesL 0).foldl looseS 0
def looseR (t : TM) : Int := if rightR t 4 1099511627776 then looseL t else 0
def useS (n : Int) (x : TM × Nat) : Bool := decide (x.1.k = 1 ∧ x.1.n = n + x.2)
def usesL (t : TM) (n : Int) : Nat := (t.nodesL 0).countP (useS n)
def usesR (t : TM) (n : Int) : Int := if rightR t 4 1099511627776 && decide (0 ≤ n ∧ n ≤ 2199023255552) then (usesL t n : Int) else 0

theorem loose_ge : ∀ (l : List (TM × Nat)) (o : Int), o ≤ l.foldl looseS o ∧ (∀ x ∈ l, x.1.k = 1 → x.1.n - x.2 + 1 ≤ l.foldl looseS o) ∧ (l.foldl looseS o = o ∨ ∃ x ∈ l, x.1.k = 1 ∧ x.1.n - x.2 + 1 = l.foldl looseS o)
  | [], o => by simp
  | y :: l, o => by
    obtain ⟨h1, h2, h3⟩ := loose_ge l (looseS o y)
    rw [List.foldl_cons]
    have h4 : o ≤ looseS o y ∧ (y.1.k = 1 → y.1.n - y.2 + 1 ≤ looseS o y) ∧ (looseS o y = o ∨ y.1.k = 1 ∧ y.1.n - y.2 + 1 = looseS o y) := by
      unfold looseS
      split
      · refine ⟨by omega, fun _ => by omega, ?_⟩
        rename_i hk
        by_cases h : o ≤ y.1.n - y.2 + 1
        · exact .inr ⟨hk, by omega⟩
        · exact .inl (by omega)
      · rename_i h
        exact ⟨by omega, fun e => absurd e h, .inl rfl⟩
    refine ⟨by omega, fun x hx hk => ?_, ?_⟩
    · rcases List.mem_cons.1 hx with rfl | hx
      · have := h4.2.1 hk; omega
      · exact h2 x hx hk
    · rcases h3 with h3 | ⟨x, hx, hk, he⟩
      · rcases h4.2.2 with h5 | ⟨hk, he⟩
        · exact .inl (by omega)
        · exact .inr ⟨y, by simp, hk, by omega⟩
      · exact .inr ⟨x, by simp [hx], hk, he⟩
theorem node_mono {t : TM} {p v p' v' : Int} {d : Nat} (h : nodeR t p v d = true) (hp : p ≤ p') (hv : t.k = 1 → t.n < v') : nodeR t p' v' d = true := by
  unfold nodeR at h ⊢
  simp only [Bool.and_eq_true] at h ⊢
  obtain ⟨⟨h1, h2⟩, h3⟩ := h
  refine ⟨⟨h1, ?_⟩, ?_⟩
  · unfold numR at h2 ⊢
    by_cases hk : t.k = 1
    · rw [if_pos hk] at h2 ⊢
      simp only [decide_eq_true_eq] at h2 ⊢
      exact ⟨h2.1, hv hk, h2.2.2⟩
    · rw [if_neg hk] at h2 ⊢
      exact h2
  · unfold lvsR at h3 ⊢
    simp only [Bool.and_eq_true, List.all_eq_true, decide_eq_true_eq] at h3 ⊢
    refine ⟨h3.1, fun l hl => ⟨(h3.2 l hl).1, ?_⟩⟩
    have := (h3.2 l hl).2
    omega
theorem node_var {t : TM} {p v : Int} {d : Nat} (h : nodeR t p v d = true) (hk : t.k = 1) : 0 ≤ t.n ∧ t.n < v := by
  unfold nodeR at h
  simp only [Bool.and_eq_true] at h
  have h2 := h.1.2
  unfold numR at h2
  rw [if_pos hk] at h2
  simp only [decide_eq_true_eq] at h2
  exact ⟨h2.1, h2.2.1⟩
theorem right_mono {t : TM} {p v p' v' : Int} (h : rightR t p v = true) (hp : p ≤ p') (hp4 : p' ≤ 4) (h0 : 0 ≤ v') (hv4 : v' ≤ 1099511627776) (hv : ∀ x ∈ t.nodesL 0, x.1.k = 1 → x.1.n < v' + x.2) : rightR t p' v' = true := by
  unfold rightR at h ⊢
  simp only [Bool.and_eq_true, decide_eq_true_eq] at h ⊢
  obtain ⟨⟨h1, h2, h3, h4, h5⟩, h6⟩ := h
  refine ⟨⟨by omega, hp4, h0, hv4, h5⟩, ?_⟩
  unfold allR at h6 ⊢
  rw [List.all_eq_true] at h6 ⊢
  exact fun x hx => node_mono (h6 x hx) hp (hv x hx)
theorem right_vars {t : TM} {p v : Int} (h : rightR t p v = true) : (0 ≤ p ∧ p ≤ 4 ∧ 0 ≤ v ∧ v ≤ 1099511627776 ∧ t.size ≤ 3000) ∧ ∀ x ∈ t.nodesL 0, nodeR x.1 p (v + x.2) (0 + x.2) = true := by
  unfold rightR at h
  simp only [Bool.and_eq_true, decide_eq_true_eq] at h
  refine ⟨h.1, ?_⟩
  have h6 := h.2
  unfold allR at h6
  rw [List.all_eq_true] at h6
  exact h6
theorem rights_law {t : TM} {p v more : Int} (h : rightR t p v = true) (hm : 0 ≤ more) (hm2 : more ≤ 1000) (hv2 : v ≤ 1000) :
    rightR t 4 v = true ∧ rightR t p (v + more) = true ∧ 0 ≤ looseR t ∧ looseR t ≤ v ∧ rightR t p (looseR t) = true ∧ (looseR t ≠ 0 → rightR t p (looseR t - 1) = false ∧ 0 < usesR t (looseR t - 1)) := by
  obtain ⟨⟨h1, h2, h3, h4, h5⟩, h6⟩ := right_vars h
  have hvar : ∀ x ∈ t.nodesL 0, x.1.k = 1 → 0 ≤ x.1.n ∧ x.1.n < v + x.2 := fun x hx hk => node_var (h6 x hx) hk
  have hany : rightR t 4 1099511627776 = true := right_mono h h2 (by omega) (by omega) (by omega) fun x hx hk => by have := hvar x hx hk; omega
  have hl : looseR t = looseL t := by unfold looseR; rw [hany]; rfl
  obtain ⟨l1, l2, l3⟩ := loose_ge (t.nodesL 0) 0
  have l1 : 0 ≤ looseL t := l1
  have l2 : ∀ x ∈ t.nodesL 0, x.1.k = 1 → x.1.n - x.2 + 1 ≤ looseL t := l2
  have l3 : looseL t = 0 ∨ ∃ x ∈ t.nodesL 0, x.1.k = 1 ∧ x.1.n - x.2 + 1 = looseL t := l3
  have hlv : looseL t ≤ v := by
    rcases l3 with l3 | ⟨x, hx, hk, he⟩
    · omega
    · have := hvar x hx hk; omega
  rw [hl]
  refine ⟨right_mono h h2 (by omega) h3 h4 fun x hx hk => (hvar x hx hk).2, right_mono h (Int.le_refl _) h2 (by omega) (by omega) fun x hx hk => by have := hvar x hx hk; omega, l1, hlv, right_mono h (Int.le_refl _) h2 l1 (by omega) fun x hx hk => by have := l2 x hx hk; omega, fun hne => ?_⟩
  rcases l3 with l3 | ⟨x, hx, hk, he⟩
  · exact absurd l3 hne
  · constructor
    · cases hr : rightR t p (looseL t - 1) with
      | false => rfl
      | true =>
        have := node_var ((right_vars hr).2 x hx) hk
        omega
    · unfold usesR
      rw [hany, Bool.true_and, decide_eq_true (by omega), if_pos rfl]
      have : 0 < usesL t (looseL t - 1) := by
        unfold usesL
        rw [List.countP_pos_iff]
        refine ⟨x, hx, ?_⟩
        unfold useS
        rw [decide_eq_true_eq]
        exact ⟨hk, by omega⟩
      omega

/-! Spines and binders, put together again. -/
theorem self_mem (t : TM) (d : Nat) : (t, d) ∈ t.nodesL d := by rw [nodesL_eq]; simp
theorem arg_nodes {t a : TM} {i : Nat} (h : t.args[i]? = some a) {x : TM × Nat} (hx : x ∈ a.nodesL 0) : (x.1, x.2 + bndA t.k i) ∈ t.nodesL 0 := by
  rw [nodesL_eq]
  refine List.mem_cons_of_mem _ (nodesA_mem.2 ⟨i, a, h, ?_⟩)
  rw [nodesL_shift, Nat.zero_add]
  exact List.mem_map.2 ⟨x, hx, rfl⟩
/-- Of all nodes: what has two Args has nothing more, and just those of a kind have. -/
def PlainN (t : TM) : Prop := ∀ x ∈ t.nodesL 0, (x.1.k = 5 ∨ x.1.k = 6 ∨ x.1.k = 7 → x.1.n = 0 ∧ x.1.s = [] ∧ x.1.ls = [] ∧ x.1.args.length = 2)
theorem PlainN.arg {t a : TM} {i : Nat} (h : PlainN t) (ha : t.args[i]? = some a) : PlainN a := fun x hx hk => h (x.1, x.2 + bndA t.k i) (arg_nodes ha hx) hk
theorem right_plain {t : TM} {p v : Int} (h : rightR t p v = true) : PlainN t := fun x hx hk => by
  have h6 := (right_vars h).2 x hx
  unfold nodeR at h6
  simp only [Bool.and_eq_true, decide_eq_true_eq] at h6
  obtain ⟨⟨⟨_, _, _, ha⟩, hn⟩, hl⟩ := h6
  have e1 : ¬ x.1.k = 1 := by omega
  have e4 : ¬ x.1.k = 4 := by omega
  have e9 : ¬ x.1.k = 9 := by omega
  have e3 : ¬ x.1.k = 3 := by omega
  unfold numR at hn
  rw [if_neg e1, if_neg e4, if_neg e9, decide_eq_true_eq] at hn
  unfold lvsR at hl
  rw [if_neg e3, if_neg e4] at hl
  simp only [Bool.and_eq_true, decide_eq_true_eq] at hl
  refine ⟨hn.1, hn.2, List.length_eq_zero_iff.1 hl.1, ?_⟩
  rw [ha]
  unfold argsN
  rw [if_pos hk]
theorem two_args {t : TM} (h : t.n = 0 ∧ t.s = [] ∧ t.ls = [] ∧ t.args.length = 2) : ∃ a b, t = nodeT t.k a b := by
  obtain ⟨k, n, s, ls, args⟩ := t
  obtain ⟨h1, h2, h3, h4⟩ := h
  match args, h4 with
  | [a, b], _ =>
    refine ⟨a, b, ?_⟩
    have h1 : n = 0 := h1
    have h2 : s = [] := h2
    have h3 : ls = [] := h3
    subst h1 h2 h3
    rfl
theorem spine_app : ∀ t : TM, PlainN t → appT (spineT t).1 (spineT t).2 = t ∧ (spineT t).1.k ≠ 5 :=
  TM.ind fun k n s ls args ih h => by
    by_cases hk : k = 5
    · obtain ⟨a, b, he⟩ := two_args (h _ (self_mem _ 0) (.inl hk))
      have he : TM.mk k n s ls args = nodeT k a b := he
      have hargs : args = [a, b] := by have := congrArg TM.args he; exact this
      have h1 := ih a (by rw [hargs]; simp) (h.arg (i := 0) (by show args[0]? = _; rw [hargs]; rfl))
      rw [he]
      unfold nodeT
      rw [spineT, if_pos hk]
      refine ⟨?_, h1.2⟩
      rw [appT_snoc, h1.1, hk]; rfl
    · have e : spineT (TM.mk k n s ls args) = (TM.mk k n s ls args, []) := by
        match args with
        | [] => rw [spineT]; intro f a h; cases h
        | [x] => rw [spineT]; intro f a h; cases h
        | [x, y] => rw [spineT, if_neg hk]
        | x :: y :: z :: r => rw [spineT]; intro f a h; cases h
      rw [e]
      exact ⟨rfl, hk⟩
theorem strip_bind (kd : Int) (hkd : kd = 6 ∨ kd = 7) : ∀ t : TM, PlainN t → bindT kd (stripT kd t).2 (stripT kd t).1 = t ∧ (stripT kd t).2.k ≠ kd :=
  TM.ind fun k n s ls args ih h => by
    by_cases hk : k = kd
    · obtain ⟨a, b, he⟩ := two_args (h _ (self_mem _ 0) (by show k = 5 ∨ k = 6 ∨ k = 7; omega))
      have he : TM.mk k n s ls args = nodeT k a b := he
      have hargs : args = [a, b] := by have := congrArg TM.args he; exact this
      have h1 := ih b (by rw [hargs]; simp) (h.arg (i := 1) (by show args[1]? = _; rw [hargs]; rfl))
      rw [he]
      unfold nodeT
      rw [stripT, if_pos hk]
      refine ⟨?_, h1.2⟩
      show nodeT kd a (bindT kd (stripT kd b).2 (stripT kd b).1) = _
      rw [h1.1, hk]; rfl
    · have e : stripT kd (TM.mk k n s ls args) = ([], TM.mk k n s ls args) := by
        match args with
        | [] => rw [stripT]; intro f a h; cases h
        | [x] => rw [stripT]; intro f a h; cases h
        | [x, y] => rw [stripT, if_neg hk]
        | x :: y :: z :: r => rw [stripT]; intro f a h; cases h
      rw [e]
      exact ⟨rfl, hk⟩
theorem spine_of_app : ∀ (l : List TM) (f : TM), spineT (appT f l) = ((spineT f).1, (spineT f).2 ++ l)
  | [], f => by simp [appT]
  | a :: l, f => by
    show spineT (appT (nodeT 5 f a) l) = _
    rw [spine_of_app l]
    unfold nodeT
    rw [spineT, if_pos rfl]
    simp
theorem strip_of_bind (kd : Int) (f : TM) : ∀ l : List TM, stripT kd (bindT kd f l) = (l ++ (stripT kd f).1, (stripT kd f).2)
  | [] => rfl
  | a :: l => by
    show stripT kd (nodeT kd a (bindT kd f l)) = _
    unfold nodeT
    rw [stripT, if_pos rfl, strip_of_bind kd f l]
    rfl
theorem strip_other {kd : Int} {f : TM} (h : f.k ≠ kd) : stripT kd f = ([], f) := by
  obtain ⟨k, n, s, ls, args⟩ := f
  replace h : k ≠ kd := h
  match args with
  | [] => rw [stripT]; intro f a h; cases h
  | [x] => rw [stripT]; intro f a h; cases h
  | [x, y] => rw [stripT, if_neg h]
  | x :: y :: z :: r => rw [stripT]; intro f a h; cases h
end Go.Proofs.YtbaddpnlokmldaaDoor
