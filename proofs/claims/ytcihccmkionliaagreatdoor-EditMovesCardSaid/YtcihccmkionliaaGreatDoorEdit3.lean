/- Texts that the law EditMoves stands on, part 4 of 7. Conditions: see each. -/
import Derived.Test.YtcihccmkionliaaGreatDoorEdit2
import Derived.Lib.Overlaps

namespace Go.Proofs.YtcihccmkionliaaGreatDoor
open Go
set_option maxRecDepth 100000
inductive Tr (α : Type) where
 | nil
 | node (o : Option α) (l r : Tr α)
inductive Pa where
 | h
 | l (p : Pa)
 | r (p : Pa)
noncomputable def Tr.get {α : Type} (p : Pa) : Tr α -> Option α :=
 Pa.rec (motive := fun _ => Tr α -> Option α) (fun t => Tr.rec (motive := fun _ => Option α) none (fun o _ _ _ _ => o) t)
  (fun _ ih t => Tr.rec (motive := fun _ => Option α) none (fun _ l _ _ _ => ih l) t)
  (fun _ ih t => Tr.rec (motive := fun _ => Option α) none (fun _ _ r _ _ => ih r) t) p
noncomputable def Tr.put {α : Type} (v : α) (p : Pa) : Tr α -> Tr α :=
 Pa.rec (motive := fun _ => Tr α -> Tr α) (fun t => Tr.rec (motive := fun _ => Tr α) (.node (some v) .nil .nil) (fun _ l r _ _ => .node (some v) l r) t)
  (fun _ ih t => Tr.rec (motive := fun _ => Tr α) (.node none (ih .nil) .nil) (fun w l r _ _ => .node w (ih l) r) t)
  (fun _ ih t => Tr.rec (motive := fun _ => Tr α) (.node none .nil (ih .nil)) (fun w l r _ _ => .node w l (ih r)) t) p
theorem Tr.get_nil {α : Type} (p : Pa) : Tr.get p (.nil : Tr α) = none := by cases p <;> rfl
theorem Tr.get_same {α : Type} (v : α) : ∀ (p : Pa) (t : Tr α), Tr.get p (Tr.put v p t) = some v
 | .h, t => by cases t <;> rfl
 | .l p, t => by
  cases t with
  | nil => exact Tr.get_same v p .nil
  | node w l r => exact Tr.get_same v p l
 | .r p, t => by
  cases t with
  | nil => exact Tr.get_same v p .nil
  | node w l r => exact Tr.get_same v p r
theorem Tr.get_ne {α : Type} (v : α) : ∀ (p q : Pa) (t : Tr α), q ≠ p -> Tr.get q (Tr.put v p t) = Tr.get q t
 | .h, .h, t, h => absurd rfl h
 | .h, .l q, t, _ => by
  cases t with
  | nil => show Tr.get q .nil = _; rw [Tr.get_nil]; rfl
  | node w l r => rfl
 | .h, .r q, t, _ => by
  cases t with
  | nil => show Tr.get q .nil = _; rw [Tr.get_nil]; rfl
  | node w l r => rfl
 | .l p, .h, t, _ => by cases t <;> rfl
 | .l p, .l q, t, h => by
  have hd : q ≠ p := fun e => h (congrArg Pa.l e)
  cases t with
  | nil => exact (Tr.get_ne v p q .nil hd).trans (Tr.get_nil q)
  | node w l r => exact Tr.get_ne v p q l hd
 | .l p, .r q, t, _ => by
  cases t with
  | nil => show Tr.get q .nil = _; rw [Tr.get_nil]; rfl
  | node w l r => rfl
 | .r p, .h, t, _ => by cases t <;> rfl
 | .r p, .l q, t, _ => by
  cases t with
  | nil => show Tr.get q .nil = _; rw [Tr.get_nil]; rfl
  | node w l r => rfl
 | .r p, .r q, t, h => by
  have hd : q ≠ p := fun e => h (congrArg Pa.r e)
  cases t with
  | nil => exact (Tr.get_ne v p q .nil hd).trans (Tr.get_nil q)
  | node w l r => exact Tr.get_ne v p q r hd
theorem Tr.put_comm {α : Type} (v u : α) : ∀ (p q : Pa) (t : Tr α), p ≠ q -> Tr.put v p (Tr.put u q t) = Tr.put u q (Tr.put v p t)
 | .h, .h, t, h => absurd rfl h
 | .h, .l q, t, _ => by cases t <;> rfl
 | .h, .r q, t, _ => by cases t <;> rfl
 | .l p, .h, t, _ => by cases t <;> rfl
 | .l p, .l q, t, h => by
  have hd : p ≠ q := fun e => h (congrArg Pa.l e)
  cases t with
  | nil => exact congrArg (fun x => Tr.node none x .nil) (Tr.put_comm v u p q .nil hd)
  | node w l r => exact congrArg (fun x => Tr.node w x r) (Tr.put_comm v u p q l hd)
 | .l p, .r q, t, _ => by cases t <;> rfl
 | .r p, .h, t, _ => by cases t <;> rfl
 | .r p, .l q, t, _ => by cases t <;> rfl
 | .r p, .r q, t, h => by
  have hd : p ≠ q := fun e => h (congrArg Pa.r e)
  cases t with
  | nil => exact congrArg (fun x => Tr.node none .nil x) (Tr.put_comm v u p q .nil hd)
  | node w l r => exact congrArg (fun x => Tr.node w l x) (Tr.put_comm v u p q r hd)
inductive XV where
 | top
 | bool (b : Bool)
 | int (k : IntKind) (n : Int)
 | str (s : List Nat)
 | nilp
 | ptr (b o : Nat)
 | nils
 | sl (b o len cap sz : Nat)
 | nilm
 | map (r : Nat)
 | nilf
 | fn (f : Nat) (first captured : List XV)
 | nili
 | ifc (t : Nat) (v : XV)
 | agg (cs : List XV)
 | tup (vs : List XV)
 | yld (l : Nat)
abbrev big : Nat := 9223372036854775808
abbrev bigI : Nat := 9223372036854775809
abbrev Al := Nat -> Option (Nat × Nat × Nat)
abbrev bytesN (s : ByteArray) : List Nat := s.data.toList.map UInt8.toNat
mutual
inductive VR (α : Al) : XV -> Value -> Prop
 | top (v : Value) : VR α .top v
 | bool (b : Bool) : VR α (.bool b) (.bool b)
 | int (k : IntKind) (n : Int) : VR α (.int k n) (.int k n)
 | str (s : ByteArray) (l : List Nat) (h : bytesN s = l) : VR α (.str l) (.string s)
 | nilp : VR α .nilp (.pointer none)
 | ptr (b o B base m p : Nat) (h : α b = some (B, base, m)) (hp : p = base + o) : VR α (.ptr b o) (.pointer (some ⟨B, p, none⟩))
 | nils : VR α .nils (.slice none 0 0)
 | sl (b o l c z B base m p c' : Nat) (h : α b = some (B, base, m)) (hp : p = base + o ∨ (c' = 0 ∧ c = bigI)) (hc : (c < big ∧ c' = c) ∨ (big ≤ c ∧ base + o + c' * z = m)) (hl : l ≤ c') (hm : p + c' * z ≤ m) : VR α (.sl b o l c z) (.slice (some ⟨B, p, none⟩) l c')
 | nilm : VR α .nilm (.map none)
 | map (r B base m : Nat) (h : α r = some (B, base, m)) : VR α (.map r) (.map (some B))
 | nilf : VR α .nilf .nilFunc
 | fn (f : Nat) (a b : List XV) (a' b' : Array Value) (ha : VRs α a a'.toList) (hb : VRs α b b'.toList) : VR α (.fn f a b) (.func (.func f) a' b')
 | nili : VR α .nili .nilIface
 | ifc (t : Nat) (x : XV) (v : Value) (h : VR α x v) : VR α (.ifc t x) (.iface t v)
 | agg (a : List XV) (a' : Array Value) (h : VRs α a a'.toList) : VR α (.agg a) (.agg a')
 | tup (a : List XV) (a' : Array Value) (h : VRs α a a'.toList) : VR α (.tup a) (.tuple a')
 | yld (l L : Nat) (h : α l = some (L, 0, 0)) : VR α (.yld l) (.func (.yield L) #[] #[])
inductive VRs (α : Al) : List XV -> List Value -> Prop
 | nil : VRs α [] []
 | cons (x : XV) (v : Value) (xs : List XV) (vs : List Value) (h : VR α x v) (t : VRs α xs vs) : VRs α (x :: xs) (v :: vs)
end
def AlLe (α β : Al) : Prop := ∀ b p, α b = some p -> β b = some p
theorem AlLe.refl (α : Al) : AlLe α α := fun _ _ h => h
theorem AlLe.trans {α β γ : Al} (h : AlLe α β) (k : AlLe β γ) : AlLe α γ := fun b p e => k b p (h b p e)
mutual
theorem VR.mono {α β : Al} (hl : AlLe α β) : ∀ {x : XV} {v : Value}, VR α x v -> VR β x v
 | _, _, .top v => .top v
 | _, _, .bool b => .bool b
 | _, _, .int k n => .int k n
 | _, _, .str s l h => .str s l h
 | _, _, .nilp => .nilp
 | _, _, .ptr b o B base m p h hp => .ptr b o B base m p (hl _ _ h) hp
 | _, _, .nils => .nils
 | _, _, .sl b o l c z B base m p c' h hp hc hlc hm => .sl b o l c z B base m p c' (hl _ _ h) hp hc hlc hm
 | _, _, .nilm => .nilm
 | _, _, .map r B base m h => .map r B base m (hl _ _ h)
 | _, _, .nilf => .nilf
 | _, _, .fn f a b a' b' ha hb => .fn f a b a' b' (VRs.mono hl ha) (VRs.mono hl hb)
 | _, _, .nili => .nili
 | _, _, .ifc t x v h => .ifc t x v (VR.mono hl h)
 | _, _, .agg a a' h => .agg a a' (VRs.mono hl h)
 | _, _, .tup a a' h => .tup a a' (VRs.mono hl h)
 | _, _, .yld l L h => .yld l L (hl _ _ h)
theorem VRs.mono {α β : Al} (hl : AlLe α β) : ∀ {xs : List XV} {vs : List Value}, VRs α xs vs -> VRs β xs vs
 | _, _, .nil => .nil
 | _, _, .cons x v xs vs h t => .cons x v xs vs (VR.mono hl h) (VRs.mono hl t)
end
theorem VRs.length {α : Al} : ∀ {xs : List XV} {vs : List Value}, VRs α xs vs -> xs.length = vs.length
 | _, _, .nil => rfl
 | _, _, .cons _ _ _ _ _ t => by simp [VRs.length t]
theorem VRs.get {α : Al} : ∀ {xs : List XV} {vs : List Value}, VRs α xs vs -> ∀ (i : Nat) (x : XV), xs[i]? = some x -> ∃ v, vs[i]? = some v ∧ VR α x v
 | _, _, .nil, i, x, e => by simp at e
 | _, _, .cons y v xs vs h t, 0, x, e => ⟨v, by simp, by simp at e; subst e; exact h⟩
 | _, _, .cons y v xs vs h t, i + 1, x, e => by
  obtain ⟨u, h1, h2⟩ := VRs.get t i x (by simpa using e)
  exact ⟨u, by simpa using h1, h2⟩
theorem VRs.append {α : Al} : ∀ {xs : List XV} {vs : List Value} {ys : List XV} {us : List Value}, VRs α xs vs -> VRs α ys us -> VRs α (xs ++ ys) (vs ++ us)
 | _, _, _, _, .nil, k => k
 | _, _, _, _, .cons x v xs vs h t, k => .cons x v _ _ h (VRs.append t k)
theorem VRs.of {α : Al} : ∀ {xs : List XV} {vs : List Value}, xs.length = vs.length -> (∀ (i : Nat) (x : XV) (v : Value), xs[i]? = some x -> vs[i]? = some v -> VR α x v) -> VRs α xs vs
 | [], [], _, _ => .nil
 | [], _ :: _, h, _ => by simp at h
 | _ :: _, [], h, _ => by simp at h
 | x :: xs, v :: vs, h, k => .cons x v xs vs (k 0 x v rfl rfl) (VRs.of (by simpa using h) fun i y u e1 e2 => k (i + 1) y u (by simpa using e1) (by simpa using e2))
inductive FT where
 | e
 | n (v : XV) (l r : FT)
noncomputable def FT.get (p : Pa) : FT -> XV :=
 Pa.rec (motive := fun _ => FT -> XV) (fun t => FT.rec (motive := fun _ => XV) .top (fun v _ _ _ _ => v) t)
  (fun _ ih t => FT.rec (motive := fun _ => XV) .top (fun _ l _ _ _ => ih l) t)
  (fun _ ih t => FT.rec (motive := fun _ => XV) .top (fun _ _ r _ _ => ih r) t) p
noncomputable def FT.put (v : XV) (p : Pa) : FT -> FT :=
 Pa.rec (motive := fun _ => FT -> FT) (fun t => FT.rec (motive := fun _ => FT) (.n v .e .e) (fun _ l r _ _ => .n v l r) t)
  (fun _ ih t => FT.rec (motive := fun _ => FT) (.n .top (ih .e) .e) (fun w l r _ _ => .n w (ih l) r) t)
  (fun _ ih t => FT.rec (motive := fun _ => FT) (.n .top .e (ih .e)) (fun w l r _ _ => .n w l (ih r)) t) p
theorem FT.get_e (p : Pa) : FT.get p .e = .top := by cases p <;> rfl
theorem FT.get_same (v : XV) : ∀ (p : Pa) (t : FT), FT.get p (FT.put v p t) = v
 | .h, t => by cases t <;> rfl
 | .l p, t => by
  cases t with
  | e => exact FT.get_same v p .e
  | n w l r => exact FT.get_same v p l
 | .r p, t => by
  cases t with
  | e => exact FT.get_same v p .e
  | n w l r => exact FT.get_same v p r
theorem FT.get_ne (v : XV) : ∀ (p q : Pa) (t : FT), q ≠ p -> FT.get q (FT.put v p t) = FT.get q t
 | .h, .h, t, h => absurd rfl h
 | .h, .l q, t, _ => by
  cases t with
  | e => show FT.get q .e = _; rw [FT.get_e]; rfl
  | n w l r => rfl
 | .h, .r q, t, _ => by
  cases t with
  | e => show FT.get q .e = _; rw [FT.get_e]; rfl
  | n w l r => rfl
 | .l p, .h, t, _ => by cases t <;> rfl
 | .l p, .l q, t, h => by
  have hd : q ≠ p := fun e => h (congrArg Pa.l e)
  cases t with
  | e => exact (FT.get_ne v p q .e hd).trans (FT.get_e q)
  | n w l r => exact FT.get_ne v p q l hd
 | .l p, .r q, t, _ => by
  cases t with
  | e => show FT.get q .e = _; rw [FT.get_e]; rfl
  | n w l r => rfl
 | .r p, .h, t, _ => by cases t <;> rfl
 | .r p, .l q, t, _ => by
  cases t with
  | e => show FT.get q .e = _; rw [FT.get_e]; rfl
  | n w l r => rfl
 | .r p, .r q, t, h => by
  have hd : q ≠ p := fun e => h (congrArg Pa.r e)
  cases t with
  | e => exact (FT.get_ne v p q .e hd).trans (FT.get_e q)
  | n w l r => exact FT.get_ne v p q r hd
def pathF : Nat -> Nat -> Pa
 | 0, _ => .h
 | f + 1, k => match Nat.ble k 1 with
  | true => .h
  | false => match Nat.beq (Nat.mod k 2) 0 with
   | true => .l (pathF f (Nat.div k 2))
   | false => .r (pathF f (Nat.div k 2))
def Pa.num : Pa -> Nat
 | .h => 1
 | .l p => 2 * p.num
 | .r p => 2 * p.num + 1
theorem pathF_num : ∀ (f k : Nat), 1 ≤ k -> k < 2 ^ f -> (pathF f k).num = k
 | 0, k, h1, h2 => by simp at h2; omega
 | f + 1, k, h1, h2 => by
  unfold pathF
  cases hb : Nat.ble k 1 with
  | true => show 1 = k; have := Nat.le_of_ble_eq_true hb; omega
  | false =>
   have hk : 1 < k := Nat.lt_of_not_le fun e => by rw [Nat.ble_eq_true_of_le e] at hb; cases hb
   have ih := pathF_num f (k / 2) (by omega) (by rw [Nat.pow_succ] at h2; omega)
   cases hm : Nat.beq (Nat.mod k 2) 0 with
   | true =>
    have : k % 2 = 0 := Nat.eq_of_beq_eq_true hm
    show 2 * (pathF f (k / 2)).num = k
    rw [ih]; omega
   | false =>
    have : k % 2 ≠ 0 := fun e => by rw [show Nat.mod k 2 = 0 from e] at hm; cases hm
    show 2 * (pathF f (k / 2)).num + 1 = k
    rw [ih]; omega
def pathOf (t : Nat) : Pa := pathF (Nat.succ (Nat.log2 (Nat.succ t))) (Nat.succ t)
theorem pathOf_inj {a b : Nat} (h : pathOf a = pathOf b) : a = b := by
 have ha := pathF_num (Nat.succ (Nat.log2 (Nat.succ a))) (Nat.succ a) (by omega) Nat.lt_log2_self
 have hb := pathF_num (Nat.succ (Nat.log2 (Nat.succ b))) (Nat.succ b) (by omega) Nat.lt_log2_self
 unfold pathOf at h
 rw [h, hb] at ha
 omega
noncomputable def getF (fr : FT) (t : Nat) : XV := FT.get (pathOf t) fr
theorem getF_put (v : XV) (d : Nat) (fr : FT) (t : Nat) : getF (FT.put v (pathOf d) fr) t = if t = d then v else getF fr t := by
 unfold getF
 by_cases h : t = d
 ·subst h; rw [if_pos rfl, FT.get_same]
 ·rw [if_neg h, FT.get_ne _ _ _ _ (fun e => h (pathOf_inj e))]
theorem getF_e (t : Nat) : getF .e t = .top := FT.get_e _
inductive LS where
 | ready
 | busy
 | ret
 | exit (id : Nat)
 | over
structure AB where
 cs : Tr XV
 size : Nat
 root : Nat
 delta : Nat
 kin : List Nat
 hw : Nat
 ro : Bool
inductive AO where
 | blk (b : AB)
 | map (es : List (XV × XV × Nat)) (clock : Nat)
 | lp (ps : Array Tmp) (asg bd : Code) (n : Nat) (fr : FT) (st : LS)
structure XS where
 heap : Tr AO
 next : Nat
def CellsR (α : Al) (B : AB) (base : Nat) (cs : Array Value) : Prop :=
 base + B.size ≤ cs.size ∧ ∀ i x, i < B.size -> Tr.get (pathOf i) B.cs = some x -> ∃ v, cs[base + i]? = some v ∧ VR α x v
def EntR (α : Al) : List (XV × XV × Nat) -> List MapEntry -> Prop
 | [], [] => True
 | (k, x, b) :: r, e :: r' => VR α k e.key ∧ VR α x e.val ∧ e.born = b ∧ EntR α r r'
 | _, _ => False
def StR : LS -> LoopState -> Option Code -> Prop
 | .ready, st, p => st = .ready ∧ p = none
 | .busy, st, p => st = .busy ∧ p = none
 | .ret, st, p => st = .done ∧ p = some .ret
 | .exit id, st, p => st = .done ∧ p = some (.exit id)
 | .over, _, _ => True
def ObjR (α : Al) (base m : Nat) : AO -> Obj -> Prop
 | .blk B, .cells cs _ fz => (fz = (0, 0) ∨ B.ro = true) ∧ cs.size = m ∧ CellsR α B base cs
 | .map es c, .map es' c' => c = c' ∧ EntR α es es'.toList
 | .lp ps asg bd n fr st, .loop r => r.params = ps ∧ r.assign = asg ∧ r.body = bd ∧ r.tmps.size = n ∧ (∀ i, VR α (getF fr i) (r.tmps.getD i undef)) ∧ StR st r.state r.pending
 | _, _ => False
noncomputable def getK {α : Type} (t : Tr α) (k : Nat) : Option α := Tr.get (pathOf k) t
noncomputable def putK {α : Type} (t : Tr α) (k : Nat) (v : α) : Tr α := Tr.put v (pathOf k) t
theorem getK_putK {α : Type} (t : Tr α) (k j : Nat) (v : α) : getK (putK t k v) j = if j = k then some v else getK t j := by
 unfold getK putK
 by_cases h : j = k
 ·subst h; rw [if_pos rfl, Tr.get_same]
 ·rw [if_neg h, Tr.get_ne _ _ _ _ (fun e => h (pathOf_inj e))]
theorem putK_comm {α : Type} (t : Tr α) {k j : Nat} (v u : α) (h : k ≠ j) : putK (putK t j u) k v = putK (putK t k v) j u := Tr.put_comm v u _ _ t fun e => h (pathOf_inj e)
theorem getK_same {α : Type} (t : Tr α) (k : Nat) (v : α) : getK (putK t k v) k = some v := by rw [getK_putK, if_pos rfl]
theorem getK_ne {α : Type} (t : Tr α) {k j : Nat} (v : α) (h : j ≠ k) : getK (putK t k v) j = getK t j := by rw [getK_putK, if_neg h]
noncomputable def putL {α : Type} (xs : List α) : Tr α -> Nat -> Tr α :=
 List.rec (motive := fun _ => Tr α -> Nat -> Tr α) (fun t _ => t) (fun x _ ih t i => ih (putK t i x) (Nat.succ i)) xs
theorem putL_cons {α : Type} (x : α) (xs : List α) (t : Tr α) (i : Nat) : putL (x :: xs) t i = putL xs (putK t i x) (i + 1) := rfl
theorem getK_putL {α : Type} : ∀ (xs : List α) (t : Tr α) (i j : Nat), getK (putL xs t i) j = if i ≤ j ∧ j < i + xs.length then xs[j - i]? else getK t j
 | [], t, i, j => by rw [if_neg (by simp only [List.length_nil]; omega)]; rfl
 | x :: xs, t, i, j => by
  rw [putL_cons, getK_putL xs]
  by_cases h : i + 1 ≤ j ∧ j < i + 1 + xs.length
  ·rw [if_pos h, if_pos (by simp only [List.length_cons]; omega)]
   obtain ⟨m, rfl⟩ : ∃ m, j = i + (m + 1) := ⟨j - i - 1, by omega⟩
   rw [show i + (m + 1) - i = m + 1 by omega, show i + (m + 1) - (i + 1) = m by omega, List.getElem?_cons_succ]
  ·rw [if_neg h, getK_putK]
   by_cases e : j = i
   ·subst e; rw [if_pos rfl, if_pos (by simp only [List.length_cons]; omega)]; simp
   ·rw [if_neg e, if_neg (by simp only [List.length_cons]; omega)]
noncomputable def cellX (t : Tr XV) (o : Nat) : XV := Option.rec .top (fun x => x) (getK t o)
noncomputable def cellsX (t : Tr XV) (n : Nat) : Nat -> List XV :=
 Nat.rec (motive := fun _ => Nat -> List XV) (fun _ => []) (fun _ ih o => cellX t o :: ih (Nat.succ o)) n
theorem cellsX_succ (t : Tr XV) (n o : Nat) : cellsX t (n + 1) o = cellX t o :: cellsX t n (o + 1) := rfl
theorem cellsX_length (t : Tr XV) : ∀ (n o : Nat), (cellsX t n o).length = n
 | 0, _ => rfl
 | n + 1, o => by rw [cellsX_succ, List.length_cons, cellsX_length t n]
theorem cellsX_get (t : Tr XV) : ∀ (n o i : Nat), i < n -> (cellsX t n o)[i]? = some (cellX t (o + i))
 | 0, _, _, h => by omega
 | n + 1, o, 0, _ => by rw [cellsX_succ]; rfl
 | n + 1, o, i + 1, h => by rw [cellsX_succ, List.getElem?_cons_succ, cellsX_get t n (o + 1) i (by omega), show o + 1 + i = o + (i + 1) by omega]
structure Abs (α : Al) (s : XS) (w : World) : Prop where
 obj : ∀ b B base m, α b = some (B, base, m) -> ∃ o O, getK s.heap b = some o ∧ w.heap[B]? = some O ∧ ObjR α base m o O
 sep : ∀ b c B base base' m m', α b = some (B, base, m) -> α c = some (B, base', m') -> b ≠ c →
  ∃ x y, getK s.heap b = some (.blk x) ∧ getK s.heap c = some (.blk y) ∧ x.root = y.root ∧ base + y.delta = base' + x.delta
 kin : ∀ b p x, α b = some p -> getK s.heap b = some (.blk x) -> ∃ q y, α x.root = some q ∧ getK s.heap x.root = some (.blk y) ∧ y.root = x.root ∧ x.delta + x.size ≤ y.hw ∧
  (b = x.root ∨ b ∈ y.kin) ∧ ∀ c ∈ y.kin, (∃ p, α c = some p) ∧ ∃ z, getK s.heap c = some (.blk z) ∧ z.root = x.root
 fresh : ∀ b, s.next ≤ b -> α b = none
theorem Abs.lt {α : Al} {s : XS} {w : World} (h : Abs α s w) {b B base m : Nat} (e : α b = some (B, base, m)) : B < w.heap.size := by
 obtain ⟨o, O, _, h2, _⟩ := h.obj b B base m e
 exact (Array.getElem?_eq_some_iff.1 h2).1
structure XE (X : Nat -> Prop) (α : Al) (s : XS) (w : World) (α' : Al) (s' : XS) (w' : World) : Prop where
 le : AlLe α α'
 os : w'.os = w.os
 tape : w'.tape = w.tape
 output : w'.output = w.output
 size : w.heap.size ≤ w'.heap.size
 same : ∀ B, B < w.heap.size -> (∀ b q, α b ≠ some (B, q)) -> w'.heap[B]? = w.heap[B]?
 img : ∀ b B q, α' b = some (B, q) -> B < w.heap.size -> ∃ c q', α c = some (B, q')
 next : s.next ≤ s'.next
 pend : ∀ b, b < s.next -> α b = none -> ¬ X b -> α' b = none ∧ getK s'.heap b = getK s.heap b
theorem XE.refl (X : Nat -> Prop) (α : Al) (s : XS) (w : World) : XE X α s w α s w :=
 ⟨.refl α, rfl, rfl, rfl, Nat.le_refl _, fun _ _ _ => rfl, fun b B base h _ => ⟨b, base, h⟩, Nat.le_refl _, fun _ _ h _ => ⟨h, rfl⟩⟩
theorem XE.trans {X : Nat -> Prop} {α : Al} {s : XS} {w : World} {α' : Al} {s' : XS} {w' : World} {α'' : Al} {s'' : XS} {w'' : World} (h : XE X α s w α' s' w') (k : XE X α' s' w' α'' s'' w'') : XE X α s w α'' s'' w'' := by
 refine ⟨h.le.trans k.le, k.os.trans h.os, k.tape.trans h.tape, k.output.trans h.output, Nat.le_trans h.size k.size, fun B hB hn => ?_, fun b B base e hB => ?_, Nat.le_trans h.next k.next, fun b hb hn hX => ?_⟩
 ·rw [k.same B (by have := h.size; omega) (fun b base e => ?_), h.same B hB hn]
  obtain ⟨c, base', hc⟩ := h.img b B base e hB
  exact hn c base' hc
 ·obtain ⟨c, base', hc⟩ := k.img b B base e (by have := h.size; omega)
  exact h.img c B base' hc hB
 ·obtain ⟨h1, h2⟩ := h.pend b hb hn hX
  obtain ⟨h3, h4⟩ := k.pend b (by have := h.next; omega) h1 hX
  exact ⟨h3, h4.trans h2⟩
theorem XE.mono {X Y : Nat -> Prop} {α : Al} {s : XS} {w : World} {α' : Al} {s' : XS} {w' : World} (h : XE X α s w α' s' w') (k : ∀ b, X b -> Y b) : XE Y α s w α' s' w' :=
 { h with pend := fun b hb hn hY => h.pend b hb hn fun hX => hY (k b hX) }
theorem XE.drew (X : Nat -> Prop) (α : Al) (s : XS) (w : World) : XE X α s w α s w.drew :=
 ⟨.refl α, rfl, rfl, rfl, Nat.le_refl _, fun _ _ _ => rfl, fun b B base h _ => ⟨b, base, h⟩, Nat.le_refl _, fun _ _ h _ => ⟨h, rfl⟩⟩
theorem ObjR.mono {α β : Al} (hl : AlLe α β) {base m : Nat} {o : AO} {O : Obj} (h : ObjR α base m o O) : ObjR β base m o O := by
 cases o with
 | blk B =>
  cases O <;> try exact h
  exact ⟨h.1, h.2.1, h.2.2.1, fun i x hi e => by obtain ⟨v, h1, h2⟩ := h.2.2.2 i x hi e; exact ⟨v, h1, h2.mono hl⟩⟩
 | map es c =>
  cases O <;> try exact h
  refine ⟨h.1, ?_⟩
  have h2 := h.2
  clear h
  rename_i es' c'
  generalize es'.toList = l at h2 ⊢
  induction es generalizing l with
  | nil => cases l <;> exact h2
  | cons e r ih =>
   obtain ⟨k, x, b⟩ := e
   cases l with
   | nil => exact h2
   | cons f t => exact ⟨h2.1.mono hl, h2.2.1.mono hl, h2.2.2.1, ih t h2.2.2.2⟩
 | lp ps asg bd n fr st =>
  cases O <;> try exact h
  obtain ⟨h1, h2, h3, h4, h5, h6⟩ := h
  exact ⟨h1, h2, h3, h4, fun i => (h5 i).mono hl, h6⟩
noncomputable def newAtR (ro : Bool) (b : Nat) (s : XS) (cs : Tr XV) (n : Nat) : XS :=
 ⟨putK s.heap b (.blk ⟨cs, n, b, 0, [], n, ro⟩), Bool.rec s.next (Nat.succ b) (Nat.beq b s.next)⟩
noncomputable abbrev newAt (b : Nat) (s : XS) (cs : Tr XV) (n : Nat) : XS := newAtR false b s cs n
theorem newAt_next {ro : Bool} {b : Nat} {s : XS} {cs : Tr XV} {n : Nat} (h : b ≤ s.next) : s.next ≤ (newAtR ro b s cs n).next ∧ b < (newAtR ro b s cs n).next := by
 unfold newAtR
 by_cases e : b = s.next
 ·subst e; simp
 ·have : Nat.beq b s.next = false := by
   cases hb : Nat.beq b s.next with
   | false => rfl
   | true => exact absurd (Nat.eq_of_beq_eq_true hb) e
  rw [this]
  exact ⟨Nat.le_refl _, by show b < s.next; omega⟩
abbrev setAl (α : Al) (b : Nat) (q : Nat × Nat × Nat) : Al := fun c => if c = b then some q else α c
theorem setAl_le {α : Al} {b : Nat} {q : Nat × Nat × Nat} (h : α b = none) : AlLe α (setAl α b q) := fun c p e => by
 unfold setAl
 split
 ·rename_i hc; subst hc; rw [h] at e; cases e
 ·exact e
theorem newAtR_absE {ro : Bool} {α : Al} {s : XS} {w : World} (h : Abs α s w) {b : Nat} (hb : b ≤ s.next) (hn : α b = none) {cs : Tr XV} {n : Nat} {t : TypeId} {vs : Array Value}
  (hc : n ≤ vs.size ∧ ∀ i x, i < n -> getK cs i = some x -> ∃ v, vs[i]? = some v ∧ VR α x v) {w' : World} (hE : Ext [] w w') {fz : Nat × Nat} (hfz : fz = (0, 0) ∨ ro = true) (hat : w'.heap[w.heap.size]? = some (.cells vs t fz)) :
  Abs (setAl α b (w.heap.size, 0, vs.size)) (newAtR ro b s cs n) w' ∧ XE (· = b) α s w (setAl α b (w.heap.size, 0, vs.size)) (newAtR ro b s cs n) w' := by
 have hle := setAl_le (q := (w.heap.size, 0, vs.size)) hn
 have hold : ∀ c p, α c = some p -> c ≠ b := fun c p e hcb => by subst hcb; rw [hn] at e; cases e
 have hget : ∀ c, c ≠ b -> getK (newAtR ro b s cs n).heap c = getK s.heap c := fun c hcb => getK_ne _ _ hcb
 have hset : ∀ c, c ≠ b -> setAl α b (w.heap.size, 0, vs.size) c = α c := fun c hcb => if_neg hcb
 have hnew : getK (newAtR ro b s cs n).heap b = some (.blk ⟨cs, n, b, 0, [], n, ro⟩) := getK_same _ _ _
 have hsz : w.heap.size < w'.heap.size := (Array.getElem?_eq_some_iff.1 hat).1
 have hal : ∀ B, B < w.heap.size -> w'.heap[B]? = w.heap[B]? := fun B hB => hE.same B hB (by simp)
 refine ⟨⟨fun c B base m e => ?_, fun c d B base base' m m' e1 e2 hne => ?_, fun c p x e hg => ?_, fun c hc' => ?_⟩, ⟨hle, hE.os, hE.tape, hE.output, by omega, fun B hB _ => hal B hB, fun c B q e hB => ?_, (newAt_next hb).1, fun c _ hcn hX => ⟨by rw [hset c hX]; exact hcn, hget c hX⟩⟩⟩
 ·by_cases hcb : c = b
  ·subst hcb
   simp only [setAl, if_true, Option.some.injEq, Prod.mk.injEq] at e
   obtain ⟨rfl, rfl, rfl⟩ := e
   exact ⟨_, _, hnew, hat, hfz, rfl, by show 0 + n ≤ vs.size; omega, fun i x hi hx => by
    obtain ⟨v, h1, h2⟩ := hc.2 i x hi hx
    exact ⟨v, by rw [Nat.zero_add]; exact h1, h2.mono hle⟩⟩
  ·rw [hset c hcb] at e
   obtain ⟨o, O, h1, h2, h3⟩ := h.obj c B base m e
   exact ⟨o, O, by rw [hget c hcb]; exact h1, by rw [hal B (h.lt e)]; exact h2, h3.mono hle⟩
 ·by_cases hcb : c = b
  ·subst hcb
   simp only [setAl, if_true, Option.some.injEq, Prod.mk.injEq] at e1
   rw [hset d (fun x => hne x.symm)] at e2
   exact absurd (h.lt e2) (by omega)
  ·rw [hset c hcb] at e1
   by_cases hdb : d = b
   ·subst hdb
    simp only [setAl, if_true, Option.some.injEq, Prod.mk.injEq] at e2
    exact absurd (h.lt e1) (by omega)
   ·rw [hset d hdb] at e2
    obtain ⟨x, y, h1, h2, h3⟩ := h.sep c d B base base' m m' e1 e2 hne
    exact ⟨x, y, by rw [hget c hcb]; exact h1, by rw [hget d hdb]; exact h2, h3⟩
 ·by_cases hcb : c = b
  ·subst hcb
   rw [hnew] at hg
   cases hg
   exact ⟨(w.heap.size, 0, vs.size), _, by simp [setAl], hnew, rfl, by show 0 + n ≤ n; omega, .inl rfl, fun d hd => by cases hd⟩
  ·rw [hset c hcb] at e
   rw [hget c hcb] at hg
   obtain ⟨q, y, h1, h2, h3, h0, h4, h5⟩ := h.kin c p x e hg
   have hr := hold _ _ h1
   refine ⟨q, y, by rw [hset _ hr]; exact h1, by rw [hget _ hr]; exact h2, h3, h0, h4, fun d hd => ?_⟩
   obtain ⟨⟨p', h6⟩, z, h7, h8⟩ := h5 d hd
   have hdb := hold _ _ h6
   exact ⟨⟨p', by rw [hset d hdb]; exact h6⟩, z, by rw [hget d hdb]; exact h7, h8⟩
 ·have := newAt_next (ro := ro) (cs := cs) (n := n) hb
  rw [hset c (by omega)]
  exact h.fresh c (by omega)
 ·by_cases hcb : c = b
  ·subst hcb
   simp only [setAl, if_true, Option.some.injEq, Prod.mk.injEq] at e
   omega
  ·rw [hset c hcb] at e
   exact ⟨c, q, e⟩
theorem newAt_absE {α : Al} {s : XS} {w : World} (h : Abs α s w) {b : Nat} (hb : b ≤ s.next) (hn : α b = none) {cs : Tr XV} {n : Nat} {t : TypeId} {vs : Array Value}
  (hc : n ≤ vs.size ∧ ∀ i x, i < n -> getK cs i = some x -> ∃ v, vs[i]? = some v ∧ VR α x v) {w' : World} (hE : Ext [] w w') (hat : w'.heap[w.heap.size]? = some (.cells vs t)) :
  Abs (setAl α b (w.heap.size, 0, vs.size)) (newAt b s cs n) w' ∧ XE (· = b) α s w (setAl α b (w.heap.size, 0, vs.size)) (newAt b s cs n) w' := newAtR_absE h hb hn hc hE (.inl rfl) hat
theorem newAt_abs {α : Al} {s : XS} {w : World} (h : Abs α s w) {b : Nat} (hb : b ≤ s.next) (hn : α b = none) {cs : Tr XV} {n : Nat} {t : TypeId} {vs : Array Value}
  (hc : n ≤ vs.size ∧ ∀ i x, i < n -> getK cs i = some x -> ∃ v, vs[i]? = some v ∧ VR α x v) :
  Abs (setAl α b (w.heap.size, 0, vs.size)) (newAt b s cs n) (w.alloc (.cells vs t)) ∧ XE (· = b) α s w (setAl α b (w.heap.size, 0, vs.size)) (newAt b s cs n) (w.alloc (.cells vs t)) :=
 newAt_absE h hb hn hc (ext_alloc w _) (alloc_new w _)
inductive XR where
 | no
 | ret (v : XV) (s : XS)
 | pan (v : XV) (s : XS)
abbrev XK := XV -> XS -> XR
def PV (X : Nat -> Prop) (k : XK) (r : XR) (α : Al) (s : XS) (w : World) : VPost := fun v w' => ∃ x α' s', XE X α s w α' s' w' ∧ Abs α' s' w' ∧ VR α' x v ∧ k x s' = r
def PW (X : Nat -> Prop) (k : XS -> XR) (r : XR) (α : Al) (s : XS) (w : World) : World -> Prop := fun w' => ∃ α' s', XE X α s w α' s' w' ∧ Abs α' s' w' ∧ k s' = r
noncomputable abbrev gX (c : Bool) (r : XR) : XR := Bool.rec .no r c
theorem gX_no {c : Bool} {r q : XR} (h : gX c r = q) (hq : q ≠ .no) : c = true ∧ r = q := by
 cases c with
 | true => exact ⟨rfl, h⟩
 | false => exact absurd h.symm hq
noncomputable def asPtr (x : XV) (f : Nat -> Nat -> XR) : XR :=
 XV.rec (motive_1 := fun _ => XR) (motive_2 := fun _ => XR) .no (fun _ => .no) (fun _ _ => .no) (fun _ => .no) .no f .no (fun _ _ _ _ _ => .no) .no (fun _ => .no) .no (fun _ _ _ _ _ => .no) .no (fun _ _ _ => .no) (fun _ _ => .no) (fun _ _ => .no) (fun _ => .no) .no (fun _ _ _ _ => .no) x
noncomputable def asInt (x : XV) (f : IntKind -> Int -> XR) : XR :=
 XV.rec (motive_1 := fun _ => XR) (motive_2 := fun _ => XR) .no (fun _ => .no) f (fun _ => .no) .no (fun _ _ => .no) .no (fun _ _ _ _ _ => .no) .no (fun _ => .no) .no (fun _ _ _ _ _ => .no) .no (fun _ _ _ => .no) (fun _ _ => .no) (fun _ _ => .no) (fun _ => .no) .no (fun _ _ _ _ => .no) x
noncomputable def asBool (x : XV) (f : Bool -> XR) : XR :=
 XV.rec (motive_1 := fun _ => XR) (motive_2 := fun _ => XR) .no f (fun _ _ => .no) (fun _ => .no) .no (fun _ _ => .no) .no (fun _ _ _ _ _ => .no) .no (fun _ => .no) .no (fun _ _ _ _ _ => .no) .no (fun _ _ _ => .no) (fun _ _ => .no) (fun _ _ => .no) (fun _ => .no) .no (fun _ _ _ _ => .no) x
noncomputable def asStr (x : XV) (f : List Nat -> XR) : XR :=
 XV.rec (motive_1 := fun _ => XR) (motive_2 := fun _ => XR) .no (fun _ => .no) (fun _ _ => .no) f .no (fun _ _ => .no) .no (fun _ _ _ _ _ => .no) .no (fun _ => .no) .no (fun _ _ _ _ _ => .no) .no (fun _ _ _ => .no) (fun _ _ => .no) (fun _ _ => .no) (fun _ => .no) .no (fun _ _ _ _ => .no) x
noncomputable def asSl (x : XV) (n : XR) (f : Nat -> Nat -> Nat -> Nat -> Nat -> XR) : XR :=
 XV.rec (motive_1 := fun _ => XR) (motive_2 := fun _ => XR) .no (fun _ => .no) (fun _ _ => .no) (fun _ => .no) .no (fun _ _ => .no) n f .no (fun _ => .no) .no (fun _ _ _ _ _ => .no) .no (fun _ _ _ => .no) (fun _ _ => .no) (fun _ _ => .no) (fun _ => .no) .no (fun _ _ _ _ => .no) x
noncomputable def asAgg (x : XV) (f : List XV -> XR) : XR :=
 XV.rec (motive_1 := fun _ => XR) (motive_2 := fun _ => XR) .no (fun _ => .no) (fun _ _ => .no) (fun _ => .no) .no (fun _ _ => .no) .no (fun _ _ _ _ _ => .no) .no (fun _ => .no) .no (fun _ _ _ _ _ => .no) .no (fun _ _ _ => .no) (fun q0 _ => f q0) (fun _ _ => .no) (fun _ => .no) .no (fun _ _ _ _ => .no) x
noncomputable def asTup (x : XV) (f : List XV -> XR) : XR :=
 XV.rec (motive_1 := fun _ => XR) (motive_2 := fun _ => XR) .no (fun _ => .no) (fun _ _ => .no) (fun _ => .no) .no (fun _ _ => .no) .no (fun _ _ _ _ _ => .no) .no (fun _ => .no) .no (fun _ _ _ _ _ => .no) .no (fun _ _ _ => .no) (fun _ _ => .no) (fun q0 _ => f q0) (fun _ => .no) .no (fun _ _ _ _ => .no) x
theorem asPtr_no {x : XV} {f : Nat -> Nat -> XR} {q : XR} (h : asPtr x f = q) (hq : q ≠ .no) : ∃ b o, x = .ptr b o ∧ f b o = q := by
 cases x <;> first
  | exact ⟨_, _, rfl, h⟩
  | exact absurd h.symm hq
theorem asInt_no {x : XV} {f : IntKind -> Int -> XR} {q : XR} (h : asInt x f = q) (hq : q ≠ .no) : ∃ k n, x = .int k n ∧ f k n = q := by
 cases x <;> first
  | exact ⟨_, _, rfl, h⟩
  | exact absurd h.symm hq
theorem asBool_no {x : XV} {f : Bool -> XR} {q : XR} (h : asBool x f = q) (hq : q ≠ .no) : ∃ b, x = .bool b ∧ f b = q := by
 cases x <;> first
  | exact ⟨_, rfl, h⟩
  | exact absurd h.symm hq
theorem asStr_no {x : XV} {f : List Nat -> XR} {q : XR} (h : asStr x f = q) (hq : q ≠ .no) : ∃ l, x = .str l ∧ f l = q := by
 cases x <;> first
  | exact ⟨_, rfl, h⟩
  | exact absurd h.symm hq
theorem asSl_no {x : XV} {n : XR} {f : Nat -> Nat -> Nat -> Nat -> Nat -> XR} {q : XR} (h : asSl x n f = q) (hq : q ≠ .no) : (x = .nils ∧ n = q) ∨ ∃ b o l c z, x = .sl b o l c z ∧ f b o l c z = q := by
 cases x <;> first
  | exact .inl ⟨rfl, h⟩
  | exact .inr ⟨_, _, _, _, _, rfl, h⟩
  | exact absurd h.symm hq
theorem asAgg_no {x : XV} {f : List XV -> XR} {q : XR} (h : asAgg x f = q) (hq : q ≠ .no) : ∃ l, x = .agg l ∧ f l = q := by
 cases x <;> first
  | exact ⟨_, rfl, h⟩
  | exact absurd h.symm hq
theorem asTup_no {x : XV} {f : List XV -> XR} {q : XR} (h : asTup x f = q) (hq : q ≠ .no) : ∃ l, x = .tup l ∧ f l = q := by
 cases x <;> first
  | exact ⟨_, rfl, h⟩
  | exact absurd h.symm hq
noncomputable def getB (s : XS) (b : Nat) (f : AB -> XR) : XR :=
 Option.rec (motive := fun _ => XR) .no (fun o => AO.rec (motive := fun _ => XR) f (fun _ _ => .no) (fun _ _ _ _ _ _ => .no) o) (getK s.heap b)
theorem getB_no {s : XS} {b : Nat} {f : AB -> XR} {q : XR} (h : getB s b f = q) (hq : q ≠ .no) : ∃ B, getK s.heap b = some (.blk B) ∧ f B = q := by
 unfold getB at h
 cases hg : getK s.heap b with
 | none => rw [hg] at h; exact absurd h.symm hq
 | some o =>
  rw [hg] at h
  cases o with
  | blk B => exact ⟨B, rfl, h⟩
  | map es c => exact absurd h.symm hq
  | lp => exact absurd h.symm hq
theorem Abs.blk {α : Al} {s : XS} {w : World} (h : Abs α s w) {b B base m : Nat} (e : α b = some (B, base, m)) {x : AB} (hg : getK s.heap b = some (.blk x)) :
  ∃ cs t fz, w.heap[B]? = some (.cells cs t fz) ∧ (fz = (0, 0) ∨ x.ro = true) ∧ cs.size = m ∧ CellsR α x base cs := by
 obtain ⟨o, O, h1, h2, h3⟩ := h.obj b B base m e
 rw [hg] at h1
 cases h1
 cases O <;> first
  | exact h3.elim
  | (obtain ⟨h3, h4, h5⟩ := h3; exact ⟨_, _, _, h2, h3, h4, h5⟩)
theorem Abs.blkW {α : Al} {s : XS} {w : World} (h : Abs α s w) {b B base m : Nat} (e : α b = some (B, base, m)) {x : AB} (hg : getK s.heap b = some (.blk x)) (hro : x.ro = false) :
  ∃ cs t, w.heap[B]? = some (.cells cs t (0, 0)) ∧ cs.size = m ∧ CellsR α x base cs := by
 obtain ⟨cs, t, fz, h1, h2, h3⟩ := h.blk e hg
 rw [hro] at h2
 rcases h2 with rfl | h2
 ·exact ⟨cs, t, h1, h3⟩
 ·cases h2
noncomputable def nRo (B : AB) (r : XR) : XR := Bool.rec r .no B.ro
theorem nRo_no {B : AB} {r q : XR} (h : nRo B r = q) (hq : q ≠ .no) : B.ro = false ∧ r = q := by
 unfold nRo at h
 cases hb : B.ro with
 | false => rw [hb] at h; exact ⟨rfl, h⟩
 | true => rw [hb] at h; exact absurd h.symm hq
theorem cellX_R {α : Al} {x : AB} {base i : Nat} {cs : Array Value} (h : CellsR α x base cs) (hi : i < x.size) : ∃ v, cs[base + i]? = some v ∧ VR α (cellX x.cs i) v := by
 have hlt : base + i < cs.size := by have := h.1; omega
 unfold cellX
 cases hg : getK x.cs i with
 | none => exact ⟨cs[base + i], Array.getElem?_eq_getElem hlt, .top _⟩
 | some y => exact h.2 i y hi hg
noncomputable def loadX (i : Option (Bool × Nat)) (p : XV) (s : XS) (k : XK) : XR :=
 Option.rec (motive := fun _ => XR) .no (fun i => asPtr p fun b o => getB s b fun B =>
  Bool.rec (gX (Nat.blt o B.size) (k (cellX B.cs o) s)) (gX (Nat.ble (Nat.add o i.2) B.size) (k (.agg (cellsX B.cs i.2 o)) s)) i.1) i
theorem VR.ptr_inv {α : Al} {b o : Nat} {v : Value} (h : VR α (.ptr b o) v) : ∃ B base m, α b = some (B, base, m) ∧ v = .pointer (some ⟨B, base + o, none⟩) := by
 cases h with
 | ptr b o B base m p h hp => subst hp; exact ⟨B, base, m, h, rfl⟩
theorem loadX_W {X : Nat -> Prop} {i : Option (Bool × Nat)} {p : XV} {s : XS} {k : XK} {r : XR} (h : loadX i p s k = r) (hr : r ≠ .no) {α : Al} {w : World} {v : Value} (ha : Abs α s w) (hv : VR α p v) : loadW i v w (fun u w' => w' = w ∧ PV X k r α s w u w') := by
 cases i with
 | none => exact absurd h.symm hr
 | some i =>
  obtain ⟨g, n⟩ := i
  obtain ⟨b, o, rfl, h⟩ := asPtr_no h hr
  obtain ⟨B, hB, h⟩ := getB_no h hr
  obtain ⟨C, base, m, hα, rfl⟩ := hv.ptr_inv
  obtain ⟨cs, t, fz, hC, _, hm, hR⟩ := ha.blk hα hB
  cases g with
  | false =>
   obtain ⟨hlt, h⟩ := gX_no h hr
   obtain ⟨u, hu, hx⟩ := cellX_R hR (Nat.le_of_ble_eq_true hlt)
   exact ⟨cs, t, fz, u, hC, rfl, hu, rfl, _, α, s, .refl X α s w, ha, hx, h⟩
  | true =>
   obtain ⟨hle, h⟩ := gX_no h hr
   have hle := Nat.le_of_ble_eq_true hle
   have hle : o + n ≤ B.size := hle
   have hsz := hR.1
   refine ⟨cs, t, fz, hC, rfl, by show base + o + n ≤ cs.size; omega, rfl, _, α, s, .refl X α s w, ha, .agg _ _ (VRs.of (by simp [cellsX_length]; omega) fun j x u e1 e2 => ?_), h⟩
   have hj : j < n := by have := (List.getElem?_eq_some_iff.1 e1).1; rwa [cellsX_length] at this
   rw [cellsX_get _ _ _ _ hj] at e1
   cases e1
   obtain ⟨u', h1, h2⟩ := cellX_R (i := o + j) hR (by omega)
   rw [Array.getElem?_toList, Array.getElem?_extract] at e2
   have hj2 : j < min (base + o + n) cs.size - (base + o) := by omega
   rw [if_pos hj2, Nat.add_assoc, h1] at e2
   cases e2
   exact h2
noncomputable def oneX (x : XV) : Bool :=
 XV.rec (motive_1 := fun _ => Bool) (motive_2 := fun _ => Bool) false (fun _ => true) (fun _ _ => true) (fun _ => true) true (fun _ _ => true) true (fun _ _ _ _ _ => true) true (fun _ => true) true (fun _ _ _ _ _ => true) true (fun _ _ _ => true) (fun _ _ => false) (fun _ _ => false) (fun _ => true) false (fun _ _ _ _ => false) x
theorem oneX_R {α : Al} {x : XV} {v : Value} (h : oneX x = true) (hv : VR α x v) : v.oneCell' = true ∧ v.cells = #[v] := by
 cases hv <;> first
  | exact ⟨rfl, rfl⟩
  | cases h
noncomputable def allOneX (xs : List XV) : Bool := List.rec true (fun x _ ih => Bool.rec false ih (oneX x)) xs
theorem allOneX_R {α : Al} : ∀ {xs : List XV} {vs : List Value}, VRs α xs vs -> allOneX xs = true -> ∀ v ∈ vs, v.oneCell' = true
 | _, _, .nil, _, v, hv => by cases hv
 | _, _, .cons x v xs vs h1 h2, h, u, hu => by
  have hx : oneX x = true ∧ allOneX xs = true := by
   cases ho : oneX x with
   | true => exact ⟨rfl, by have : (Bool.rec false (allOneX xs) (oneX x) : Bool) = true := h; rw [ho] at this; exact this⟩
   | false => have : (Bool.rec false (allOneX xs) (oneX x) : Bool) = true := h; rw [ho] at this; cases this
  rcases List.mem_cons.1 hu with rfl | hu
  ·exact (oneX_R hx.1 h1).1
  ·exact allOneX_R h2 hx.2 u hu
noncomputable def cellsOf (x : XV) : List XV :=
 XV.rec (motive_1 := fun _ => List XV) (motive_2 := fun _ => List XV) [x] (fun _ => [x]) (fun _ _ => [x]) (fun _ => [x]) [x] (fun _ _ => [x]) [x] (fun _ _ _ _ _ => [x]) [x] (fun _ => [x]) [x] (fun _ _ _ _ _ => [x]) [x] (fun _ _ _ => [x]) (fun l _ => l) (fun _ _ => [x]) (fun _ => [x]) [] (fun _ _ _ _ => []) x
theorem cellsOf_R {α : Al} {x : XV} {v : Value} (h1 : allOneX (cellsOf x) = true) (hv : VR α x v) : VRs α (cellsOf x) v.cells.toList := by
 cases hv <;> first
  | assumption
  | exact .cons _ _ _ _ (by constructor <;> assumption) .nil
  | cases h1
noncomputable def lapX (lo hi : Nat) (C : AB) : Bool := Bool.rec false (Nat.blt lo (Nat.add C.delta C.size)) (Nat.blt C.delta hi)
theorem lapX_f {lo hi : Nat} {C : AB} (h : lapX lo hi C = false) : hi ≤ C.delta ∨ C.delta + C.size ≤ lo := by
 unfold lapX at h
 cases h1 : Nat.blt C.delta hi with
 | false =>
  refine .inl (Nat.le_of_not_lt fun hlt => ?_)
  have := Nat.ble_eq_true_of_le (show Nat.succ C.delta ≤ hi from hlt)
  exact absurd (h1.symm.trans this) (by decide)
 | true =>
  rw [h1] at h
  have h : Nat.blt lo (C.delta + C.size) = false := h
  refine .inr (Nat.le_of_not_lt fun hlt => ?_)
  have := Nat.ble_eq_true_of_le (show Nat.succ lo ≤ C.delta + C.size from hlt)
  exact absurd (h.symm.trans this) (by decide)
noncomputable def pzB (lo hi : Nat) (C : AB) : AB := Bool.rec C ⟨.nil, C.size, C.root, C.delta, C.kin, C.hw, C.ro⟩ (lapX lo hi C)
noncomputable def pzO (lo hi : Nat) (o : AO) : AO := AO.rec (fun C => .blk (pzB lo hi C)) (fun es c => .map es c) (fun ps asg bd n fr st => .lp ps asg bd n fr st) o
theorem pzB_same (lo hi : Nat) (C : AB) : (pzB lo hi C).size = C.size ∧ (pzB lo hi C).root = C.root ∧ (pzB lo hi C).delta = C.delta ∧ (pzB lo hi C).kin = C.kin ∧ (pzB lo hi C).hw = C.hw ∧ (pzB lo hi C).ro = C.ro := by
 unfold pzB
 cases lapX lo hi C <;> exact ⟨rfl, rfl, rfl, rfl, rfl, rfl⟩
theorem pzB_idem (lo hi : Nat) (C : AB) : pzB lo hi (pzB lo hi C) = pzB lo hi C := by
 have h : lapX lo hi (pzB lo hi C) = lapX lo hi C := by
  obtain ⟨h1, _, h2, _⟩ := pzB_same lo hi C
  unfold lapX
  rw [h1, h2]
 cases hl : lapX lo hi C with
 | false => unfold pzB; simp [hl]
 | true =>
  have e : pzB lo hi C = ⟨.nil, C.size, C.root, C.delta, C.kin, C.hw, C.ro⟩ := by unfold pzB; rw [hl]
  rw [e] at h ⊢
  unfold pzB
  rw [h, hl]
theorem pzO_idem (lo hi : Nat) (o : AO) : pzO lo hi (pzO lo hi o) = pzO lo hi o := by
 cases o with
 | blk C => exact congrArg AO.blk (pzB_idem lo hi C)
 | map es c => rfl
 | lp => rfl
noncomputable def pz1 (lo hi : Nat) (c : Nat) (h : Tr AO) : Tr AO := Option.rec h (fun o => putK h c (pzO lo hi o)) (getK h c)
theorem pz1_get (lo hi c : Nat) (h : Tr AO) (d : Nat) : getK (pz1 lo hi c h) d = if d = c then (getK h d).map (pzO lo hi) else getK h d := by
 unfold pz1
 cases hg : getK h c with
 | none =>
  by_cases e : d = c
  ·subst e; rw [if_pos rfl, hg]; rfl
  ·rw [if_neg e]
 | some o =>
  show getK (putK h c (pzO lo hi o)) d = _
  rw [getK_putK]
  by_cases e : d = c
  ·subst e; rw [if_pos rfl, if_pos rfl, hg]; rfl
  ·rw [if_neg e, if_neg e]
noncomputable def poisL (b lo hi : Nat) (ms : List Nat) : Tr AO -> Tr AO :=
 List.rec (motive := fun _ => Tr AO -> Tr AO) (fun h => h) (fun c _ ih h => ih (Bool.rec (pz1 lo hi c h) h (Nat.beq c b))) ms
theorem poisL_get (b lo hi : Nat) : ∀ (ms : List Nat) (h : Tr AO) (d : Nat), getK (poisL b lo hi ms h) d = if d ∈ ms ∧ d ≠ b then (getK h d).map (pzO lo hi) else getK h d
 | [], h, d => by rw [if_neg (by simp)]; rfl
 | c :: ms, h, d => by
  show getK (poisL b lo hi ms (Bool.rec (pz1 lo hi c h) h (Nat.beq c b))) d = _
  rw [poisL_get b lo hi ms]
  cases hb : Nat.beq c b with
  | true =>
   have e := Nat.eq_of_beq_eq_true hb
   subst e
   by_cases hd : d ∈ ms ∧ d ≠ c
   ·rw [if_pos hd, if_pos ⟨by simp [hd.1], hd.2⟩]
   ·rw [if_neg hd, if_neg (by
     rintro ⟨h1, h2⟩
     rcases List.mem_cons.1 h1 with rfl | h1
     ·exact h2 rfl
     ·exact hd ⟨h1, h2⟩)]
  | false =>
   have e : c ≠ b := fun x => by subst x; simp at hb
   show (if d ∈ ms ∧ d ≠ b then (getK (pz1 lo hi c h) d).map (pzO lo hi) else getK (pz1 lo hi c h) d) = _
   rw [pz1_get]
   by_cases hdc : d = c
   ·subst hdc
    rw [if_pos rfl, if_pos (c := d ∈ d :: ms ∧ d ≠ b) ⟨by simp, e⟩]
    by_cases hd : d ∈ ms ∧ d ≠ b
    ·rw [if_pos hd]
     cases getK h d with
     | none => rfl
     | some o => simp [pzO_idem]
    ·rw [if_neg hd]
   ·rw [if_neg hdc]
    by_cases hd : d ∈ ms ∧ d ≠ b
    ·rw [if_pos hd, if_pos ⟨by simp [hd.1], hd.2⟩]
    ·rw [if_neg hd, if_neg (by
      rintro ⟨h1, h2⟩
      rcases List.mem_cons.1 h1 with h1 | h1
      ·exact hdc h1
      ·exact hd ⟨h1, h2⟩)]
theorem CellsR.unknown {α : Al} {C : AB} {base : Nat} {cs cs' : Array Value} (h : CellsR α C base cs) (hs : cs'.size = cs.size) {D : AB} (hD : D.size = C.size) (hc : D.cs = .nil) : CellsR α D base cs' :=
 ⟨by rw [hD, hs]; exact h.1, fun i x _ e => by rw [hc] at e; (rw [Tr.get_nil] at e; cases e)⟩
theorem CellsR.pz {α : Al} {C : AB} {base lo hi : Nat} {cs cs' : Array Value} (h : CellsR α C base cs) (hs : cs'.size = cs.size)
  (ho : ∀ j, j < C.size -> C.delta + j < lo ∨ hi ≤ C.delta + j -> cs'[base + j]? = cs[base + j]?) : CellsR α (pzB lo hi C) base cs' := by
 cases hl : lapX lo hi C with
 | true =>
  have e : pzB lo hi C = ⟨.nil, C.size, C.root, C.delta, C.kin, C.hw, C.ro⟩ := by unfold pzB; rw [hl]
  rw [e]
  exact h.unknown hs rfl rfl
 | false =>
  have e : pzB lo hi C = C := by unfold pzB; rw [hl]
  rw [e]
  refine ⟨by rw [hs]; exact h.1, fun i x hi' hx => ?_⟩
  obtain ⟨v, h1, h2⟩ := h.2 i x hi' hx
  refine ⟨v, ?_, h2⟩
  rw [ho i hi' (by rcases lapX_f hl with h3 | h3 <;> omega)]
  exact h1
theorem Abs.write {α : Al} {s : XS} {w : World} (ha : Abs α s w) {b Bc base m : Nat} {B : AB} (e : α b = some (Bc, base, m)) (hB : getK s.heap b = some (.blk B)) {y : AB} (hy : getK s.heap B.root = some (.blk y))
    {cs cs' : Array Value} {t : TypeId} (hC : w.heap[Bc]? = some (.cells cs t (0, 0))) (hs : cs'.size = cs.size) {lo hi : Nat} (ho : ∀ q, q + B.delta < base + lo ∨ base + hi ≤ q + B.delta -> cs'[q]? = cs[q]?)
    {B' : AB} (hB' : B'.size = B.size ∧ B'.root = B.root ∧ B'.delta = B.delta ∧ B'.kin = B.kin ∧ B'.hw = B.hw ∧ B'.ro = B.ro) (hR : CellsR α B' base cs') {h' : Tr AO} (hb : getK h' b = some (.blk B'))
    (hc : ∀ c, c ≠ b -> getK h' c = if c = B.root ∨ c ∈ y.kin then (getK s.heap c).map (pzO lo hi) else getK s.heap c) (X : Nat -> Prop) :
    Abs α ⟨h', s.next⟩ (setB w Bc (.cells cs' t)) ∧ XE X α s w α ⟨h', s.next⟩ (setB w Bc (.cells cs' t)) := by
  have hlt : Bc < w.heap.size := (Array.getElem?_eq_some_iff.1 hC).1
  have hx := ext_setB w Bc (.cells cs' t)
  have hat : (setB w Bc (.cells cs' t)).heap[Bc]? = some (.cells cs' t) := by
    unfold setB
    simp [Array.getElem?_setIfInBounds, hlt]
  have hne : ∀ B2, B2 ≠ Bc -> (setB w Bc (.cells cs' t)).heap[B2]? = w.heap[B2]? := fun B2 h2 => by
    unfold setB
    exact Array.getElem?_setIfInBounds_ne (fun x => h2 x.symm)
  -- blocks keep their shape
  have hshape : ∀ c x, getK s.heap c = some (.blk x) -> ∃ x', getK h' c = some (.blk x') ∧ x'.size = x.size ∧ x'.root = x.root ∧ x'.delta = x.delta ∧ x'.kin = x.kin ∧ x'.hw = x.hw ∧ x'.ro = x.ro := fun c x hx' => by
    by_cases hcb : c = b
    · subst hcb
      rw [hB] at hx'
      cases hx'
      exact ⟨B', hb, hB'⟩
    · rw [hc c hcb, hx']
      split
      · exact ⟨_, rfl, pzB_same lo hi x⟩
      · exact ⟨x, rfl, rfl, rfl, rfl, rfl, rfl, rfl⟩
  have hshape' : ∀ c x', getK h' c = some (.blk x') -> ∃ x, getK s.heap c = some (.blk x) ∧ x'.root = x.root ∧ x'.kin = x.kin ∧ x'.delta + x'.size = x.delta + x.size := fun c x' hx' => by
    by_cases hcb : c = b
    · subst hcb
      rw [hb] at hx'
      cases hx'
      exact ⟨B, hB, hB'.2.1, hB'.2.2.2.1, by rw [hB'.1, hB'.2.2.1]⟩
    · rw [hc c hcb] at hx'
      split at hx'
      · cases hg : getK s.heap c with
        | none => rw [hg] at hx'; cases hx'
        | some o =>
          rw [hg] at hx'
          cases o with
          | blk x =>
            have : pzB lo hi x = x' := by simpa [pzO] using hx'
            subst this
            exact ⟨x, rfl, (pzB_same lo hi x).2.1, (pzB_same lo hi x).2.2.2.1, by rw [(pzB_same lo hi x).1, (pzB_same lo hi x).2.2.1]⟩
          | map es k => cases hx'
          | lp => cases hx'
      · exact ⟨x', hx', rfl, rfl, rfl⟩
  refine ⟨⟨fun c B2 base2 m2 e2 => ?_, fun c d B2 bc bd mc md e1 e2 hcd => ?_, fun c p x ec hg => ?_, ha.fresh⟩, ⟨.refl α, hx.os, hx.tape, hx.output, hx.size, fun B2 _ hn => hne B2 fun h2 => hn b (base, m) (h2 ▸ e), fun c B2 q h2 _ => ⟨c, q, h2⟩, Nat.le_refl _, fun c hlt' hn hX => ⟨hn, ?_⟩⟩⟩
  · obtain ⟨o, O, h1, h2, h3⟩ := ha.obj c B2 base2 m2 e2
    by_cases hcb : c = b
    · subst hcb
      rw [e] at e2
      cases e2
      rw [hB] at h1
      cases h1
      rw [hC] at h2
      cases h2
      exact ⟨_, _, hb, hat, .inl rfl, hs.trans h3.2.1, hR⟩
    · by_cases hBB : B2 = Bc
      · subst hBB
        obtain ⟨x, z, hx1, hx2, hx3, hx4⟩ := ha.sep b c B2 base base2 m m2 e e2 (fun h => hcb h.symm)
        rw [hB] at hx1
        cases hx1
        obtain ⟨q, y', _, hy', _, _, hmem, _⟩ := ha.kin c _ z e2 hx2
        rw [← hx3] at hy' hmem
        rw [hy] at hy'
        cases hy'
        rw [hx2] at h1
        cases h1
        rw [hC] at h2
        cases h2
        exact ⟨.blk (pzB lo hi z), _, by rw [hc c hcb, if_pos hmem, hx2]; rfl, hat, show _ ∧ _ ∧ _ from ⟨.inl rfl, hs.trans h3.2.1, h3.2.2.pz hs fun j hj hjo => ho _ (by omega)⟩⟩
      · rw [← hne B2 hBB] at h2
        rw [hc c hcb]
        split
        · rw [h1]
          refine ⟨_, O, rfl, h2, ?_⟩
          cases o with
          | blk x =>
            cases O <;> first
              | exact h3.elim
              | (refine ⟨by rw [(pzB_same lo hi x).2.2.2.2.2]; exact h3.1, h3.2.1, ?_⟩
                 cases hl : lapX lo hi x with
                 | true =>
                   have e : pzB lo hi x = ⟨.nil, x.size, x.root, x.delta, x.kin, x.hw, x.ro⟩ := by unfold pzB; rw [hl]
                   rw [e]
                   exact h3.2.2.unknown rfl rfl rfl
                 | false =>
                   have e : pzB lo hi x = x := by unfold pzB; rw [hl]
                   rw [e]
                   exact h3.2.2)
          | map es k => exact h3
          | lp => exact h3
        · exact ⟨o, O, h1, h2, h3⟩
  · obtain ⟨x, z, h1, h2, h3, h4⟩ := ha.sep c d B2 bc bd mc md e1 e2 hcd
    obtain ⟨x', g1, _, g2, g3, _⟩ := hshape c x h1
    obtain ⟨z', g4, _, g5, g6, _⟩ := hshape d z h2
    exact ⟨x', z', g1, g4, by rw [g2, g5, h3], by rw [g3, g6]; exact h4⟩
  · obtain ⟨x0, g1, g2, g3, g9⟩ := hshape' c x hg
    obtain ⟨q, z, h1, h2, h3, h0, h4, h5⟩ := ha.kin c p x0 ec g1
    obtain ⟨z', g4, _, g5, _, g6, g10, _⟩ := hshape _ z h2
    rw [g2]
    refine ⟨q, z', h1, g4, by rw [g5, h3], by rw [g9, g10]; exact h0, by rw [g6]; exact h4, fun d hd => ?_⟩
    rw [g6] at hd
    obtain ⟨h6, u, h7, h8⟩ := h5 d hd
    obtain ⟨u', g7, _, g8, _⟩ := hshape d u h7
    exact ⟨h6, u', g7, by rw [g8, h8]⟩
  · have hcb : c ≠ b := fun h => by subst h; rw [e] at hn; cases hn
    show getK h' c = _
    rw [hc c hcb, if_neg]
    rintro (h2 | h2)
    · obtain ⟨q, z, h1, _, _, _, _, _⟩ := ha.kin b _ B e hB
      rw [← h2, hn] at h1
      cases h1
    · obtain ⟨q, z, _, h3, _, _, _, h5⟩ := ha.kin b _ B e hB
      rw [hy] at h3
      cases h3
      obtain ⟨⟨p, h6⟩, _⟩ := h5 c h2
      rw [hn] at h6
      cases h6
noncomputable def lenL (xs : List XV) : Nat := List.rec 0 (fun _ _ n => Nat.succ n) xs
theorem lenL_eq : ∀ xs : List XV, lenL xs = xs.length
 | [] => rfl
 | _ :: xs => congrArg Nat.succ (lenL_eq xs)
noncomputable def rootX (s : XS) (b : Nat) (B : AB) (k : AB -> XR) : XR := Bool.rec (getB s B.root k) (k B) (Nat.beq B.root b)
theorem rootX_no {s : XS} {b : Nat} {B : AB} {k : AB -> XR} {q : XR} (h : rootX s b B k = q) (hq : q ≠ .no) (hB : getK s.heap b = some (.blk B)) : ∃ y, getK s.heap B.root = some (.blk y) ∧ k y = q := by
 unfold rootX at h
 cases hb : Nat.beq B.root b with
 | true =>
  rw [hb] at h
  rw [Nat.eq_of_beq_eq_true hb]
  exact ⟨B, hB, h⟩
 | false =>
  rw [hb] at h
  exact getB_no h hq
noncomputable def poisX (b lo hi r : Nat) (ks : List Nat) (h : Tr AO) : Tr AO := List.rec (motive := fun _ => Tr AO) h (fun _ _ _ => poisL b lo hi (r :: ks) h) ks
theorem poisX_get {α : Al} {s : XS} {w : World} (ha : Abs α s w) {b : Nat} {p : Nat × Nat × Nat} {B y : AB} (e : α b = some p) (hB : getK s.heap b = some (.blk B)) (hy : getK s.heap B.root = some (.blk y)) (lo hi : Nat) (h : Tr AO)
  (c : Nat) (hc : c ≠ b) : getK (poisX b lo hi B.root y.kin h) c = if c = B.root ∨ c ∈ y.kin then (getK h c).map (pzO lo hi) else getK h c := by
 unfold poisX
 cases hk : y.kin with
 | nil =>
  have hbr : b = B.root := by
   obtain ⟨q, y', _, h2, _, _, h4, _⟩ := ha.kin b p B e hB
   rw [hy] at h2
   cases h2
   rcases h4 with h4 | h4
   ·exact h4
   ·rw [hk] at h4; cases h4
  rw [if_neg]
  rintro (h1 | h1)
  ·exact hc (h1.trans hbr.symm)
  ·cases h1
 | cons k ks =>
  show getK (poisL b lo hi (B.root :: k :: ks) h) c = _
  rw [poisL_get]
  by_cases hm : c = B.root ∨ c ∈ k :: ks
  ·rw [if_pos hm, if_pos ⟨List.mem_cons.2 hm, hc⟩]
  ·rw [if_neg hm, if_neg fun x => hm (List.mem_cons.1 x.1)]
theorem poisX_self {b lo hi r : Nat} {ks : List Nat} {h : Tr AO} : getK (poisX b lo hi r ks h) b = getK h b := by
 unfold poisX
 cases ks with
 | nil => rfl
 | cons k ks =>
  show getK (poisL b lo hi (r :: k :: ks) h) b = _
  rw [poisL_get, if_neg fun x => x.2 rfl]
noncomputable def storeX (i : Option (Bool × Nat)) (p v : XV) (s : XS) (k : XS -> XR) : XR :=
 Option.rec (motive := fun _ => XR) .no (fun i => asPtr p fun b o => getB s b fun B => nRo B <| gX (allOneX (cellsOf v)) (gX (Nat.beq (lenL (cellsOf v)) i.2) (gX (Nat.ble (Nat.add o i.2) B.size)
  (rootX s b B fun y => k ⟨poisX b (Nat.add o B.delta) (Nat.add (Nat.add o i.2) B.delta) B.root y.kin (putK s.heap b (.blk ⟨putL (cellsOf v) B.cs o, B.size, B.root, B.delta, B.kin, B.hw, B.ro⟩)), s.next⟩)))) i
theorem spl_get (cs : Array Value) (o : Nat) (vs : Array Value) (h : o + vs.size ≤ cs.size) (q : Nat) : (spl cs o vs)[q]? = if o ≤ q ∧ q < o + vs.size then vs[q - o]? else cs[q]? := by
 unfold spl
 rw [List.getElem?_toArray, List.append_assoc, List.getElem?_append]
 have h1 : (cs.toList.take o).length = o := by simp; omega
 rw [h1]
 by_cases hq : q < o
 ·rw [if_pos hq, if_neg (by omega), List.getElem?_take, if_pos hq, Array.getElem?_toList]
 ·rw [if_neg hq, List.getElem?_append, Array.length_toList]
  by_cases hq2 : q - o < vs.size
  ·rw [if_pos hq2, if_pos (by omega), Array.getElem?_toList]
  ·rw [if_neg hq2, if_neg (by omega), List.getElem?_drop, Array.getElem?_toList]
   congr 1
   omega
theorem spl_size (cs : Array Value) (o : Nat) (vs : Array Value) (h : o + vs.size ≤ cs.size) : (spl cs o vs).size = cs.size := by
 unfold spl
 simp
 omega
theorem CellsR.put {α : Al} {B : AB} {base o : Nat} {cs : Array Value} (h : CellsR α B base cs) {xs : List XV} {vs : Array Value} (hv : VRs α xs vs.toList) (ho : o + vs.size ≤ B.size) {D : AB} (hD : D.size = B.size) (hc : D.cs = putL xs B.cs o) :
  CellsR α D base (spl cs (base + o) vs) := by
 have hsz := h.1
 have hl : xs.length = vs.size := by simpa using hv.length
 have hle : base + o + vs.size ≤ cs.size := by omega
 refine ⟨by rw [hD, spl_size _ _ _ hle]; exact h.1, fun i x hi e => ?_⟩
 rw [hc] at e
 have e : getK (putL xs B.cs o) i = some x := e
 rw [getK_putL] at e
 rw [spl_get _ _ _ hle]
 by_cases hio : o ≤ i ∧ i < o + xs.length
 ·rw [if_pos hio] at e
  rw [if_pos (by omega)]
  obtain ⟨v, h1, h2⟩ := hv.get _ _ e
  refine ⟨v, ?_, h2⟩
  rw [← Array.getElem?_toList, show base + i - (base + o) = i - o by omega]
  exact h1
 ·rw [if_neg hio] at e
  rw [if_neg (by omega)]
  exact h.2 i x (by rw [← hD]; exact hi) e
theorem storeX_W {X : Nat -> Prop} {i : Option (Bool × Nat)} {p v : XV} {s : XS} {k : XS -> XR} {r : XR} (h : storeX i p v s k = r) (hr : r ≠ .no) {α : Al} {w : World} {p' v' : Value} (ha : Abs α s w) (hp : VR α p p') (hv : VR α v v') :
  storeW i p' v' w (PW X k r α s w) := by
 cases i with
 | none => exact absurd h.symm hr
 | some i =>
  obtain ⟨g, n⟩ := i
  obtain ⟨b, o, rfl, h⟩ := asPtr_no h hr
  obtain ⟨B, hB, h⟩ := getB_no h hr
  obtain ⟨hro, h⟩ := nRo_no h hr
  obtain ⟨hone, h⟩ := gX_no h hr
  obtain ⟨hlen, h⟩ := gX_no h hr
  obtain ⟨hle, h⟩ := gX_no h hr
  obtain ⟨y, hy, h⟩ := rootX_no h hr hB
  obtain ⟨Bc, base, m, hα, rfl⟩ := hp.ptr_inv
  obtain ⟨cs, t, hC, hm, hR⟩ := ha.blkW hα hB hro
  have hcv := cellsOf_R hone hv
  have hn : v'.cells.size = n := by
   have h1 := hcv.length
   rw [← lenL_eq, Nat.eq_of_beq_eq_true hlen] at h1
   simpa using h1.symm
  have hle : o + n ≤ B.size := Nat.le_of_ble_eq_true hle
  have hsz := hR.1
  have hfit : base + o + v'.cells.size ≤ cs.size := by omega
  refine ⟨cs, t, hC, rfl, hn, by show base + o + n ≤ cs.size; omega, ?_, ?_⟩
  ·rw [Array.all_eq_true_iff_forall_mem]
   intro x hx
   exact allOneX_R hcv hone x (by simpa using hx)
  ·obtain ⟨h1, h2⟩ := ha.write hα hB hy hC (spl_size cs (base + o) v'.cells hfit) (lo := o + B.delta) (hi := o + n + B.delta)
    (fun q hq => by rw [spl_get _ _ _ hfit, if_neg (by omega)]) (B' := ⟨putL (cellsOf v) B.cs o, B.size, B.root, B.delta, B.kin, B.hw, B.ro⟩) ⟨rfl, rfl, rfl, rfl, rfl, rfl⟩
    (hR.put hcv (by omega) rfl rfl) (h' := poisX b (o + B.delta) (o + n + B.delta) B.root y.kin (putK s.heap b (.blk ⟨putL (cellsOf v) B.cs o, B.size, B.root, B.delta, B.kin, B.hw, B.ro⟩)))
    (by rw [poisX_self]; exact getK_same _ _ _)
    (fun c hc => by rw [poisX_get ha hα hB hy _ _ _ c hc, getK_ne _ _ hc]) X
   exact ⟨α, _, h2, h1, h⟩
theorem Abs.drew {α : Al} {s : XS} {w : World} (h : Abs α s w) : Abs α s w.drew := ⟨h.obj, h.sep, h.kin, h.fresh⟩
theorem setB_same {w : World} {b : Nat} {o : Obj} (h : w.heap[b]? = some o) : setB w b o = w := by
 unfold setB
 congr 1
 apply Array.ext
 ·simp
 ·intro i h1 h2
  rw [Array.getElem_setIfInBounds]
  split
  ·rename_i e
   subst e
   exact (Array.getElem?_eq_some_iff.1 h).2.symm
  ·rfl
theorem Abs.join {α : Al} {s : XS} {w : World} (ha : Abs α s w) {b : Nat} {q : Nat × Nat × Nat} {x y : AB} (hb : α b = some q) (hx : getK s.heap b = some (.blk x)) (hy : getK s.heap x.root = some (.blk y))
  {N : AB} (hN : N.root = x.root) {Bn bn mn : Nat} {cs : Array Value} {t : TypeId} (hC : w.heap[Bn]? = some (.cells cs t (0, 0))) (hm : cs.size = mn) (hR : CellsR α N bn cs)
  (hs : ∀ c bc mc, α c = some (Bn, bc, mc) -> ∃ z, getK s.heap c = some (.blk z) ∧ z.root = N.root ∧ bc + N.delta = bn + z.delta) {hw : Nat} (h1 : y.hw ≤ hw) (h2 : N.delta + N.size ≤ hw) :
  Abs (setAl α s.next (Bn, bn, mn)) ⟨putK (putK s.heap x.root (.blk ⟨y.cs, y.size, y.root, y.delta, s.next :: y.kin, hw, y.ro⟩)) s.next (.blk N), Nat.succ s.next⟩ w := by
 have hn : α s.next = none := ha.fresh _ (Nat.le_refl _)
 have hle := setAl_le (q := (Bn, bn, mn)) hn
 obtain ⟨qr, y', hr, hy', hry, _, _, _⟩ := ha.kin b q x hb hx
 rw [hy] at hy'
 cases hy'
 have hrn : x.root ≠ s.next := fun h => by rw [h, hn] at hr; cases hr
 have hset : ∀ c, c ≠ s.next -> setAl α s.next (Bn, bn, mn) c = α c := fun c hc => if_neg hc
 have hown : setAl α s.next (Bn, bn, mn) s.next = some (Bn, bn, mn) := if_pos rfl
 have hold : ∀ c p, α c = some p -> c ≠ s.next := fun c p e hc => by subst hc; rw [hn] at e; cases e
 have hgn : getK (putK (putK s.heap x.root (.blk ⟨y.cs, y.size, y.root, y.delta, s.next :: y.kin, hw, y.ro⟩)) s.next (.blk N)) s.next = some (.blk N) := getK_same _ _ _
 have hgr : getK (putK (putK s.heap x.root (.blk ⟨y.cs, y.size, y.root, y.delta, s.next :: y.kin, hw, y.ro⟩)) s.next (.blk N)) x.root = some (.blk ⟨y.cs, y.size, y.root, y.delta, s.next :: y.kin, hw, y.ro⟩) := by rw [getK_ne _ _ hrn]; exact getK_same _ _ _
 have hg : ∀ c, c ≠ s.next -> c ≠ x.root -> getK (putK (putK s.heap x.root (.blk ⟨y.cs, y.size, y.root, y.delta, s.next :: y.kin, hw, y.ro⟩)) s.next (.blk N)) c = getK s.heap c := fun c h3 h4 => by rw [getK_ne _ _ h3, getK_ne _ _ h4]
 -- old blocks, in the new memory
 have hsh : ∀ c z, c ≠ s.next -> getK s.heap c = some (.blk z) -> ∃ z', getK (putK (putK s.heap x.root (.blk ⟨y.cs, y.size, y.root, y.delta, s.next :: y.kin, hw, y.ro⟩)) s.next (.blk N)) c = some (.blk z') ∧ z'.cs = z.cs ∧ z'.size = z.size ∧ z'.root = z.root ∧ z'.delta = z.delta := fun c z h3 h4 => by
  by_cases hc : c = x.root
  ·subst hc
   rw [hy] at h4
   cases h4
   exact ⟨_, hgr, rfl, rfl, rfl, rfl⟩
  ·exact ⟨z, by rw [hg c h3 hc]; exact h4, rfl, rfl, rfl, rfl⟩
 refine ⟨fun c B base m e => ?_, fun c d B bc bd mc md e1 e2 hcd => ?_, fun c p z e hz => ?_, fun c hc => ?_⟩
 ·by_cases hc : c = s.next
  ·subst hc
   rw [hown] at e
   cases e
   exact ⟨_, _, hgn, hC, .inl rfl, hm, hR.1, fun i u hi hu => by obtain ⟨v, h3, h4⟩ := hR.2 i u hi hu; exact ⟨v, h3, h4.mono hle⟩⟩
  ·rw [hset c hc] at e
   obtain ⟨o, O, h3, h4, h5⟩ := ha.obj c B base m e
   by_cases hcr : c = x.root
   ·subst hcr
    rw [hy] at h3
    cases h3
    refine ⟨_, O, hgr, h4, ?_⟩
    cases O <;> first
     | exact h5.elim
     | exact ⟨h5.1, h5.2.1, h5.2.2.1, fun i u hi hu => by obtain ⟨v, h6, h7⟩ := h5.2.2.2 i u hi hu; exact ⟨v, h6, h7.mono hle⟩⟩
   ·exact ⟨o, O, by rw [hg c hc hcr]; exact h3, h4, h5.mono hle⟩
 ·by_cases hc : c = s.next
  ·subst hc
   rw [hown] at e1
   cases e1
   have hd : d ≠ s.next := fun h => hcd h.symm
   rw [hset d hd] at e2
   obtain ⟨z, h3, h4, h5⟩ := hs d bd md e2
   obtain ⟨z', h6, _, _, h7, h8⟩ := hsh d z hd h3
   exact ⟨N, z', hgn, h6, by rw [h7, h4], by rw [h8]; exact h5.symm⟩
  ·rw [hset c hc] at e1
   by_cases hd : d = s.next
   ·subst hd
    rw [hown] at e2
    cases e2
    obtain ⟨z, h3, h4, h5⟩ := hs c bc mc e1
    obtain ⟨z', h6, _, _, h7, h8⟩ := hsh c z hc h3
    exact ⟨z', N, h6, hgn, by rw [h7, h4], by rw [h8]; exact h5⟩
   ·rw [hset d hd] at e2
    obtain ⟨u, v, h3, h4, h5, h6⟩ := ha.sep c d B bc bd mc md e1 e2 hcd
    obtain ⟨u', g1, _, _, g2, g3⟩ := hsh c u hc h3
    obtain ⟨v', g4, _, _, g5, g6⟩ := hsh d v hd h4
    exact ⟨u', v', g1, g4, by rw [g2, g5, h5], by rw [g3, g6]; exact h6⟩
 ·by_cases hc : c = s.next
  ·subst hc
   rw [hgn] at hz
   cases hz
   rw [hN]
   obtain ⟨_, y', _, hy', _, _, hmem, hk⟩ := ha.kin b q x hb hx
   rw [hy] at hy'
   cases hy'
   refine ⟨qr, _, by rw [hset _ hrn]; exact hr, hgr, hry, h2, .inr (List.mem_cons_self ..), fun d hd => ?_⟩
   rcases List.mem_cons.1 hd with rfl | hd
   ·exact ⟨⟨_, hown⟩, N, hgn, hN⟩
   ·obtain ⟨⟨p', h6⟩, u, h7, h8⟩ := hk d hd
    have hdn := hold d p' h6
    obtain ⟨u', g1, _, _, g2, _⟩ := hsh d u hdn h7
    exact ⟨⟨p', by rw [hset d hdn]; exact h6⟩, u', g1, by rw [g2, h8]⟩
  ·rw [hset c hc] at e
   have hz0 : ∃ z0, getK s.heap c = some (.blk z0) ∧ z0.root = z.root ∧ z.delta + z.size = z0.delta + z0.size := by
    by_cases hcr : c = x.root
    ·subst hcr
     rw [hgr] at hz
     cases hz
     exact ⟨y, hy, rfl, rfl⟩
    ·rw [hg c hc hcr] at hz
     exact ⟨z, hz, rfl, rfl⟩
   obtain ⟨z0, hz0, hzr, hzd⟩ := hz0
   obtain ⟨qc, v, h3, h4, h5, h6, h7, h8⟩ := ha.kin c p z0 e hz0
   rw [hzr] at h3 h4 h5 h7 h8
   have hrc := hold _ _ h3
   by_cases hcr : z.root = x.root
   ·rw [hcr] at h3 h4 h7 h8 ⊢
    rw [hy] at h4
    cases h4
    refine ⟨qr, _, by rw [hset _ hrn]; exact hr, hgr, hry, by show z.delta + z.size ≤ hw; omega, ?_, fun d hd => ?_⟩
    ·rcases h7 with h7 | h7
     ·exact .inl h7
     ·exact .inr (List.mem_cons_of_mem _ h7)
    ·rcases List.mem_cons.1 hd with rfl | hd
     ·exact ⟨⟨_, hown⟩, N, hgn, hN⟩
     ·obtain ⟨⟨p', h9⟩, u, h10, h11⟩ := h8 d hd
      have hdn := hold d p' h9
      obtain ⟨u', g1, _, _, g2, _⟩ := hsh d u hdn h10
      exact ⟨⟨p', by rw [hset d hdn]; exact h9⟩, u', g1, by rw [g2, h11]⟩
   ·refine ⟨qc, v, by rw [hset _ hrc]; exact h3, by rw [hg _ hrc hcr]; exact h4, h5, by omega, h7, fun d hd => ?_⟩
    obtain ⟨⟨p', h9⟩, u, h10, h11⟩ := h8 d hd
    have hdn := hold d p' h9
    obtain ⟨u', g1, _, _, g2, _⟩ := hsh d u hdn h10
    exact ⟨⟨p', by rw [hset d hdn]; exact h9⟩, u', g1, by rw [g2, h11]⟩
 ·have hc : s.next + 1 ≤ c := hc
  rw [hset c (by omega)]
  exact ha.fresh c (by omega)
def appI (P : Program) (ts : Array TypeId) : Option (Bool × Nat × Nat) :=
 match ts.toList with
 | [T, T'] => match P.underlying T with
  | some (.slice e) => match P.info? e with
   | some i => match i.zero with
    | some z => match Nat.beq z.cells.size i.size && Nat.blt 0 i.bytes with
     | true => match P.underlying T' with
      | some (.slice _) => some (false, i.size, i.bytes)
      | some .string => match Nat.beq i.size 1 with
       | true => some (true, i.size, i.bytes)
       | false => none
      | _ => none
     | false => none
    | none => none
   | none => none
  | _ => none
 | _ => none
def SrcT (P : Program) (T' : TypeId) (g : Bool) : Prop := match g with
 | false => ∃ e', P.underlying T' = some (.slice e')
 | true => P.underlying T' = some .string
theorem appI_spec {P : Program} {ts : Array TypeId} {g : Bool} {n m : Nat} (h : appI P ts = some (g, n, m)) : ∃ T T' e i z, ts = #[T, T'] ∧ P.underlying T = some (.slice e) ∧ SrcT P T' g ∧ (g = true -> i.size = 1) ∧ P.info? e = some i ∧ i.zero = some z ∧ z.cells.size = i.size ∧ 0 < i.bytes ∧ n = i.size ∧ m = i.bytes := by
 unfold appI at h
 split at h
 ·rename_i T T' ht
  split at h
  ·rename_i e h1
   split at h
   ·rename_i i h3
    split at h
    ·rename_i z h4
     split at h
     ·rename_i h5
      simp only [Bool.and_eq_true] at h5
      split at h
      ·rename_i e' h2
       simp only [Option.some.injEq, Prod.mk.injEq] at h
       obtain ⟨rfl, rfl, rfl⟩ := h
       exact ⟨T, T', e, i, z, Array.ext' (by simpa using ht), h1, ⟨e', h2⟩, (by simp), h3, h4, Nat.eq_of_beq_eq_true h5.1, Nat.le_of_ble_eq_true h5.2, rfl, rfl⟩
      ·rename_i h2
       split at h
       ·rename_i h6
        simp only [Option.some.injEq, Prod.mk.injEq] at h
        obtain ⟨rfl, rfl, rfl⟩ := h
        exact ⟨T, T', e, i, z, Array.ext' (by simpa using ht), h1, h2, fun _ => Nat.eq_of_beq_eq_true h6, h3, h4, Nat.eq_of_beq_eq_true h5.1, Nat.le_of_ble_eq_true h5.2, rfl, rfl⟩
       ·cases h
      ·cases h
     ·cases h
    ·cases h
   ·cases h
  ·cases h
 ·cases h
structure Srcs (P : Program) (w : World) (x : Value) (T' : TypeId) (z : Nat) (ys : List Value) (m : Nat) : Prop where
 len : ys.length = m * z
 lenR : ∀ w, (Builtin.lenOf x).run P w = .ok m w
 first : (Builtin.firstCells z m x).run P w = .ok ys.toArray w
 firstD : (Builtin.firstCells z m x).run P w.drew = .ok ys.toArray w.drew
 firstN : ∀ q, q ≤ m -> (Builtin.firstCells z q x).run P w = .ok (ys.take (q * z)).toArray w
 ty : ∃ u, P.underlying T' = some u ∧ ∀ k, u ≠ .int k
theorem RdSl.firstN {P : Program} {w : World} {v : Value} {s : Nat} {ys : List Value} {m : Nat} (h : RdSl w v s ys m) {q : Nat} (hq : q ≤ m) : (Builtin.firstCells s q v).run P w = .ok (ys.take (q * s)).toArray w := by
 have hqs : q * s ≤ m * s := Nat.mul_le_mul_right s hq
 obtain ⟨hl, ⟨rfl, a, c, rfl⟩ | ⟨b, o, c, cs, rfl, hb, h1, h2⟩⟩ := h
 ·have h0 : m * s = 0 := by simpa using hl.symm
  have h0' : q * s = 0 := by omega
  cases a with
  | none => simp; rfl
  | some a =>
   show (loadCells a (q * s)).run P w = _
   rw [h0']; rfl
 ·obtain ⟨t, fz, hb⟩ := hb
  show (loadCells ⟨b, o, none⟩ (q * s)).run P w = _
  rw [run_loads hb (by omega), ← h1, List.take_take, Nat.min_eq_left hqs]
theorem Srcs.of_rd {P : Program} {w : World} {x : Value} {T' : TypeId} {z : Nat} {ys : List Value} {m : Nat} (h : RdSl w x z ys m) (ht : SrcT P T' false) : Srcs P w x T' z ys m := by
 obtain ⟨e', ht⟩ := ht
 exact ⟨h.1, fun w => by obtain ⟨a, c, rfl⟩ := h.len; rfl, h.first, RdSl.first (w := w.drew) (h.keep (Ext.drew [] w) (by simp)), fun q hq => h.firstN hq, _, ht, by simp⟩
theorem runA_in {P : Program} {w : World} {T T' ty e : TypeId} {i : TypeInfo} {x : Value} {ys : List Value} {n m cap : Nat} {base : Option Addr}
  (hu : P.underlying T = some (.slice e)) (hi : P.info? e = some i) (hx : Srcs P w x T' i.size ys m) (hc : n + m ≤ cap) :
  (Builtin.append_ #[T, T'] ty #[.slice base n cap, x]).run P w = ((match base with | some a => storeCells (a.add (n * i.size)) ys | none => pure ()).run P w).andThen fun _ w' => .ok (.slice base (n + m) cap) w' := by
 obtain ⟨u, hu', hne⟩ := hx.ty
 have hlx := hx.lenR w
 have hfx := hx.first
 have hm : (match u with | .int _ => true | _ => false) = false := by
  cases u <;> first
   | rfl
   | exact absurd rfl (hne _)
 unfold Builtin.append_
 simp only [List.getElem?_toArray, List.getElem?_cons_zero, List.getElem?_cons_succ, Sem.run_bind, run_und hu, run_und hu', Result.andThen_ok, run_size hi, Sem.run_pure, hm, Bool.false_eq_true, if_false, Bool.not_false, if_true, hlx, hc, hfx]
 cases base with
 | none => rfl
 | some a => simp only [Sem.run_bind, Sem.run_pure]
theorem runA_out {P : Program} {w : World} {T T' ty e : TypeId} {i : TypeInfo} {z x : Value} {xs ys : List Value} {n m cap : Nat} {base : Option Addr}
  (hu : P.underlying T = some (.slice e)) (hi : P.info? e = some i) (hz : i.zero = some z) (hbp : 0 < i.bytes)
  (hv : RdSl w (.slice base n cap) i.size xs n) (hx : Srcs P w x T' i.size ys m) (hc : cap < n + m) (hsm : (n + m) * i.bytes + 600 * i.bytes ≤ 2 ^ 40) :
  ∃ c', n + m ≤ c' ∧ (Builtin.append_ #[T, T'] ty #[.slice base n cap, x]).run P w =
   .ok (.slice (some ⟨w.heap.size, 0, none⟩) (n + m) c') (w.drew.alloc (.cells (xs.toArray ++ ys.toArray ++ Builtin.zeroCells z.cells (c' - (n + m))) e)) := by
 obtain ⟨u, hu', hne⟩ := hx.ty
 have hm : (match u with | .int _ => true | _ => false) = false := by
  cases u <;> first
   | rfl
   | exact absurd rfl (hne _)
 have hlx := hx.lenR w
 have hfx := hx.firstD
 have hfv : (Builtin.firstCells i.size n (.slice base n cap)).run P w.drew = .ok xs.toArray w.drew := RdSl.first (w := w.drew) (hv.keep (Ext.drew [] w) (by simp))
 have hnl := next_le (n + m) cap hc
 have hb : Builtin.nextslicecap (n + m) cap * i.bytes ≤ 2 ^ 48 := by
  have h2 := Nat.mul_le_mul_right i.bytes hnl
  have h3 : (2 * (n + m) + 600) * i.bytes = 2 * ((n + m) * i.bytes) + 600 * i.bytes := by rw [Nat.add_mul, Nat.mul_assoc]
  omega
 have hzr : ∀ w, (zeroValue e).run P w = .ok z w := fun w => by
  unfold zeroValue; simp only [Sem.run_bind, run_info hi, Result.andThen_ok, hz, Sem.run_pure]
 have h0 : ¬ i.bytes = 0 := by omega
 have hc' : ¬ n + m ≤ cap := by omega
 have hch : (choose (.appendCap (n + m) cap e)).run P w = .ok (n + m + w.tape w.drawn (.appendCap (n + m) cap e) % (2 ^ 63 - (n + m))) w.drew := rfl
 refine ⟨_, Nat.le_add_right _ (w.tape w.drawn (.appendCap (n + m) cap e) % (2 ^ 63 - (n + m))), ?_⟩
 unfold Builtin.append_
 simp only [List.getElem?_toArray, List.getElem?_cons_zero, List.getElem?_cons_succ, Sem.run_bind, run_und hu, run_und hu', Result.andThen_ok, run_size hi, Sem.run_pure, hm, Bool.false_eq_true, if_false, Bool.not_false, if_true, hlx, hc', run_info hi, h0, or_self, and_false]
 rw [if_neg (by omega)]
 simp only [Sem.run_bind, hch, Result.andThen_ok, run_info hi, run_askRoom, hfv, hfx, hzr, Sem.run_pure]
 rfl
structure AppS (P : Program) (w : World) (T T' ty e : TypeId) (i : TypeInfo) (zv : Value) (x : Value) (ys : List Value) (m : Nat) : Prop where
 len : ys.length = m * i.size
 inn : ∀ {n cap : Nat} {base : Option Addr}, n + m ≤ cap -> (Builtin.append_ #[T, T'] ty #[.slice base n cap, x]).run P w = ((match base with | some a => storeCells (a.add (n * i.size)) ys | none => pure ()).run P w).andThen fun _ w' => .ok (.slice base (n + m) cap) w'
 out : ∀ {xs : List Value} {n cap : Nat} {base : Option Addr}, RdSl w (.slice base n cap) i.size xs n -> cap < n + m -> (n + m) * i.bytes + 600 * i.bytes ≤ 2 ^ 40 →
  ∃ c', n + m ≤ c' ∧ (Builtin.append_ #[T, T'] ty #[.slice base n cap, x]).run P w = .ok (.slice (some ⟨w.heap.size, 0, none⟩) (n + m) c') (w.drew.alloc (.cells (xs.toArray ++ ys.toArray ++ Builtin.zeroCells zv.cells (c' - (n + m))) e))
theorem Srcs.app {P : Program} {w : World} {T T' ty e : TypeId} {i : TypeInfo} {zv x : Value} {ys : List Value} {m : Nat} (hx : Srcs P w x T' i.size ys m) (hu : P.underlying T = some (.slice e)) (hi : P.info? e = some i) (hz : i.zero = some zv) (hbp : 0 < i.bytes) : AppS P w T T' ty e i zv x ys m :=
 ⟨hx.len, fun h => runA_in hu hi hx h, fun h1 h2 h3 => runA_out hu hi hz hbp h1 hx h2 h3⟩
noncomputable def appL (xs ys : List XV) : List XV := List.rec ys (fun x _ ih => x :: ih) xs
theorem appL_eq : ∀ xs ys : List XV, appL xs ys = xs ++ ys
 | [], _ => rfl
 | x :: xs, ys => congrArg (x :: ·) (appL_eq xs ys)
noncomputable def srcX (x : XV) (s : XS) (z : Nat) (f : Nat -> List XV -> XR) : XR :=
 asSl x (f 0 []) fun b o l _ z' => gX (Nat.beq z' z) (getB s b fun B => gX (Nat.ble (Nat.add o (Nat.mul l z)) B.size) (f l (cellsX B.cs (Nat.mul l z) o)))
theorem cellsX_R {α : Al} {B : AB} {base o n : Nat} {cs : Array Value} (hR : CellsR α B base cs) (h : o + n ≤ B.size) : VRs α (cellsX B.cs n o) ((cs.toList.drop (base + o)).take n) := by
 have hsz := hR.1
 refine VRs.of (by simp [cellsX_length]; omega) fun j x u e1 e2 => ?_
 have hj : j < n := by have := (List.getElem?_eq_some_iff.1 e1).1; rwa [cellsX_length] at this
 rw [cellsX_get _ _ _ _ hj] at e1
 cases e1
 obtain ⟨u', h1, h2⟩ := cellX_R (i := o + j) hR (by omega)
 rw [List.getElem?_take, if_pos hj, List.getElem?_drop, Array.getElem?_toList, Nat.add_assoc, h1] at e2
 cases e2
 exact h2
theorem VR.sl_inv {α : Al} {b o l c z : Nat} {v : Value} (h : VR α (.sl b o l c z) v) : ∃ B base m p c', α b = some (B, base, m) ∧ v = .slice (some ⟨B, p, none⟩) l c' ∧ (p = base + o ∨ (c' = 0 ∧ c = bigI)) ∧ ((c < big ∧ c' = c) ∨ (big ≤ c ∧ base + o + c' * z = m)) ∧ l ≤ c' ∧ p + c' * z ≤ m := by
 cases h with
 | sl b o l c z B base m p c' h hp hc hl hm => exact ⟨B, base, m, p, c', h, rfl, hp, hc, hl, hm⟩
theorem VR.nils_inv {α : Al} {v : Value} (h : VR α .nils v) : v = .slice none 0 0 := by cases h; rfl
theorem rdSl_of {α : Al} {w : World} {B : AB} {Bc base o p l c z : Nat} {cs : Array Value} {t : TypeId} {fz : Nat × Nat} (hC : w.heap[Bc]? = some (.cells cs t fz)) (hR : CellsR α B base cs) (h : o + l * z ≤ B.size) (hp : p = base + o ∨ c = 0) (hl : l ≤ c) :
  RdSl w (.slice (some ⟨Bc, p, none⟩) l c) z ((cs.toList.drop (base + o)).take (l * z)) l := by
 have hsz := hR.1
 rcases hp with rfl | rfl
 ·exact ⟨by simp; omega, .inr ⟨Bc, base + o, c, cs.toList, rfl, ⟨t, _, by simpa using hC⟩, rfl, by simp; omega⟩⟩
 ·obtain rfl : l = 0 := by omega
  exact ⟨by simp, .inl ⟨by simp, _, _, rfl⟩⟩
theorem srcX_no {x : XV} {s : XS} {z : Nat} {f : Nat -> List XV -> XR} {r : XR} (h : srcX x s z f = r) (hr : r ≠ .no) {α : Al} {w : World} {v : Value} (ha : Abs α s w) (hv : VR α x v) :
  ∃ n xs ys, f n xs = r ∧ RdSl w v z ys n ∧ VRs α xs ys := by
 rcases asSl_no h hr with ⟨rfl, h⟩ | ⟨b, o, l, c, z', rfl, h⟩
 ·rw [hv.nils_inv]
  exact ⟨0, [], [], h, ⟨by simp, .inl ⟨rfl, _, _, rfl⟩⟩, .nil⟩
 ·obtain ⟨_, h⟩ := gX_no h hr
  obtain ⟨B, hB, h⟩ := getB_no h hr
  obtain ⟨hle, h⟩ := gX_no h hr
  obtain ⟨Bc, base, m, p, c', hα, rfl, hp, _, hlc, _⟩ := hv.sl_inv
  obtain ⟨cs, t, fz, hC, _, hm, hR⟩ := ha.blk hα hB
  have hle : o + l * z ≤ B.size := Nat.le_of_ble_eq_true hle
  exact ⟨l, _, _, h, rdSl_of hC hR hle (hp.imp id And.left) hlc, cellsX_R hR hle⟩
noncomputable def bytesL (l : List Nat) : List XV := List.rec [] (fun n _ ih => .int .u8 (Int.ofNat n) :: ih) l
theorem bytesL_R (α : Al) : ∀ l : List UInt8, VRs α (bytesL (l.map UInt8.toNat)) (l.map fun b => Value.int .u8 b.toNat)
 | [] => .nil
 | b :: l => .cons _ _ _ _ (.int _ _) (bytesL_R α l)
noncomputable def lenN (xs : List Nat) : Nat := List.rec 0 (fun _ _ n => Nat.succ n) xs
theorem lenN_eq : ∀ xs : List Nat, lenN xs = xs.length
 | [] => rfl
 | _ :: xs => congrArg Nat.succ (lenN_eq xs)
theorem VR.str_inv {α : Al} {l : List Nat} {v : Value} (h : VR α (.str l) v) : ∃ s, v = .string s ∧ bytesN s = l := by cases h with | str s l h => exact ⟨s, rfl, h⟩
noncomputable def srcA (g : Bool) (x : XV) (s : XS) (z : Nat) (f : Nat -> List XV -> XR) : XR := Bool.rec (srcX x s z f) (asStr x fun l => f (lenN l) (bytesL l)) g
theorem srcA_no {P : Program} {T' : TypeId} {g : Bool} (ht : SrcT P T' g) {x : XV} {s : XS} {z : Nat} (hz : g = true -> z = 1) {f : Nat -> List XV -> XR} {r : XR} (h : srcA g x s z f = r) (hr : r ≠ .no) {α : Al} {w : World} {v : Value} (ha : Abs α s w) (hv : VR α x v) :
  ∃ n xs ys, f n xs = r ∧ Srcs P w v T' z ys n ∧ VRs α xs ys := by
 cases g with
 | false =>
  obtain ⟨n, xs, ys, h1, h2, h3⟩ := srcX_no h hr ha hv
  exact ⟨n, xs, ys, h1, .of_rd h2 ht, h3⟩
 | true =>
  obtain ⟨l, rfl, h⟩ := asStr_no h hr
  obtain ⟨t, rfl, hl⟩ := hv.str_inv
  have hz := hz rfl
  subst hz
  have hlen : lenN l = t.size := by rw [lenN_eq, ← hl]; show (t.data.toList.map UInt8.toNat).length = t.data.size; rw [List.length_map, Array.length_toList]
  have hfc : ∀ w : World, (Builtin.firstCells 1 (lenN l) (.string t)).run P w = .ok (t.data.toList.map fun b => Value.int .u8 b.toNat).toArray w := fun w => by
   rw [hlen]
   show (Result.ok ((t.extract 0 t.size).data.map fun b => Value.int .u8 b.toNat) w : Result (Array Value)) = _
   congr 1
   rw [ByteArray.extract_zero_size]
   apply Array.ext'
   simp
  refine ⟨lenN l, bytesL l, t.data.toList.map fun b => Value.int .u8 b.toNat, h, ⟨?_, fun w => by rw [hlen]; rfl, hfc w, hfc w.drew, fun q hq => ?_, _, ht, by simp⟩, ?_⟩
  ·rw [hlen, Nat.mul_one, List.length_map, Array.length_toList]; rfl
  ·rw [hlen] at hq
   show (Result.ok ((t.extract 0 q).data.map fun b => Value.int .u8 b.toNat) w : Result (Array Value)) = _
   congr 1
   apply Array.ext'
   rw [Array.toList_map, ByteArray.data_extract, Array.toList_extract, List.extract_eq_take_drop, List.drop_zero, Nat.sub_zero, List.toList_toArray, Nat.mul_one, List.map_take]
  ·rw [← hl]
   exact bytesL_R α _
noncomputable def smallX (n by_ : Nat) : Bool := Nat.ble (Nat.add (Nat.mul n by_) (Nat.mul 600 by_)) 1099511627776
noncomputable def growX (s : XS) (k : XK) (cs : Tr XV) (n z : Nat) : XR := k (.sl s.next 0 n big z) (newAt s.next s cs (Nat.mul n z))
noncomputable def appU (b o l z n : Nat) (xs : List XV) (B y : AB) (s : XS) (k : XK) : XR :=
 let lo := Nat.add (Nat.add o (Nat.mul l z)) B.delta
 let hi := Nat.add (Nat.add o (Nat.mul (Nat.add l n) z)) B.delta
 let h1 : Tr AO := Bool.rec (poisL s.next lo hi (B.root :: y.kin) s.heap) s.heap (Nat.ble y.hw lo)
 getB ⟨h1, s.next⟩ B.root fun y1 => k (.sl s.next 0 (Nat.add l n) big z)
  ⟨putK (putK h1 B.root (.blk ⟨y1.cs, y1.size, y1.root, y1.delta, s.next :: y1.kin, Bool.rec y.hw hi (Nat.ble y.hw hi), y1.ro⟩)) s.next
   (.blk ⟨Bool.rec (putL (appL (cellsX B.cs (Nat.mul l z) o) xs) .nil 0) (putL xs B.cs (Nat.mul l z)) (Nat.beq o 0), Nat.mul (Nat.add l n) z, B.root, Nat.add B.delta o, [], 0, false⟩), Nat.succ s.next⟩
noncomputable def appX2 (z0 y0 : Nat) (a : XV) (n : Nat) (xs : List XV) (s : XS) (k : XK) : XR :=
  asSl a (Bool.rec (gX (smallX n y0) (growX s k (putL xs .nil 0) n z0)) (k a s) (Nat.beq n 0))
   fun b o l c z => gX (Nat.beq z z0) (Bool.rec
    (getB s b fun B => gX (Nat.ble (Nat.add o (Nat.mul l z)) B.size) (Bool.rec
     (Bool.rec
      (gX (smallX (Nat.add l n) y0) (growX s k (putL (appL (cellsX B.cs (Nat.mul l z) o) xs) .nil 0) (Nat.add l n) z))
      (gX (allOneX xs) (gX (Nat.ble (Nat.add o (Nat.mul (Nat.add l n) z)) B.size) (nRo B <| rootX s b B fun y => k (.sl b o (Nat.add l n) c z)
       ⟨poisX b (Nat.add (Nat.add o (Nat.mul l z)) B.delta) (Nat.add (Nat.add o (Nat.mul (Nat.add l n) z)) B.delta) B.root y.kin (putK s.heap b (.blk ⟨putL xs B.cs (Nat.add o (Nat.mul l z)), B.size, B.root, B.delta, B.kin, B.hw, B.ro⟩)), s.next⟩)))
      (Nat.ble (Nat.add l n) c))
     (gX (smallX (Nat.add l n) y0) (gX (allOneX xs) (nRo B <| rootX s b B fun y => appU b o l z n xs B y s k)))
     (Nat.ble big c)))
    (k a s) (Nat.beq n 0))
noncomputable def appX1 (g : Bool) (z0 y0 : Nat) (a x : XV) (s : XS) (k : XK) : XR := srcA g x s z0 fun n xs => appX2 z0 y0 a n xs s k
noncomputable def appX (i : Option (Bool × Nat × Nat)) (a x : XV) (s : XS) (k : XK) : XR :=
 Option.rec (motive := fun _ => XR) .no (fun i => appX1 i.1 i.2.1 i.2.2 a x s k) i
theorem run_store {P : Program} {w : World} {b o : Nat} {cs : Array Value} {t : TypeId} {ys : List Value} (hb : w.heap[b]? = some (.cells cs t (0, 0))) (hle : o + ys.length ≤ cs.size) (h1 : ∀ y ∈ ys, y.oneCell' = true) :
  (storeCells ⟨b, o, none⟩ ys).run P w = .ok () (setB w b (.cells (spl cs o ys.toArray) t)) := by
 have hst := run_storeCells_at P b o t ys 0 cs w hb (by omega) h1
 rw [setRow_setB hb] at hst
 simpa [spl] using hst
theorem growX_ok {X : Nat -> Prop} {s : XS} {k : XK} {cs : Tr XV} {n z : Nat} {r : XR} (h : growX s k cs n z = r) {α : Al} {w : World} (ha : Abs α s w) {vs : Array Value} {t : TypeId} {c' : Nat}
  (hn : n ≤ c') (hc' : c' * z = vs.size) (hc : ∀ i x, i < n * z -> getK cs i = some x -> ∃ v, vs[i]? = some v ∧ VR α x v) :
  PV X k r α s w (.slice (some ⟨w.heap.size, 0, none⟩) n c') (w.drew.alloc (.cells vs t)) := by
 have hf := ha.fresh s.next (Nat.le_refl _)
 obtain ⟨h1, h2⟩ := newAt_abs ha.drew (b := s.next) (Nat.le_refl _) hf (cs := cs) (n := n * z) (t := t) (vs := vs) ⟨Nat.le_trans (Nat.mul_le_mul_right z hn) (Nat.le_of_eq hc'), hc⟩
 refine ⟨_, _, _, (XE.drew X α s w).trans { h2 with pend := fun b hb hn hX => h2.pend b hb hn (by omega) }, h1, .sl s.next 0 n big z w.heap.size 0 vs.size 0 c' (if_pos rfl) (.inl rfl) (.inr ⟨Nat.le_refl _, by omega⟩) hn (by omega), h⟩
theorem putL_R {α : Al} {xs : List XV} {ys : List Value} (h : VRs α xs ys) {vs : Array Value} (hv : ∀ i, i < ys.length -> vs[i]? = ys[i]?) : ∀ i x, i < ys.length -> getK (putL xs .nil 0) i = some x -> ∃ v, vs[i]? = some v ∧ VR α x v := by
 intro i x hi e
 rw [getK_putL] at e
 have hl := h.length
 rw [if_pos (by omega), Nat.sub_zero] at e
 obtain ⟨v, h1, h2⟩ := h.get i x e
 exact ⟨v, by rw [hv i hi]; exact h1, h2⟩
section
variable {P : Program} {w : World} {K : VPost}
theorem appendA_i {T T' ty e : TypeId} {i : TypeInfo} {z : Value} {v x : Value} {xs ys : List Value} {n m : Nat}
  (hzs : z.cells.size = i.size) (hv : OwnAt w v e i.size xs n) (hx : AppS P w T T' ty e i z x ys m) (h1 : ∀ y ∈ ys, y.oneCell' = true) (hsm : (n + m) * i.bytes + 600 * i.bytes ≤ 2 ^ 40)
  (h : ∀ v' w', OwnAt w' v' e i.size (xs ++ ys) (n + m) -> Ext (slB v) w w' -> (slB v' = slB v ∨ ∃ b', slB v' = [b'] ∧ w.heap.size ≤ b') -> K v' w') :
  insW P (Builtin.append_ #[T, T'] ty #[v, x]) w K := by
 have out : ∀ base cap, v = .slice base n cap -> cap < n + m -> xs.length = n * i.size -> insW P (Builtin.append_ #[T, T'] ty #[v, x]) w K := by
  intro base cap hb hc hl
  have hrd := hv.rd
  subst hb
  obtain ⟨c', hc', hr⟩ := hx.out hrd hc hsm
  have hown : OwnSl (w.drew.alloc (.cells (xs.toArray ++ ys.toArray ++ Builtin.zeroCells z.cells (c' - (n + m))) e)) (.slice (some ⟨w.heap.size, 0, none⟩) (n + m) c') e i.size (xs ++ ys) (n + m) := by
   refine .inr ⟨w.heap.size, c', (Builtin.zeroCells z.cells (c' - (n + m))).toList, rfl, ?_, ?_, ?_, hc'⟩
   ·show (w.drew.alloc _).heap[w.drew.heap.size]? = _
    rw [alloc_new]
    simp
   ·rw [List.length_append, hl, hx.1, Nat.add_mul]
   ·simp only [List.length_append, Array.length_toList, zeroCells_size, hzs, hl, hx.1]
    have := Nat.sub_add_cancel hc'
    generalize c' - (n + m) = q at *
    subst this
    rw [Nat.add_mul, Nat.add_mul]; omega
  exact insW_ok hr (h _ _ hown.at ((Ext.drew _ w).new (ext_alloc w.drew _)) (.inr ⟨w.heap.size, rfl, Nat.le_refl _⟩))
 rcases hv with ⟨rfl, rfl, rfl⟩ | ⟨b, o, c, cs, rfl, hb, hl, ht, hc, hn⟩
 ·by_cases hm : m = 0
  ·subst hm
   have hy : ys = [] := by have := hx.1; simpa using this
   subst hy
   have hr := hx.inn (base := none) (n := 0) (cap := 0) (Nat.le_refl _)
   exact insW_ok hr (h _ _ (.inl ⟨rfl, rfl, rfl⟩) (Ext.refl _ _) (.inl rfl))
  ·exact out none 0 rfl (by omega) (by simp)
 ·by_cases hcap : n + m ≤ c
  ·have hr := hx.inn (base := some ⟨b, o, none⟩) hcap
   have hlen : o + n * i.size + ys.length ≤ cs.length := by
    have := Nat.mul_le_mul_right i.size hcap
    rw [Nat.add_mul] at this
    rw [hx.1]; omega
   have hst := run_storeCells_at P b (o + n * i.size) e ys 0 cs.toArray w hb (by simpa using hlen) h1
   simp only [add_addr] at hr
   simp only [hst, Result.andThen_ok, setRow_setB hb, Nat.add_zero] at hr
   refine insW_ok hr (h _ _ (.inr ⟨b, o, c, lspl cs (o + n * i.size) ys, rfl, ?_, ?_, ?_, ?_, hcap⟩) (ext_setB w b _) (.inl rfl))
   ·unfold Blk
    show (w.heap.setIfInBounds b _)[b]? = _
    rw [Array.getElem?_setIfInBounds]
    have : b < w.heap.size := hb.lt
    simp only [if_true, this]
    rfl
   ·rw [List.length_append, hl, hx.1, Nat.add_mul]
   ·rw [Nat.add_mul, ← hx.1, ← hl] at *
    unfold lspl
    rw [List.append_assoc, List.drop_append_of_le_length (by rw [List.length_take]; omega), List.drop_take, show o + xs.length - o = xs.length by omega, ht, ← List.append_assoc, ← List.length_append, List.take_left]
   ·rw [lspl_length hlen]; exact hc
  ·exact out _ c rfl (by omega) hl
theorem srcs_str {T' : TypeId} (ht : P.underlying T' = some .string) (l : Bytes) : Srcs P w (sv l) T' 1 (bc l) l.length := by
 have hfc : ∀ (q : Nat) (w : World), (Builtin.firstCells 1 q (sv l)).run P w = .ok ((bc l).take (q * 1)).toArray w := fun q w => by
  show (Result.ok (((⟨l.toArray⟩ : ByteArray).extract 0 q).data.map fun b => Value.int .u8 b.toNat) w : Result (Array Value)) = _
  congr 1
  apply Array.ext'
  rw [ByteArray.data_extract, Array.toList_map, Array.toList_extract, List.extract_eq_take_drop, List.drop_zero, Nat.sub_zero, List.toList_toArray, Nat.mul_one, List.map_take]
  rfl
 have hall : (bc l).take (l.length * 1) = bc l := List.take_of_length_le (by rw [bc_length]; omega)
 exact ⟨by rw [bc_length]; omega, fun w => rfl, by have := hfc l.length w; rwa [hall] at this, by have := hfc l.length w.drew; rwa [hall] at this, fun q _ => hfc q w, _, ht, by simp⟩
end
section
variable {S : List Nat} {w0 w : World} {L R : List Res} {K : VPost}
theorem Sep.apStr {v : Value} {l y : Bytes} (s : Sep S w0 w L R) (i : Nat) (hL : L[i]? = some (rDb v l)) (hn : l.length + y.length ≤ 2 ^ 36)
  (h : ∀ v' w', Sep S w0 w' (L.set i (rDb v' (l ++ y))) R -> K v' w') : insW Tryz.prog (Builtin.append_ #[31, 9] 31 #[v, sv y]) w K := by
 obtain ⟨ui, hui, huz, husz, huby⟩ := tyI_spec ty_u8
 have hs : Srcs Tryz.prog w (sv y) 9 ui.size (bc y) y.length := by rw [husz]; exact srcs_str (by kernel_rfl) y
 have ho : OwnAt w v 5 ui.size (bc l) l.length := by rw [husz]; exact s.at i hL
 refine appendA_i (i := ui) (z := .int .u8 0) (by rw [husz]; rfl) ho (hs.app und_u8s hui huz (by rw [huby]; decide)) (bc_one _) (by rw [huby]; omega) fun v' w' hv e hb => ?_
 rw [husz, ← bc_append, ← List.length_append] at hv
 refine h v' w' (s.upd (T := rDb v l) i hL (T' := rDb v' (l ++ y)) hv e (by
  intro b hb'
  show b ∈ slB v ∨ _
  rcases hb with h2 | ⟨b', h2, h3⟩
  ·exact .inl (h2 ▸ hb')
  ·have hb' : b ∈ slB v' := hb'
   rw [h2] at hb'; simp at hb'; subst hb'; exact .inr h3))
theorem Sep.putB {K : Value -> World -> VPost} {v : Value} {l : Bytes} (s : Sep S w0 w L R) (i : Nat) (hL : L[i]? = some (rDb v l)) (c : UInt8) {x : Value} (hx : x = bv c) (hn : l.length ≤ 2 ^ 35)
  (h : ∀ t w1 v' w', Sep S w0 w' (L.set i (rDb v' (l ++ [c]))) R -> K t w1 v' w') : insW Tryz.prog (Instr.buildSlice 31 1 #[(0, x)]) w fun t w' => insW Tryz.prog (Builtin.append_ #[31, 31] 31 #[v, t]) w' (K t w') := by
 subst hx
 refine s.litB [c] rfl (by simp) fun t w1 s1 _ _ => ?_
 refine s1.apB (v := v) (l := l) (y := [c]) (i + 1) (by simpa using hL) (OwnAt.rd (s1.at 0 rfl)) (by simp; omega) fun v' w2 s2 => ?_
 refine h t w1 v' w2 ?_
 have := s2.drop 0
 simpa using this
end
theorem set_at {α : Type} {l : List α} {i : Nat} (h : i < l.length) {x : α} : (l.set i x)[i]? = some x := by simp [h]
theorem getD_mid (l r : Bytes) (a : UInt8) : (l ++ a :: r).getD l.length 0 = a := by simp [List.getD_eq_getElem?_getD]
theorem set_midB (l r : Bytes) (a b : UInt8) : (l ++ a :: r).set l.length b = l ++ b :: r := by
 rw [List.set_append_right _ _ (Nat.le_refl _), Nat.sub_self]; rfl
def numA : Nat -> Nat -> Bytes
 | 0, _ => []
 | i + 1, n => numA i n ++ if n >>> (40 - 8 * i) > 0 then [UInt8.ofNat (n >>> (40 - 8 * i))] else []
def numB (n : Nat) : Bytes := UInt8.ofNat (numA 6 n).length :: numA 6 n
theorem numA_len (n : Nat) : ∀ i, (numA i n).length ≤ i
 | 0 => Nat.le_refl _
 | i + 1 => by
  have := numA_len n i
  rw [numA, List.length_append]
  split <;> simp <;> omega
theorem numB_len (n : Nat) : (numB n).length ≤ 7 := by
 have := numA_len n 6
 unfold numB
 simp; omega
set_option maxHeartbeats 800000 in
theorem Sep.num {S : List Nat} {w0 w : World} {L R : List Res} {K : VPost} {v : Value} {l : Bytes} {n : Nat} (s : Sep S w0 w L R) (i : Nat) (hL : L[i]? = some (rDb v l)) (hl : l.length ≤ 2 ^ 30) (hn : n < 2 ^ 62)
  (h : ∀ v' w', Sep S w0 w' (L.set i (rDb v' (l ++ numB n))) R -> K v' w') : fnW Tryz.prog 45 #[v, .int .i64 n] w K := by
 refine fnW_of (by kernel_rfl) (c45_calls _ _ w K ?_)
 unfold c45
 have hi : i < L.length := (List.getElem?_eq_some_iff.1 hL).1
 have ho : OwnAt w v 5 1 (bc l) l.length := s.at i hL
 rw [ho.rd.lenw]
 refine s.putB i hL 0 (by rfl) (by omega) fun _ _ v1 w1 s => ?_
 refine bindX_i fun J0 g0 => bindX_i fun J1 g1 => bindX_i fun J2 g2 => ?_
 refine loop_i (fun m fr wr => ∃ (j : Nat) (v1 : Value), m = 6 - j ∧ j ≤ 6 ∧ fr 0 = v1 ∧ fr 1 = .int .i64 n ∧ fr 5 = .int .i64 l.length ∧ fr 6 = .int .i64 (40 - 8 * (j : Int)) ∧ Sep S w0 wr (L.set i (rDb v1 (l ++ UInt8.ofNat (numA j n).length :: numA j n))) R) 6 ?_ ?_
 ·exact ⟨0, v1, rfl, by omega, rfl, rfl, rfl, rfl, s⟩
 ·rintro m fr wr J ⟨j, v1, rfl, hj, f0, f1, f5, f6, s⟩ hJ hX
  rw [f6, f1, f0, f5]
  by_cases hlt : j < 6
  ·rw [igeq, decide_eq_true (by omega)]
   refine cndT ?_
   refine bindX_i fun J3 g3 => bindX_i fun _ _ => ?_
   rw [show (40 - 8 * (j : Int)) = ((40 - 8 * j : Nat) : Int) by omega] at *
   refine nshr (by show 40 - 8 * j ≤ 64; omega) ?_
   refine ngtr (y := 0) ?_
   have next : ∀ fr' w' v', fr' 0 = v' -> fr' 1 = .int .i64 n -> fr' 5 = .int .i64 l.length -> fr' 6 = .int .i64 ((40 - 8 * j : Nat) : Int) -> Sep S w0 w' (L.set i (rDb v' (l ++ UInt8.ofNat (numA (j + 1) n).length :: numA (j + 1) n))) R -> J3 .normal fr' w' := by
    intro fr' w' v' k0 k1 k5 k6 s
    refine seq_n g3 ?_
    rw [k6]
    refine isub (by omega) ?_
    exact hJ (6 - (j + 1)) _ _ (by omega) ⟨j + 1, v', rfl, by omega, k0, k1, k5, by show Value.int .i64 (((40 - 8 * j : Nat) : Int) - 8) = _; congr 1; omega, s⟩
   refine cond_d (fun hp => ?_) (fun hp => ?_)
   ·refine nshr (by show 40 - 8 * j ≤ 64; omega) ?_
    rw [conv_byte und_int und_u8]
    have hlen := numA_len n j
    refine s.putB i (set_at hi) (UInt8.ofNat (n >>> (40 - 8 * j))) (by rfl) (by simp; omega) fun _ _ v2 w2 s => ?_
    rw [List.set_set, List.append_assoc, List.cons_append] at s
    have e : (l ++ UInt8.ofNat (numA j n).length :: (numA j n ++ [UInt8.ofNat (n >>> (40 - 8 * j))])).length = l.length + 2 + (numA j n).length := by simp; omega
    have s : Sep S w0 w2 (L.set i (rO v2 5 1 (bc (l ++ UInt8.ofNat (numA j n).length :: (numA j n ++ [UInt8.ofNat (n >>> (40 - 8 * j))]))) (l.length + 2 + (numA j n).length))) R := by
     have := s
     unfold rDb at this
     rwa [e] at this
    obtain ⟨b, o, h1, h2, h3⟩ := s.byteAt (k := l.length) i (set_at hi) (by omega) .i64
    rw [getD_mid] at h2
    refine h1 _ ?_
    refine h2 _ ?_
    refine (show binN Tryz.prog .add 5 true (bv (UInt8.ofNat (numA j n).length)) (bv 1) _ _ from ?_)
    rw [u8_add]
    refine h1 _ ?_
    refine h3 true _ _ fun w3 s => ?_
    rw [List.set_set, set_midB] at s
    refine next _ _ v2 rfl f1 f5 f6 ?_
    have e1 : UInt8.ofNat (numA j n).length + 1 = UInt8.ofNat (numA (j + 1) n).length := by
     rw [numA, if_pos hp, List.length_append]
     apply UInt8.toNat_inj.1
     simp
    have e2 : numA (j + 1) n = numA j n ++ [UInt8.ofNat (n >>> (40 - 8 * j))] := by rw [numA, if_pos hp]
    have e3 : (l ++ UInt8.ofNat (numA (j + 1) n).length :: numA (j + 1) n).length = l.length + 2 + (numA j n).length := by rw [e2]; simp; omega
    unfold rDb
    rw [e3, e2, ← e2, ← e1, e2]
    exact s
   ·refine next _ _ v1 f0 f1 f5 f6 ?_
    rw [numA, if_neg hp, List.append_nil]
    exact s
  ·obtain rfl : j = 6 := by omega
   rw [igeq, decide_eq_false (by decide)]
   refine cndF ?_
   refine hX _ _ _ (by simp) (g2 _ _ _ (blk_x (seq_n g1 ?_)))
   show K (fr 0) wr
   rw [f0]
   exact h v1 wr s
def textB (s : Bytes) : Bytes := numB s.length ++ s
def by8 (n : Int) : UInt8 := UInt8.ofNat n.toNat
def lvB (l : Lv) : Bytes := [by8 l.base, by8 (l.p0 + 1), by8 (l.p1 + 1), by8 (l.p2 + 1), by8 (l.p3 + 1)]
def headB (k n : Int) (s : Bytes) (m : Nat) : Bytes := if k = 1 then numB n.toNat else if k = 9 then numB n.toNat ++ textB s else if k = 4 then textB s ++ [UInt8.ofNat m] else []
mutual
def putT : TM -> Bytes
 | .mk k n s ls args => by8 k :: (headB k n s ls.length ++ ls.flatMap lvB ++ putTs args)
def putTs : List TM -> Bytes
 | [] => []
 | a :: r => putT a ++ putTs r
end
theorem putTs_eq : ∀ l : List TM, putTs l = l.flatMap putT
 | [] => rfl
 | a :: r => by rw [putTs, putTs_eq r, List.flatMap_cons]
theorem putT_eq (k n : Int) (s : Bytes) (ls : List Lv) (args : List TM) : putT (.mk k n s ls args) = by8 k :: (headB k n s ls.length ++ ls.flatMap lvB ++ args.flatMap putT) := by rw [putT, putTs_eq]
theorem putT_e (t : TV) : putT t.e = by8 t.k :: (headB t.k t.n t.s t.ls.length ++ t.ls.flatMap lvB ++ t.args.flatMap fun a => putT a.e) := by
 rw [TV.e_eq, putT_eq, List.flatMap_map]
theorem by8_nat {n : Int} (h : 0 ≤ n) : ∃ m : Nat, n = (m : Int) ∧ by8 n = UInt8.ofNat m := ⟨n.toNat, by omega, rfl⟩
theorem Sep.text {S : List Nat} {w0 w : World} {L R : List Res} {K : VPost} {v : Value} {l y : Bytes} (s : Sep S w0 w L R) (i : Nat) (hL : L[i]? = some (rDb v l)) (hl : l.length ≤ 2 ^ 30) (hn : y.length ≤ 2 ^ 30)
  (h : ∀ v' w', Sep S w0 w' (L.set i (rDb v' (l ++ textB y))) R -> K v' w') : fnW Tryz.prog 50 #[v, sv y] w K := by
 refine fnW_of (by kernel_rfl) (c50_calls _ _ w K ?_)
 unfold c50
 have hi : i < L.length := (List.getElem?_eq_some_iff.1 hL).1
 rw [sv_len]
 refine s.num i hL hl (by omega) fun v1 w1 s => ?_
 have := numB_len y.length
 refine s.apStr i (set_at hi) (by simp; omega) fun v2 w2 s => ?_
 rw [List.set_set, List.append_assoc] at s
 exact h v2 w2 s
theorem lvsR_alls {k n : Int} {s : Bytes} {ls : List Lv} {args : List TM} {p : Int} (h : lvsR (.mk k n s ls args) p = true) (h1 : 1 ≤ k) (h9 : k ≤ 9) : (∀ l ∈ ls, lvR l = true) ∧ ls.length ≤ 4 := by
 rw [lvsR_eq p h1 h9] at h
 simp only [Bool.and_eq_true, Bool.not_eq_true', List.any_eq_false, lvX, Bool.or_eq_false_iff, decide_eq_false_iff_not] at h
 refine ⟨fun l hl => ?_, ?_⟩
 ·have := h.2 l hl
  simp at this
  exact this.1
 ·have h2 : ls.length ≤ levN k := by omega
  have : levN k ≤ 4 := by unfold levN; split <;> (try split) <;> omega
  omega
theorem lvR_bd {l : Lv} (h : lvR l = true) : 0 ≤ l.base ∧ l.base ≤ 100 ∧ ∀ q ∈ l.ps, -1 ≤ q ∧ q ≤ 100 := by
 unfold lvR at h
 simp only [decide_eq_true_eq] at h
 refine ⟨by omega, by omega, fun q hq => ?_⟩
 unfold Lv.ps at hq
 simp only [List.mem_cons, List.not_mem_nil, or_false] at hq
 rcases hq with rfl | rfl | rfl | rfl <;> omega
theorem lvB_ps (l : Lv) : lvB l = by8 l.base :: l.ps.map fun q => by8 (q + 1) := rfl
theorem wordB_len {s : Bytes} (h : wordB s = true) : s.length ≤ 32 := by
 unfold wordB at h
 simp only [Bool.and_eq_true, decide_eq_true_eq] at h
 exact h.1.1
theorem lvB_flat (ls : List Lv) : (ls.flatMap lvB).length = 5 * ls.length := by
 induction ls with
 | nil => rfl
 | cons l r ih => rw [List.flatMap_cons, List.length_append, ih]; simp [lvB]; omega
theorem node_put {k n : Int} {s : Bytes} {ls : List Lv} {args : List TM} {p v : Int} {d : Nat} (h : nodeR (.mk k n s ls args) p v d = true) (hv : v ≤ 2 ^ 40 + d) :
  1 ≤ k ∧ k ≤ 9 ∧ d ≤ 200 ∧ (k = 1 ∨ k = 9 -> 0 ≤ n ∧ n ≤ 2 ^ 41) ∧ (k = 4 ∨ k = 9 -> s.length ≤ 32) ∧ (∀ l ∈ ls, lvR l = true) ∧ ls.length ≤ 4 := by
 unfold nodeR at h
 simp only [Bool.and_eq_true, decide_eq_true_eq] at h
 obtain ⟨⟨⟨h1, h2, h3, h4⟩, h5⟩, h6⟩ := h
 have h1 : 1 ≤ k := h1
 have h2 : k ≤ 9 := h2
 obtain ⟨h7, h8⟩ := lvsR_alls h6 h1 h2
 refine ⟨h1, h2, h3, fun hk => ?_, fun hk => ?_, h7, h8⟩
 ·unfold numR at h5
  rcases hk with hk | hk
  ·rw [if_pos (show TM.k (.mk k n s ls args) = 1 from hk)] at h5
   simp only [decide_eq_true_eq] at h5
   have h9 : 0 ≤ n := h5.1
   have h10 : n < v := h5.2.1
   omega
  ·rw [if_neg (show ¬ TM.k (.mk k n s ls args) = 1 by show ¬ k = 1; omega), if_neg (show ¬ TM.k (.mk k n s ls args) = 4 by show ¬ k = 4; omega), if_pos (show TM.k (.mk k n s ls args) = 9 from hk)] at h5
   simp only [Bool.and_eq_true, decide_eq_true_eq] at h5
   have h9 : 0 ≤ n := h5.1.1
   have h10 : n ≤ 31 := h5.1.2
   omega
 ·unfold numR at h5
  rcases hk with hk | hk
  ·rw [if_neg (show ¬ TM.k (.mk k n s ls args) = 1 by show ¬ k = 1; omega), if_pos (show TM.k (.mk k n s ls args) = 4 from hk)] at h5
   simp only [Bool.and_eq_true] at h5
   exact wordB_len h5.2
  ·rw [if_neg (show ¬ TM.k (.mk k n s ls args) = 1 by show ¬ k = 1; omega), if_neg (show ¬ TM.k (.mk k n s ls args) = 4 by show ¬ k = 4; omega), if_pos (show TM.k (.mk k n s ls args) = 9 from hk)] at h5
   simp only [Bool.and_eq_true] at h5
   exact wordB_len h5.2
theorem headB_len {k n : Int} {s : Bytes} {m : Nat} (h : k = 4 ∨ k = 9 -> s.length ≤ 32) : (headB k n s m).length ≤ 46 := by
 have h1 := numB_len n.toNat
 have h2 := numB_len s.length
 unfold headB textB
 split
 ·omega
 split
 ·rename_i hk
  have := h (.inr hk)
  simp only [List.length_append]
  omega
 split
 ·rename_i hk
  have := h (.inl hk)
  simp only [List.length_append, List.length_singleton]
  omega
 ·simp
theorem set_at1 {α : Type} {l : List α} {i : Nat} (h : i < l.length) {x a : α} : (a :: l.set i x)[i + 1]? = some x := by simp [h]
theorem set_at2 {α : Type} {l : List α} {i : Nat} (h : i < l.length) {x a b : α} : (a :: b :: l.set i x)[i + 2]? = some x := by simp [h]
theorem zero_lv : zeroO Tryz.prog 95 = some (.agg zL.toArray) := by kernel_rfl
theorem flat_lv {ls : List Lv} {j : Nat} (hj : j < ls.length) : (ls.take (j + 1)).flatMap lvB = (ls.take j).flatMap lvB ++ lvB ls[j] := by
 rw [List.take_succ_eq_append_getElem hj, List.flatMap_append]; simp
theorem flat_put {ts : List TV} {j : Nat} (hj : j < ts.length) : ((ts.take (j + 1)).flatMap fun a => putT a.e) = ((ts.take j).flatMap fun a => putT a.e) ++ putT ts[j].e := by
 rw [List.take_succ_eq_append_getElem hj, List.flatMap_append]; simp
theorem puts_len : ∀ (l : List TV), (∀ a ∈ l, (putT a.e).length ≤ 60 * a.size) -> (l.flatMap fun a => putT a.e).length ≤ 60 * TV.sizes l := by
 intro l
 induction l with
 | nil => intro _; simp
 | cons a r ihl =>
  intro hq
  rw [List.flatMap_cons, List.length_append, TV.sizes]
  have := hq a List.mem_cons_self
  have := ihl fun b hb => hq b (List.mem_cons_of_mem _ hb)
  omega
theorem putT_len : ∀ (t : TV) (p v : Int) (d : Nat), allR t.e p v d = true -> v ≤ 2 ^ 40 + d -> (putT t.e).length ≤ 60 * t.size := by
 refine TV.ind fun k n nm ls lv av args ih p v d h hv => ?_
 rw [putT_e]
 rw [TV.e_eq, allR_args, Bool.and_eq_true] at h
 obtain ⟨_, _, _, _, h5, _, _⟩ := node_put h.1 hv
 have hh := headB_len (k := k) (n := n) (s := nm) (m := ls.length) h5
 have hl := lvB_flat ls
 have haa := puts_len args fun a hm => by
  obtain ⟨i, hi, rfl⟩ := List.getElem_of_mem hm
  have := List.all_eq_true.1 h.2 i (List.mem_range.2 (by simpa [TV.args] using hi))
  simp only [TV.args, List.getElem?_map, List.getElem?_eq_getElem hi, Option.map_some] at this
  exact ih _ hm _ _ _ this (by push_cast; omega)
 have hs : (TV.mk k n nm ls lv av args).size = 1 + ls.length + TV.sizes args := by rw [TV.size]
 rw [hs]
 simp only [List.length_cons, List.length_append, TV.k, TV.n, TV.s, TV.ls, TV.args]
 omega
set_option maxHeartbeats 2000000 in
theorem put_w : ∀ (t : TV) (p v : Int) (d : Nat) {S : List Nat} {w0 w : World} {L R : List Res} {K : VPost} {x : Value} {l : Bytes} (_ : Sep S w0 w L R) (i : Nat) (_ : L[i]? = some (rDb x l)) (_ : rT t ∈ R), allR t.e p v d = true -> v ≤ 2 ^ 40 + d -> l.length + 60 * t.size ≤ 2 ^ 30 →
  (∀ x' w', Sep S w0 w' (L.set i (rDb x' (l ++ putT t.e))) R -> K x' w') -> fnW Tryz.prog 51 #[x, t.v] w K := by
 refine TV.ind fun k n nm ls lv av args ih p v d S w0 w L R K x l s i hL hT hr hv hl hK => ?_
 refine fnW_of (by kernel_rfl) (c51_calls _ _ w K ?_)
 unfold c51
 have hi : i < L.length := (List.getElem?_eq_some_iff.1 hL).1
 have hr' := hr
 rw [TV.e_eq, allR_args, Bool.and_eq_true] at hr'
 obtain ⟨hk1, hk9, hd, hn, hnm, hlv, hl4⟩ := node_put hr'.1 hv
 have hk1 : 1 ≤ k := hk1
 have hk9 : k ≤ 9 := hk9
 have hn : k = 1 ∨ k = 9 -> 0 ≤ n ∧ n ≤ 2 ^ 41 := hn
 have hnm : k = 4 ∨ k = 9 -> nm.length ≤ 32 := hnm
 have hlv : ∀ l ∈ ls, lvR l = true := hlv
 have hl4 : ls.length ≤ 4 := hl4
 have hsz : (TV.mk k n nm ls lv av args).size = 1 + ls.length + TV.sizes args := by rw [TV.size]
 rw [hsz] at hl
 have hko : ∀ {W : World} {L' : List Res}, Sep S w0 W L' R -> TOk W (TV.mk k n nm ls lv av args) := fun q => tok_iff.1 (q.rd _ hT)
 have hal := (hko s).al
 have hal : args.length < 2 ^ 50 := hal
 have hal2 := len_sizes args
 refine s.box fun b w1 s _ => ?_
 have s : Sep S w0 w1 (rB b [iv k, iv n, sv nm, lv, av] 25 :: L) R := s
 refine off_i ?_
 refine s.load1 (v := iv k) 0 rfl rfl ?_
 obtain ⟨kn, rfl⟩ : ∃ kn : Nat, k = (kn : Int) := ⟨k.toNat, by omega⟩
 rw [conv_byte und_int und_u8]
 have hpl := putT_len (TV.mk kn n nm ls lv av args) p v d hr hv
 rw [hsz, putT_e] at hpl
 simp only [List.length_cons, List.length_append, TV.k, TV.n, TV.s, TV.ls, TV.args] at hpl
 refine s.putB (i + 1) (by simpa using hL) (UInt8.ofNat kn) (by rfl) (by omega) fun _ _ x1 w2 s => ?_
 have s : Sep S w0 w2 (rB b [iv kn, iv n, sv nm, lv, av] 25 :: L.set i (rDb x1 (l ++ [UInt8.ofNat kn]))) R := s
 refine bindX_i fun J12 g12 => bindX_i fun J13 g13 => ?_
 -- what comes behind the head
 have tail : ∀ (fr : Fr) (wr : World) (x' : Value), fr 0 = x' -> fr 3 = .pointer (some ⟨b, 0, none⟩) -> Sep S w0 wr (rB b [iv kn, iv n, sv nm, lv, av] 25 :: L.set i (rDb x' (l ++ by8 kn :: headB kn n nm ls.length))) R -> J13 .normal fr wr := by
  intro fr wr x' f0 f3 s
  refine seq_n g13 ?_
  refine bindX_i fun J16 g16 => ?_
  rw [f3]
  refine off_i ?_
  refine s.load1 (v := lv) 0 rfl rfl ?_
  have hll : ∀ (w : World) (K : VPost), lenW Tryz.prog (some true) #[22] 3 #[lv] w K = K (.int .i64 ls.length) w := fun w K => RdSl.lenw (hko s).lr
  have haa : ∀ (w : World) (K : VPost), lenW Tryz.prog (some true) #[23] 3 #[av] w K = K (.int .i64 args.length) w := fun w K => RdSl.lenw (hko s).ar
  rw [hll]
  refine bindX_i fun J53 g53 => ?_
  refine loop_i (fun m fr wr => ∃ (j : Nat) (x' : Value), m = ls.length - j ∧ j ≤ ls.length ∧ fr 0 = x' ∧ fr 3 = .pointer (some ⟨b, 0, none⟩) ∧ fr 47 = lv ∧ fr 48 = .int .i64 ls.length ∧ fr 49 = .int .i64 j ∧
   Sep S w0 wr (rB b [iv kn, iv n, sv nm, lv, av] 25 :: L.set i (rDb x' (l ++ by8 kn :: headB kn n nm ls.length ++ (ls.take j).flatMap lvB))) R) ls.length ?_ ?_
  ·exact ⟨0, x', rfl, by omega, f0, f3, rfl, rfl, rfl, by rw [List.take_zero, List.flatMap_nil, List.append_nil]; exact s⟩
  ·rintro m fr wr J ⟨j, x', rfl, hj, f0, f3, f47, f48, f49, s⟩ hJ0 hX
   rw [f49, f48]
   refine nlss (cond_d (fun hlt => ?_) (fun hlt => ?_))
   ·refine bindX_i fun J59 g59 => bindX_i fun J64 g64 => ?_
    rw [f47]
    obtain ⟨b1, o1, hix, hld⟩ := (hko s).lr.level hlt .i64
    refine hix _ ?_
    refine hld _ ?_
    refine s.alloc zero_lv rfl fun q w3 s _ => ?_
    refine s.storeAll (vs := ls[j].cells) 0 rfl rfl rfl (lvl_one _) fun w4 s _ => ?_
    have s : Sep S w0 w4 (rB q ls[j].cells 95 :: rB b [iv kn, iv n, sv nm, lv, av] 25 :: L.set i (rDb x' (l ++ by8 kn :: headB kn n nm ls.length ++ (ls.take j).flatMap lvB))) R := s
    refine off_i ?_
    refine s.load1 (v := iv ls[j].base) 0 rfl rfl ?_
    obtain ⟨hb0, hb1, hps⟩ := lvR_bd (hlv _ (List.getElem_mem hlt))
    obtain ⟨bn, hbn, hb8⟩ := by8_nat hb0
    rw [show iv ls[j].base = .int .i64 (bn : Int) by rw [hbn]]
    rw [conv_byte und_int und_u8]
    have htl : ((ls.take j).flatMap lvB).length ≤ 5 * ls.length := by rw [lvB_flat, List.length_take]; omega
    have hlen : (l ++ by8 kn :: headB kn n nm ls.length ++ (ls.take j).flatMap lvB).length ≤ 2 ^ 31 := by
     simp only [List.length_append, List.length_cons]; omega
    rw [f0]
    refine s.putB (i + 2) (set_at2 hi) (UInt8.ofNat bn) (by rfl) (by omega) fun _ _ x2 w5 s => ?_
    have s : Sep S w0 w5 (rB q ls[j].cells 95 :: rB b [iv kn, iv n, sv nm, lv, av] 25 :: L.set i (rDb x2 (l ++ by8 kn :: headB kn n nm ls.length ++ (ls.take j).flatMap lvB ++ [UInt8.ofNat bn]))) R := by
     have := s
     simpa only [List.set_cons_succ, List.set_set] using this
    refine off_i ?_
    refine s.loadN 0 rfl (by show 0 + 1 + 4 ≤ 5; decide) ?_
    refine bindX_i fun J86 g86 => ?_
    refine loop_i (fun m fr wr => ∃ (c : Nat) (x' : Value), m = 4 - c ∧ c ≤ 4 ∧ fr 0 = x' ∧ fr 3 = .pointer (some ⟨b, 0, none⟩) ∧ fr 47 = lv ∧ fr 48 = .int .i64 ls.length ∧ fr 49 = .int .i64 j ∧ fr 60 = .agg [iv ls[j].p0, iv ls[j].p1, iv ls[j].p2, iv ls[j].p3].toArray ∧ fr 61 = .int .i64 c ∧
     Sep S w0 wr (rB q ls[j].cells 95 :: rB b [iv kn, iv n, sv nm, lv, av] 25 :: L.set i (rDb x' (l ++ by8 kn :: headB kn n nm ls.length ++ (ls.take j).flatMap lvB ++ (UInt8.ofNat bn :: (ls[j].ps.take c).map fun q => by8 (q + 1))))) R) 4 ?_ ?_
    ·exact ⟨0, x2, rfl, by omega, rfl, f3, f47, f48, f49, rfl, rfl, s⟩
    ·rintro m fr wr J ⟨c, x', rfl, hc, f0, f3, f47, f48, f49, f60, f61, s⟩ hJ hX
     rw [f61]
     refine nlss (y := 4) (cond_d (fun hc4 => ?_) (fun hc4 => ?_))
     ·rw [f60, f0]
      refine ixv4 hc4 ?_
      have hpl4 : c < ls[j].ps.length := hc4
      obtain ⟨hq0, hq1⟩ := hps _ (List.getElem_mem hpl4)
      refine iadd (y := 1) (by omega) ?_
      obtain ⟨pn, hpn, hp8⟩ := by8_nat (show 0 ≤ ls[j].ps[c] + 1 by omega)
      rw [hpn, conv_byte und_int und_u8]
      refine s.putB (i + 2) (set_at2 hi) (UInt8.ofNat pn) (by rfl) (by simp only [List.length_append, List.length_cons, List.length_map, List.length_take] at hlen ⊢; omega) fun _ _ x3 w6 s => ?_
      refine nadd (y := 1) (by omega) ?_
      refine hJ (4 - (c + 1)) _ _ (by omega) ⟨c + 1, x3, rfl, by omega, rfl, f3, f47, f48, f49, f60, rfl, ?_⟩
      have := s
      simp only [List.set_cons_succ, List.set_set] at this
      rw [List.append_assoc] at this
      rw [List.take_succ_eq_append_getElem hpl4, List.map_append, List.map_singleton, hp8]
      exact this
     ·obtain rfl : c = 4 := by omega
      refine hX _ _ _ (by simp) (g86 _ _ _ (blk_x (g64 _ _ _ (seq_n g59 ?_))))
      show binN _ _ _ _ (fr 49) _ _ _
      rw [f49]
      refine nadd (y := 1) (by omega) ?_
      have s := s.drop 0
      refine hJ0 (ls.length - (j + 1)) _ _ (by omega) ⟨j + 1, x', rfl, by omega, f0, f3, f47, f48, rfl, ?_⟩
      rw [flat_lv hlt, ← List.append_assoc, lvB_ps, hb8]
      exact s
   ·obtain rfl : j = ls.length := by omega
    refine hX _ _ _ (by simp) (g53 _ _ _ (blk_x (seq_n g16 ?_)))
    rw [List.take_length] at s
    refine bindX_i fun J19 g19 => ?_
    show offW _ (fr 3) _ _
    rw [f3]
    refine off_i ?_
    refine s.load1 (v := av) 0 rfl rfl ?_
    rw [haa]
    refine bindX_i fun J28 g28 => ?_
    refine loop_i (fun m fr wr => ∃ (c : Nat) (x' : Value), m = args.length - c ∧ c ≤ args.length ∧ fr 0 = x' ∧ fr 73 = av ∧ fr 74 = .int .i64 args.length ∧ fr 75 = .int .i64 c ∧
     Sep S w0 wr (rB b [iv kn, iv n, sv nm, lv, av] 25 :: L.set i (rDb x' (l ++ by8 kn :: headB kn n nm ls.length ++ ls.flatMap lvB ++ (args.take c).flatMap fun a => putT a.e))) R) args.length ?_ ?_
    ·exact ⟨0, x', rfl, by omega, f0, rfl, rfl, rfl, by rw [List.take_zero, List.flatMap_nil, List.append_nil]; exact s⟩
    ·rintro m fr wr J ⟨c, x', rfl, hc, f0, f73, f74, f75, s⟩ hJ hX
     rw [f75, f74]
     refine nlss (cond_d (fun hlt => ?_) (fun hlt => ?_))
     ·rw [f73]
      obtain ⟨b1, o1, hix, hld⟩ := (hko s).ar.term hlt .i64
      refine hix _ ?_
      refine hld _ ?_
      have hmem := List.getElem_mem hlt
      have hao : args[c].ok wr := (hko s).a _ hmem
      refine s.alloc zero_term rfl fun q w3 s _ => ?_
      refine s.storeAll (vs := args[c].cells) 0 rfl args[c].cells_len rfl (TV.one hao) fun w4 s _ => ?_
      refine s.loadAll 0 rfl args[c].cells_len ?_
      have s := s.drop 0
      have s : Sep S w0 w4 (rB b [iv kn, iv n, sv nm, lv, av] 25 :: L.set i (rDb x' (l ++ by8 kn :: headB kn n nm ls.length ++ ls.flatMap lvB ++ (args.take c).flatMap fun a => putT a.e))) R := s
      have s := s.part (T := rT args[c]) hT ((hko s).a _ hmem) (fun z hz => by
       show z ∈ (TV.mk kn n nm ls lv av args).foot
       rw [TV.foot_eq]
       simp only [List.mem_append]
       exact .inr (.inr (foots_mem.2 ⟨_, hmem, hz⟩)))
      have hra : ∀ a ∈ args, ∃ q, allR a.e p (v + (bndA kn q : Nat)) (d + bndA kn q) = true := fun a ha => by
       obtain ⟨q, hq, rfl⟩ := List.getElem_of_mem ha
       have := List.all_eq_true.1 hr'.2 q (List.mem_range.2 (by simpa [TV.args] using hq))
       exact ⟨q, by simp only [TV.args, List.getElem?_map, List.getElem?_eq_getElem hq, Option.map_some] at this; exact this⟩
      obtain ⟨q, hra1⟩ := hra _ hmem
      have hpl2 := puts_len (args.take c) fun a ha => by
       obtain ⟨q, hq⟩ := hra a (List.mem_of_mem_take ha)
       exact putT_len a _ _ _ hq (by push_cast; omega)
      have hst := sizes_take hlt
      have hst2 := sizes_take_le args (c + 1)
      have hlf := lvB_flat ls
      have hhl := headB_len (k := kn) (n := n) (s := nm) (m := ls.length) hnm
      rw [f0]
      refine ih _ hmem p _ (d + bndA kn q) s (i + 1) (set_at1 hi) (by simp) hra1 (by push_cast; omega) (by simp only [List.length_append, List.length_cons]; omega) fun x3 w6 s => ?_
      refine nadd (y := 1) (by omega) ?_
      refine hJ (args.length - (c + 1)) _ _ (by omega) ⟨c + 1, x3, rfl, by omega, rfl, f73, f74, rfl, ?_⟩
      have s := s.less (R' := R) (fun T hT => List.mem_cons_of_mem _ hT)
      simp only [List.set_cons_succ, List.set_set] at s
      rw [flat_put hlt, ← List.append_assoc]
      exact s
     ·obtain rfl : c = args.length := by omega
      refine hX _ _ _ (by simp) (g28 _ _ _ (blk_x (seq_n g19 ?_)))
      show K (fr 0) wr
      rw [f0]
      rw [List.take_length] at s
      refine hK x' wr ?_
      have s := s.drop 0
      have e : l ++ putT (TV.mk kn n nm ls lv av args).e = l ++ by8 kn :: headB kn n nm ls.length ++ ls.flatMap lvB ++ args.flatMap fun a => putT a.e := by
       rw [putT_e]
       simp [TV.k, TV.n, TV.s, TV.ls, TV.args]
      rw [e]
      exact s
 have s0 : Sep S w0 w2 (rB b [iv kn, iv n, sv nm, lv, av] 25 :: L.set i (rDb x1 (l ++ [by8 kn]))) R := s
 clear s
 rename _ => s
 have hll : ∀ (w : World) (K : VPost), lenW Tryz.prog (some true) #[22] 3 #[lv] w K = K (.int .i64 ls.length) w := fun w K => RdSl.lenw (hko s).lr
 refine off_i ?_
 refine s.load1 (v := iv kn) 0 rfl rfl ?_
 refine bindX_i fun _ _ => ?_
 have again : ∀ {W : World} {x' : Value} {y : Bytes}, Sep S w0 W (rB b [iv kn, iv n, sv nm, lv, av] 25 :: (L.set i (rDb x1 (l ++ [by8 kn]))).set i (rDb x' (l ++ [by8 kn] ++ y))) R -> y = headB kn n nm ls.length -> Sep S w0 W (rB b [iv kn, iv n, sv nm, lv, av] 25 :: L.set i (rDb x' (l ++ by8 kn :: headB kn n nm ls.length))) R := by
  intro W x' y q e
  rw [List.set_set, e, List.append_assoc] at q
  exact q
 refine ieql_d (fun h1 => ?_) (fun h1 => ?_)
 ·refine cndT ?_
  refine off_i ?_
  refine s.load1 (v := iv n) 0 rfl rfl ?_
  obtain ⟨hn0, hn1⟩ := hn (.inl h1)
  obtain ⟨nn, rfl⟩ : ∃ nn : Nat, n = (nn : Int) := ⟨n.toNat, by omega⟩
  refine s.num (i + 1) (set_at1 hi) (by simp; omega) (by omega) fun x2 w3 s => ?_
  refine tail _ _ x2 rfl rfl (again s ?_)
  unfold headB
  rw [if_pos h1]
  rfl
 ·refine cndF ?_
  refine ieql_d (fun h2 => ?_) (fun h2 => ?_)
  ·refine cndT ?_
   have s := s.drew
   generalize w2.drew = w2 at *
   refine off_i ?_
   refine s.load1 (v := iv n) 0 rfl rfl ?_
   refine off_i ?_
   refine s.load1 (v := sv nm) 0 rfl rfl ?_
   obtain ⟨hn0, hn1⟩ := hn (.inr h2)
   have hnl := hnm (.inr h2)
   obtain ⟨nn, rfl⟩ : ∃ nn : Nat, n = (nn : Int) := ⟨n.toNat, by omega⟩
   have hnb := numB_len nn
   refine s.num (i + 1) (set_at1 hi) (by simp; omega) (by omega) fun x2 w3 s => ?_
   refine ⟨s.load1 (v := sv nm) 0 rfl rfl ⟨rfl, rfl⟩, ?_⟩
   refine s.text (i + 1) (by rw [List.set_cons_succ]; exact set_at1 (by simpa using hi)) (by simp; omega) (by omega) fun x3 w4 s => ?_
   refine tail _ _ x3 rfl rfl ?_
   have s : Sep S w0 w4 (rB b [iv kn, iv nn, sv nm, lv, av] 25 :: ((L.set i (rDb x1 (l ++ [by8 kn]))).set i (rDb x2 (l ++ [by8 kn] ++ numB nn))).set i (rDb x3 (l ++ [by8 kn] ++ numB nn ++ textB nm))) R := s
   rw [List.set_set, List.append_assoc (l ++ [by8 kn])] at s
   refine again s ?_
   unfold headB
   rw [if_neg h1, if_pos h2]
   rfl
  ·refine cndF ?_
   refine ieql_d (fun h3 => ?_) (fun h3 => ?_)
   ·refine cndT ?_
    have s := s.drew
    generalize w2.drew = w2 at *
    refine off_i ?_
    refine s.load1 (v := sv nm) 0 rfl rfl ?_
    refine off_i ?_
    refine s.load1 (v := lv) 0 rfl rfl ?_
    rw [hll, conv_byte und_int und_u8]
    have hnl := hnm (.inl h3)
    have hnb := numB_len nm.length
    refine bindV_i fun J147 g147 => ?_
    have join : ∀ (x2 t : Value) (fr : Fr) (W : World), fr 3 = .pointer (some ⟨b, 0, none⟩) -> Sep S w0 W (rO t 5 1 (bc [UInt8.ofNat ls.length]) 1 :: rB b [iv kn, iv n, sv nm, lv, av] 25 :: L.set i (rDb x2 (l ++ [by8 kn] ++ textB nm))) R -> J147 x2 t fr W := by
     intro x2 t fr W f3 s
     rw [g147]
     have ht : (textB nm).length ≤ 40 := by unfold textB; rw [List.length_append]; omega
     refine s.apB (v := x2) (l := l ++ [by8 kn] ++ textB nm) (y := [UInt8.ofNat ls.length]) (i + 2) (set_at2 hi) (OwnAt.rd (s.at 0 rfl)) (by simp; omega) fun x3 w5 s => ?_
     have s := s.drop 0
     have s : Sep S w0 w5 (rB b [iv kn, iv n, sv nm, lv, av] 25 :: (L.set i (rDb x2 (l ++ [by8 kn] ++ textB nm))).set i (rDb x3 (l ++ [by8 kn] ++ textB nm ++ [UInt8.ofNat ls.length]))) R := s
     rw [List.set_set, List.append_assoc (l ++ [by8 kn])] at s
     refine tail _ _ x3 rfl f3 (again (x' := x3) (by rw [List.set_set]; exact s) ?_)
     unfold headB
     rw [if_neg h1, if_neg h2, if_pos h3]
    refine ⟨?_, ?_⟩
    ·refine s.text (i + 1) (set_at1 hi) (by simp; omega) (by omega) fun x2 w3 s => ?_
     have s : Sep S w0 w3 (rB b [iv kn, iv n, sv nm, lv, av] 25 :: (L.set i (rDb x1 (l ++ [by8 kn]))).set i (rDb x2 (l ++ [by8 kn] ++ textB nm))) R := s
     rw [List.set_set] at s
     refine ⟨s.load1 (v := lv) 0 rfl rfl ⟨rfl, rfl⟩, ?_⟩
     refine s.litB [UInt8.ofNat ls.length] (by rfl) (by simp) fun t w4 s _ _ => ?_
     refine ⟨s.load1 (v := sv nm) 1 rfl rfl ⟨rfl, rfl⟩, ?_⟩
     exact join x2 t _ _ rfl s
    ·refine s.litB [UInt8.ofNat ls.length] (by rfl) (by simp) fun t w3 s _ _ => ?_
     refine ⟨s.load1 (v := sv nm) 1 rfl rfl ⟨rfl, rfl⟩, ?_⟩
     refine s.text (i + 2) (set_at2 hi) (by simp; omega) (by omega) fun x2 w4 s => ?_
     have s : Sep S w0 w4 (rO t 5 1 (bc [UInt8.ofNat ls.length]) 1 :: rB b [iv kn, iv n, sv nm, lv, av] 25 :: (L.set i (rDb x1 (l ++ [by8 kn]))).set i (rDb x2 (l ++ [by8 kn] ++ textB nm))) R := s
     rw [List.set_set] at s
     refine ⟨s.load1 (v := lv) 1 rfl rfl ⟨rfl, rfl⟩, ?_⟩
     exact join x2 t _ _ rfl s
   ·refine cndF ?_
    refine tail _ _ x1 rfl rfl ?_
    have : headB kn n nm ls.length = [] := by unfold headB; rw [if_neg h1, if_neg h2, if_neg h3]
    rw [this]
    exact s
def zE : TM := .mk 0 0 [] [] []
def zeroV : TV := .mk 0 0 [] [] (.slice none 0 0) (.slice none 0 0) []
theorem zeroV_e : zeroV.e = zE := by rw [TV.e_eq]; rfl
theorem rd_nil (w : World) (s : Nat) : RdSl w (.slice none 0 0) s [] 0 := ⟨by simp, .inl ⟨rfl, _, _, rfl⟩⟩
theorem zeroV_ok (w : World) : zeroV.ok w := tok_iff.2 ⟨⟨by decide, by decide⟩, ⟨by decide, by decide⟩, by decide, (by intro l hl; cases hl), by decide, by decide, rd_nil w 5, rfl, rd_nil w 5, rfl, (by intro a ha; cases ha)⟩
theorem fill_zero : fillL [(0, 1), (1, 1), (2, 1), (3, 1), (4, 1)] zT [] = some zeroV.cells := rfl
theorem cindexF_c {w : World} {K : VPost} {x fv : Value} {cs : List CV} (pr : CV -> Bool) (hx : RdSl w x 6 (ccs cs) cs.length) (hn : cs.length < 2 ^ 50)
  (hf : ∀ c ∈ cs, ∀ w' K', Ext [] w w' -> (∀ w'', Ext [] w' w'' -> K' (.bool (pr c)) w'') -> dynW Tryz.prog fv #[c.v] w' K')
  (hT : cs.any pr = true -> ∀ (i : Nat) w', Ext [] w w' -> K (.int .i64 i) w') (hF : cs.any pr = false -> ∀ w', Ext [] w w' -> K (.int .i64 (-1)) w') : Calls Tryz.prog 115 #[x, fv] w (retK K) := by
 refine c115_calls _ _ w K ?_
 unfold c115
 refine bindX_i fun J0 g0 => bindX_i fun J1 g1 => ?_
 rw [hx.lenw]
 refine bindX_i fun J2 g2 => ?_
 refine loop_i (fun m fr wr => ∃ i : Nat, m = cs.length - i ∧ i ≤ cs.length ∧ (cs.take i).any pr = false ∧ fr 0 = x ∧ fr 1 = fv ∧ fr 7 = .int .i64 cs.length ∧ fr 8 = .int .i64 i ∧ Ext [] w wr) cs.length ?_ ?_
 ·exact ⟨0, rfl, by omega, rfl, rfl, rfl, rfl, rfl, Ext.refl _ _⟩
 ·rintro m fr wr J ⟨i, rfl, hi, ha, f0, f1, f7, f8, e1⟩ hJ hX
  rw [f7, f8]
  refine nlss (cond_d (fun hlt => ?_) (fun hlt => ?_))
  ·rw [f0, f1]
   obtain ⟨hix, hld, _, _⟩ := (hx.keep e1 (by simp)).ctor hlt .i64
   refine hix _ ?_
   refine hld _ ?_
   refine hf cs[i] (List.getElem_mem hlt) wr _ e1 fun w2 e2 => ?_
   have ht : (cs.take (i + 1)).any pr = pr cs[i] := by
    rw [List.take_succ_eq_append_getElem hlt, List.any_append, ha]; simp
   cases hp : pr cs[i] with
   | true =>
    refine cndT ?_
    exact hX _ _ _ (by simp) (g2 _ _ _ (g1 _ _ _ (g0 _ _ _ (hT (List.any_eq_true.2 ⟨_, List.getElem_mem hlt, hp⟩) i _ (e1.new e2)))))
   | false =>
    refine cndF ?_
    refine nadd (y := 1) (by omega) ?_
    exact hJ (cs.length - (i + 1)) _ _ (by omega) ⟨i + 1, rfl, by omega, by rw [ht, hp], f0, f1, f7, rfl, e1.new e2⟩
  ·obtain rfl : i = cs.length := by omega
   rw [List.take_length] at ha
   exact hX _ _ _ (by simp) (g2 _ _ _ (blk_x (seq_n g1 (hF ha wr e1))))
theorem ccontainsF_c {w : World} {K : VPost} {x fv : Value} {cs : List CV} (pr : CV -> Bool) (hx : RdSl w x 6 (ccs cs) cs.length) (hn : cs.length < 2 ^ 50)
  (hf : ∀ c ∈ cs, ∀ w' K', Ext [] w w' -> (∀ w'', Ext [] w' w'' -> K' (.bool (pr c)) w'') -> dynW Tryz.prog fv #[c.v] w' K')
  (hK : ∀ w', Ext [] w w' -> K (.bool (cs.any pr)) w') : Calls Tryz.prog 78 #[x, fv] w (retK K) := by
 refine c78_calls _ _ w K ?_
 unfold c78
 refine fnW_of (by kernel_rfl) (cindexF_c pr hx hn hf (fun h i w1 e1 => ?_) (fun h w1 e1 => ?_))
 ·rw [igeq, decide_eq_true (by omega)]
  have := hK w1 e1
  rwa [h] at this
 ·rw [igeq, decide_eq_false (by omega)]
  have := hK w1 e1
  rwa [h] at this
theorem valued_c {w : World} {K : VPost} {k : Int} (hK : K (.bool (decide (k = 2 ∨ k = 3))) w) : Calls Tryz.prog 52 #[.int .i64 k] w (retK K) := by
 refine c52_calls _ w K ?_
 unfold c52
 refine ieql_d (fun h => ?_) (fun h => ?_)
 ·repeat (with_reducible first | apply gs_tf | apply gs_ft | apply gs_u | apply pick_ti | apply pick_fi | apply gs_t | apply gs_f | apply off_i | apply cndT | apply cndF)
  rw [decide_eq_true (.inl h)] at hK
  exact hK
 ·repeat (with_reducible first | apply gs_tf | apply gs_ft | apply gs_u | apply pick_ti | apply pick_fi | apply gs_t | apply gs_f | apply off_i | apply cndT | apply cndF)
  refine ieql_d (fun h2 => ?_) (fun h2 => ?_)
  ·repeat (with_reducible first | apply gs_tf | apply gs_ft | apply gs_u | apply pick_ti | apply pick_fi | apply gs_t | apply gs_f | apply off_i | apply cndT | apply cndF)
   rw [decide_eq_true (.inr h2)] at hK
   exact hK
  ·repeat (with_reducible first | apply gs_tf | apply gs_ft | apply gs_u | apply pick_ti | apply pick_fi | apply gs_t | apply gs_f | apply off_i | apply cndT | apply cndF)
   rw [decide_eq_false (by omega)] at hK
   exact hK
theorem empty_c {w : World} {K : VPost} {t : TV} (h : t.ok w) (hK : ∀ w', Ext [] w w' -> K (.bool (sameB t.e zE)) w') : Calls Tryz.prog 77 #[t.v] w (retK K) := by
 refine c77_calls _ w K ?_
 unfold c77
 refine TV.box h fun b w1 s => ?_
 refine s.loadAll 0 rfl t.cells_len ?_
 refine build_i str_term fill_zero ?_
 refine fnW_of (by kernel_rfl) (tsame_c t zeroV (s.rat 0 rfl) (zeroV_ok _) fun w2 e => ?_)
 rw [zeroV_e]
 exact hK _ (s.ext.new e)
def ctorR (p : Int) (c : Bytes × TM) : Bool := wordB c.1 && rightR c.2 p 0
noncomputable def formB (d : DM) : Bool :=
 (decide (1 ≤ d.k ∧ d.k ≤ 4) && wordB d.s && rightR d.t d.p 0) && (if d.k = 2 ∨ d.k = 3 then rightR d.u d.p 0 else sameB d.u zE) &&
  (if d.k = 4 then decide (0 ≤ d.f ∧ d.f ≤ 16 ∧ d.cs.length ≤ 8) && d.cs.all (ctorR d.p) else decide (d.f = 0 ∧ d.cs.length = 0))
section
variable {w : World} {K : VPost}
theorem formed1_c {t : TV} {d : DV} {b : Nat} {T : TypeId} (h : t.ok w) (hg : GS w) (hsz : t.size ≤ 1000000) (hb : RBlk w b d.cells) (hK : ∀ w', Ext [] w w' -> K (.bool (rightR t.e d.p 0)) w') : Calls Tryz.prog 73 #[t.v, .pointer (some ⟨b, 0, none⟩)] w (retK K) := by
 refine c73_calls _ _ w K ?_
 unfold c73
 refine TV.box h fun q w1 s => ?_
 refine s.loadAll 0 rfl t.cells_len ?_
 refine off_i ?_
 refine load1 (o := 0 + 1) (v := iv d.p) (hb.keep s.ext (by simp)) rfl ?_
 refine fnW_of (by kernel_rfl) (tright_c (s.rat 0 rfl) (hg.keep s.ext (by simp)) hsz fun w2 e => ?_)
 exact hK _ (s.ext.new e)
theorem formed2_c {c : CV} {d : DV} {b q : Nat} (h : c.ok w) (hg : GS w) (hsz : c.t.size ≤ 1000000) (hb : RBlk w b d.cells) (hq : RBlk w q [.func (.func 73) #[] #[.pointer (some ⟨b, 0, none⟩)]]) (hK : ∀ w', Ext [] w w' -> K (.bool (!ctorR d.p c.e)) w') : Calls Tryz.prog 75 #[c.v, .pointer (some ⟨q, 0, none⟩)] w (retK K) := by
 refine c75_calls _ _ w K ?_
 unfold c75
 refine (Sep.zero1 (U := rC c) h).box fun a w1 s _ => ?_
 have s : Sep [] w w1 (rB a c.cells 73 :: []) (rC c :: []) := s
 refine off_i ?_
 refine s.load1 (v := sv c.s) 0 rfl rfl ?_
 refine fnW_of (by kernel_rfl) (word_c h.s (hg.keep s.ext (by simp)) fun w2 e => ?_)
 have s := s.ext0 e
 refine not_ti ?_
 cases hw : wordB c.s with
 | false =>
  rw [Bool.not_false]
  repeat (with_reducible first | apply gs_tf | apply gs_ft | apply gs_u | apply pick_ti | apply pick_fi | apply gs_t | apply gs_f | apply off_i | apply cndT | apply cndF)
  have := hK _ s.ext
  unfold ctorR at this
  rwa [show wordB c.e.1 = false from hw, Bool.false_and, Bool.not_false] at this
 | true =>
  rw [Bool.not_true]
  repeat (with_reducible first | apply gs_tf | apply gs_ft | apply gs_u | apply pick_ti | apply pick_fi | apply gs_t | apply gs_f | apply off_i | apply cndT | apply cndF)
  refine load1 (o := 0) (hq.keep s.ext (by simp)) rfl ?_
  repeat (with_reducible first | apply gs_tf | apply gs_ft | apply gs_u | apply pick_ti | apply pick_fi | apply gs_t | apply gs_f | apply off_i | apply cndT | apply cndF)
  refine s.loadN 0 rfl (by show 0 + 1 + 5 ≤ 6; decide) ?_
  have hv : Value.agg ((c.cells.drop (0 + 1)).take 5).toArray = c.t.v := by rw [CV.cells_eq]; show Value.agg (c.t.cells.take 5).toArray = _; rw [List.take_of_length_le (by rw [TV.cells_len]; decide)]; rfl
  rw [hv]
  repeat (with_reducible first | apply gs_tf | apply gs_ft | apply gs_u | apply pick_ti | apply pick_fi | apply gs_t | apply gs_f | apply off_i | apply cndT | apply cndF)
  show fnW Tryz.prog 73 #[c.t.v, .pointer (some ⟨b, 0, none⟩)] _ _
  refine fnW_of (by kernel_rfl) (formed1_c (T := 0) (CV.ok.t (s.rat 0 rfl)) (hg.keep s.ext (by simp)) hsz (hb.keep s.ext (by simp)) fun w3 e => ?_)
  have s := s.ext0 e
  repeat (with_reducible first | apply gs_tf | apply gs_ft | apply gs_u | apply pick_ti | apply pick_fi | apply gs_t | apply gs_f | apply off_i | apply cndT | apply cndF)
  refine not_ti ?_
  repeat (with_reducible first | apply gs_tf | apply gs_ft | apply gs_u | apply pick_ti | apply pick_fi | apply gs_t | apply gs_f | apply off_i | apply cndT | apply cndF)
  have := hK _ s.ext
  unfold ctorR at this
  rwa [show wordB c.e.1 = true from hw, Bool.true_and] at this
end
theorem formB_1 {d : DM} (h : ¬ (1 ≤ d.k ∧ d.k ≤ 4)) : formB d = false := by unfold formB; rw [decide_eq_false h]; rfl
theorem formB_2 {d : DM} (h : wordB d.s = false) : formB d = false := by unfold formB; rw [h, Bool.and_false]; rfl
theorem formB_3 {d : DM} (h : rightR d.t d.p 0 = false) : formB d = false := by unfold formB; rw [h, Bool.and_false]; rfl
theorem le_sum {l : List CV} {c : CV} (h : c ∈ l) : c.size ≤ (l.map CV.size).sum := by
 induction l with
 | nil => cases h
 | cons a r ih =>
  rw [List.map_cons, List.sum_cons]
  rcases List.mem_cons.1 h with rfl | h
  ·omega
  ·have := ih h; omega
theorem size_parts {d : DV} {n : Nat} (h : d.size ≤ n) : d.t.size ≤ n ∧ d.u.size ≤ n ∧ d.s.length ≤ n ∧ ∀ c ∈ d.cs, c.t.size ≤ n ∧ c.s.length ≤ n := by
 unfold DV.size at h
 refine ⟨by omega, by omega, by omega, fun c hc => ?_⟩
 have h1 := le_sum hc
 have h2 : c.size = 1 + c.s.length + c.t.size := rfl
 omega
set_option maxHeartbeats 1600000 in
theorem formed_c {w : World} {K : VPost} {d : DV} (h : d.ok w) (hg : GS w) (hsz : d.size ≤ 1000000) (hK : ∀ w', Ext [] w w' -> K (.bool (formB d.e)) w') : Calls Tryz.prog 46 #[d.v] w (retK K) := by
 refine c46_calls _ w K ?_
 unfold c46
 obtain ⟨hz1, hz2, hz3, hz4⟩ := size_parts hsz
 refine DV.box h fun b w1 s => ?_
 refine mkfunc_i ?_
 refine s.alloc (v := .nilFunc) (by kernel_rfl) rfl fun q w2 s _ => ?_
 refine s.store1 0 rfl rfl (by show 0 < 1; decide) rfl fun w3 s _ => ?_
 have s : Sep [] w w3 (rB q [.func (.func 73) #[] #[.pointer (some ⟨b, 0, none⟩)]] 123 :: rB b d.cells 28 :: []) (rD d :: []) := s
 refine mkfunc_i ?_
 have g : ∀ {W : World} {L R : List Res}, Sep [] w W L R -> GS W := fun q => hg.keep q.ext (by simp)
 have hl : ∀ (w : World) (K : VPost), lenW Tryz.prog (some true) #[26] 3 #[d.cv] w K = K (.int .i64 d.cs.length) w := fun w K => RdSl.lenw h.cr
 have no : ∀ {W : World} {L R : List Res}, Sep [] w W L R -> formB d.e = false -> K (.bool false) W := fun q e => by have := hK _ q.ext; rwa [e] at this
 refine off_i ?_
 refine s.load1 (v := iv d.k) 1 rfl rfl ?_
 refine ilss_d (fun h1 => ?_) (fun h1 => ?_)
 ·repeat (with_reducible first | apply gs_tf | apply gs_ft | apply gs_u | apply pick_ti | apply pick_fi | apply gs_t | apply gs_f | apply off_i | apply cndT | apply cndF)
  exact no s (formB_1 (by show ¬ (1 ≤ d.k ∧ d.k ≤ 4); omega))
 repeat with_reducible refine gs_f ?_
 refine off_i ?_
 repeat with_reducible refine gs_f ?_
 refine s.load1 (v := iv d.k) 1 rfl rfl ?_
 repeat with_reducible refine gs_f ?_
 refine igtr_d (fun h2 => ?_) (fun h2 => ?_)
 ·repeat (with_reducible first | apply gs_tf | apply gs_ft | apply gs_u | apply pick_ti | apply pick_fi | apply gs_t | apply gs_f | apply off_i | apply cndT | apply cndF)
  exact no s (formB_1 (by show ¬ (1 ≤ d.k ∧ d.k ≤ 4); omega))
 have hk : 1 ≤ d.k ∧ d.k ≤ 4 := by omega
 repeat (with_reducible first | apply gs_tf | apply gs_ft | apply gs_u | apply pick_ti | apply pick_fi | apply gs_t | apply gs_f | apply off_i | apply cndT | apply cndF)
 refine s.load1 (v := sv d.s) 1 rfl rfl ?_
 repeat (with_reducible first | apply gs_tf | apply gs_ft | apply gs_u | apply pick_ti | apply pick_fi | apply gs_t | apply gs_f | apply off_i | apply cndT | apply cndF)
 refine fnW_of (by kernel_rfl) (word_c h.s (g s) fun w4 e => ?_)
 have s := s.ext0 e
 repeat (with_reducible first | apply gs_tf | apply gs_ft | apply gs_u | apply pick_ti | apply pick_fi | apply gs_t | apply gs_f | apply off_i | apply cndT | apply cndF)
 refine not_ti ?_
 cases hw : wordB d.s with
 | false =>
  rw [Bool.not_false]
  repeat (with_reducible first | apply gs_tf | apply gs_ft | apply gs_u | apply pick_ti | apply pick_fi | apply gs_t | apply gs_f | apply off_i | apply cndT | apply cndF)
  exact no s (formB_2 hw)
 | true =>
 rw [Bool.not_true]
 repeat (with_reducible first | apply gs_tf | apply gs_ft | apply gs_u | apply pick_ti | apply pick_fi | apply gs_t | apply gs_f | apply off_i | apply cndT | apply cndF)
 refine s.load1 0 rfl rfl ?_
 repeat (with_reducible first | apply gs_tf | apply gs_ft | apply gs_u | apply pick_ti | apply pick_fi | apply gs_t | apply gs_f | apply off_i | apply cndT | apply cndF)
 refine s.declT 1 rfl ?_
 repeat (with_reducible first | apply gs_tf | apply gs_ft | apply gs_u | apply pick_ti | apply pick_fi | apply gs_t | apply gs_f | apply off_i | apply cndT | apply cndF)
 show fnW Tryz.prog 73 #[d.t.v, .pointer (some ⟨b, 0, none⟩)] _ _
 refine fnW_of (by kernel_rfl) (formed1_c (T := 0) (DV.ok.t (s.rat 0 rfl)) (g s) hz1 (Blk.r (s.at 1 rfl)) fun w5 e => ?_)
 have s := s.ext0 e
 repeat (with_reducible first | apply gs_tf | apply gs_ft | apply gs_u | apply pick_ti | apply pick_fi | apply gs_t | apply gs_f | apply off_i | apply cndT | apply cndF)
 refine not_ti ?_
 cases hr : rightR d.t.e d.p 0 with
 | false =>
  rw [Bool.not_false]
  repeat (with_reducible first | apply gs_tf | apply gs_ft | apply gs_u | apply pick_ti | apply pick_fi | apply gs_t | apply gs_f | apply off_i | apply cndT | apply cndF)
  exact no s (formB_3 hr)
 | true =>
 rw [Bool.not_true]
 repeat (with_reducible first | apply gs_tf | apply gs_ft | apply gs_u | apply pick_ti | apply pick_fi | apply gs_t | apply gs_f | apply off_i | apply cndT | apply cndF)
 refine s.load1 (v := iv d.k) 1 rfl rfl ?_
 refine fnW_of (by kernel_rfl) (valued_c ?_)
 have body : ∀ {W : World}, Sep [] w W (rB q [.func (.func 73) #[] #[.pointer (some ⟨b, 0, none⟩)]] 123 :: rB b d.cells 28 :: []) (rD d :: []) →
   (if d.k = 2 ∨ d.k = 3 then rightR d.u.e d.p 0 else sameB d.u.e zE) = true -> formB d.e = (if d.k = 4 then decide (0 ≤ d.f ∧ d.f ≤ 16 ∧ d.cs.length ≤ 8) && (d.cs.map CV.e).all (ctorR d.p) else decide (d.f = 0 ∧ d.cs.length = 0)) := by
  intro W _ e
  unfold formB
  rw [show d.e.k = d.k from rfl, show d.e.s = d.s from rfl, show d.e.t = d.t.e from rfl, show d.e.u = d.u.e from rfl, show d.e.p = d.p from rfl, show d.e.f = d.f from rfl, show d.e.cs = d.cs.map CV.e from rfl, decide_eq_true hk, hw, hr, e, Bool.true_and, Bool.true_and, Bool.true_and, Bool.true_and, List.length_map]
 have bad : (if d.k = 2 ∨ d.k = 3 then rightR d.u.e d.p 0 else sameB d.u.e zE) = false -> formB d.e = false := by
  intro e
  unfold formB
  rw [show d.e.k = d.k from rfl, show d.e.u = d.u.e from rfl, show d.e.p = d.p from rfl, e, Bool.and_false]
  rfl
 by_cases hv : d.k = 2 ∨ d.k = 3
 ·rw [if_pos hv] at body bad
  rw [decide_eq_true hv]
  repeat (with_reducible first | apply gs_tf | apply gs_ft | apply gs_u | apply pick_ti | apply pick_fi | apply gs_t | apply gs_f | apply off_i | apply cndT | apply cndF)
  refine s.load1 0 rfl rfl ?_
  repeat (with_reducible first | apply gs_tf | apply gs_ft | apply gs_u | apply pick_ti | apply pick_fi | apply gs_t | apply gs_f | apply off_i | apply cndT | apply cndF)
  refine s.declU 1 rfl ?_
  repeat (with_reducible first | apply gs_tf | apply gs_ft | apply gs_u | apply pick_ti | apply pick_fi | apply gs_t | apply gs_f | apply off_i | apply cndT | apply cndF)
  show fnW Tryz.prog 73 #[d.u.v, .pointer (some ⟨b, 0, none⟩)] _ _
  refine fnW_of (by kernel_rfl) (formed1_c (T := 0) (DV.ok.u (s.rat 0 rfl)) (g s) hz2 (Blk.r (s.at 1 rfl)) fun w6 e => ?_)
  have s := s.ext0 e
  repeat (with_reducible first | apply gs_tf | apply gs_ft | apply gs_u | apply pick_ti | apply pick_fi | apply gs_t | apply gs_f | apply off_i | apply cndT | apply cndF)
  refine not_ti ?_
  cases hu : rightR d.u.e d.p 0 with
  | false =>
   rw [Bool.not_false]
   repeat (with_reducible first | apply gs_tf | apply gs_ft | apply gs_u | apply pick_ti | apply pick_fi | apply gs_t | apply gs_f | apply off_i | apply cndT | apply cndF)
   exact no s (bad hu)
  | true =>
   rw [Bool.not_true]
   repeat (with_reducible first | apply gs_tf | apply gs_ft | apply gs_u | apply pick_ti | apply pick_fi | apply gs_t | apply gs_f | apply off_i | apply cndT | apply cndF)
   refine s.load1 (v := iv d.k) 1 rfl rfl ?_
   repeat (with_reducible first | apply gs_tf | apply gs_ft | apply gs_u | apply pick_ti | apply pick_fi | apply gs_t | apply gs_f | apply off_i | apply cndT | apply cndF)
   refine fnW_of (by kernel_rfl) (valued_c ?_)
   rw [decide_eq_true hv]
   repeat (with_reducible first | apply gs_tf | apply gs_ft | apply gs_u | apply pick_ti | apply pick_fi | apply gs_t | apply gs_f | apply off_i | apply cndT | apply cndF)
   refine not_ti ?_
   rw [Bool.not_true]
   repeat (with_reducible first | apply gs_tf | apply gs_ft | apply gs_u | apply pick_ti | apply pick_fi | apply gs_t | apply gs_f | apply off_i | apply cndT | apply cndF)
   have hb := body s hu
   refine s.load1 (v := iv d.k) 1 rfl rfl ?_
   refine ineq_d (fun h4 => ?_) (fun h4 => ?_)
   ·refine cndT ?_
    rw [if_neg h4] at hb
    refine off_i ?_
    refine s.load1 (v := iv d.f) 1 rfl rfl ?_
    refine ieql_d (fun h5 => ?_) (fun h5 => ?_)
    ·refine gs_t ?_
     refine off_i ?_
     refine gs_t ?_
     refine s.load1 (v := d.cv) 1 rfl rfl ?_
     refine gs_t ?_
     rw [hl]
     refine gs_t ?_
     refine neql (y := 0) ?_
     refine pick_ti ?_
     have := hK _ s.ext
     rwa [hb, decide_eq_decide.2 (show (d.f = 0 ∧ d.cs.length = 0) ↔ d.cs.length = 0 from ⟨fun x => x.2, fun x => ⟨h5, x⟩⟩)] at this
    ·repeat (with_reducible first | apply gs_tf | apply gs_ft | apply gs_u | apply pick_ti | apply pick_fi | apply gs_t | apply gs_f | apply off_i | apply cndT | apply cndF)
     exact no s (by rw [hb, decide_eq_false (fun x => h5 x.1)])
   ·refine cndF ?_
    rw [if_pos h4] at hb
    refine off_i ?_
    refine s.load1 (v := iv d.f) 1 rfl rfl ?_
    rw [igeq]
    by_cases h5 : 0 ≤ d.f
    case neg =>
     rw [decide_eq_false h5]
     repeat (with_reducible first | apply gs_tf | apply gs_ft | apply gs_u | apply pick_ti | apply pick_fi | apply gs_t | apply gs_f | apply off_i | apply cndT | apply cndF)
     exact no s (by rw [hb, decide_eq_false (fun x => h5 x.1), Bool.false_and])
    rw [decide_eq_true h5]
    refine gs_t ?_
    refine off_i ?_
    refine gs_t ?_
    refine s.load1 (v := iv d.f) 1 rfl rfl ?_
    refine gs_t ?_
    rw [ileq]
    refine pick_ti ?_
    by_cases h6 : d.f ≤ 16
    case neg =>
     rw [decide_eq_false h6]
     repeat (with_reducible first | apply gs_tf | apply gs_ft | apply gs_u | apply pick_ti | apply pick_fi | apply gs_t | apply gs_f | apply off_i | apply cndT | apply cndF)
     exact no s (by rw [hb, decide_eq_false (fun x => h6 x.2.1), Bool.false_and])
    rw [decide_eq_true h6]
    refine gs_t ?_
    refine off_i ?_
    refine gs_t ?_
    refine s.load1 (v := d.cv) 1 rfl rfl ?_
    refine gs_t ?_
    rw [hl]
    refine gs_t ?_
    refine nleq (y := 8) ?_
    refine pick_ti ?_
    by_cases h7 : d.cs.length ≤ 8
    case neg =>
     rw [decide_eq_false h7]
     repeat (with_reducible first | apply gs_tf | apply gs_ft | apply gs_u | apply pick_ti | apply pick_fi | apply gs_t | apply gs_f | apply off_i | apply cndT | apply cndF)
     exact no s (by rw [hb, decide_eq_false (fun x => h7 x.2.2), Bool.false_and])
    rw [decide_eq_true h7]
    refine gs_t ?_
    refine off_i ?_
    refine gs_t ?_
    refine s.load1 (v := d.cv) 1 rfl rfl ?_
    refine gs_t ?_
    refine gs_t ?_
    have hok : d.ok _ := s.rat 0 rfl
    refine fnW_of (by kernel_rfl) (ccontainsF_c (fun c => !ctorR d.p c.e) hok.cr hok.cl (fun c hc w' K' e hK' => ?_) fun w8 e => ?_)
    ·show fnW Tryz.prog 75 #[c.v, .pointer (some ⟨q, 0, none⟩)] _ _
     exact fnW_of (by kernel_rfl) (formed2_c (CV.keep e (hok.c c hc)) ((g s).keep e (by simp)) (hz4 c hc).1 ((Blk.r (s.at 1 rfl)).keep e (by simp)) ((Blk.r (s.at 0 rfl)).keep e (by simp)) hK')
    have s := s.ext0 e
    refine gs_t ?_
    refine not_ti ?_
    refine pick_ti ?_
    have := hK _ s.ext
    rw [hb, decide_eq_true ⟨h5, h6, h7⟩, Bool.true_and] at this
    rw [show (!d.cs.any fun c => !ctorR d.p c.e) = (d.cs.map CV.e).all (ctorR d.p) by rw [List.all_map]; simp [List.all_eq_not_any_not]]
    exact this
 ·rw [if_neg hv] at body bad
  rw [decide_eq_false hv]
  repeat (with_reducible first | apply gs_tf | apply gs_ft | apply gs_u | apply pick_ti | apply pick_fi | apply gs_t | apply gs_f | apply off_i | apply cndT | apply cndF)
  refine s.load1 (v := iv d.k) 1 rfl rfl ?_
  repeat (with_reducible first | apply gs_tf | apply gs_ft | apply gs_u | apply pick_ti | apply pick_fi | apply gs_t | apply gs_f | apply off_i | apply cndT | apply cndF)
  refine fnW_of (by kernel_rfl) (valued_c ?_)
  rw [decide_eq_false hv]
  repeat (with_reducible first | apply gs_tf | apply gs_ft | apply gs_u | apply pick_ti | apply pick_fi | apply gs_t | apply gs_f | apply off_i | apply cndT | apply cndF)
  refine not_ti ?_
  rw [Bool.not_false]
  repeat (with_reducible first | apply gs_tf | apply gs_ft | apply gs_u | apply pick_ti | apply pick_fi | apply gs_t | apply gs_f | apply off_i | apply cndT | apply cndF)
  refine s.declU 1 rfl ?_
  repeat (with_reducible first | apply gs_tf | apply gs_ft | apply gs_u | apply pick_ti | apply pick_fi | apply gs_t | apply gs_f | apply off_i | apply cndT | apply cndF)
  refine fnW_of (by kernel_rfl) (empty_c (DV.ok.u (s.rat 0 rfl)) fun w6 e => ?_)
  have s := s.ext0 e
  repeat (with_reducible first | apply gs_tf | apply gs_ft | apply gs_u | apply pick_ti | apply pick_fi | apply gs_t | apply gs_f | apply off_i | apply cndT | apply cndF)
  refine not_ti ?_
  cases hu : sameB d.u.e zE with
  | false =>
   rw [Bool.not_false]
   repeat (with_reducible first | apply gs_tf | apply gs_ft | apply gs_u | apply pick_ti | apply pick_fi | apply gs_t | apply gs_f | apply off_i | apply cndT | apply cndF)
   exact no s (bad hu)
  | true =>
   rw [Bool.not_true]
   repeat (with_reducible first | apply gs_tf | apply gs_ft | apply gs_u | apply pick_ti | apply pick_fi | apply gs_t | apply gs_f | apply off_i | apply cndT | apply cndF)
   have hb := body s hu
   refine s.load1 (v := iv d.k) 1 rfl rfl ?_
   refine ineq_d (fun h4 => ?_) (fun h4 => ?_)
   ·refine cndT ?_
    rw [if_neg h4] at hb
    refine off_i ?_
    refine s.load1 (v := iv d.f) 1 rfl rfl ?_
    refine ieql_d (fun h5 => ?_) (fun h5 => ?_)
    ·refine gs_t ?_
     refine off_i ?_
     refine gs_t ?_
     refine s.load1 (v := d.cv) 1 rfl rfl ?_
     refine gs_t ?_
     rw [hl]
     refine gs_t ?_
     refine neql (y := 0) ?_
     refine pick_ti ?_
     have := hK _ s.ext
     rwa [hb, decide_eq_decide.2 (show (d.f = 0 ∧ d.cs.length = 0) ↔ d.cs.length = 0 from ⟨fun x => x.2, fun x => ⟨h5, x⟩⟩)] at this
    ·repeat (with_reducible first | apply gs_tf | apply gs_ft | apply gs_u | apply pick_ti | apply pick_fi | apply gs_t | apply gs_f | apply off_i | apply cndT | apply cndF)
     exact no s (by rw [hb, decide_eq_false (fun x => h5 x.1)])
   ·refine cndF ?_
    rw [if_pos h4] at hb
    refine off_i ?_
    refine s.load1 (v := iv d.f) 1 rfl rfl ?_
    rw [igeq]
    by_cases h5 : 0 ≤ d.f
    case neg =>
     rw [decide_eq_false h5]
     repeat (with_reducible first | apply gs_tf | apply gs_ft | apply gs_u | apply pick_ti | apply pick_fi | apply gs_t | apply gs_f | apply off_i | apply cndT | apply cndF)
     exact no s (by rw [hb, decide_eq_false (fun x => h5 x.1), Bool.false_and])
    rw [decide_eq_true h5]
    refine gs_t ?_
    refine off_i ?_
    refine gs_t ?_
    refine s.load1 (v := iv d.f) 1 rfl rfl ?_
    refine gs_t ?_
    rw [ileq]
    refine pick_ti ?_
    by_cases h6 : d.f ≤ 16
    case neg =>
     rw [decide_eq_false h6]
     repeat (with_reducible first | apply gs_tf | apply gs_ft | apply gs_u | apply pick_ti | apply pick_fi | apply gs_t | apply gs_f | apply off_i | apply cndT | apply cndF)
     exact no s (by rw [hb, decide_eq_false (fun x => h6 x.2.1), Bool.false_and])
    rw [decide_eq_true h6]
    refine gs_t ?_
    refine off_i ?_
    refine gs_t ?_
    refine s.load1 (v := d.cv) 1 rfl rfl ?_
    refine gs_t ?_
    rw [hl]
    refine gs_t ?_
    refine nleq (y := 8) ?_
    refine pick_ti ?_
    by_cases h7 : d.cs.length ≤ 8
    case neg =>
     rw [decide_eq_false h7]
     repeat (with_reducible first | apply gs_tf | apply gs_ft | apply gs_u | apply pick_ti | apply pick_fi | apply gs_t | apply gs_f | apply off_i | apply cndT | apply cndF)
     exact no s (by rw [hb, decide_eq_false (fun x => h7 x.2.2), Bool.false_and])
    rw [decide_eq_true h7]
    refine gs_t ?_
    refine off_i ?_
    refine gs_t ?_
    refine s.load1 (v := d.cv) 1 rfl rfl ?_
    refine gs_t ?_
    refine gs_t ?_
    have hok : d.ok _ := s.rat 0 rfl
    refine fnW_of (by kernel_rfl) (ccontainsF_c (fun c => !ctorR d.p c.e) hok.cr hok.cl (fun c hc w' K' e hK' => ?_) fun w8 e => ?_)
    ·show fnW Tryz.prog 75 #[c.v, .pointer (some ⟨q, 0, none⟩)] _ _
     exact fnW_of (by kernel_rfl) (formed2_c (CV.keep e (hok.c c hc)) ((g s).keep e (by simp)) (hz4 c hc).1 ((Blk.r (s.at 1 rfl)).keep e (by simp)) ((Blk.r (s.at 0 rfl)).keep e (by simp)) hK')
    have s := s.ext0 e
    refine gs_t ?_
    refine not_ti ?_
    refine pick_ti ?_
    have := hK _ s.ext
    rw [hb, decide_eq_true ⟨h5, h6, h7⟩, Bool.true_and] at this
    rw [show (!d.cs.any fun c => !ctorR d.p c.e) = (d.cs.map CV.e).all (ctorR d.p) by rw [List.all_map]; simp [List.all_eq_not_any_not]]
    exact this
def ctorsB (cs : List (Bytes × TM)) : Bytes := cs.flatMap fun c => textB c.1 ++ putT c.2
def tailB (d : DM) : Bytes := if d.k = 2 ∨ d.k = 3 then putT d.u else if d.k = 4 then by8 d.f :: by8 d.cs.length :: ctorsB d.cs else []
def declB (d : DM) : Bytes := by8 d.k :: (textB d.s ++ (by8 d.p :: (putT d.t ++ tailB d)))
structure Formed (d : DM) : Prop where
 k : 1 ≤ d.k ∧ d.k ≤ 4
 s : wordB d.s = true
 t : rightR d.t d.p 0 = true
 u : d.k = 2 ∨ d.k = 3 -> rightR d.u d.p 0 = true
 z : ¬ (d.k = 2 ∨ d.k = 3) -> d.u = zE
 f : d.k = 4 -> 0 ≤ d.f ∧ d.f ≤ 16 ∧ d.cs.length ≤ 8
 c : d.k = 4 -> ∀ c ∈ d.cs, wordB c.1 = true ∧ rightR c.2 d.p 0 = true
 n : d.k ≠ 4 -> d.f = 0 ∧ d.cs = []
theorem formB_iff {d : DM} : formB d = true ↔ Formed d := by
 unfold formB
 simp only [Bool.and_eq_true, decide_eq_true_eq]
 constructor
 ·rintro ⟨⟨⟨⟨h1, h2⟩, h3⟩, h4⟩, h5⟩
  refine ⟨h1, h2, h3, fun h => ?_, fun h => ?_, fun h => ?_, fun h c hc => ?_, fun h => ?_⟩
  ·rwa [if_pos h] at h4
  ·rw [if_neg h] at h4
   by_cases e : d.u = zE
   ·exact e
   ·rw [sameB_f e] at h4; cases h4
  ·rw [if_pos h] at h5
   simp only [Bool.and_eq_true, decide_eq_true_eq] at h5
   exact h5.1
  ·rw [if_pos h] at h5
   simp only [Bool.and_eq_true, List.all_eq_true] at h5
   have := h5.2 c hc
   unfold ctorR at this
   simpa using this
  ·rw [if_neg h, decide_eq_true_eq] at h5
   exact ⟨h5.1, List.length_eq_zero_iff.1 h5.2⟩
 ·intro h
  refine ⟨⟨⟨⟨h.k, h.s⟩, h.t⟩, ?_⟩, ?_⟩
  ·by_cases e : d.k = 2 ∨ d.k = 3
   ·rw [if_pos e]; exact h.u e
   ·rw [if_neg e]; exact sameB_t (h.z e)
  ·by_cases e : d.k = 4
   ·rw [if_pos e]
    simp only [Bool.and_eq_true, decide_eq_true_eq, List.all_eq_true]
    refine ⟨h.f e, fun c hc => ?_⟩
    unfold ctorR
    simpa using h.c e c hc
   ·rw [if_neg e, decide_eq_true_eq]
    exact ⟨(h.n e).1, by rw [(h.n e).2]; rfl⟩
theorem rightR_parts {t : TM} {p v : Int} (h : rightR t p v = true) : 0 ≤ p ∧ p ≤ 4 ∧ t.size ≤ 3000 ∧ allR t p v 0 = true := by
 unfold rightR at h
 simp only [Bool.and_eq_true, decide_eq_true_eq] at h
 exact ⟨h.1.1, h.1.2.1, h.1.2.2.2.2, h.2⟩
theorem right_len {t : TV} {p : Int} (h : rightR t.e p 0 = true) : t.size ≤ 3000 ∧ (putT t.e).length ≤ 180000 := by
 obtain ⟨_, _, h3, h4⟩ := rightR_parts h
 rw [size_e] at h3
 have := putT_len t p 0 0 h4 (by decide)
 omega
theorem textB_len {s : Bytes} (h : wordB s = true) : (textB s).length ≤ 39 := by
 have := numB_len s.length
 have := wordB_len h
 unfold textB
 rw [List.length_append]
 omega
theorem ctorsB_len {p : Int} : ∀ {cs : List CV}, (∀ c ∈ cs, wordB c.s = true ∧ rightR c.t.e p 0 = true) -> (ctorsB (cs.map CV.e)).length ≤ 180039 * cs.length
 | [], _ => by simp [ctorsB]
 | c :: r, h => by
  have ih := ctorsB_len (cs := r) fun a ha => h a (List.mem_cons_of_mem _ ha)
  obtain ⟨h1, h2⟩ := h c List.mem_cons_self
  have := textB_len h1
  have := (right_len h2).2
  have e : ctorsB ((c :: r).map CV.e) = (textB c.s ++ putT c.t.e) ++ ctorsB (r.map CV.e) := by unfold ctorsB; rw [List.map_cons, List.flatMap_cons]
  rw [e, List.length_append, List.length_append, List.length_cons]
  omega
theorem ctors_take {cs : List CV} {i : Nat} (hi : i < cs.length) : ctorsB ((cs.take (i + 1)).map CV.e) = ctorsB ((cs.take i).map CV.e) ++ (textB cs[i].s ++ putT cs[i].t.e) := by
 unfold ctorsB
 rw [ce_take hi, List.flatMap_append, List.flatMap_singleton]
def zC : List Value := [sv [], iv 0, iv 0, sv [], .slice none 0 0, .slice none 0 0]
theorem zero_ctor : zeroO Tryz.prog 73 = some (.agg zC.toArray) := by kernel_rfl
theorem CV.one {w : World} {c : CV} (h : c.ok w) : ∀ x ∈ c.cells, x.oneCell' = true := by
 intro x hx
 rw [CV.cells_eq] at hx
 rcases List.mem_cons.1 hx with rfl | hx
 ·rfl
 ·exact TV.one h.t x hx
theorem CV.ty (c : CV) : Value.agg ((c.cells.drop (0 + 1)).take 5).toArray = c.t.v := by
 rw [CV.cells_eq]
 show Value.agg (c.t.cells.take 5).toArray = _
 rw [List.take_of_length_le (by rw [TV.cells_len]; decide)]
 rfl
theorem cfoot_mem {cs : List CV} {c : CV} (h : c ∈ cs) : ∀ b ∈ c.t.foot, b ∈ cfoots cs := fun b hb => List.mem_flatMap.2 ⟨c, h, hb⟩
theorem dfoot_t (d : DV) : ∀ b ∈ d.t.foot, b ∈ d.foot := fun b hb => by unfold DV.foot; simp [hb]
theorem dfoot_u (d : DV) : ∀ b ∈ d.u.foot, b ∈ d.foot := fun b hb => by unfold DV.foot; simp [hb]
theorem dfoot_c (d : DV) {c : CV} (h : c ∈ d.cs) : ∀ b ∈ c.t.foot, b ∈ d.foot := fun b hb => by unfold DV.foot; simp [cfoot_mem h b hb]
set_option maxHeartbeats 2000000 in
theorem decl_c {w : World} {K : VPost} {d : DV} (h : d.ok w) (hg : GS w) (hsz : d.size ≤ 1000000) (hF : formB d.e = false -> ∀ w', Ext [] w w' -> K (.tuple #[.slice none 0 0, .bool false]) w')
  (hT : formB d.e = true -> ∀ v w', OwnAt w' v 5 1 (bc (declB d.e)) (declB d.e).length -> Ext [] w w' -> (∀ b ∈ slB v, w.heap.size ≤ b) -> K (.tuple #[v, .bool true]) w') : Calls Tryz.prog 25 #[d.v] w (retK K) := by
 refine c25_calls _ w K ?_
 unfold c25
 refine DV.box h fun b w1 s => ?_
 refine s.loadAll 0 rfl rfl ?_
 refine fnW_of (by kernel_rfl) (formed_c (s.rat 0 rfl) (hg.keep s.ext (by simp)) hsz fun w2 e => ?_)
 have s := s.ext0 e
 refine not_ti ?_
 cases hfm : formB d.e with
 | false =>
  rw [Bool.not_false]
  exact cndT (hF hfm _ s.ext)
 | true =>
 rw [Bool.not_true]
 refine cndF ?_
 have hf := formB_iff.1 hfm
 have hk : 1 ≤ d.k ∧ d.k ≤ 4 := hf.k
 have hsl := textB_len (s := d.s) hf.s
 have hwl := wordB_len (s := d.s) hf.s
 obtain ⟨htz, htl⟩ := right_len (t := d.t) hf.t
 obtain ⟨hp0, hp4, _, hta⟩ := rightR_parts hf.t
 have hp0 : 0 ≤ d.p := hp0
 obtain ⟨kn, hkn, hk8⟩ := by8_nat (show 0 ≤ d.k by omega)
 obtain ⟨pn, hpn, hp8⟩ := by8_nat hp0
 refine off_i ?_
 refine s.load1 (v := iv d.k) 0 rfl rfl ?_
 rw [show iv d.k = .int .i64 (kn : Int) by rw [hkn], conv_byte und_int und_u8, ← hk8]
 refine s.litB [by8 d.k] (by rfl) (by simp) fun x1 w3 s _ _ => ?_
 have s : Sep [] w w3 (rDb x1 [by8 d.k] :: rB b d.cells 28 :: []) (rD d :: []) := s
 refine off_i ?_
 refine s.load1 (v := sv d.s) 1 rfl rfl ?_
 refine s.text 0 rfl (by simp) (by omega) fun x2 w4 s => ?_
 have s := s.drew
 generalize w4.drew = w4 at *
 have s : Sep [] w w4 (rDb x2 ([by8 d.k] ++ textB d.s) :: rB b d.cells 28 :: []) (rD d :: []) := s
 refine off_i ?_
 refine s.load1 (v := iv d.p) 1 rfl rfl ?_
 rw [show iv d.p = .int .i64 (pn : Int) by rw [hpn], conv_byte und_int und_u8, ← hp8]
 refine off_i ?_
 refine s.declT 1 rfl ?_
 refine s.litB [by8 d.p] (by rfl) (by simp) fun x3 w5 s _ _ => ?_
 refine ⟨s.declT 2 rfl ⟨rfl, rfl⟩, ?_⟩
 refine s.apB (v := x2) (l := [by8 d.k] ++ textB d.s) (y := [by8 d.p]) 1 rfl (OwnAt.rd (s.at 0 rfl)) (by simp; omega) fun x4 w6 s => ?_
 have s := s.drop 0
 have s : Sep [] w w6 (rDb x4 ([by8 d.k] ++ textB d.s ++ [by8 d.p]) :: rB b d.cells 28 :: []) (rD d :: []) := s
 refine ⟨s.declT 1 rfl ⟨rfl, rfl⟩, ?_⟩
 have s := s.part (T := rT d.t) (U := rD d) (by simp) (DV.ok.t (s.rat 0 rfl)) (dfoot_t d)
 refine put_w d.t d.p 0 0 s 0 rfl (by simp) hta (by decide) (by simp; omega) fun x5 w7 s => ?_
 have s : Sep [] w w7 (rDb x5 ([by8 d.k] ++ textB d.s ++ [by8 d.p] ++ putT d.t.e) :: rB b d.cells 28 :: []) (rD d :: []) := s.less (fun T hT => by simp at hT; subst hT; simp)
 refine bindX_i fun J42 g42 => bindX_i fun J43 g43 => bindX_i fun J46 g46 => ?_
 have fin : ∀ (fr : Fr) (W : World) (x : Value) (L : List Res), fr 4 = x -> Sep [] w W (rDb x ([by8 d.k] ++ textB d.s ++ [by8 d.p] ++ putT d.t.e ++ tailB d.e) :: L) (rD d :: []) -> J43 .normal fr W := by
  intro fr W x L f4 s
  refine seq_n g43 ?_
  show K (.tuple #[fr 4, .bool true]) W
  rw [f4]
  have e : [by8 d.k] ++ textB d.s ++ [by8 d.p] ++ putT d.t.e ++ tailB d.e = declB d.e := by
   unfold declB
   simp only [List.append_assoc, List.cons_append, List.nil_append]
   rfl
  rw [e] at s
  exact hT hfm x W (s.at 0 rfl) s.ext (s.fresh 0 rfl)
 refine off_i ?_
 refine s.load1 (v := iv d.k) 1 rfl rfl ?_
 refine fnW_of (by kernel_rfl) (valued_c ?_)
 by_cases hv : d.k = 2 ∨ d.k = 3
 ·rw [decide_eq_true hv]
  refine cndT ?_
  refine off_i ?_
  refine s.declU 1 rfl ?_
  obtain ⟨huz, hul⟩ := right_len (t := d.u) (hf.u hv)
  obtain ⟨_, _, _, hua⟩ := rightR_parts (hf.u hv)
  have s := s.part (T := rT d.u) (U := rD d) (by simp) (DV.ok.u (s.rat 0 rfl)) (dfoot_u d)
  refine put_w d.u d.p 0 0 s 0 rfl (by simp) hua (by decide) (by simp; omega) fun x6 w8 s => ?_
  have s := s.less (R' := rD d :: []) (fun T hT => by simp at hT; subst hT; simp)
  have ht : tailB d.e = putT d.u.e := by unfold tailB; rw [if_pos (show d.e.k = 2 ∨ d.e.k = 3 from hv)]; rfl
  exact fin _ _ x6 _ rfl (by rw [ht]; exact s)
 ·rw [decide_eq_false hv]
  refine cndF ?_
  refine off_i ?_
  refine s.load1 (v := iv d.k) 1 rfl rfl ?_
  refine ieql_d (fun h4 => ?_) (fun h4 => ?_)
  ·refine cndT ?_
   obtain ⟨hf0, hf16, hcl⟩ := hf.f h4
   have hf0 : 0 ≤ d.f := hf0
   have hcl : d.cs.length ≤ 8 := by have : (d.cs.map CV.e).length ≤ 8 := hcl; rwa [List.length_map] at this
   have hcr : ∀ c ∈ d.cs, wordB c.s = true ∧ rightR c.t.e d.p 0 = true := fun c hc => hf.c h4 c.e (List.mem_map_of_mem hc)
   obtain ⟨fn, hfn, hf8⟩ := by8_nat hf0
   have hl : ∀ (w : World) (K : VPost), lenW Tryz.prog (some true) #[26] 3 #[d.cv] w K = K (.int .i64 d.cs.length) w := fun w K => RdSl.lenw h.cr
   have ht : tailB d.e = by8 d.f :: UInt8.ofNat d.cs.length :: ctorsB (d.cs.map CV.e) := by
    unfold tailB
    rw [if_neg (show ¬ (d.e.k = 2 ∨ d.e.k = 3) from hv), if_pos (show d.e.k = 4 from h4)]
    show by8 d.f :: by8 ((d.cs.map CV.e).length : Int) :: ctorsB (d.cs.map CV.e) = _
    rw [List.length_map]
    rfl
   have ht2 : ∀ (A C : Bytes), A ++ (by8 d.f :: UInt8.ofNat d.cs.length :: C) = A ++ [by8 d.f, UInt8.ofNat d.cs.length] ++ C := fun A C => by simp
   refine off_i ?_
   refine s.load1 (v := iv d.f) 1 rfl rfl ?_
   rw [show iv d.f = .int .i64 (fn : Int) by rw [hfn], conv_byte und_int und_u8, ← hf8]
   refine off_i ?_
   refine s.load1 (v := d.cv) 1 rfl rfl ?_
   rw [hl, conv_byte und_int und_u8]
   refine s.litB [by8 d.f, UInt8.ofNat d.cs.length] (by rfl) (by simp) fun x6 w8 s _ _ => ?_
   refine s.apB (v := x5) (l := [by8 d.k] ++ textB d.s ++ [by8 d.p] ++ putT d.t.e) (y := [by8 d.f, UInt8.ofNat d.cs.length]) 1 rfl (OwnAt.rd (s.at 0 rfl)) (by simp; omega) fun x7 w9 s => ?_
   have s := s.drop 0
   have s : Sep [] w w9 (rDb x7 ([by8 d.k] ++ textB d.s ++ [by8 d.p] ++ putT d.t.e ++ [by8 d.f, UInt8.ofNat d.cs.length]) :: rB b d.cells 28 :: []) (rD d :: []) := s
   refine off_i ?_
   refine s.load1 (v := d.cv) 1 rfl rfl ?_
   rw [hl]
   refine bindX_i fun J89 g89 => ?_
   refine loop_i (fun m fr wr => ∃ (i : Nat) (x : Value), m = d.cs.length - i ∧ i ≤ d.cs.length ∧ fr 4 = x ∧ fr 49 = d.cv ∧ fr 50 = .int .i64 d.cs.length ∧ fr 51 = .int .i64 i ∧
    Sep [] w wr (rDb x ([by8 d.k] ++ textB d.s ++ [by8 d.p] ++ putT d.t.e ++ [by8 d.f, UInt8.ofNat d.cs.length] ++ ctorsB ((d.cs.take i).map CV.e)) :: rB b d.cells 28 :: []) (rD d :: [])) d.cs.length ?_ ?_
   ·exact ⟨0, x7, rfl, by omega, rfl, rfl, rfl, rfl, by rw [List.take_zero, show ctorsB (([] : List CV).map CV.e) = [] from rfl, List.append_nil]; exact s⟩
   ·rintro m fr wr J ⟨i, x, rfl, hi, f4, f49, f50, f51, s⟩ hJ hX
    rw [f50, f51]
    refine nlss (cond_d (fun hlt => ?_) (fun hlt => ?_))
    ·rw [f49, f4]
     have hok : d.ok wr := s.rat 0 rfl
     have hmem := List.getElem_mem hlt
     obtain ⟨hix, hld, _, _⟩ := hok.cr.ctor hlt .i64
     obtain ⟨hcw, hct⟩ := hcr _ hmem
     obtain ⟨hcz, hcl2⟩ := right_len hct
     obtain ⟨_, _, _, hca⟩ := rightR_parts hct
     have hcs := wordB_len hcw
     have hcb := textB_len hcw
     have hcc := ctorsB_len (cs := d.cs.take i) fun c hc => hcr c (List.mem_of_mem_take hc)
     rw [List.length_take] at hcc
     refine hix _ ?_
     refine hld _ ?_
     refine s.alloc zero_ctor rfl fun q w10 s _ => ?_
     have hok2 : d.ok w10 := s.rat 0 rfl
     refine s.storeAll (vs := d.cs[i].cells) 0 rfl rfl rfl (CV.one (hok2.c _ hmem)) fun w11 s _ => ?_
     have s : Sep [] w w11 (rB q d.cs[i].cells 73 :: rDb x ([by8 d.k] ++ textB d.s ++ [by8 d.p] ++ putT d.t.e ++ [by8 d.f, UInt8.ofNat d.cs.length] ++ ctorsB ((d.cs.take i).map CV.e)) :: rB b d.cells 28 :: []) (rD d :: []) := s
     have s := s.drew
     generalize w11.drew = w11 at *
     refine off_i ?_
     refine s.load1 (v := sv d.cs[i].s) 0 rfl rfl ?_
     refine off_i ?_
     refine s.loadN 0 rfl (by show 0 + 1 + 5 ≤ 6; decide) ?_
     rw [CV.ty]
     refine s.text 1 rfl (by simp only [List.length_append, List.length_cons, List.length_nil]; omega) (by omega) fun x8 w12 s => ?_
     have s : Sep [] w w12 (rB q d.cs[i].cells 73 :: rDb x8 ([by8 d.k] ++ textB d.s ++ [by8 d.p] ++ putT d.t.e ++ [by8 d.f, UInt8.ofNat d.cs.length] ++ ctorsB ((d.cs.take i).map CV.e) ++ textB d.cs[i].s) :: rB b d.cells 28 :: []) (rD d :: []) := s
     refine ⟨s.loadN 0 rfl (by show 0 + 1 + 5 ≤ 6; decide) (by rw [CV.ty]; exact ⟨rfl, rfl⟩), ?_⟩
     have hok3 : d.ok w12 := s.rat 0 rfl
     have s := s.part (T := rT d.cs[i].t) (U := rD d) (by simp) (hok3.c _ hmem).t (dfoot_c d hmem)
     refine put_w d.cs[i].t d.p 0 0 s 1 rfl (by simp) hca (by decide) (by simp only [List.length_append, List.length_cons, List.length_nil]; omega) fun x9 w13 s => ?_
     have s := s.less (R' := rD d :: []) (fun T hT => by simp at hT; subst hT; simp)
     have s := s.drop 0
     have s : Sep [] w w13 (rDb x9 ([by8 d.k] ++ textB d.s ++ [by8 d.p] ++ putT d.t.e ++ [by8 d.f, UInt8.ofNat d.cs.length] ++ ctorsB ((d.cs.take i).map CV.e) ++ textB d.cs[i].s ++ putT d.cs[i].t.e) :: rB b d.cells 28 :: []) (rD d :: []) := s
     refine nadd (y := 1) (by omega) ?_
     refine hJ (d.cs.length - (i + 1)) _ _ (by omega) ⟨i + 1, x9, rfl, by omega, rfl, f49, f50, rfl, ?_⟩
     rw [ctors_take hlt]
     simp only [List.append_assoc] at s ⊢
     exact s
    ·obtain rfl : i = d.cs.length := by omega
     rw [List.take_length] at s
     refine hX _ _ _ (by simp) (g89 _ _ _ (blk_x (g46 _ _ _ ?_)))
     exact fin _ _ x _ f4 (by rw [ht, ht2]; exact s)
  ·refine cndF ?_
   have ht : tailB d.e = [] := by unfold tailB; rw [if_neg (show ¬ (d.e.k = 2 ∨ d.e.k = 3) from hv), if_neg (show ¬ d.e.k = 4 from h4)]
   exact fin _ _ x5 _ rfl (by rw [ht, List.append_nil]; exact s)
theorem declB_len {d : DV} (h : Formed d.e) : (declB d.e).length ≤ 2000000 := by
 have h1 := textB_len (s := d.s) h.s
 have h2 := (right_len (t := d.t) h.t).2
 have h3 : (tailB d.e).length ≤ 1620000 := by
  unfold tailB
  split
  ·rename_i hk
   have := (right_len (t := d.u) (h.u hk)).2
   have e : d.e.u = d.u.e := rfl
   rw [e]; omega
  split
  ·rename_i hk
   have hcl : (d.cs.map CV.e).length ≤ 8 := (h.f hk).2.2
   rw [List.length_map] at hcl
   have := ctorsB_len (cs := d.cs) (p := d.p) fun c hc => h.c hk c.e (List.mem_map_of_mem hc)
   have e : d.e.cs = d.cs.map CV.e := rfl
   rw [e]
   simp only [List.length_cons]
   omega
  ·simp
 have e1 : d.e.s = d.s := rfl
 have e2 : d.e.t = d.t.e := rfl
 unfold declB
 rw [e1, e2]
 simp only [List.length_cons, List.length_append]
 omega
def declsB (ds : List DM) : Bytes := ds.flatMap declB
def libB (ds : List DM) : Bytes := numB ds.length ++ declsB ds
def LibR (ds : List DM) : Prop := ds.length ≤ 64 ∧ ∀ d ∈ ds, formB d = true
theorem decls_take {ds : List DV} {i : Nat} (hi : i < ds.length) : declsB ((ds.take (i + 1)).map DV.e) = declsB ((ds.take i).map DV.e) ++ declB ds[i].e := by
 unfold declsB
 rw [de_take hi, List.flatMap_append, List.flatMap_singleton]
theorem declsB_len : ∀ {ds : List DV}, (∀ d ∈ ds, formB d.e = true) -> (declsB (ds.map DV.e)).length ≤ 2000000 * ds.length
 | [], _ => by simp [declsB]
 | d :: r, h => by
  have ih := declsB_len (ds := r) fun a ha => h a (List.mem_cons_of_mem _ ha)
  have := declB_len (formB_iff.1 (h d List.mem_cons_self))
  have e : declsB ((d :: r).map DV.e) = declB d.e ++ declsB (r.map DV.e) := by unfold declsB; rw [List.map_cons, List.flatMap_cons]
  rw [e, List.length_append, List.length_cons]
  omega
def zD : List Value := [iv 0, iv 0, sv [], iv 0, iv 0, sv [], .slice none 0 0, .slice none 0 0, iv 0, iv 0, sv [], .slice none 0 0, .slice none 0 0, iv 0, .slice none 0 0]
theorem zero_decl : zeroO Tryz.prog 28 = some (.agg zD.toArray) := by kernel_rfl
theorem DV.one {w : World} {d : DV} (h : d.ok w) : ∀ x ∈ d.cells, x.oneCell' = true := by
 have h1 := TV.one h.t
 have h2 := TV.one h.u
 rw [TV.cells_eq] at h1 h2
 intro x hx
 unfold DV.cells at hx
 simp only [List.mem_cons, List.not_mem_nil, or_false] at hx h1 h2
 rcases hx with rfl | rfl | rfl | rfl | rfl | rfl | rfl | rfl | rfl | rfl | rfl | rfl | rfl | rfl | rfl
 ·rfl
 ·rfl
 ·rfl
 ·rfl
 ·rfl
 ·rfl
 ·exact h1 _ (by simp)
 ·exact h1 _ (by simp)
 ·rfl
 ·rfl
 ·rfl
 ·exact h2 _ (by simp)
 ·exact h2 _ (by simp)
 ·rfl
 ·exact (slice_one h.cr).1
set_option maxHeartbeats 1000000 in
theorem library_c {w : World} {K : VPost} {x : Value} {ds : List DV} (hx : RdSl w x 15 (dcs ds) ds.length) (hds : ∀ d ∈ ds, d.ok w) (hg : GS w) (hsz : ∀ d ∈ ds, d.size ≤ 1000000) (hF : ¬ LibR (ds.map DV.e) -> ∀ w', Ext [] w w' -> K (.tuple #[.slice none 0 0, .bool false]) w')
  (hT : LibR (ds.map DV.e) -> ∀ v w', OwnAt w' v 5 1 (bc (libB (ds.map DV.e))) (libB (ds.map DV.e)).length -> Ext [] w w' -> (∀ b ∈ slB v, w.heap.size ≤ b) -> K (.tuple #[v, .bool true]) w') : Calls Tryz.prog 60 #[x] w (retK K) := by
 refine c60_calls _ w K ?_
 unfold c60
 rw [hx.lenw]
 refine ngtr (y := 64) (cond_d (fun h64 => ?_) (fun h64 => ?_))
 ·exact hF (fun h => by have := h.1; rw [List.length_map] at this; omega) w (Ext.refl _ _)
 rw [hx.lenw]
 have s := (Sep.zero1 (U := rDs ds) hds).add (T := rDb (.slice none 0 0) []) (.inl ⟨rfl, rfl, rfl⟩) (Ext.refl _ _) (by simp [rDb, rO, slB])
 refine s.num 0 rfl (by simp) (by omega) fun v1 w1 s => ?_
 have s : Sep [] w w1 (rDb v1 (numB ds.length) :: []) (rDs ds :: []) := s
 have hnb := numB_len ds.length
 refine bindX_i fun J8 g8 => bindX_i fun J9 g9 => ?_
 rw [hx.lenw]
 refine bindX_i fun J14 g14 => ?_
 refine loop_i (fun m fr wr => ∃ (i : Nat) (v : Value), m = ds.length - i ∧ i ≤ ds.length ∧ fr 4 = v ∧ fr 15 = x ∧ fr 16 = .int .i64 ds.length ∧ fr 17 = .int .i64 i ∧ (∀ d ∈ ds.take i, formB d.e = true) ∧ Sep [] w wr (rDb v (numB ds.length ++ declsB ((ds.take i).map DV.e)) :: []) (rDs ds :: [])) ds.length ?_ ?_
 ·exact ⟨0, v1, rfl, by omega, rfl, rfl, rfl, rfl, by simp, by rw [List.take_zero, show declsB (([] : List DV).map DV.e) = [] from rfl, List.append_nil]; exact s⟩
 ·rintro m fr wr J ⟨i, v, rfl, hi, f4, f15, f16, f17, hfm, s⟩ hJ hX
  rw [f17, f16]
  refine nlss (cond_d (fun hlt => ?_) (fun hlt => ?_))
  ·rw [f15, f4]
   have hmem := List.getElem_mem hlt
   obtain ⟨hix, hld⟩ := (hx.keep s.ext (by simp)).decl hlt .i64
   refine hix _ ?_
   refine hld _ ?_
   refine s.alloc zero_decl rfl fun q w2 s _ => ?_
   have hok : ds[i].ok w2 := s.rat 0 rfl _ hmem
   refine s.storeAll (vs := ds[i].cells) 0 rfl rfl rfl (DV.one hok) fun w3 s _ => ?_
   refine s.loadAll 0 rfl rfl ?_
   have s := s.drop 0
   have s : Sep [] w w3 (rDb v (numB ds.length ++ declsB ((ds.take i).map DV.e)) :: []) (rDs ds :: []) := s
   have hok : ds[i].ok w3 := s.rat 0 rfl _ hmem
   have hcl := declsB_len (ds := ds.take i) hfm
   rw [List.length_take] at hcl
   refine fnW_of (by kernel_rfl) (decl_c hok (hg.keep s.ext (by simp)) (hsz _ hmem) (fun hb w4 e => ?_) (fun hb v2 w4 hv e hf => ?_))
   ·rw [extr0, extr1]
    refine not_ti ?_
    rw [Bool.not_false]
    refine cndT ?_
    refine hX _ _ _ (by simp) (g14 _ _ _ (g9 _ _ _ (g8 _ _ _ ?_)))
    exact hF (fun h => by have := h.2 _ (List.mem_map_of_mem hmem); rw [hb] at this; cases this) w4 (s.ext0 e).ext
   ·rw [extr0, extr1]
    refine not_ti ?_
    rw [Bool.not_true]
    refine cndF ?_
    have s := s.add (T := rDb v2 (declB ds[i].e)) hv e hf
    have hdl := declB_len (formB_iff.1 hb)
    refine s.apB (v := v) (l := numB ds.length ++ declsB ((ds.take i).map DV.e)) (y := declB ds[i].e) 1 rfl (OwnAt.rd (s.at 0 rfl)) (by simp only [List.length_append]; omega) fun v3 w5 s => ?_
    have s := s.drop 0
    refine nadd (y := 1) (by omega) ?_
    refine hJ (ds.length - (i + 1)) _ _ (by omega) ⟨i + 1, v3, rfl, by omega, rfl, f15, f16, rfl, fun d hd => ?_, ?_⟩
    ·rcases mem_take_succ hlt hd with hd | rfl
     ·exact hfm d hd
     ·exact hb
    ·rw [decls_take hlt, ← List.append_assoc]
     exact s
  ·obtain rfl : i = ds.length := by omega
   rw [List.take_length] at s hfm
   refine hX _ _ _ (by simp) (g14 _ _ _ (blk_x (seq_n g9 ?_)))
   show K (.tuple #[fr 4, .bool true]) wr
   rw [f4]
   have e : numB ds.length ++ declsB (ds.map DV.e) = libB (ds.map DV.e) := by unfold libB; rw [List.length_map]
   rw [e] at s
   exact hT ⟨by rw [List.length_map]; omega, fun d hd => by obtain ⟨a, ha, rfl⟩ := List.mem_map.1 hd; exact hfm a ha⟩ v wr (s.at 0 rfl) s.ext (s.fresh 0 rfl)
theorem dindexF_c {w : World} {K : VPost} {x fv : Value} {ds : List DV} (pr : DV -> Bool) (hx : RdSl w x 15 (dcs ds) ds.length) (hn : ds.length < 2 ^ 50)
  (hf : ∀ d ∈ ds, ∀ w' K', Ext [] w w' -> (∀ w'', Ext [] w' w'' -> K' (.bool (pr d)) w'') -> dynW Tryz.prog fv #[d.v] w' K')
  (hT : ∀ (i : Nat) (hi : i < ds.length), pr ds[i] = true -> (ds.take i).any pr = false -> ∀ w', Ext [] w w' -> K (.int .i64 i) w') (hF : ds.any pr = false -> ∀ w', Ext [] w w' -> K (.int .i64 (-1)) w') : Calls Tryz.prog 32 #[x, fv] w (retK K) := by
 refine c32_calls _ _ w K ?_
 unfold c32
 refine bindX_i fun J0 g0 => bindX_i fun J1 g1 => ?_
 rw [hx.lenw]
 refine bindX_i fun J2 g2 => ?_
 refine loop_i (fun m fr wr => ∃ i : Nat, m = ds.length - i ∧ i ≤ ds.length ∧ (ds.take i).any pr = false ∧ fr 0 = x ∧ fr 1 = fv ∧ fr 7 = .int .i64 ds.length ∧ fr 8 = .int .i64 i ∧ Ext [] w wr) ds.length ?_ ?_
 ·exact ⟨0, rfl, by omega, rfl, rfl, rfl, rfl, rfl, Ext.refl _ _⟩
 ·rintro m fr wr J ⟨i, rfl, hi, ha, f0, f1, f7, f8, e1⟩ hJ hX
  rw [f7, f8]
  refine nlss (cond_d (fun hlt => ?_) (fun hlt => ?_))
  ·rw [f0, f1]
   obtain ⟨hix, hld⟩ := (hx.keep e1 (by simp)).decl hlt .i64
   refine hix _ ?_
   refine hld _ ?_
   refine hf ds[i] (List.getElem_mem hlt) wr _ e1 fun w2 e2 => ?_
   have ht : (ds.take (i + 1)).any pr = pr ds[i] := by
    rw [List.take_succ_eq_append_getElem hlt, List.any_append, ha]; simp
   cases hp : pr ds[i] with
   | true =>
    refine cndT ?_
    exact hX _ _ _ (by simp) (g2 _ _ _ (g1 _ _ _ (g0 _ _ _ (hT i hlt hp ha _ (e1.new e2)))))
   | false =>
    refine cndF ?_
    refine nadd (y := 1) (by omega) ?_
    exact hJ (ds.length - (i + 1)) _ _ (by omega) ⟨i + 1, rfl, by omega, by rw [ht, hp], f0, f1, f7, rfl, e1.new e2⟩
  ·obtain rfl : i = ds.length := by omega
   rw [List.take_length] at ha
   exact hX _ _ _ (by simp) (g2 _ _ _ (blk_x (seq_n g1 (hF ha wr e1))))
def findL (ns : List Bytes) (s : Bytes) : Option Nat := ns.findIdx? (· == s)
theorem findL_some {ns : List Bytes} {s : Bytes} {i : Nat} (hi : i < ns.length) (h : ns[i] = s) (hn : ∀ j (hj : j < i), ns[j] ≠ s) : findL ns s = some i := by
 unfold findL
 rw [List.findIdx?_eq_some_iff_getElem]
 exact ⟨hi, by simpa using h, fun j hj => by simpa using hn j hj⟩
theorem findL_none {ns : List Bytes} {s : Bytes} (h : ∀ a ∈ ns, a ≠ s) : findL ns s = none := by
 unfold findL
 rw [List.findIdx?_eq_none_iff]
 exact fun a ha => by simpa using h a ha
def atI : Option Nat -> Int
 | some i => i
 | none => -1
theorem find1_c {w : World} {K : VPost} {d : DV} {b : Nat} {s : Bytes} (h : d.ok w) (hb : RBlk w b [sv s]) (hK : ∀ w', Ext [] w w' -> K (.bool (decide (d.s = s))) w') : Calls Tryz.prog 33 #[d.v, .pointer (some ⟨b, 0, none⟩)] w (retK K) := by
 refine c33_calls _ _ w K ?_
 unfold c33
 refine DV.box h fun q w1 s => ?_
 refine off_i ?_
 refine s.load1 (v := sv d.s) 0 rfl rfl ?_
 refine load1 (o := 0) (hb.keep s.ext (by simp)) rfl ?_
 refine str_eql ?_
 exact hK _ s.ext
theorem find_c {w : World} {K : VPost} {x : Value} {ds : List DV} {s : Bytes} (hx : RdSl w x 15 (dcs ds) ds.length) (hds : ∀ d ∈ ds, d.ok w) (hn : ds.length < 2 ^ 50) (hK : ∀ w', Ext [] w w' -> K (.int .i64 (atI (findL (ds.map DV.s) s))) w') : Calls Tryz.prog 12 #[x, sv s] w (retK K) := by
 refine c12_calls _ _ w K ?_
 unfold c12
 refine (Sep.nil w).box fun b w1 q _ => ?_
 have q : Sep [] w w1 (rB b [sv s] 9 :: []) [] := q
 refine mkfunc_i ?_
 refine fnW_of (by kernel_rfl) (dindexF_c (fun d => decide (d.s = s)) (hx.keep q.ext (by simp)) hn (fun d hd w' K' e hK' => ?_) (fun i hi hp ha w2 e => ?_) (fun ha w2 e => ?_))
 ·show fnW Tryz.prog 33 #[d.v, .pointer (some ⟨b, 0, none⟩)] _ _
  exact fnW_of (by kernel_rfl) (find1_c (DV.keep (q.ext.new e) (hds d hd)) ((Blk.r (q.at 0 rfl)).keep e (by simp)) hK')
 ·have := hK w2 (q.ext.new e)
  rwa [findL_some (i := i) (by simpa using hi) (by simpa using hp) (fun j hj => by
   have hjl : j < ds.length := by omega
   have h2 := List.any_eq_false.1 ha ds[j] (List.mem_take_iff_getElem.2 ⟨j, by omega, rfl⟩)
   simpa using h2)] at this
 ·have := hK w2 (q.ext.new e)
  rwa [findL_none (fun a h => by
   obtain ⟨d, hd, rfl⟩ := List.mem_map.1 h
   simpa using List.any_eq_false.1 ha d hd)] at this
structure EV where
 k : Int
 at_ : Int
 s : Bytes
 n : Bytes
 d : DV
def EV.cells (e : EV) : List Value := [iv e.k, iv e.at_, sv e.s, sv e.n] ++ e.d.cells
def EV.v (e : EV) : Value := .agg e.cells.toArray
theorem EV.cells_len (e : EV) : e.cells.length = 19 := rfl
structure EV.ok (w : World) (e : EV) : Prop where
 k : i64ok e.k
 a : i64ok e.at_
 s : e.s.length < 2 ^ 60
 n : e.n.length < 2 ^ 60
 d : e.d.ok w
theorem EV.keepS {S : List Nat} {w w' : World} (x : Ext S w w') {e : EV} (h : e.ok w) (hd : ∀ b ∈ e.d.foot, b ∉ S) : e.ok w' := ⟨h.k, h.a, h.s, h.n, DV.keepS x h.d hd⟩
def rE (e : EV) : Res := ⟨e.d.foot, fun w => e.ok w, fun {_} h => DV.lt h.d, fun {_ _ _} h x hd => EV.keepS x h hd⟩
theorem EV.box {w : World} {e : EV} (h : e.ok w) {K : VPost} (hK : ∀ b w', Sep [] w w' [rB b e.cells 30] [rE e] -> K (.pointer (some ⟨b, 0, none⟩)) w') : boxW 30 e.v w K :=
 (Sep.zero1 (U := rE e) h).box fun b w1 s _ => hK b w1 s
theorem EV.dec (e : EV) : Value.agg ((e.cells.drop (0 + 4)).take 15).toArray = e.d.v := by
 show Value.agg (e.d.cells.take 15).toArray = _
 rw [List.take_of_length_le (Nat.le_of_eq e.d.cells_len)]
 rfl
section
variable {S : List Nat} {w0 w : World} {L R : List Res} {K : VPost}
theorem Sep.editD {b : Nat} {e : EV} {t : TypeId} (s : Sep S w0 w L R) (i : Nat) (hL : L[i]? = some (rB b e.cells t)) (h : K e.d.v w) : loadW (some (true, 15)) (.pointer (some ⟨b, 0 + 4, none⟩)) w K :=
 s.loadN i hL (by rw [EV.cells_len]; decide) (by rw [EV.dec]; exact h)
end
def zDM : DM := ⟨0, 0, [], zE, zE, 0, []⟩
theorem with_c {w : World} {K : VPost} {k : Int} (hK : K (.bool (decide (k = 1 ∨ k = 3))) w) : Calls Tryz.prog 24 #[.int .i64 k] w (retK K) := by
 refine c24_calls _ w K ?_
 unfold c24
 refine ieql_d (fun h => ?_) (fun h => ?_)
 ·repeat (with_reducible first | apply gs_tf | apply gs_ft | apply gs_u | apply pick_ti | apply pick_fi | apply gs_t | apply gs_f | apply off_i | apply cndT | apply cndF)
  rw [decide_eq_true (.inl h)] at hK
  exact hK
 ·repeat (with_reducible first | apply gs_tf | apply gs_ft | apply gs_u | apply pick_ti | apply pick_fi | apply gs_t | apply gs_f | apply off_i | apply cndT | apply cndF)
  refine ieql_d (fun h2 => ?_) (fun h2 => ?_)
  ·repeat (with_reducible first | apply gs_tf | apply gs_ft | apply gs_u | apply pick_ti | apply pick_fi | apply gs_t | apply gs_f | apply off_i | apply cndT | apply cndF)
   rw [decide_eq_true (.inr h2)] at hK
   exact hK
  ·repeat (with_reducible first | apply gs_tf | apply gs_ft | apply gs_u | apply pick_ti | apply pick_fi | apply gs_t | apply gs_f | apply off_i | apply cndT | apply cndF)
   rw [decide_eq_false (by omega)] at hK
   exact hK
theorem empty1_c {w : World} {K : VPost} {t : TV} (h : t.ok w) (hK : ∀ w', Ext [] w w' -> K (.bool (sameB t.e zE)) w') : Calls Tryz.prog 79 #[t.v] w (retK K) := by
 refine c79_calls _ w K ?_
 unfold c79
 refine TV.box h fun b w1 s => ?_
 refine s.loadAll 0 rfl t.cells_len ?_
 refine build_i str_term fill_zero ?_
 refine fnW_of (by kernel_rfl) (tsame_c t zeroV (s.rat 0 rfl) (zeroV_ok _) fun w2 e => ?_)
 rw [zeroV_e]
 exact hK _ (s.ext.new e)
set_option maxHeartbeats 800000 in
theorem eempty_c {w : World} {K : VPost} {d : DV} (h : d.ok w) (hK : ∀ w', Ext [] w w' -> K (.bool (sameDB d.e zDM)) w') : Calls Tryz.prog 47 #[d.v] w (retK K) := by
 refine c47_calls _ w K ?_
 unfold c47
 refine DV.box h fun b w1 s => ?_
 have no : ∀ {W : World} {L R : List Res}, Sep [] w W L R -> d.e ≠ zDM -> K (.bool false) W := fun q e => by have := hK _ q.ext; rwa [sameDB_f e] at this
 refine off_i ?_
 refine s.load1 (v := iv d.k) 0 rfl rfl ?_
 refine ieql_d (fun h1 => ?_) (fun h1 => ?_)
 case refine_2 =>
  repeat (with_reducible first | apply gs_tf | apply gs_ft | apply gs_u | apply pick_ti | apply pick_fi | apply gs_t | apply gs_f | apply off_i | apply cndT | apply cndF)
  exact no s fun e => h1 (congrArg DM.k e)
 refine gs_t ?_
 refine off_i ?_
 refine gs_t ?_
 refine s.load1 (v := iv d.p) 0 rfl rfl ?_
 refine gs_t ?_
 refine ieql_d (fun h2 => ?_) (fun h2 => ?_)
 case refine_2 =>
  repeat (with_reducible first | apply gs_tf | apply gs_ft | apply gs_u | apply pick_ti | apply pick_fi | apply gs_t | apply gs_f | apply off_i | apply cndT | apply cndF)
  exact no s fun e => h2 (congrArg DM.p e)
 refine pick_ti ?_
 refine gs_t ?_
 refine off_i ?_
 refine gs_t ?_
 refine s.load1 (v := sv d.s) 0 rfl rfl ?_
 refine gs_t ?_
 refine seql_d (b := []) (fun h3 => ?_) (fun h3 => ?_)
 case refine_2 =>
  repeat (with_reducible first | apply gs_tf | apply gs_ft | apply gs_u | apply pick_ti | apply pick_fi | apply gs_t | apply gs_f | apply off_i | apply cndT | apply cndF)
  exact no s fun e => h3 (congrArg DM.s e)
 refine pick_ti ?_
 refine gs_t ?_
 refine off_i ?_
 refine gs_t ?_
 refine s.load1 (v := iv d.f) 0 rfl rfl ?_
 refine gs_t ?_
 refine ieql_d (fun h4 => ?_) (fun h4 => ?_)
 case refine_2 =>
  repeat (with_reducible first | apply gs_tf | apply gs_ft | apply gs_u | apply pick_ti | apply pick_fi | apply gs_t | apply gs_f | apply off_i | apply cndT | apply cndF)
  exact no s fun e => h4 (congrArg DM.f e)
 refine pick_ti ?_
 refine gs_t ?_
 refine off_i ?_
 refine gs_t ?_
 refine s.load1 (v := d.cv) 0 rfl rfl ?_
 refine gs_t ?_
 rw [h.cr.lenw]
 refine gs_t ?_
 refine ieql_d (fun h5 => ?_) (fun h5 => ?_)
 case refine_2 =>
  repeat (with_reducible first | apply gs_tf | apply gs_ft | apply gs_u | apply pick_ti | apply pick_fi | apply gs_t | apply gs_f | apply off_i | apply cndT | apply cndF)
  refine no s fun e => h5 ?_
  have := congrArg (fun x => x.cs.length) e
  have e2 : (d.cs.map CV.e).length = 0 := this
  rw [List.length_map] at e2
  rw [e2]; rfl
 refine pick_ti ?_
 refine gs_t ?_
 refine gs_t ?_
 refine off_i ?_
 refine gs_t ?_
 refine s.declT 0 rfl ?_
 refine gs_t ?_
 show fnW Tryz.prog 79 #[d.t.v] _ _
 refine fnW_of (by kernel_rfl) (empty1_c (DV.ok.t (s.rat 0 rfl)) fun w2 e => ?_)
 have s := s.ext0 e
 by_cases h6 : d.t.e = zE
 case neg =>
  rw [sameB_f h6]
  repeat (with_reducible first | apply gs_tf | apply gs_ft | apply gs_u | apply pick_ti | apply pick_fi | apply gs_t | apply gs_f | apply off_i | apply cndT | apply cndF)
  exact no s fun e => h6 (congrArg DM.t e)
 rw [sameB_t h6]
 refine pick_ti ?_
 refine gs_t ?_
 refine gs_t ?_
 refine off_i ?_
 refine gs_t ?_
 refine s.declU 0 rfl ?_
 refine gs_t ?_
 show fnW Tryz.prog 79 #[d.u.v] _ _
 refine fnW_of (by kernel_rfl) (empty1_c (DV.ok.u (s.rat 0 rfl)) fun w3 e => ?_)
 have s := s.ext0 e
 refine pick_ti ?_
 by_cases h7 : d.u.e = zE
 case neg =>
  rw [sameB_f h7]
  exact no s fun e => h7 (congrArg DM.u e)
 rw [sameB_t h7]
 have h8 : d.cs = [] := List.length_eq_zero_iff.1 (by omega)
 have := hK _ s.ext
 rwa [sameDB_t (by unfold DV.e zDM; rw [h1, h2, h3, h4, h6, h7, h8]; rfl)] at this
noncomputable def decOk (k : Int) (d : DM) : Bool := if k = 1 ∨ k = 3 then formB d else sameDB d zDM
noncomputable def madeB (k a : Int) (s n : Bytes) (d : DM) : Bool := decide (1 ≤ k ∧ k ≤ 5) && decOk k d && decide (k ≠ 1 ∧ k ≠ 5 -> a = 0) && decide ((k ≠ 1 ∨ s = []) ∧ (k = 4 ∨ n = []))
set_option maxHeartbeats 1600000 in
theorem made_c {w : World} {K : VPost} {e : EV} (h : e.ok w) (hg : GS w) (hsz : e.d.size ≤ 1000000) (hK : ∀ w', Ext [] w w' -> K (.bool (madeB e.k e.at_ e.s e.n e.d.e)) w') : Calls Tryz.prog 21 #[e.v] w (retK K) := by
 refine c21_calls _ w K ?_
 unfold c21
 refine EV.box h fun b w1 s => ?_
 have no : ∀ {W : World} {L R : List Res}, Sep [] w W L R -> madeB e.k e.at_ e.s e.n e.d.e = false -> K (.bool false) W := fun q x => by have := hK _ q.ext; rwa [x] at this
 refine off_i ?_
 refine s.load1 (v := iv e.k) 0 rfl rfl ?_
 refine ilss_d (fun h1 => ?_) (fun h1 => ?_)
 ·repeat (with_reducible first | apply gs_tf | apply gs_ft | apply gs_u | apply pick_ti | apply pick_fi | apply gs_t | apply gs_f | apply off_i | apply cndT | apply cndF)
  exact no s (by unfold madeB; rw [decide_eq_false (by omega)]; rfl)
 repeat (with_reducible first | apply gs_tf | apply gs_ft | apply gs_u | apply pick_ti | apply pick_fi | apply gs_t | apply gs_f | apply off_i | apply cndT | apply cndF)
 refine s.load1 (v := iv e.k) 0 rfl rfl ?_
 repeat (with_reducible first | apply gs_tf | apply gs_ft | apply gs_u | apply pick_ti | apply pick_fi | apply gs_t | apply gs_f | apply off_i | apply cndT | apply cndF)
 refine igtr_d (fun h2 => ?_) (fun h2 => ?_)
 ·repeat (with_reducible first | apply gs_tf | apply gs_ft | apply gs_u | apply pick_ti | apply pick_fi | apply gs_t | apply gs_f | apply off_i | apply cndT | apply cndF)
  exact no s (by unfold madeB; rw [decide_eq_false (by omega)]; rfl)
 repeat (with_reducible first | apply gs_tf | apply gs_ft | apply gs_u | apply pick_ti | apply pick_fi | apply gs_t | apply gs_f | apply off_i | apply cndT | apply cndF)
 refine s.load1 (v := iv e.k) 0 rfl rfl ?_
 refine fnW_of (by kernel_rfl) (with_c ?_)
 have bad : ∀ {W : World} {L R : List Res}, Sep [] w W L R -> decOk e.k e.d.e = false -> K (.bool false) W := fun q x => no q (by unfold madeB; rw [x, Bool.and_false]; rfl)
 have hk : 1 ≤ e.k ∧ e.k ≤ 5 := by omega
 have hm : ∀ x y : Bool, decOk e.k e.d.e = true -> decide (e.k ≠ 1 ∧ e.k ≠ 5 -> e.at_ = 0) = x -> decide ((e.k ≠ 1 ∨ e.s = []) ∧ (e.k = 4 ∨ e.n = [])) = y -> madeB e.k e.at_ e.s e.n e.d.e = (x && y) := by
  intro x y hd hx hy
  unfold madeB
  rw [hx, hy, hd, decide_eq_true hk]
  simp
 have yes0 : decOk e.k e.d.e = true -> ∀ {W : World} {L R : List Res}, Sep [] w W L R -> (e.k ≠ 1 ∧ e.k ≠ 5 -> e.at_ = 0) -> (e.k ≠ 1 ∨ e.s = []) -> (e.k = 4 ∨ e.n = []) -> K (.bool true) W := fun hd _ _ _ q h1 h2 h3 => by
  have := hK _ q.ext
  rwa [hm true true hd (decide_eq_true h1) (decide_eq_true ⟨h2, h3⟩)] at this
 have no20 : decOk e.k e.d.e = true -> ∀ {W : World} {L R : List Res}, Sep [] w W L R -> ¬ (e.k ≠ 1 ∧ e.k ≠ 5 -> e.at_ = 0) -> K (.bool false) W := fun hd _ _ _ q h1 => no q (by rw [hm false _ hd (decide_eq_false h1) rfl]; rfl)
 have no30 : decOk e.k e.d.e = true -> ∀ {W : World} {L R : List Res}, Sep [] w W L R -> ¬ ((e.k ≠ 1 ∨ e.s = []) ∧ (e.k = 4 ∨ e.n = [])) -> K (.bool false) W := fun hd _ _ _ q h1 => no q (by rw [hm _ false hd rfl (decide_eq_false h1), Bool.and_false])
 by_cases hv : e.k = 1 ∨ e.k = 3
 ·have hde : decOk e.k e.d.e = formB e.d.e := if_pos hv
  rw [decide_eq_true hv]
  repeat (with_reducible first | apply gs_tf | apply gs_ft | apply gs_u | apply pick_ti | apply pick_fi | apply gs_t | apply gs_f | apply off_i | apply cndT | apply cndF)
  refine s.editD 0 rfl ?_
  repeat (with_reducible first | apply gs_tf | apply gs_ft | apply gs_u | apply pick_ti | apply pick_fi | apply gs_t | apply gs_f | apply off_i | apply cndT | apply cndF)
  refine fnW_of (by kernel_rfl) (formed_c (EV.ok.d (s.rat 0 rfl)) (hg.keep s.ext (by simp)) hsz fun w3 x => ?_)
  have s := s.ext0 x
  repeat (with_reducible first | apply gs_tf | apply gs_ft | apply gs_u | apply pick_ti | apply pick_fi | apply gs_t | apply gs_f | apply off_i | apply cndT | apply cndF)
  refine not_ti ?_
  cases hf : formB e.d.e with
  | false =>
   rw [Bool.not_false]
   repeat (with_reducible first | apply gs_tf | apply gs_ft | apply gs_u | apply pick_ti | apply pick_fi | apply gs_t | apply gs_f | apply off_i | apply cndT | apply cndF)
   exact bad s (hde.trans hf)
  | true =>
   rw [Bool.not_true]
   have yes := @yes0 (hde.trans hf)
   have no2 := @no20 (hde.trans hf)
   have no3 := @no30 (hde.trans hf)
   repeat (with_reducible first | apply gs_tf | apply gs_ft | apply gs_u | apply pick_ti | apply pick_fi | apply gs_t | apply gs_f | apply off_i | apply cndT | apply cndF)
   refine s.load1 (v := iv e.k) 0 rfl rfl ?_
   repeat (with_reducible first | apply gs_tf | apply gs_ft | apply gs_u | apply pick_ti | apply pick_fi | apply gs_t | apply gs_f | apply off_i | apply cndT | apply cndF)
   refine fnW_of (by kernel_rfl) (with_c ?_)
   rw [decide_eq_true hv]
   repeat (with_reducible first | apply gs_tf | apply gs_ft | apply gs_u | apply pick_ti | apply pick_fi | apply gs_t | apply gs_f | apply off_i | apply cndT | apply cndF)
   refine not_ti ?_
   rw [Bool.not_true]
   repeat (with_reducible first | apply gs_tf | apply gs_ft | apply gs_u | apply pick_ti | apply pick_fi | apply gs_t | apply gs_f | apply off_i | apply cndT | apply cndF)
   refine s.load1 (v := iv e.k) 0 rfl rfl ?_
   refine ineq_d (fun h8 => ?_) (fun h8 => ?_)
   ·repeat (with_reducible first | apply gs_tf | apply gs_ft | apply gs_u | apply pick_ti | apply pick_fi | apply gs_t | apply gs_f | apply off_i | apply cndT | apply cndF)
    refine s.load1 (v := iv e.k) 0 rfl rfl ?_
    repeat (with_reducible first | apply gs_tf | apply gs_ft | apply gs_u | apply pick_ti | apply pick_fi | apply gs_t | apply gs_f | apply off_i | apply cndT | apply cndF)
    refine ineq_d (fun h9 => ?_) (fun h9 => ?_)
    ·repeat (with_reducible first | apply gs_tf | apply gs_ft | apply gs_u | apply pick_ti | apply pick_fi | apply gs_t | apply gs_f | apply off_i | apply cndT | apply cndF)
     refine s.load1 (v := iv e.at_) 0 rfl rfl ?_
     repeat (with_reducible first | apply gs_tf | apply gs_ft | apply gs_u | apply pick_ti | apply pick_fi | apply gs_t | apply gs_f | apply off_i | apply cndT | apply cndF)
     refine ineq_d (fun ha => ?_) (fun ha => ?_)
     ·repeat (with_reducible first | apply gs_tf | apply gs_ft | apply gs_u | apply pick_ti | apply pick_fi | apply gs_t | apply gs_f | apply off_i | apply cndT | apply cndF)
      exact no2 s fun x => ha (x ⟨h8, h9⟩)
     ·have ha : e.k ≠ 1 ∧ e.k ≠ 5 -> e.at_ = 0 := fun _ => ha
      repeat (with_reducible first | apply gs_tf | apply gs_ft | apply gs_u | apply pick_ti | apply pick_fi | apply gs_t | apply gs_f | apply off_i | apply cndT | apply cndF)
      refine s.load1 (v := iv e.k) 0 rfl rfl ?_
      refine ineq_d (fun h6 => ?_) (fun h6 => ?_)
      ·have hs : e.k ≠ 1 ∨ e.s = [] := .inl h6
       repeat (with_reducible first | apply gs_tf | apply gs_ft | apply gs_u | apply pick_ti | apply pick_fi | apply gs_t | apply gs_f | apply off_i | apply cndT | apply cndF)
       refine s.load1 (v := iv e.k) 0 rfl rfl ?_
       repeat (with_reducible first | apply gs_tf | apply gs_ft | apply gs_u | apply pick_ti | apply pick_fi | apply gs_t | apply gs_f | apply off_i | apply cndT | apply cndF)
       refine ieql_d (fun h4 => ?_) (fun h4 => ?_)
       ·repeat (with_reducible first | apply gs_tf | apply gs_ft | apply gs_u | apply pick_ti | apply pick_fi | apply gs_t | apply gs_f | apply off_i | apply cndT | apply cndF)
        exact yes s ha hs (.inl h4)
       ·repeat (with_reducible first | apply gs_tf | apply gs_ft | apply gs_u | apply pick_ti | apply pick_fi | apply gs_t | apply gs_f | apply off_i | apply cndT | apply cndF)
        refine s.load1 (v := sv e.n) 0 rfl rfl ?_
        repeat (with_reducible first | apply gs_tf | apply gs_ft | apply gs_u | apply pick_ti | apply pick_fi | apply gs_t | apply gs_f | apply off_i | apply cndT | apply cndF)
        refine seql_d (b := []) (fun h5 => ?_) (fun h5 => ?_)
        ·repeat (with_reducible first | apply gs_tf | apply gs_ft | apply gs_u | apply pick_ti | apply pick_fi | apply gs_t | apply gs_f | apply off_i | apply cndT | apply cndF)
         exact yes s ha hs (.inr h5)
        ·repeat (with_reducible first | apply gs_tf | apply gs_ft | apply gs_u | apply pick_ti | apply pick_fi | apply gs_t | apply gs_f | apply off_i | apply cndT | apply cndF)
         exact no3 s fun x => by rcases x.2 with x | x; exact h4 x; exact h5 x
      ·repeat (with_reducible first | apply gs_tf | apply gs_ft | apply gs_u | apply pick_ti | apply pick_fi | apply gs_t | apply gs_f | apply off_i | apply cndT | apply cndF)
       refine s.load1 (v := sv e.s) 0 rfl rfl ?_
       repeat (with_reducible first | apply gs_tf | apply gs_ft | apply gs_u | apply pick_ti | apply pick_fi | apply gs_t | apply gs_f | apply off_i | apply cndT | apply cndF)
       refine seql_d (b := []) (fun h7 => ?_) (fun h7 => ?_)
       ·have hs : e.k ≠ 1 ∨ e.s = [] := .inr h7
        repeat (with_reducible first | apply gs_tf | apply gs_ft | apply gs_u | apply pick_ti | apply pick_fi | apply gs_t | apply gs_f | apply off_i | apply cndT | apply cndF)
        refine s.load1 (v := iv e.k) 0 rfl rfl ?_
        repeat (with_reducible first | apply gs_tf | apply gs_ft | apply gs_u | apply pick_ti | apply pick_fi | apply gs_t | apply gs_f | apply off_i | apply cndT | apply cndF)
        refine ieql_d (fun h4 => ?_) (fun h4 => ?_)
        ·repeat (with_reducible first | apply gs_tf | apply gs_ft | apply gs_u | apply pick_ti | apply pick_fi | apply gs_t | apply gs_f | apply off_i | apply cndT | apply cndF)
         exact yes s ha hs (.inl h4)
        ·repeat (with_reducible first | apply gs_tf | apply gs_ft | apply gs_u | apply pick_ti | apply pick_fi | apply gs_t | apply gs_f | apply off_i | apply cndT | apply cndF)
         refine s.load1 (v := sv e.n) 0 rfl rfl ?_
         repeat (with_reducible first | apply gs_tf | apply gs_ft | apply gs_u | apply pick_ti | apply pick_fi | apply gs_t | apply gs_f | apply off_i | apply cndT | apply cndF)
         refine seql_d (b := []) (fun h5 => ?_) (fun h5 => ?_)
         ·repeat (with_reducible first | apply gs_tf | apply gs_ft | apply gs_u | apply pick_ti | apply pick_fi | apply gs_t | apply gs_f | apply off_i | apply cndT | apply cndF)
          exact yes s ha hs (.inr h5)
         ·repeat (with_reducible first | apply gs_tf | apply gs_ft | apply gs_u | apply pick_ti | apply pick_fi | apply gs_t | apply gs_f | apply off_i | apply cndT | apply cndF)
          exact no3 s fun x => by rcases x.2 with x | x; exact h4 x; exact h5 x
       ·repeat (with_reducible first | apply gs_tf | apply gs_ft | apply gs_u | apply pick_ti | apply pick_fi | apply gs_t | apply gs_f | apply off_i | apply cndT | apply cndF)
        exact no3 s fun x => by rcases x.1 with x | x; exact x h6; exact h7 x
    ·have ha : e.k ≠ 1 ∧ e.k ≠ 5 -> e.at_ = 0 := fun x => absurd h9 x.2
     repeat (with_reducible first | apply gs_tf | apply gs_ft | apply gs_u | apply pick_ti | apply pick_fi | apply gs_t | apply gs_f | apply off_i | apply cndT | apply cndF)
     refine s.load1 (v := iv e.k) 0 rfl rfl ?_
     refine ineq_d (fun h6 => ?_) (fun h6 => ?_)
     ·have hs : e.k ≠ 1 ∨ e.s = [] := .inl h6
      repeat (with_reducible first | apply gs_tf | apply gs_ft | apply gs_u | apply pick_ti | apply pick_fi | apply gs_t | apply gs_f | apply off_i | apply cndT | apply cndF)
      refine s.load1 (v := iv e.k) 0 rfl rfl ?_
      repeat (with_reducible first | apply gs_tf | apply gs_ft | apply gs_u | apply pick_ti | apply pick_fi | apply gs_t | apply gs_f | apply off_i | apply cndT | apply cndF)
      refine ieql_d (fun h4 => ?_) (fun h4 => ?_)
      ·repeat (with_reducible first | apply gs_tf | apply gs_ft | apply gs_u | apply pick_ti | apply pick_fi | apply gs_t | apply gs_f | apply off_i | apply cndT | apply cndF)
       exact yes s ha hs (.inl h4)
      ·repeat (with_reducible first | apply gs_tf | apply gs_ft | apply gs_u | apply pick_ti | apply pick_fi | apply gs_t | apply gs_f | apply off_i | apply cndT | apply cndF)
       refine s.load1 (v := sv e.n) 0 rfl rfl ?_
       repeat (with_reducible first | apply gs_tf | apply gs_ft | apply gs_u | apply pick_ti | apply pick_fi | apply gs_t | apply gs_f | apply off_i | apply cndT | apply cndF)
       refine seql_d (b := []) (fun h5 => ?_) (fun h5 => ?_)
       ·repeat (with_reducible first | apply gs_tf | apply gs_ft | apply gs_u | apply pick_ti | apply pick_fi | apply gs_t | apply gs_f | apply off_i | apply cndT | apply cndF)
        exact yes s ha hs (.inr h5)
       ·repeat (with_reducible first | apply gs_tf | apply gs_ft | apply gs_u | apply pick_ti | apply pick_fi | apply gs_t | apply gs_f | apply off_i | apply cndT | apply cndF)
        exact no3 s fun x => by rcases x.2 with x | x; exact h4 x; exact h5 x
     ·repeat (with_reducible first | apply gs_tf | apply gs_ft | apply gs_u | apply pick_ti | apply pick_fi | apply gs_t | apply gs_f | apply off_i | apply cndT | apply cndF)
      refine s.load1 (v := sv e.s) 0 rfl rfl ?_
      repeat (with_reducible first | apply gs_tf | apply gs_ft | apply gs_u | apply pick_ti | apply pick_fi | apply gs_t | apply gs_f | apply off_i | apply cndT | apply cndF)
      refine seql_d (b := []) (fun h7 => ?_) (fun h7 => ?_)
      ·have hs : e.k ≠ 1 ∨ e.s = [] := .inr h7
       repeat (with_reducible first | apply gs_tf | apply gs_ft | apply gs_u | apply pick_ti | apply pick_fi | apply gs_t | apply gs_f | apply off_i | apply cndT | apply cndF)
       refine s.load1 (v := iv e.k) 0 rfl rfl ?_
       repeat (with_reducible first | apply gs_tf | apply gs_ft | apply gs_u | apply pick_ti | apply pick_fi | apply gs_t | apply gs_f | apply off_i | apply cndT | apply cndF)
       refine ieql_d (fun h4 => ?_) (fun h4 => ?_)
       ·repeat (with_reducible first | apply gs_tf | apply gs_ft | apply gs_u | apply pick_ti | apply pick_fi | apply gs_t | apply gs_f | apply off_i | apply cndT | apply cndF)
        exact yes s ha hs (.inl h4)
       ·repeat (with_reducible first | apply gs_tf | apply gs_ft | apply gs_u | apply pick_ti | apply pick_fi | apply gs_t | apply gs_f | apply off_i | apply cndT | apply cndF)
        refine s.load1 (v := sv e.n) 0 rfl rfl ?_
        repeat (with_reducible first | apply gs_tf | apply gs_ft | apply gs_u | apply pick_ti | apply pick_fi | apply gs_t | apply gs_f | apply off_i | apply cndT | apply cndF)
        refine seql_d (b := []) (fun h5 => ?_) (fun h5 => ?_)
        ·repeat (with_reducible first | apply gs_tf | apply gs_ft | apply gs_u | apply pick_ti | apply pick_fi | apply gs_t | apply gs_f | apply off_i | apply cndT | apply cndF)
         exact yes s ha hs (.inr h5)
        ·repeat (with_reducible first | apply gs_tf | apply gs_ft | apply gs_u | apply pick_ti | apply pick_fi | apply gs_t | apply gs_f | apply off_i | apply cndT | apply cndF)
         exact no3 s fun x => by rcases x.2 with x | x; exact h4 x; exact h5 x
      ·repeat (with_reducible first | apply gs_tf | apply gs_ft | apply gs_u | apply pick_ti | apply pick_fi | apply gs_t | apply gs_f | apply off_i | apply cndT | apply cndF)
       exact no3 s fun x => by rcases x.1 with x | x; exact x h6; exact h7 x
   ·have ha : e.k ≠ 1 ∧ e.k ≠ 5 -> e.at_ = 0 := fun x => absurd h8 x.1
    repeat (with_reducible first | apply gs_tf | apply gs_ft | apply gs_u | apply pick_ti | apply pick_fi | apply gs_t | apply gs_f | apply off_i | apply cndT | apply cndF)
    refine s.load1 (v := iv e.k) 0 rfl rfl ?_
    refine ineq_d (fun h6 => ?_) (fun h6 => ?_)
    ·have hs : e.k ≠ 1 ∨ e.s = [] := .inl h6
     repeat (with_reducible first | apply gs_tf | apply gs_ft | apply gs_u | apply pick_ti | apply pick_fi | apply gs_t | apply gs_f | apply off_i | apply cndT | apply cndF)
     refine s.load1 (v := iv e.k) 0 rfl rfl ?_
     repeat (with_reducible first | apply gs_tf | apply gs_ft | apply gs_u | apply pick_ti | apply pick_fi | apply gs_t | apply gs_f | apply off_i | apply cndT | apply cndF)
     refine ieql_d (fun h4 => ?_) (fun h4 => ?_)
     ·repeat (with_reducible first | apply gs_tf | apply gs_ft | apply gs_u | apply pick_ti | apply pick_fi | apply gs_t | apply gs_f | apply off_i | apply cndT | apply cndF)
      exact yes s ha hs (.inl h4)
     ·repeat (with_reducible first | apply gs_tf | apply gs_ft | apply gs_u | apply pick_ti | apply pick_fi | apply gs_t | apply gs_f | apply off_i | apply cndT | apply cndF)
      refine s.load1 (v := sv e.n) 0 rfl rfl ?_
      repeat (with_reducible first | apply gs_tf | apply gs_ft | apply gs_u | apply pick_ti | apply pick_fi | apply gs_t | apply gs_f | apply off_i | apply cndT | apply cndF)
      refine seql_d (b := []) (fun h5 => ?_) (fun h5 => ?_)
      ·repeat (with_reducible first | apply gs_tf | apply gs_ft | apply gs_u | apply pick_ti | apply pick_fi | apply gs_t | apply gs_f | apply off_i | apply cndT | apply cndF)
       exact yes s ha hs (.inr h5)
      ·repeat (with_reducible first | apply gs_tf | apply gs_ft | apply gs_u | apply pick_ti | apply pick_fi | apply gs_t | apply gs_f | apply off_i | apply cndT | apply cndF)
       exact no3 s fun x => by rcases x.2 with x | x; exact h4 x; exact h5 x
    ·repeat (with_reducible first | apply gs_tf | apply gs_ft | apply gs_u | apply pick_ti | apply pick_fi | apply gs_t | apply gs_f | apply off_i | apply cndT | apply cndF)
     refine s.load1 (v := sv e.s) 0 rfl rfl ?_
     repeat (with_reducible first | apply gs_tf | apply gs_ft | apply gs_u | apply pick_ti | apply pick_fi | apply gs_t | apply gs_f | apply off_i | apply cndT | apply cndF)
     refine seql_d (b := []) (fun h7 => ?_) (fun h7 => ?_)
     ·have hs : e.k ≠ 1 ∨ e.s = [] := .inr h7
      repeat (with_reducible first | apply gs_tf | apply gs_ft | apply gs_u | apply pick_ti | apply pick_fi | apply gs_t | apply gs_f | apply off_i | apply cndT | apply cndF)
      refine s.load1 (v := iv e.k) 0 rfl rfl ?_
      repeat (with_reducible first | apply gs_tf | apply gs_ft | apply gs_u | apply pick_ti | apply pick_fi | apply gs_t | apply gs_f | apply off_i | apply cndT | apply cndF)
      refine ieql_d (fun h4 => ?_) (fun h4 => ?_)
      ·repeat (with_reducible first | apply gs_tf | apply gs_ft | apply gs_u | apply pick_ti | apply pick_fi | apply gs_t | apply gs_f | apply off_i | apply cndT | apply cndF)
       exact yes s ha hs (.inl h4)
      ·repeat (with_reducible first | apply gs_tf | apply gs_ft | apply gs_u | apply pick_ti | apply pick_fi | apply gs_t | apply gs_f | apply off_i | apply cndT | apply cndF)
       refine s.load1 (v := sv e.n) 0 rfl rfl ?_
       repeat (with_reducible first | apply gs_tf | apply gs_ft | apply gs_u | apply pick_ti | apply pick_fi | apply gs_t | apply gs_f | apply off_i | apply cndT | apply cndF)
       refine seql_d (b := []) (fun h5 => ?_) (fun h5 => ?_)
       ·repeat (with_reducible first | apply gs_tf | apply gs_ft | apply gs_u | apply pick_ti | apply pick_fi | apply gs_t | apply gs_f | apply off_i | apply cndT | apply cndF)
        exact yes s ha hs (.inr h5)
       ·repeat (with_reducible first | apply gs_tf | apply gs_ft | apply gs_u | apply pick_ti | apply pick_fi | apply gs_t | apply gs_f | apply off_i | apply cndT | apply cndF)
        exact no3 s fun x => by rcases x.2 with x | x; exact h4 x; exact h5 x
     ·repeat (with_reducible first | apply gs_tf | apply gs_ft | apply gs_u | apply pick_ti | apply pick_fi | apply gs_t | apply gs_f | apply off_i | apply cndT | apply cndF)
      exact no3 s fun x => by rcases x.1 with x | x; exact x h6; exact h7 x
 ·have hde : decOk e.k e.d.e = sameDB e.d.e zDM := if_neg hv
  rw [decide_eq_false hv]
  repeat (with_reducible first | apply gs_tf | apply gs_ft | apply gs_u | apply pick_ti | apply pick_fi | apply gs_t | apply gs_f | apply off_i | apply cndT | apply cndF)
  refine s.load1 (v := iv e.k) 0 rfl rfl ?_
  repeat (with_reducible first | apply gs_tf | apply gs_ft | apply gs_u | apply pick_ti | apply pick_fi | apply gs_t | apply gs_f | apply off_i | apply cndT | apply cndF)
  refine fnW_of (by kernel_rfl) (with_c ?_)
  rw [decide_eq_false hv]
  repeat (with_reducible first | apply gs_tf | apply gs_ft | apply gs_u | apply pick_ti | apply pick_fi | apply gs_t | apply gs_f | apply off_i | apply cndT | apply cndF)
  refine not_ti ?_
  rw [Bool.not_false]
  repeat (with_reducible first | apply gs_tf | apply gs_ft | apply gs_u | apply pick_ti | apply pick_fi | apply gs_t | apply gs_f | apply off_i | apply cndT | apply cndF)
  refine s.editD 0 rfl ?_
  repeat (with_reducible first | apply gs_tf | apply gs_ft | apply gs_u | apply pick_ti | apply pick_fi | apply gs_t | apply gs_f | apply off_i | apply cndT | apply cndF)
  refine fnW_of (by kernel_rfl) (eempty_c (EV.ok.d (s.rat 0 rfl)) fun w3 x => ?_)
  have s := s.ext0 x
  repeat (with_reducible first | apply gs_tf | apply gs_ft | apply gs_u | apply pick_ti | apply pick_fi | apply gs_t | apply gs_f | apply off_i | apply cndT | apply cndF)
  refine not_ti ?_
  cases hf : sameDB e.d.e zDM with
  | false =>
   rw [Bool.not_false]
   repeat (with_reducible first | apply gs_tf | apply gs_ft | apply gs_u | apply pick_ti | apply pick_fi | apply gs_t | apply gs_f | apply off_i | apply cndT | apply cndF)
   exact bad s (hde.trans hf)
  | true =>
   rw [Bool.not_true]
   have yes := @yes0 (hde.trans hf)
   have no2 := @no20 (hde.trans hf)
   have no3 := @no30 (hde.trans hf)
   repeat (with_reducible first | apply gs_tf | apply gs_ft | apply gs_u | apply pick_ti | apply pick_fi | apply gs_t | apply gs_f | apply off_i | apply cndT | apply cndF)
   refine s.load1 (v := iv e.k) 0 rfl rfl ?_
   refine ineq_d (fun h8 => ?_) (fun h8 => ?_)
   ·repeat (with_reducible first | apply gs_tf | apply gs_ft | apply gs_u | apply pick_ti | apply pick_fi | apply gs_t | apply gs_f | apply off_i | apply cndT | apply cndF)
    refine s.load1 (v := iv e.k) 0 rfl rfl ?_
    repeat (with_reducible first | apply gs_tf | apply gs_ft | apply gs_u | apply pick_ti | apply pick_fi | apply gs_t | apply gs_f | apply off_i | apply cndT | apply cndF)
    refine ineq_d (fun h9 => ?_) (fun h9 => ?_)
    ·repeat (with_reducible first | apply gs_tf | apply gs_ft | apply gs_u | apply pick_ti | apply pick_fi | apply gs_t | apply gs_f | apply off_i | apply cndT | apply cndF)
     refine s.load1 (v := iv e.at_) 0 rfl rfl ?_
     repeat (with_reducible first | apply gs_tf | apply gs_ft | apply gs_u | apply pick_ti | apply pick_fi | apply gs_t | apply gs_f | apply off_i | apply cndT | apply cndF)
     refine ineq_d (fun ha => ?_) (fun ha => ?_)
     ·repeat (with_reducible first | apply gs_tf | apply gs_ft | apply gs_u | apply pick_ti | apply pick_fi | apply gs_t | apply gs_f | apply off_i | apply cndT | apply cndF)
      exact no2 s fun x => ha (x ⟨h8, h9⟩)
     ·have ha : e.k ≠ 1 ∧ e.k ≠ 5 -> e.at_ = 0 := fun _ => ha
      repeat (with_reducible first | apply gs_tf | apply gs_ft | apply gs_u | apply pick_ti | apply pick_fi | apply gs_t | apply gs_f | apply off_i | apply cndT | apply cndF)
      refine s.load1 (v := iv e.k) 0 rfl rfl ?_
      refine ineq_d (fun h6 => ?_) (fun h6 => ?_)
      ·have hs : e.k ≠ 1 ∨ e.s = [] := .inl h6
       repeat (with_reducible first | apply gs_tf | apply gs_ft | apply gs_u | apply pick_ti | apply pick_fi | apply gs_t | apply gs_f | apply off_i | apply cndT | apply cndF)
       refine s.load1 (v := iv e.k) 0 rfl rfl ?_
       repeat (with_reducible first | apply gs_tf | apply gs_ft | apply gs_u | apply pick_ti | apply pick_fi | apply gs_t | apply gs_f | apply off_i | apply cndT | apply cndF)
       refine ieql_d (fun h4 => ?_) (fun h4 => ?_)
       ·repeat (with_reducible first | apply gs_tf | apply gs_ft | apply gs_u | apply pick_ti | apply pick_fi | apply gs_t | apply gs_f | apply off_i | apply cndT | apply cndF)
        exact yes s ha hs (.inl h4)
       ·repeat (with_reducible first | apply gs_tf | apply gs_ft | apply gs_u | apply pick_ti | apply pick_fi | apply gs_t | apply gs_f | apply off_i | apply cndT | apply cndF)
        refine s.load1 (v := sv e.n) 0 rfl rfl ?_
        repeat (with_reducible first | apply gs_tf | apply gs_ft | apply gs_u | apply pick_ti | apply pick_fi | apply gs_t | apply gs_f | apply off_i | apply cndT | apply cndF)
        refine seql_d (b := []) (fun h5 => ?_) (fun h5 => ?_)
        ·repeat (with_reducible first | apply gs_tf | apply gs_ft | apply gs_u | apply pick_ti | apply pick_fi | apply gs_t | apply gs_f | apply off_i | apply cndT | apply cndF)
         exact yes s ha hs (.inr h5)
        ·repeat (with_reducible first | apply gs_tf | apply gs_ft | apply gs_u | apply pick_ti | apply pick_fi | apply gs_t | apply gs_f | apply off_i | apply cndT | apply cndF)
         exact no3 s fun x => by rcases x.2 with x | x; exact h4 x; exact h5 x
      ·repeat (with_reducible first | apply gs_tf | apply gs_ft | apply gs_u | apply pick_ti | apply pick_fi | apply gs_t | apply gs_f | apply off_i | apply cndT | apply cndF)
       refine s.load1 (v := sv e.s) 0 rfl rfl ?_
       repeat (with_reducible first | apply gs_tf | apply gs_ft | apply gs_u | apply pick_ti | apply pick_fi | apply gs_t | apply gs_f | apply off_i | apply cndT | apply cndF)
       refine seql_d (b := []) (fun h7 => ?_) (fun h7 => ?_)
       ·have hs : e.k ≠ 1 ∨ e.s = [] := .inr h7
        repeat (with_reducible first | apply gs_tf | apply gs_ft | apply gs_u | apply pick_ti | apply pick_fi | apply gs_t | apply gs_f | apply off_i | apply cndT | apply cndF)
        refine s.load1 (v := iv e.k) 0 rfl rfl ?_
        repeat (with_reducible first | apply gs_tf | apply gs_ft | apply gs_u | apply pick_ti | apply pick_fi | apply gs_t | apply gs_f | apply off_i | apply cndT | apply cndF)
        refine ieql_d (fun h4 => ?_) (fun h4 => ?_)
        ·repeat (with_reducible first | apply gs_tf | apply gs_ft | apply gs_u | apply pick_ti | apply pick_fi | apply gs_t | apply gs_f | apply off_i | apply cndT | apply cndF)
         exact yes s ha hs (.inl h4)
        ·repeat (with_reducible first | apply gs_tf | apply gs_ft | apply gs_u | apply pick_ti | apply pick_fi | apply gs_t | apply gs_f | apply off_i | apply cndT | apply cndF)
         refine s.load1 (v := sv e.n) 0 rfl rfl ?_
         repeat (with_reducible first | apply gs_tf | apply gs_ft | apply gs_u | apply pick_ti | apply pick_fi | apply gs_t | apply gs_f | apply off_i | apply cndT | apply cndF)
         refine seql_d (b := []) (fun h5 => ?_) (fun h5 => ?_)
         ·repeat (with_reducible first | apply gs_tf | apply gs_ft | apply gs_u | apply pick_ti | apply pick_fi | apply gs_t | apply gs_f | apply off_i | apply cndT | apply cndF)
          exact yes s ha hs (.inr h5)
         ·repeat (with_reducible first | apply gs_tf | apply gs_ft | apply gs_u | apply pick_ti | apply pick_fi | apply gs_t | apply gs_f | apply off_i | apply cndT | apply cndF)
          exact no3 s fun x => by rcases x.2 with x | x; exact h4 x; exact h5 x
       ·repeat (with_reducible first | apply gs_tf | apply gs_ft | apply gs_u | apply pick_ti | apply pick_fi | apply gs_t | apply gs_f | apply off_i | apply cndT | apply cndF)
        exact no3 s fun x => by rcases x.1 with x | x; exact x h6; exact h7 x
    ·have ha : e.k ≠ 1 ∧ e.k ≠ 5 -> e.at_ = 0 := fun x => absurd h9 x.2
     repeat (with_reducible first | apply gs_tf | apply gs_ft | apply gs_u | apply pick_ti | apply pick_fi | apply gs_t | apply gs_f | apply off_i | apply cndT | apply cndF)
     refine s.load1 (v := iv e.k) 0 rfl rfl ?_
     refine ineq_d (fun h6 => ?_) (fun h6 => ?_)
     ·have hs : e.k ≠ 1 ∨ e.s = [] := .inl h6
      repeat (with_reducible first | apply gs_tf | apply gs_ft | apply gs_u | apply pick_ti | apply pick_fi | apply gs_t | apply gs_f | apply off_i | apply cndT | apply cndF)
      refine s.load1 (v := iv e.k) 0 rfl rfl ?_
      repeat (with_reducible first | apply gs_tf | apply gs_ft | apply gs_u | apply pick_ti | apply pick_fi | apply gs_t | apply gs_f | apply off_i | apply cndT | apply cndF)
      refine ieql_d (fun h4 => ?_) (fun h4 => ?_)
      ·repeat (with_reducible first | apply gs_tf | apply gs_ft | apply gs_u | apply pick_ti | apply pick_fi | apply gs_t | apply gs_f | apply off_i | apply cndT | apply cndF)
       exact yes s ha hs (.inl h4)
      ·repeat (with_reducible first | apply gs_tf | apply gs_ft | apply gs_u | apply pick_ti | apply pick_fi | apply gs_t | apply gs_f | apply off_i | apply cndT | apply cndF)
       refine s.load1 (v := sv e.n) 0 rfl rfl ?_
       repeat (with_reducible first | apply gs_tf | apply gs_ft | apply gs_u | apply pick_ti | apply pick_fi | apply gs_t | apply gs_f | apply off_i | apply cndT | apply cndF)
       refine seql_d (b := []) (fun h5 => ?_) (fun h5 => ?_)
       ·repeat (with_reducible first | apply gs_tf | apply gs_ft | apply gs_u | apply pick_ti | apply pick_fi | apply gs_t | apply gs_f | apply off_i | apply cndT | apply cndF)
        exact yes s ha hs (.inr h5)
       ·repeat (with_reducible first | apply gs_tf | apply gs_ft | apply gs_u | apply pick_ti | apply pick_fi | apply gs_t | apply gs_f | apply off_i | apply cndT | apply cndF)
        exact no3 s fun x => by rcases x.2 with x | x; exact h4 x; exact h5 x
     ·repeat (with_reducible first | apply gs_tf | apply gs_ft | apply gs_u | apply pick_ti | apply pick_fi | apply gs_t | apply gs_f | apply off_i | apply cndT | apply cndF)
      refine s.load1 (v := sv e.s) 0 rfl rfl ?_
      repeat (with_reducible first | apply gs_tf | apply gs_ft | apply gs_u | apply pick_ti | apply pick_fi | apply gs_t | apply gs_f | apply off_i | apply cndT | apply cndF)
      refine seql_d (b := []) (fun h7 => ?_) (fun h7 => ?_)
      ·have hs : e.k ≠ 1 ∨ e.s = [] := .inr h7
       repeat (with_reducible first | apply gs_tf | apply gs_ft | apply gs_u | apply pick_ti | apply pick_fi | apply gs_t | apply gs_f | apply off_i | apply cndT | apply cndF)
       refine s.load1 (v := iv e.k) 0 rfl rfl ?_
       repeat (with_reducible first | apply gs_tf | apply gs_ft | apply gs_u | apply pick_ti | apply pick_fi | apply gs_t | apply gs_f | apply off_i | apply cndT | apply cndF)
       refine ieql_d (fun h4 => ?_) (fun h4 => ?_)
       ·repeat (with_reducible first | apply gs_tf | apply gs_ft | apply gs_u | apply pick_ti | apply pick_fi | apply gs_t | apply gs_f | apply off_i | apply cndT | apply cndF)
        exact yes s ha hs (.inl h4)
       ·repeat (with_reducible first | apply gs_tf | apply gs_ft | apply gs_u | apply pick_ti | apply pick_fi | apply gs_t | apply gs_f | apply off_i | apply cndT | apply cndF)
        refine s.load1 (v := sv e.n) 0 rfl rfl ?_
        repeat (with_reducible first | apply gs_tf | apply gs_ft | apply gs_u | apply pick_ti | apply pick_fi | apply gs_t | apply gs_f | apply off_i | apply cndT | apply cndF)
        refine seql_d (b := []) (fun h5 => ?_) (fun h5 => ?_)
        ·repeat (with_reducible first | apply gs_tf | apply gs_ft | apply gs_u | apply pick_ti | apply pick_fi | apply gs_t | apply gs_f | apply off_i | apply cndT | apply cndF)
         exact yes s ha hs (.inr h5)
        ·repeat (with_reducible first | apply gs_tf | apply gs_ft | apply gs_u | apply pick_ti | apply pick_fi | apply gs_t | apply gs_f | apply off_i | apply cndT | apply cndF)
         exact no3 s fun x => by rcases x.2 with x | x; exact h4 x; exact h5 x
      ·repeat (with_reducible first | apply gs_tf | apply gs_ft | apply gs_u | apply pick_ti | apply pick_fi | apply gs_t | apply gs_f | apply off_i | apply cndT | apply cndF)
       exact no3 s fun x => by rcases x.1 with x | x; exact x h6; exact h7 x
   ·have ha : e.k ≠ 1 ∧ e.k ≠ 5 -> e.at_ = 0 := fun x => absurd h8 x.1
    repeat (with_reducible first | apply gs_tf | apply gs_ft | apply gs_u | apply pick_ti | apply pick_fi | apply gs_t | apply gs_f | apply off_i | apply cndT | apply cndF)
    refine s.load1 (v := iv e.k) 0 rfl rfl ?_
    refine ineq_d (fun h6 => ?_) (fun h6 => ?_)
    ·have hs : e.k ≠ 1 ∨ e.s = [] := .inl h6
     repeat (with_reducible first | apply gs_tf | apply gs_ft | apply gs_u | apply pick_ti | apply pick_fi | apply gs_t | apply gs_f | apply off_i | apply cndT | apply cndF)
     refine s.load1 (v := iv e.k) 0 rfl rfl ?_
     repeat (with_reducible first | apply gs_tf | apply gs_ft | apply gs_u | apply pick_ti | apply pick_fi | apply gs_t | apply gs_f | apply off_i | apply cndT | apply cndF)
     refine ieql_d (fun h4 => ?_) (fun h4 => ?_)
     ·repeat (with_reducible first | apply gs_tf | apply gs_ft | apply gs_u | apply pick_ti | apply pick_fi | apply gs_t | apply gs_f | apply off_i | apply cndT | apply cndF)
      exact yes s ha hs (.inl h4)
     ·repeat (with_reducible first | apply gs_tf | apply gs_ft | apply gs_u | apply pick_ti | apply pick_fi | apply gs_t | apply gs_f | apply off_i | apply cndT | apply cndF)
      refine s.load1 (v := sv e.n) 0 rfl rfl ?_
      repeat (with_reducible first | apply gs_tf | apply gs_ft | apply gs_u | apply pick_ti | apply pick_fi | apply gs_t | apply gs_f | apply off_i | apply cndT | apply cndF)
      refine seql_d (b := []) (fun h5 => ?_) (fun h5 => ?_)
      ·repeat (with_reducible first | apply gs_tf | apply gs_ft | apply gs_u | apply pick_ti | apply pick_fi | apply gs_t | apply gs_f | apply off_i | apply cndT | apply cndF)
       exact yes s ha hs (.inr h5)
      ·repeat (with_reducible first | apply gs_tf | apply gs_ft | apply gs_u | apply pick_ti | apply pick_fi | apply gs_t | apply gs_f | apply off_i | apply cndT | apply cndF)
       exact no3 s fun x => by rcases x.2 with x | x; exact h4 x; exact h5 x
    ·repeat (with_reducible first | apply gs_tf | apply gs_ft | apply gs_u | apply pick_ti | apply pick_fi | apply gs_t | apply gs_f | apply off_i | apply cndT | apply cndF)
     refine s.load1 (v := sv e.s) 0 rfl rfl ?_
     repeat (with_reducible first | apply gs_tf | apply gs_ft | apply gs_u | apply pick_ti | apply pick_fi | apply gs_t | apply gs_f | apply off_i | apply cndT | apply cndF)
     refine seql_d (b := []) (fun h7 => ?_) (fun h7 => ?_)
     ·have hs : e.k ≠ 1 ∨ e.s = [] := .inr h7
      repeat (with_reducible first | apply gs_tf | apply gs_ft | apply gs_u | apply pick_ti | apply pick_fi | apply gs_t | apply gs_f | apply off_i | apply cndT | apply cndF)
      refine s.load1 (v := iv e.k) 0 rfl rfl ?_
      repeat (with_reducible first | apply gs_tf | apply gs_ft | apply gs_u | apply pick_ti | apply pick_fi | apply gs_t | apply gs_f | apply off_i | apply cndT | apply cndF)
      refine ieql_d (fun h4 => ?_) (fun h4 => ?_)
      ·repeat (with_reducible first | apply gs_tf | apply gs_ft | apply gs_u | apply pick_ti | apply pick_fi | apply gs_t | apply gs_f | apply off_i | apply cndT | apply cndF)
       exact yes s ha hs (.inl h4)
      ·repeat (with_reducible first | apply gs_tf | apply gs_ft | apply gs_u | apply pick_ti | apply pick_fi | apply gs_t | apply gs_f | apply off_i | apply cndT | apply cndF)
       refine s.load1 (v := sv e.n) 0 rfl rfl ?_
       repeat (with_reducible first | apply gs_tf | apply gs_ft | apply gs_u | apply pick_ti | apply pick_fi | apply gs_t | apply gs_f | apply off_i | apply cndT | apply cndF)
       refine seql_d (b := []) (fun h5 => ?_) (fun h5 => ?_)
       ·repeat (with_reducible first | apply gs_tf | apply gs_ft | apply gs_u | apply pick_ti | apply pick_fi | apply gs_t | apply gs_f | apply off_i | apply cndT | apply cndF)
        exact yes s ha hs (.inr h5)
       ·repeat (with_reducible first | apply gs_tf | apply gs_ft | apply gs_u | apply pick_ti | apply pick_fi | apply gs_t | apply gs_f | apply off_i | apply cndT | apply cndF)
        exact no3 s fun x => by rcases x.2 with x | x; exact h4 x; exact h5 x
     ·repeat (with_reducible first | apply gs_tf | apply gs_ft | apply gs_u | apply pick_ti | apply pick_fi | apply gs_t | apply gs_f | apply off_i | apply cndT | apply cndF)
      exact no3 s fun x => by rcases x.1 with x | x; exact x h6; exact h7 x
theorem und_ctors : Tryz.prog.underlying 26 = some (.slice 73) := by kernel_rfl
theorem und_decls : Tryz.prog.underlying 42 = some (.slice 28) := by kernel_rfl
theorem ty_ctor : tyI Tryz.prog 73 = some (.agg zC.toArray, 6, 96) := by kernel_rfl
theorem ty_decl : tyI Tryz.prog 28 = some (.agg zD.toArray, 15, 224) := by kernel_rfl
theorem str_ctor : strI Tryz.prog 73 = some ([(0, 1), (1, 5)], zC) := by kernel_rfl
theorem fill_ctor (s : Bytes) (t : TV) : fillL [(0, 1), (1, 5)] zC [(0, sv s), (1, t.v)] = some (CV.mk s t).cells := by cases t; rfl
abbrev rOC (v : Value) (cs : List CV) : Res := rO v 73 6 (ccs cs) cs.length
abbrev rOD (v : Value) (ds : List DV) : Res := rO v 28 15 (dcs ds) ds.length
section
variable {S : List Nat} {w0 w : World} {L R : List Res} {K : VPost}
theorem Sep.litC1 (s : Sep S w0 w L R) (c : CV) (h : ∀ v' w', Sep S w0 w' (rOC v' [c] :: L) R -> K v' w') : insW Tryz.prog (Instr.buildSlice 26 1 #[(0, c.v)]) w K := by
 obtain ⟨ti, hti, htz, hts, htb⟩ := tyI_spec ty_ctor
 refine s.lit (vs := [c.v]) und_ctors hti htz rfl (by intro y hy; rw [List.mem_singleton] at hy; subst hy; rw [hts]; rfl) (by rw [hts]; simp) fun t w1 s1 _ _ => h t w1 ?_
 have e : flatV [c.v] = ccs [c] := by simp [flatV, CV.v, Value.cells, ccs]
 rw [hts, e] at s1
 exact s1
theorem Sep.apC {v x : Value} {ts us : List CV} (s : Sep S w0 w L R) (i : Nat) (hL : L[i]? = some (rOC v ts)) (hx : RdSl w x 6 (ccs us) us.length) (hu : ∀ u ∈ us, u.ok w) (hn : ts.length + us.length ≤ 10000000)
  (h : ∀ v' w', Sep S w0 w' (L.set i (rOC v' (ts ++ us))) R -> K v' w') : insW Tryz.prog (Builtin.append_ #[26, 26] 26 #[v, x]) w K := by
 obtain ⟨ti, hti, htz, hts, htb⟩ := tyI_spec ty_ctor
 refine s.appendO (v := v) (n := ts.length) (m := us.length) (ys := ccs us) (xs := ccs ts) i (by rw [hts]; exact hL) und_ctors und_ctors hti htz (by rw [hts]; rfl) (by rw [htb]; decide) (by rw [hts]; exact hx) (fun y hy => by
  obtain ⟨u, hm, hy⟩ := List.mem_flatMap.1 hy
  exact CV.one (hu u hm) y hy) (by rw [htb]; omega) fun v' w' s => ?_
 have e : ccs ts ++ ccs us = ccs (ts ++ us) := by simp [ccs]
 rw [hts, e, ← List.length_append] at s
 exact h v' w' s
theorem Sep.litD1 (s : Sep S w0 w L R) (d : DV) (h : ∀ v' w', Sep S w0 w' (rOD v' [d] :: L) R -> K v' w') : insW Tryz.prog (Instr.buildSlice 42 1 #[(0, d.v)]) w K := by
 obtain ⟨ti, hti, htz, hts, htb⟩ := tyI_spec ty_decl
 refine s.lit (vs := [d.v]) und_decls hti htz rfl (by intro y hy; rw [List.mem_singleton] at hy; subst hy; rw [hts]; rfl) (by rw [hts]; simp) fun t w1 s1 _ _ => h t w1 ?_
 have e : flatV [d.v] = dcs [d] := by simp [flatV, DV.v, Value.cells, dcs]
 rw [hts, e] at s1
 exact s1
theorem Sep.litD0 (s : Sep S w0 w L R) (h : ∀ v' w', Sep S w0 w' (rOD v' [] :: L) R -> K v' w') : insW Tryz.prog (Instr.buildSlice 42 0 #[]) w K := by
 obtain ⟨ti, hti, htz, hts, htb⟩ := tyI_spec ty_decl
 exact s.lit (vs := []) und_decls hti htz rfl (by simp) (by simp) fun t w1 s1 _ _ => h t w1 (by rw [hts] at s1; exact s1)
theorem Sep.apD {v x : Value} {ts us : List DV} (s : Sep S w0 w L R) (i : Nat) (hL : L[i]? = some (rOD v ts)) (hx : RdSl w x 15 (dcs us) us.length) (hu : ∀ u ∈ us, u.ok w) (hn : ts.length + us.length ≤ 10000000)
  (h : ∀ v' w', Sep S w0 w' (L.set i (rOD v' (ts ++ us))) R -> K v' w') : insW Tryz.prog (Builtin.append_ #[42, 42] 42 #[v, x]) w K := by
 obtain ⟨ti, hti, htz, hts, htb⟩ := tyI_spec ty_decl
 refine s.appendO (v := v) (n := ts.length) (m := us.length) (ys := dcs us) (xs := dcs ts) i (by rw [hts]; exact hL) und_decls und_decls hti htz (by rw [hts]; rfl) (by rw [htb]; decide) (by rw [hts]; exact hx) (fun y hy => by
  obtain ⟨u, hm, hy⟩ := List.mem_flatMap.1 hy
  exact DV.one (hu u hm) y hy) (by rw [htb]; omega) fun v' w' s => ?_
 have e : dcs ts ++ dcs us = dcs (ts ++ us) := by simp [dcs]
 rw [hts, e, ← List.length_append] at s
 exact h v' w' s
theorem Sep.growC {c : CV} {cs : List CV} (s : Sep S w0 w L R) (h : rCs cs ∈ R) (hc : rC c ∈ R) : Sep S w0 w L (rCs (cs ++ [c]) :: R) := by
 refine s.addR (T := rCs (cs ++ [c])) (fun u hu => ?_) (fun V hV b hb hm => ?_)
 ·rcases List.mem_append.1 hu with hu | hu
  ·exact s.rd (rCs cs) h u hu
  ·rw [List.mem_singleton] at hu
   subst hu
   exact s.rd (rC u) hc
 ·obtain ⟨u, hu, hm2⟩ := List.mem_flatMap.1 hm
  rcases List.mem_append.1 hu with hu | hu
  ·exact s.disR V hV (rCs cs) h b hb (List.mem_flatMap.2 ⟨u, hu, hm2⟩)
  ·rw [List.mem_singleton] at hu
   subst hu
   exact s.disR V hV (rC u) hc b hb hm2
theorem Sep.noCtors (s : Sep S w0 w L R) : Sep S w0 w L (rCs [] :: R) := s.addR (T := rCs []) (fun u hu => by cases hu) (by intro U _ b _ hm; simp [rCs, cfoots] at hm)
theorem Sep.growD {d : DV} {ds : List DV} (s : Sep S w0 w L R) (h : rDs ds ∈ R) (hd : rD d ∈ R) : Sep S w0 w L (rDs (ds ++ [d]) :: R) := by
 refine s.addR (T := rDs (ds ++ [d])) (fun u hu => ?_) (fun V hV b hb hm => ?_)
 ·rcases List.mem_append.1 hu with hu | hu
  ·exact s.rd (rDs ds) h u hu
  ·rw [List.mem_singleton] at hu
   subst hu
   exact s.rd (rD u) hd
 ·obtain ⟨u, hu, hm2⟩ := List.mem_flatMap.1 hm
  rcases List.mem_append.1 hu with hu | hu
  ·exact s.disR V hV (rDs ds) h b hb (List.mem_flatMap.2 ⟨u, hu, hm2⟩)
  ·rw [List.mem_singleton] at hu
   subst hu
   exact s.disR V hV (rD u) hd b hb hm2
theorem Sep.noDecls (s : Sep S w0 w L R) : Sep S w0 w L (rDs [] :: R) := s.addR (T := rDs []) (fun u hu => by cases hu) (by intro U _ b _ hm; simp [rDs, dfoots] at hm)
theorem Sep.madeD {d : DV} {w' : World} (s : Sep S w0 w L R) (h : d.ok w') (e : Ext [] w w') (hf : ∀ b ∈ d.foot, w.heap.size ≤ b) : Sep S w0 w' L (rD d :: R) :=
 (s.add (T := rD d) h e hf).freeze 0 rfl (T' := rD d) h (fun b hb => hb)
end
theorem len_csum : ∀ l : List CV, l.length ≤ (l.map CV.size).sum
 | [] => Nat.le_refl _
 | c :: r => by
  have := len_csum r
  have h : c.size = 1 + c.s.length + c.t.size := rfl
  rw [List.map_cons, List.sum_cons, List.length_cons]
  omega
def dcell (k p : Int) (s : Bytes) (t u : TV) (f : Int) (cv : Value) : List Value := [iv k, iv p, sv s, iv t.k, iv t.n, sv t.s, t.lv, t.av, iv u.k, iv u.n, sv u.s, u.lv, u.av, iv f, cv]
theorem dcell_t (k p : Int) (s : Bytes) (t u t' : TV) (f : Int) (cv : Value) : lspl (dcell k p s t u f cv) (0 + 3) t'.cells = dcell k p s t' u f cv := by rw [TV.cells_eq t']; rfl
theorem dcell_u (k p : Int) (s : Bytes) (t u u' : TV) (f : Int) (cv : Value) : lspl (dcell k p s t u f cv) (0 + 8) u'.cells = dcell k p s t u' f cv := by rw [TV.cells_eq u']; rfl
set_option maxHeartbeats 2000000 in
theorem dclone_c {w : World} {K : VPost} {d : DV} (h : d.ok w) (hsz : d.size ≤ 1000000) (hK : ∀ (d' : DV) w', d'.e = d.e -> d'.ok w' -> (∀ b ∈ d'.foot, w.heap.size ≤ b) -> Ext [] w w' -> K d'.v w') : Calls Tryz.prog 61 #[d.v] w (retK K) := by
 refine c61_calls _ w K ?_
 unfold c61
 obtain ⟨hz1, hz2, hz3, hz4⟩ := size_parts hsz
 refine DV.box h fun b w1 s => ?_
 refine s.alloc zero_decl rfl fun r w2 s _ => ?_
 have s : Sep [] w w2 (rB r zD 28 :: rB b d.cells 28 :: []) (rD d :: []) := s
 have s := s.drew
 generalize w2.drew = w2 at *
 refine off_i ?_
 refine s.declT 1 rfl ?_
 refine off_i ?_
 refine s.declU 1 rfl ?_
 refine fnW_of (by kernel_rfl) (clone_c d.t (DV.ok.t (s.rat 0 rfl)) hz1 fun t' w3 he1 hok1 hf1 e => ?_)
 have hf1' : ∀ b ∈ t'.foot, w.heap.size ≤ b := fun b hb => Nat.le_trans s.ext.size (hf1 b hb)
 have s := s.madeT hok1 e hf1
 refine ⟨s.declU 1 rfl ⟨rfl, rfl⟩, ?_⟩
 refine off_i ?_
 refine fnW_of (by kernel_rfl) (clone_c d.u (DV.ok.u (s.rat 1 rfl)) hz2 fun u' w4 he2 hok2 hf2 e => ?_)
 have hf2' : ∀ b ∈ u'.foot, w.heap.size ≤ b := fun b hb => Nat.le_trans s.ext.size (hf2 b hb)
 have s := s.madeT hok2 e hf2
 have s : Sep [] w w4 (rB r zD 28 :: rB b (dcell d.k d.p d.s d.t d.u d.f d.cv) 28 :: []) (rT u' :: rT t' :: rD d :: []) := s
 refine s.storeN 1 rfl (vs := t'.cells) rfl t'.cells_len (by show 0 + 3 + 5 ≤ 15; decide) (TV.one (s.rat 1 rfl)) fun w5 s _ => ?_
 rw [dcell_t] at s
 have s : Sep [] w w5 (rB r zD 28 :: rB b (dcell d.k d.p d.s t' d.u d.f d.cv) 28 :: []) (rT u' :: rT t' :: rD d :: []) := s
 refine off_i ?_
 refine s.storeN 1 rfl (vs := u'.cells) rfl u'.cells_len (by show 0 + 8 + 5 ≤ 15; decide) (TV.one (s.rat 0 rfl)) fun w6 s _ => ?_
 rw [dcell_u] at s
 have s : Sep [] w w6 (rB r zD 28 :: rB b (dcell d.k d.p d.s t' u' d.f d.cv) 28 :: []) (rT u' :: rT t' :: rD d :: []) := s
 refine off_i ?_
 refine s.load1 (v := d.cv) 1 rfl rfl ?_
 refine off_i ?_
 refine s.store1 1 rfl rfl (by show 14 < 15; decide) rfl fun w7 s _ => ?_
 have s : Sep [] w w7 (rB r zD 28 :: rB b (dcell d.k d.p d.s t' u' d.f (.slice none 0 0)) 28 :: []) (rT u' :: rT t' :: rD d :: []) := s
 refine bindX_i fun J31 g31 => bindX_i fun J32 g32 => ?_
 rw [h.cr.lenw]
 refine bindX_i fun J42 g42 => ?_
 have s := s.add (T := rOC (.slice none 0 0) []) (.inl ⟨rfl, rfl, rfl⟩) (Ext.refl _ _) (by simp [rO, slB])
 have s := s.noCtors
 refine loop_i (fun m fr wr => ∃ (i : Nat) (v : Value) (cs : List CV), m = d.cs.length - i ∧ i ≤ d.cs.length ∧ fr 1 = .pointer (some ⟨b, 0, none⟩) ∧ fr 2 = .pointer (some ⟨r, 0, none⟩) ∧ fr 17 = d.cv ∧ fr 18 = .int .i64 d.cs.length ∧ fr 19 = .int .i64 i ∧ cs.map CV.e = (d.cs.take i).map CV.e ∧ (∀ b ∈ cfoots cs, w.heap.size ≤ b) ∧
  Sep [] w wr (rOC v cs :: rB r zD 28 :: rB b (dcell d.k d.p d.s t' u' d.f v) 28 :: []) (rCs cs :: rT u' :: rT t' :: rD d :: [])) d.cs.length ?_ ?_
 ·exact ⟨0, .slice none 0 0, [], rfl, by omega, rfl, rfl, rfl, rfl, rfl, rfl, by simp [cfoots], s⟩
 ·rintro m fr wr J ⟨i, v, cs, rfl, hi, f1, f2, f17, f18, f19, heq, hfr, s⟩ hJ hX
  have hcl : cs.length = i := by
   have := congrArg List.length heq
   rw [List.length_map, List.length_map, List.length_take] at this
   omega
  rw [f17, f18, f19, f1]
  refine nlss (cond_d (fun hlt => ?_) (fun hlt => ?_))
  ·have hok : d.ok wr := s.rat 3 rfl
   have hmem := List.getElem_mem hlt
   obtain ⟨hix, hld, _, _⟩ := hok.cr.ctor hlt .i64
   refine hix _ ?_
   refine hld _ ?_
   refine s.alloc zero_ctor rfl fun q w8 s _ => ?_
   have hok : d.ok w8 := s.rat 3 rfl
   refine s.storeAll (vs := d.cs[i].cells) 0 rfl rfl rfl (CV.one (hok.c _ hmem)) fun w9 s _ => ?_
   have s := s.drew
   generalize w9.drew = w9 at *
   have s : Sep [] w w9 (rB q d.cs[i].cells 73 :: rOC v cs :: rB r zD 28 :: rB b (dcell d.k d.p d.s t' u' d.f v) 28 :: []) (rCs cs :: rT u' :: rT t' :: rD d :: []) := s
   refine off_i ?_
   refine s.load1 (v := v) 3 rfl rfl ?_
   refine off_i ?_
   refine s.load1 (v := sv d.cs[i].s) 0 rfl rfl ?_
   refine off_i ?_
   refine s.loadN 0 rfl (by show 0 + 1 + 5 ≤ 6; decide) ?_
   rw [CV.ty]
   have hok : d.ok w9 := s.rat 3 rfl
   refine fnW_of (by kernel_rfl) (clone_c d.cs[i].t (hok.c _ hmem).t (hz4 _ hmem).1 fun ct w10 he3 hok3 hf3 e => ?_)
   have hf3' : ∀ b ∈ ct.foot, w.heap.size ≤ b := fun b hb => Nat.le_trans s.ext.size (hf3 b hb)
   have s := s.madeT hok3 e hf3
   refine ⟨s.load1 (v := v) 3 rfl rfl ⟨rfl, rfl⟩, ?_⟩
   refine ⟨s.load1 (v := sv d.cs[i].s) 0 rfl rfl ⟨rfl, rfl⟩, ?_⟩
   refine build_i str_ctor (fill_ctor d.cs[i].s ct) ?_
   refine s.litC1 ⟨d.cs[i].s, ct⟩ fun x w11 s => ?_
   refine ⟨s.load1 (v := v) 4 rfl rfl ⟨rfl, rfl⟩, ?_⟩
   have hsl : d.cs[i].s.length < 2 ^ 60 := (h.c _ hmem).s
   have s := s.addR (T := rC ⟨d.cs[i].s, ct⟩) ⟨hsl, s.rat 0 rfl⟩ (fun U hU b hb hm => s.disR U hU (rT ct) (by simp) b hb hm)
   refine s.apC (v := v) (ts := cs) (us := [⟨d.cs[i].s, ct⟩]) 2 rfl (OwnAt.rd (s.at 0 rfl)) (fun u hu => by rw [List.mem_singleton] at hu; subst hu; exact s.rat 0 rfl) (by have := h.cl; have := hsz; unfold DV.size at this; have := len_csum d.cs; simp only [List.length_singleton]; omega) fun v2 w12 s => ?_
   have s := ((s.drop 0).drop 0).growC (c := ⟨d.cs[i].s, ct⟩) (cs := cs) (by simp) (by simp)
   have s : Sep [] w w12 (rOC v2 (cs ++ [⟨d.cs[i].s, ct⟩]) :: rB r zD 28 :: rB b (dcell d.k d.p d.s t' u' d.f v) 28 :: []) (rCs (cs ++ [⟨d.cs[i].s, ct⟩]) :: rC ⟨d.cs[i].s, ct⟩ :: rT ct :: rCs cs :: rT u' :: rT t' :: rD d :: []) := s
   refine off_i ?_
   refine s.store1 2 rfl ((slice_one (OwnAt.rd (s.at 0 rfl))).2) (by show 14 < 15; decide) ((slice_one (OwnAt.rd (s.at 0 rfl))).1) fun w13 s _ => ?_
   have s : Sep [] w w13 (rOC v2 (cs ++ [⟨d.cs[i].s, ct⟩]) :: rB r zD 28 :: rB b (dcell d.k d.p d.s t' u' d.f v2) 28 :: []) (rCs (cs ++ [⟨d.cs[i].s, ct⟩]) :: rC ⟨d.cs[i].s, ct⟩ :: rT ct :: rCs cs :: rT u' :: rT t' :: rD d :: []) := s
   have hc50 := h.cl
   refine nadd (y := 1) (by omega) ?_
   refine hJ (d.cs.length - (i + 1)) _ _ (by omega) ⟨i + 1, v2, cs ++ [⟨d.cs[i].s, ct⟩], rfl, by omega, f1, f2, f17, f18, rfl, ?_, ?_, s.less (fun T hT => ?_)⟩
   ·rw [ce_take hlt, List.map_append, heq]
    show _ ++ [(d.cs[i].s, ct.e)] = _
    rw [he3]
   ·intro b hb
    obtain ⟨u, hu, hb2⟩ := List.mem_flatMap.1 hb
    rcases List.mem_append.1 hu with hu | hu
    ·exact hfr b (List.mem_flatMap.2 ⟨u, hu, hb2⟩)
    ·rw [List.mem_singleton] at hu
     subst hu
     exact hf3' b hb2
   ·simp only [List.mem_cons, List.not_mem_nil, or_false] at hT
    rcases hT with rfl | rfl | rfl | rfl <;> simp
  ·obtain rfl : i = d.cs.length := by omega
   rw [List.take_length] at heq
   refine hX _ _ _ (by simp) (g42 _ _ _ (blk_x (seq_n g32 ?_)))
   show loadW _ (fr 1) _ _
   rw [f1]
   refine s.loadAll 2 rfl rfl ?_
   show storeW _ (fr 2) _ _ _
   rw [f2]
   have hd' : (DV.mk d.k d.p d.s t' u' d.f v cs).ok wr := ⟨h.k, h.p, h.s, s.rat 2 rfl, s.rat 1 rfl, h.f, OwnAt.rd (s.at 0 rfl), OwnAt.cap (s.at 0 rfl), by rw [hcl]; exact h.cl, s.rat 0 rfl⟩
   refine s.storeAll (vs := dcell d.k d.p d.s t' u' d.f v) 1 rfl rfl rfl (DV.one hd') fun w8 s _ => ?_
   show loadW _ (fr 2) _ _
   rw [f2]
   refine s.loadAll 1 rfl rfl ?_
   refine hK ⟨d.k, d.p, d.s, t', u', d.f, v, cs⟩ w8 ?_ ⟨h.k, h.p, h.s, s.rat 2 rfl, s.rat 1 rfl, h.f, OwnAt.rd (s.at 0 rfl), OwnAt.cap (s.at 0 rfl), by rw [hcl]; exact h.cl, s.rat 0 rfl⟩ ?_ s.ext
   ·unfold DV.e
    rw [he1, he2, heq]
   ·intro b hb
    unfold DV.foot at hb
    simp only [List.mem_append] at hb
    rcases hb with hb | hb | hb | hb
    ·exact hf1' b hb
    ·exact hf2' b hb
    ·exact s.fresh 0 rfl b (rdB_slB' b hb)
    ·exact hfr b hb
section
variable {P : Program} {w : World} {K : VPost}
theorem cap_i {T ty e : TypeId} {a : Option Addr} {n c : Nat} (hu : P.underlying T = some (.slice e)) (h : K (.int .i64 c) w) : insW P (Builtin.cap_ #[T] ty #[.slice a n c]) w K := by
 refine insW_ok (v := .int .i64 c) (w' := w) ?_ h
 unfold Builtin.cap_
 simp only [List.getElem?_toArray, List.getElem?_cons_zero, Sem.run_bind, run_und hu, Result.andThen_ok, Sem.run_pure]
 rfl
theorem sl_none {sz n c h : Nat} {b p : Nat} (hh : h ≤ c) (hK : K (.slice (some ⟨b, p, none⟩) h c) w) : sliceW (.sl sz) (.slice (some ⟨b, p, none⟩) n c) none (some (.int .i64 h)) none w K := by
 refine cut_ok (l := 0) (h := h) rfl rfl (Nat.zero_le _) hh ?_
 rw [Nat.sub_zero, Nat.sub_zero]
 simp only [Option.map_some, add_addr, Nat.zero_mul, Nat.add_zero]
 split <;> exact hK
theorem sl_from {sz n c l : Nat} {b p : Nat} (hl : l ≤ n) (hn : n ≤ c) (hlc : l < c) (hK : K (.slice (some ⟨b, p + l * sz, none⟩) (n - l) (c - l)) w) : sliceW (.sl sz) (.slice (some ⟨b, p, none⟩) n c) (some (.int .i64 l)) none none w K := by
 refine cut_ok (l := l) (h := n) rfl rfl hl hn ?_
 rw [if_neg (by omega)]
 simp only [Option.map_some, add_addr]
 exact hK
theorem sl_any {sz n c l : Nat} {a : Option Addr} {F : World -> Prop} (hl : l ≤ n) (hn : n ≤ c) (hK : F w) : sliceW (.sl sz) (.slice a n c) (some (.int .i64 l)) none none w (fun _ w => F w) :=
 cut_ok (l := l) (h := n) rfl rfl hl hn hK
end
theorem lspl_two2 (cs xs ys : List Value) (o : Nat) (h : o + ys.length + xs.length ≤ cs.length) : lspl (lspl cs (o + ys.length) xs) o ys = lspl cs o (ys ++ xs) := by
 apply List.ext_getElem?
 intro j
 have hl : (lspl cs (o + ys.length) xs).length = cs.length := lspl_len _ _ _ h
 rw [lspl_at _ _ _ _ (by rw [hl]; omega), lspl_at _ _ _ _ h, lspl_at _ _ _ _ (by rw [List.length_append]; omega), List.length_append, List.getElem?_append]
 by_cases h1 : j < o
 ·rw [if_pos h1, if_pos (by omega), if_pos h1]
 ·rw [if_neg h1, if_neg h1]
  by_cases h2 : j < o + ys.length
  ·rw [if_pos h2, if_pos (by omega), if_pos (by omega)]
  ·rw [if_neg h2, if_neg h2]
   by_cases h3 : j < o + ys.length + xs.length
   ·rw [if_pos h3, if_pos (by omega), if_neg (by omega)]
    congr 1
    omega
   ·rw [if_neg h3, if_neg (by omega)]
theorem ext_ovl : ∃ fn, Tryz.prog.funcs[98]? = some fn ∧ (fn.name == "runtime.NumGoroutine") = false ∧ fn.body.isNone = true ∧ Extern.findNext fn = none ∧ Extern.find fn = some (Extern.SlicesOverlaps.overlaps #[42, 42] #[4]) :=
 ⟨Tryz.f98, Tryz.func98, by kernel_rfl, by kernel_rfl, by kernel_rfl, by kernel_rfl⟩
theorem shape_blk {w : World} {b : Nat} {cs : List Value} {t : TypeId} (h : Blk w b cs t) : w.shape? b = some (t, cs.length) := by
 unfold World.shape?
 unfold Blk at h
 rw [h]
 simp
theorem frozen_blk {w : World} {b o : Nat} {cs : List Value} {t : TypeId} (h : Blk w b cs t) : w.frozen? ⟨b, o, none⟩ = false := by
 unfold World.frozen?
 unfold Blk at h
 simp only [h]
 simp
theorem ovl_i {w : World} {K : VPost} {a b o p la ca lb cb : Nat} {cs ds : List Value} {t u : TypeId} (ha : Blk w a cs t) (hb : Blk w b ds u) (hne : a ≠ b) (hd : ds.length ≠ 0) (hK : K (.bool false) w) : fnW Tryz.prog 98 #[.slice (some ⟨a, o, none⟩) la ca, .slice (some ⟨b, p, none⟩) lb cb] w K := by
 obtain ⟨ti, hti, htz, hts, htb⟩ := tyI_spec ty_decl
 obtain ⟨fn, hf, hname, hb0, hn, he⟩ := ext_ovl
 unfold fnW fnZ
 rw [run_callFunc_extern hf hname hb0 hn he, Lib.run_overlaps_apart w _ _ _ und_decls ti.size (run_size hti) ⟨a, o, none⟩ ⟨b, p, none⟩ la ca lb cb hne t u cs.length ds.length (shape_blk ha) (shape_blk hb) hd (frozen_blk ha) (frozen_blk ha)]
 exact hK
theorem take_cells {cs : List Value} {p n a : Nat} (h : a ≤ n) : ((cs.drop p).take n).take a = (cs.drop p).take a := by rw [List.take_take, Nat.min_eq_left h]
theorem drop_cells {cs : List Value} {p n a : Nat} : ((cs.drop p).take n).drop a = (cs.drop (p + a)).take (n - a) := by rw [List.drop_take, List.drop_drop]
theorem copy_j {P : Program} {w : World} {K : VPost} {T T' ty e : TypeId} {i : TypeInfo} {x : Value} {ys cs : List Value} {n m c b o : Nat} {te : TypeId}
  (hu : P.underlying T = some (.slice e)) (hi : P.info? e = some i) (hb : Blk w b cs te) (hx : RdSl w x i.size ys m) (h1 : ∀ y ∈ ys.take (min m n * i.size), y.oneCell' = true) (hle : o + n * i.size ≤ cs.length)
  (h : ∀ w', Ext [b] w w' -> Blk w' b (lspl cs o (ys.take (min m n * i.size))) te -> w'.heap.size = w.heap.size -> K (.int .i64 (min m n : Nat)) w') :
  insW P (Builtin.copy_ #[T, T'] ty #[.slice (some ⟨b, o, none⟩) n c, x]) w K := by
 have hlx : (Builtin.lenOf x).run P w = .ok m w := by obtain ⟨a, c, rfl⟩ := hx.len; rfl
 have hmn : min m n * i.size ≤ m * i.size := Nat.mul_le_mul_right _ (Nat.min_le_left _ _)
 have hmn2 : min m n * i.size ≤ n * i.size := Nat.mul_le_mul_right _ (Nat.min_le_right _ _)
 have hfx : (Builtin.firstCells i.size (min m n) x).run P w = .ok (ys.take (min m n * i.size)).toArray w := by
  obtain ⟨hl, ⟨rfl, a, c, rfl⟩ | ⟨b, o, c, cs, rfl, hb, h1, h2⟩⟩ := hx
  ·have h0 : m * i.size = 0 := by simpa using hl.symm
   have h0' : min m n * i.size = 0 := by omega
   cases a with
   | none => simp; rfl
   | some a =>
    show (loadCells a (min m n * i.size)).run P w = _
    rw [h0']; rfl
  ·obtain ⟨t, fz, hb⟩ := hb
   show (loadCells ⟨b, o, none⟩ (min m n * i.size)).run P w = _
   rw [run_loads hb (by omega), ← h1, List.take_take, Nat.min_eq_left hmn]
 have hyl : (ys.take (min m n * i.size)).length = min m n * i.size := by rw [List.length_take, hx.1]; omega
 have hst := run_storeCells_at P b o te (ys.take (min m n * i.size)) 0 cs.toArray w hb (by rw [hyl]; simp; omega) h1
 rw [Nat.add_zero, setRow_setB hb] at hst
 refine insW_ok (v := .int .i64 (min m n : Nat)) (w' := setB w b (.cells (lspl cs o (ys.take (min m n * i.size))).toArray te)) ?_ (h _ (ext_setB w b _) ?_ (by simp [setB]))
 ·unfold Builtin.copy_
  simp only [List.getElem?_toArray, List.getElem?_cons_zero, List.getElem?_cons_succ, Sem.run_bind, run_und hu, Result.andThen_ok, hlx, run_size hi]
  have hmin : Nat.min m n = min m n := rfl
  rw [hmin]
  simp only [hfx, Result.andThen_ok, Sem.run_bind, hst, Sem.run_pure]
  rfl
 ·unfold Blk
  show (w.heap.setIfInBounds b _)[b]? = _
  rw [Array.getElem?_setIfInBounds]
  have : b < w.heap.size := hb.lt
  simp only [if_true, this]
theorem insert_w {w : World} {K : VPost} {B p n c i : Nat} {cs ys ds : List Value} {t u : TypeId} {A o c2' : Nat} (hB : Blk w B cs t) (hfit : p + c * 15 ≤ cs.length) (hnc : n ≤ c) (hi : i ≤ n) (hcl : n ≤ 1000000) (hA : Blk w A ds u) (hx : RdSl w (.slice (some ⟨A, o, none⟩) 1 c2') 15 ys 1) (hne : A ≠ B)
  (h1 : ∀ y ∈ ys, y.oneCell' = true) (h3 : ∀ y ∈ (cs.drop (p + i * 15)).take ((n - i) * 15), y.oneCell' = true)
  (hin : n + 1 ≤ c -> ∀ w', Ext [B] w w' -> Blk w' B (lspl cs (p + i * 15) (ys ++ (cs.drop (p + i * 15)).take ((n - i) * 15))) t -> w'.heap.size = w.heap.size -> K (.slice (some ⟨B, p, none⟩) (n + 1) c) w')
  (hout : c < n + 1 -> ∀ c2 w' zs, n + 1 ≤ c2 -> Ext [] w w' -> Blk w' w.heap.size ((cs.drop p).take (i * 15) ++ ys ++ (cs.drop (p + i * 15)).take ((n - i) * 15) ++ zs) 28 -> zs.length = (c2 - (n + 1)) * 15 -> w'.heap.size = w.heap.size + 1 -> K (.slice (some ⟨w.heap.size, 0, none⟩) (n + 1) c2) w') :
  fnW Tryz.prog 63 #[.slice (some ⟨B, p, none⟩) n c, .int .i64 i, .slice (some ⟨A, o, none⟩) 1 c2'] w K := by
 obtain ⟨ti, hti, htz, hts, htb⟩ := tyI_spec ty_decl
 have hyl : ys.length = 15 := by have := hx.1; omega
 have hsub : (n - i) * 15 = n * 15 - i * 15 := Nat.sub_mul _ _ _
 have hmi : i * 15 ≤ n * 15 := Nat.mul_le_mul_right _ hi
 have hmn : n * 15 ≤ c * 15 := Nat.mul_le_mul_right _ hnc
 have hrdS : ∀ {w' : World} {l h : Nat}, l ≤ h -> h ≤ c -> Blk w' B cs t -> ∀ c', RdSl w' (.slice (some ⟨B, p + l * 15, none⟩) (h - l) c') 15 ((cs.drop (p + l * 15)).take ((h - l) * 15)) (h - l) := by
  intro w' l h hlh hhc hb c'
  have e1 : (h - l) * 15 = h * 15 - l * 15 := Nat.sub_mul _ _ _
  have e2 : l * 15 ≤ h * 15 := Nat.mul_le_mul_right _ hlh
  have e3 : h * 15 ≤ c * 15 := Nat.mul_le_mul_right _ hhc
  exact ⟨by rw [List.length_take, List.length_drop]; omega, .inr ⟨B, p + l * 15, c', cs, rfl, hb.r, rfl, by omega⟩⟩
 refine fnW_of (by kernel_rfl) (c63_calls _ _ _ w K ?_)
 unfold c63
 refine sl_any hi hnc ?_
 rw [len_s]
 refine neql (x := 1) (y := 0) ?_
 rw [decide_eq_false (by decide)]
 refine cndF ?_
 rw [len_s]
 refine neql (cond_d (fun hin2 => ?_) (fun hin2 => ?_))
 ·-- behind the last
  subst hin2
  have hx' : RdSl w (.slice (some ⟨A, o, none⟩) 1 c2') ti.size ys 1 := by rw [hts]; exact hx
  by_cases hcap : i + 1 ≤ c
  ·have hr := run_append_in (ty := 42) (base := some ⟨B, p, none⟩) und_decls und_decls hti hx' hcap
   have hlen : p + i * ti.size + ys.length ≤ cs.length := by rw [hts]; omega
   have hst := run_storeCells_at Tryz.prog B (p + i * ti.size) t ys 0 cs.toArray w hB (by simpa using hlen) h1
   simp only [add_addr] at hr
   simp only [hst, Result.andThen_ok, setRow_setB hB, Nat.add_zero] at hr
   rw [hts] at hr hlen
   refine insW_ok hr (hin hcap _ (ext_setB w B _) ?_ (by simp [setB]))
   rw [Nat.sub_self, Nat.zero_mul, List.take_zero, List.append_nil]
   unfold Blk
   show (w.heap.setIfInBounds B _)[B]? = _
   rw [Array.getElem?_setIfInBounds]
   have : B < w.heap.size := hB.lt
   simp only [if_true, this]
   rfl
  ·have hrd : RdSl w (.slice (some ⟨B, p, none⟩) i c) ti.size ((cs.drop p).take (i * 15)) i := by
    rw [hts]
    have := hrdS (l := 0) (h := i) (Nat.zero_le _) hnc hB c
    simpa using this
   obtain ⟨c2, hc2, hr⟩ := run_append_out (ty := 42) und_decls und_decls hti htz (by rw [htb]; decide) hrd hx' (by omega) (by rw [htb]; omega)
   refine insW_ok hr (hout (by omega) c2 _ (Builtin.zeroCells (Value.agg zD.toArray).cells (c2 - (i + 1))).toList hc2 ((Ext.drew _ w).new (ext_alloc w.drew _)) ?_ (zeroC _ _ _ rfl) ?_)
   ·show (w.drew.alloc _).heap[w.drew.heap.size]? = _
    rw [alloc_new, Nat.sub_self, Nat.zero_mul, List.take_zero, List.append_nil]
    simp
   ·show (w.drew.alloc _).heap.size = _
    rw [size_al]
    rfl
 ·have hlt : i < n := by omega
  refine nadd (by omega) ?_
  refine cap_i und_decls ?_
  refine ngtr (cond_d (fun hg => ?_) (fun hg => ?_))
  ·-- beyond the capacity
   obtain rfl : c = n := by omega
   refine sl_none (h := i) (by omega) ?_
   refine nadd (by omega) ?_
   refine nsub (by omega) (by omega) ?_
   have hrd : RdSl w (.slice (some ⟨B, p, none⟩) i c) ti.size ((cs.drop p).take (i * 15)) i := by
    rw [hts]
    have := hrdS (l := 0) (h := i) (Nat.zero_le _) (by omega) hB c
    simpa using this
   obtain ⟨c2, hc2, hr⟩ := run_appendZ_out (ty := 42) (m := c + 1 - i) und_decls und_int hti htz (by rw [hts]; rfl) (by rw [htb]; decide) hrd (by omega) (by rw [htb]; omega)
   have hic : i + (c + 1 - i) = c + 1 := by omega
   rw [hic] at hr hc2
   refine insW_ok hr ?_
   generalize hz1 : (Builtin.zeroCells (Value.agg zD.toArray).cells (c + 1 - i)).toList = z1
   generalize hz2 : (Builtin.zeroCells (Value.agg zD.toArray).cells (c2 - (c + 1))).toList = z2
   have hl1 : z1.length = (c + 1 - i) * 15 := by rw [← hz1]; exact zeroC _ _ _ rfl
   have hl2 : z2.length = (c2 - (c + 1)) * 15 := by rw [← hz2]; exact zeroC _ _ _ rfl
   have hl3 : ((cs.drop p).take (i * 15)).length = i * 15 := by rw [List.length_take, List.length_drop]; omega
   have hN : Blk (w.drew.alloc (.cells (((cs.drop p).take (i * 15)).toArray ++ Builtin.zeroCells (Value.agg zD.toArray).cells (c + 1 - i) ++ Builtin.zeroCells (Value.agg zD.toArray).cells (c2 - (c + 1))) 28)) w.heap.size ((cs.drop p).take (i * 15) ++ z1 ++ z2) 28 := by
    show (w.drew.alloc _).heap[w.drew.heap.size]? = _
    rw [alloc_new, ← hz1, ← hz2]
    simp
   have e0 : Ext [] w (w.drew.alloc (.cells (((cs.drop p).take (i * 15)).toArray ++ Builtin.zeroCells (Value.agg zD.toArray).cells (c + 1 - i) ++ Builtin.zeroCells (Value.agg zD.toArray).cells (c2 - (c + 1))) 28)) := (Ext.drew _ w).new (ext_alloc w.drew _)
   have s0 : (w.drew.alloc (.cells (((cs.drop p).take (i * 15)).toArray ++ Builtin.zeroCells (Value.agg zD.toArray).cells (c + 1 - i) ++ Builtin.zeroCells (Value.agg zD.toArray).cells (c2 - (c + 1))) 28)).heap.size = w.heap.size + 1 := by rw [size_al]; rfl
   generalize w.drew.alloc _ = w1 at hN e0 s0 ⊢
   have hBlt := hB.lt
   have hAlt := hA.lt
   have hx1 : RdSl w1 (.slice (some ⟨A, o, none⟩) 1 c2') 15 ys 1 := hx.keep e0 (by simp)
   have hB1 : Blk w1 B cs t := hB.keep e0 (by simp)
   refine sl_from (l := i) (by omega) (by omega) (by omega) ?_
   have hmin : min 1 (c + 1 - i) * 15 = 15 := by omega
   refine copy_i (i := ti) und_decls hti hN (by rw [hts]; exact hx1) h1 (by rw [hts, List.length_append, List.length_append]; omega) fun w2 e2 hb2 hs2 => ?_
   rw [hts, hmin, List.take_of_length_le (show ys.length ≤ 15 by omega)] at hb2
   have hb2 : Blk w2.drew w.heap.size (lspl ((cs.drop p).take (i * 15) ++ z1 ++ z2) (0 + i * 15) ys) 28 := hb2
   have hB2 : Blk w2.drew B cs t := hB1.keep (e2.new (Ext.drew [] w2)) (by simp; omega)
   have e2 : Ext [w.heap.size] w1 w2.drew := e2.new (Ext.drew [] w2)
   have hs2 : w2.drew.heap.size = w1.heap.size := hs2
   generalize w2.drew = w2 at hb2 hB2 e2 hs2 ⊢
   refine nadd (by omega) ?_
   refine sl_from (l := i + 1) (by omega) (by omega) (by omega) ?_
   refine sl_from (l := i) (by omega) (by omega) (by omega) ?_
   have hmin2 : min (c - i) (c + 1 - (i + 1)) * 15 = (c - i) * 15 := by congr 1; omega
   have hXl : ((cs.drop (p + i * 15)).take ((c - i) * 15)).length = (c - i) * 15 := by rw [List.length_take, List.length_drop]; omega
   refine copy_i (i := ti) und_decls hti hb2 (by rw [hts]; exact hrdS (l := i) (h := c) (by omega) (by omega) hB2 _) h3 (by rw [hts, lspl_len _ _ _ (by simp only [List.length_append]; omega)]; simp only [List.length_append]; omega) fun w3 e3 hb3 hs3 => ?_
   rw [hts, hmin2, List.take_of_length_le (Nat.le_of_eq hXl)] at hb3
   refine hout hg c2 w3 z2 hc2 ((e0.step e2 (by simp)).step e3 (by simp)) ?_ hl2 (by omega)
   have e : lspl (lspl ((cs.drop p).take (i * 15) ++ z1 ++ z2) (0 + i * 15) ys) (0 + (i + 1) * 15) ((cs.drop (p + i * 15)).take ((c - i) * 15)) = (cs.drop p).take (i * 15) ++ ys ++ (cs.drop (p + i * 15)).take ((c - i) * 15) ++ z2 := by
    generalize (cs.drop p).take (i * 15) = X at *
    generalize (cs.drop (p + i * 15)).take ((c - i) * 15) = Y at *
    apply List.ext_getElem?
    intro j
    have hlen : (X ++ z1 ++ z2).length = (c2 - (c + 1)) * 15 + (c + 1) * 15 := by simp only [List.length_append]; omega
    rw [lspl_at _ _ _ _ (by rw [lspl_len _ _ _ (by omega)]; omega), lspl_at _ _ _ _ (by omega)]
    simp only [List.getElem?_append, List.length_append]
    by_cases h3 : j < i * 15
    ·rw [if_pos (by omega), if_pos (by omega), if_pos (by omega), if_pos (by omega), if_pos (by omega), if_pos (by omega), if_pos (by omega)]
    ·by_cases h4 : j < (i + 1) * 15
     ·rw [if_pos (by omega), if_neg (by omega), if_pos (by omega), if_pos (by omega), if_pos (by omega), if_neg (by omega)]
      congr 1; omega
     ·by_cases h5 : j < (c + 1) * 15
      ·rw [if_neg (by omega), if_pos (by omega), if_pos (by omega), if_neg (by omega)]
       congr 1; omega
      ·rw [if_neg (by omega), if_neg (by omega), if_neg (by omega), if_neg (by omega), if_neg (by omega), if_neg (by omega)]
       congr 1; omega
   rw [← e]
   exact hb3
  ·-- within it
   refine nadd (by omega) ?_
   refine sl_none (h := n + 1) (by omega) ?_
   refine nadd (by omega) ?_
   refine sl_from (l := i + 1) (by omega) (by omega) (by omega) ?_
   refine ovl_i hA hB hne (by have := hB; omega) ?_
   refine not_ti ?_
   rw [Bool.not_false]
   refine cndT ?_
   have hB1 : Blk w.drew B cs t := hB
   refine nadd (by omega) ?_
   refine sl_from (l := i + 1) (by omega) (by omega) (by omega) ?_
   refine sl_from (l := i) (by omega) (by omega) (by omega) ?_
   have e1 : (n + 1 - (i + 1)) = n - i := by omega
   have hmin : min (n + 1 - i) (n + 1 - (i + 1)) = n - i := by omega
   have hX : ((cs.drop (p + i * 15)).take ((n + 1 - i) * 15)).take ((n - i) * 15) = (cs.drop (p + i * 15)).take ((n - i) * 15) := take_cells (Nat.mul_le_mul_right _ (by omega))
   have hXl : ((cs.drop (p + i * 15)).take ((n - i) * 15)).length = (n - i) * 15 := by rw [List.length_take, List.length_drop]; omega
   refine copy_j (i := ti) und_decls hti hB1 (by rw [hts]; exact hrdS (l := i) (h := n + 1) (by omega) (by omega) hB1 _) (by rw [hmin, hts, hX]; exact h3) (by rw [hts]; omega) fun w1 e hb1 hs1 => ?_
   rw [hmin, hts, hX] at hb1
   refine sl_from (l := i) (by omega) (by omega) (by omega) ?_
   have hx1 : RdSl w1 (.slice (some ⟨A, o, none⟩) 1 c2') 15 ys 1 := (hx.keep (Ext.drew [B] w) (by simp [slB]; omega)).keep e (by simp [slB]; omega)
   have hmin2 : min 1 (n + 1 - i) * 15 = 15 := by omega
   refine copy_i (i := ti) und_decls hti hb1 (by rw [hts]; exact hx1) h1 (by rw [hts, lspl_len _ _ _ (by omega)]; omega) fun w2 e2 hb2 hs2 => ?_
   rw [hts, hmin2, List.take_of_length_le (show ys.length ≤ 15 by omega), show p + (i + 1) * 15 = p + i * 15 + ys.length by omega, lspl_two2 _ _ _ _ (by omega)] at hb2
   exact hin (by omega) w2 (((Ext.drew [B] w).step e (fun x hx _ => hx)).step e2 (fun x hx _ => hx)) hb2 (hs2.trans hs1)
theorem clear_i {w : World} {K : VPost} {B o c : Nat} {cs : List Value} {t ty : TypeId} (hB : Blk w B cs t) (hle : o + 15 ≤ cs.length) (h : ∀ w', Ext [B] w w' -> Blk w' B (lspl cs o zD) t -> w'.heap.size = w.heap.size -> K (.tuple #[]) w') : insW Tryz.prog (Builtin.clear_ #[42] ty #[.slice (some ⟨B, o, none⟩) 1 c]) w K := by
 obtain ⟨ti, hti, htz, hts, htb⟩ := tyI_spec ty_decl
 have hzr : ∀ w, (zeroValue 28).run Tryz.prog w = .ok (.agg zD.toArray) w := fun w => by
  unfold zeroValue; simp only [Sem.run_bind, run_info hti, Result.andThen_ok, htz, Sem.run_pure]
 have hst := run_storeCells_at Tryz.prog B o t zD 0 cs.toArray w hB (by show o + 0 + 15 ≤ _; simpa using hle) (by decide)
 rw [Nat.add_zero, setRow_setB hB] at hst
 refine insW_ok (v := .tuple #[]) (w' := setB w B (.cells (lspl cs o zD).toArray t)) ?_ (h _ (ext_setB w B _) ?_ (by simp [setB]))
 ·unfold Builtin.clear_
  simp only [List.getElem?_toArray, List.getElem?_cons_zero, Sem.run_bind, run_und und_decls, Result.andThen_ok, hzr]
  have e : (Builtin.zeroCells (Value.agg zD.toArray).cells 1).toList = zD := by kernel_rfl
  rw [e, hst]
  rfl
 ·unfold Blk
  show (w.heap.setIfInBounds B _)[B]? = _
  rw [Array.getElem?_setIfInBounds]
  have : B < w.heap.size := hB.lt
  simp only [if_true, this]
theorem delete_w {w : World} {K : VPost} {B p n c i : Nat} {cs : List Value} {t : TypeId} (hB : Blk w B cs t) (hfit : p + c * 15 ≤ cs.length) (hnc : n ≤ c) (hi : i < n) (hcl : n ≤ 1000000) (hY1 : ∀ y ∈ (cs.drop (p + (i + 1) * 15)).take ((n - (i + 1)) * 15), y.oneCell' = true)
  (hK : ∀ w', Ext [B] w w' -> Blk w' B (lspl (lspl cs (p + i * 15) ((cs.drop (p + (i + 1) * 15)).take ((n - (i + 1)) * 15))) (p + (n - 1) * 15) zD) t -> w'.heap.size = w.heap.size -> K (.slice (some ⟨B, p, none⟩) (n - 1) c) w') :
  fnW Tryz.prog 64 #[.slice (some ⟨B, p, none⟩) n c, .int .i64 i, .int .i64 (i + 1 : Nat)] w K := by
 obtain ⟨ti, hti, htz, hts, htb⟩ := tyI_spec ty_decl
 refine fnW_of (by kernel_rfl) (c64_calls _ _ _ w K ?_)
 unfold c64
 rw [len_s]
 refine ⟨by simp, i, i + 1, n, rfl, rfl, rfl, by omega, fun _ => by omega, hnc, ?_⟩
 refine neql (y := i + 1) ?_
 rw [decide_eq_false (by omega)]
 refine cndF ?_
 rw [len_s]
 have hB1 : Blk w.drew B cs t := hB
 refine sl_none (h := i) (by omega) ?_
 have hsub : (n - (i + 1)) * 15 = n * 15 - (i + 1) * 15 := Nat.sub_mul _ _ _
 have hmi : (i + 1) * 15 ≤ n * 15 := Nat.mul_le_mul_right _ hi
 have hmn : n * 15 ≤ c * 15 := Nat.mul_le_mul_right _ hnc
 have hYl : ((cs.drop (p + (i + 1) * 15)).take ((n - (i + 1)) * 15)).length = (n - (i + 1)) * 15 := by rw [List.length_take, List.length_drop]; omega
 -- what stands behind
 have cut : ∀ {F : VPost}, (∀ a c', RdSl w.drew (.slice a (n - (i + 1)) c') ti.size ((cs.drop (p + (i + 1) * 15)).take ((n - (i + 1)) * 15)) (n - (i + 1)) -> F (.slice a (n - (i + 1)) c') w.drew) -> sliceW (.sl 15) (.slice (some ⟨B, p, none⟩) n c) (some (.int .i64 (i + 1 : Nat))) none none w.drew F := by
  intro F hF
  refine cut_ok (l := i + 1) (h := n) rfl rfl (by omega) hnc ?_
  rw [hts] at hF
  by_cases hc : c = i + 1
  ·rw [if_pos hc]
   have hn : n = i + 1 := by omega
   refine hF _ _ ⟨hYl, .inl ⟨?_, _, _, by rw [hn, Nat.sub_self]⟩⟩
   rw [hn, Nat.sub_self, Nat.zero_mul, List.take_zero]
  ·rw [if_neg hc]
   simp only [Option.map_some, add_addr]
   exact hF _ _ ⟨hYl, .inr ⟨B, p + (i + 1) * 15, c - (i + 1), cs, rfl, hB1.r, rfl, by omega⟩⟩
 refine cut fun a c' hx => ?_
 have hr := run_append_in (ty := 42) (base := some ⟨B, p, none⟩) (n := i) (cap := c) und_decls und_decls hti hx (by omega)
 have hlen : p + i * ti.size + ((cs.drop (p + (i + 1) * 15)).take ((n - (i + 1)) * 15)).length ≤ cs.length := by rw [hts, hYl]; omega
 have hst := run_storeCells_at Tryz.prog B (p + i * ti.size) t _ 0 cs.toArray w.drew hB1 (by simpa using hlen) hY1
 simp only [add_addr] at hr
 simp only [hst, Result.andThen_ok, setRow_setB hB1, Nat.add_zero] at hr
 rw [hts] at hr hlen
 refine insW_ok hr ?_
 have hle := lspl_len cs ((cs.drop (p + (i + 1) * 15)).take ((n - (i + 1)) * 15)) (p + i * 15) (by omega)
 have key : ∀ W : World, Ext [B] w.drew W -> Blk W B (lspl cs (p + i * 15) ((cs.drop (p + (i + 1) * 15)).take ((n - (i + 1)) * 15))) t -> W.heap.size = w.heap.size →
   sliceW (.sl 15) (.slice (some ⟨B, p, none⟩) (n - 1) c) (some (.int .i64 (n - 1 : Nat))) (some (.int .i64 n)) none W fun t31 w15 => insW Tryz.prog (Builtin.clear_ #[42] 0 #[t31]) w15 fun _ w19 => K (.slice (some ⟨B, p, none⟩) (n - 1) c) w19 := by
  intro W e hb hs
  refine cut_ok (l := n - 1) (h := n) rfl rfl (by omega) hnc ?_
  rw [if_neg (by omega)]
  simp only [Option.map_some, add_addr]
  rw [show n - (n - 1) = 1 by omega]
  refine clear_i hb (by rw [hle]; omega) fun w2 e2 hb2 hs2 => ?_
  exact hK w2 (((Ext.drew [B] w).step e (fun x hx _ => hx)).step e2 (fun x hx _ => hx)) hb2 (hs2.trans hs)
 rw [show i + (n - (i + 1)) = n - 1 by omega, len_s]
 refine key _ (ext_setB w.drew B _) ?_ (by simp [setB])
 unfold Blk
 show (w.drew.heap.setIfInBounds B _)[B]? = _
 rw [Array.getElem?_setIfInBounds]
 have : B < w.drew.heap.size := hB1.lt
 simp only [if_true, this]
 rfl
theorem dcs_take (ds : List DV) (i : Nat) : (dcs ds).take (i * 15) = dcs (ds.take i) := by
 induction ds generalizing i with
 | nil => simp [dcs]
 | cons d r ih =>
  cases i with
  | zero => simp [dcs]
  | succ i =>
   have e : dcs (d :: r) = d.cells ++ dcs r := by simp [dcs]
   have e2 : dcs ((d :: r).take (i + 1)) = d.cells ++ dcs (r.take i) := by simp [dcs]
   rw [e, e2, show (i + 1) * 15 = d.cells.length + i * 15 by rw [DV.cells_len]; omega, List.take_append, Nat.add_sub_cancel_left, ih, List.take_of_length_le (by omega)]
theorem dcs_drop (ds : List DV) (i : Nat) : (dcs ds).drop (i * 15) = dcs (ds.drop i) := by
 induction ds generalizing i with
 | nil => simp [dcs]
 | cons d r ih =>
  cases i with
  | zero => simp [dcs]
  | succ i =>
   have e : dcs (d :: r) = d.cells ++ dcs r := by simp [dcs]
   have e2 : dcs ((d :: r).drop (i + 1)) = dcs (r.drop i) := by simp [dcs]
   rw [e, e2, show (i + 1) * 15 = d.cells.length + i * 15 by rw [DV.cells_len]; omega, List.drop_append, Nat.add_sub_cancel_left, ih, List.drop_of_length_le (by omega), List.nil_append]
theorem dcs_len (ds : List DV) : (dcs ds).length = ds.length * 15 := flat_len DV.cells 15 ds fun d _ => d.cells_len
theorem dcs_one {w : World} {ds : List DV} (h : ∀ d ∈ ds, d.ok w) : ∀ y ∈ dcs ds, y.oneCell' = true := fun y hy => by
 obtain ⟨d, hd, hy⟩ := List.mem_flatMap.1 hy
 exact DV.one (h d hd) y hy
section
variable {S : List Nat} {w0 w : World} {L R : List Res} {K : VPost}
theorem Sep.delD {v : Value} {ds : List DV} {j : Nat} (s : Sep S w0 w L R) (i : Nat) (hL : L[i]? = some (rOD v ds)) (hds : ∀ d ∈ ds, d.ok w) (hn : ds.length ≤ 1000000) (hj : j < ds.length)
  (h : ∀ v' w', Sep S w0 w' (L.set i (rOD v' (ds.take j ++ ds.drop (j + 1)))) R -> K v' w') : fnW Tryz.prog 64 #[v, .int .i64 j, .int .i64 (j + 1 : Nat)] w K := by
 rcases s.at i hL with ⟨_, h0, _⟩ | ⟨B, p, c, cs, rfl, hB, hl, ht, hc, hnc⟩
 ·omega
 ·have hj15 : (j + 1) * 15 ≤ ds.length * 15 := Nat.mul_le_mul_right _ hj
  have hlm : (ds.length - 1) * 15 + 15 = ds.length * 15 := by omega
  have hY : (cs.drop (p + (j + 1) * 15)).take ((ds.length - (j + 1)) * 15) = dcs (ds.drop (j + 1)) := by
   rw [← dcs_drop, ← ht, drop_cells, Nat.sub_mul]
  have hc15 : ds.length * 15 ≤ c * 15 := Nat.mul_le_mul_right _ hnc
  refine delete_w hB hc hnc hj hn (by rw [hY]; exact dcs_one fun a ha => hds a (List.mem_of_mem_drop ha)) fun w' e hb hs => h _ w' (s.upd (T := rOD (.slice (some ⟨B, p, none⟩) ds.length c) ds) i hL (T' := rOD (.slice (some ⟨B, p, none⟩) (ds.length - 1) c) (ds.take j ++ ds.drop (j + 1))) ?_ e (fun b hb => .inl hb))
  have hlen : (ds.take j ++ ds.drop (j + 1)).length = ds.length - 1 := by simp; omega
  have hYl : (dcs (ds.drop (j + 1))).length = (ds.length - (j + 1)) * 15 := by rw [dcs_len, List.length_drop]
  rw [hY] at hb
  refine .inr ⟨B, p, c, _, by rw [hlen], hb, by rw [dcs_len], ?_, ?_, by rw [hlen]; omega⟩
  ·rw [hlen]
   have e1 : dcs (ds.take j ++ ds.drop (j + 1)) = dcs (ds.take j) ++ dcs (ds.drop (j + 1)) := by simp [dcs]
   rw [e1, ← dcs_take, ← ht]
   have hl1 : (lspl cs (p + j * 15) (dcs (ds.drop (j + 1)))).length = cs.length := lspl_len _ _ _ (by omega)
   generalize dcs (ds.drop (j + 1)) = Y at *
   apply List.ext_getElem?
   intro q
   rw [List.getElem?_take, List.getElem?_drop, lspl_at _ _ _ _ (by rw [hl1]; show _ + 15 ≤ _; omega), lspl_at _ _ _ _ (by omega), List.getElem?_append, take_cells (by omega), List.length_take, List.length_drop, List.getElem?_take, List.getElem?_drop]
   by_cases h1 : q < (ds.length - 1) * 15
   ·rw [if_pos h1, if_pos (by omega)]
    by_cases h2 : q < j * 15
    ·rw [if_pos (by omega), if_pos (by omega), if_pos (by omega)]
    ·rw [if_neg (by omega), if_pos (by omega), if_neg (by omega)]
     congr 1; omega
   ·rw [if_neg h1, if_neg (by omega), List.getElem?_eq_none (by omega)]
  ·rw [lspl_len _ _ _ (by rw [lspl_len _ _ _ (by omega)]; show _ + 15 ≤ _; omega), lspl_len _ _ _ (by omega)]
   exact hc
theorem Sep.insD {v x : Value} {ds : List DV} {d : DV} {j : Nat} (s : Sep S w0 w L R) (i k : Nat) (hik : i ≠ k) (hL : L[i]? = some (rOD v ds)) (hX : L[k]? = some (rOD x [d])) (hds : ∀ a ∈ ds, a.ok w) (hd : d.ok w) (hn : ds.length ≤ 1000000) (hj : j ≤ ds.length)
  (h : ∀ v' w', Sep S w0 w' (L.set i (rOD v' (ds.take j ++ d :: ds.drop j))) R -> K v' w') : fnW Tryz.prog 63 #[v, .int .i64 j, x] w K := by
 have hxo : OwnAt w x 28 15 (dcs [d]) 1 := s.at k hX
 rcases hxo with ⟨_, h0, _⟩ | ⟨A, o, c2, as2, rfl, hA, hl2, ht2, hc2, hn2⟩
 ·omega
 have hy1 : ∀ y ∈ dcs [d], y.oneCell' = true := dcs_one fun a ha => by rw [List.mem_singleton] at ha; subst ha; exact hd
 have hxr : RdSl w (.slice (some ⟨A, o, none⟩) 1 c2) 15 (dcs [d]) 1 := OwnAt.rd (s.at k hX)
 have hlen : (ds.take j ++ d :: ds.drop j).length = ds.length + 1 := by simp; omega
 have hcells : dcs (ds.take j ++ d :: ds.drop j) = dcs (ds.take j) ++ dcs [d] ++ dcs (ds.drop j) := by simp [dcs]
 have hdl : (dcs [d]).length = 15 := dcs_len _
 rcases s.at i hL with ⟨rfl, h0, hxs⟩ | ⟨B, p, c, cs, rfl, hB, hl, ht, hc, hnc⟩
 ·obtain rfl : ds = [] := List.length_eq_zero_iff.1 h0
  obtain rfl : j = 0 := by simpa using hj
  refine fnW_of (by kernel_rfl) (c63_calls _ _ _ w K ?_)
  unfold c63
  refine sl_any (l := 0) (Nat.le_refl _) (Nat.le_refl _) ?_
  rw [len_s]
  refine neql (x := 1) (y := 0) ?_
  rw [decide_eq_false (by decide)]
  refine cndF ?_
  rw [len_s]
  refine neql (x := 0) (y := 0) ?_
  rw [decide_eq_true rfl]
  refine cndT ?_
  exact s.apD (v := .slice none 0 0) (ts := []) (us := [d]) i hL hxr (fun a ha => by rw [List.mem_singleton] at ha; subst ha; exact hd) (by simp) fun v' w' s => h v' w' s
 ·have hone := dcs_one hds
  rw [← ht] at hone
  have hne : A ≠ B := by
   intro e
   have hp := List.pairwise_iff_getElem.1 s.dis
   obtain ⟨hi, hLi⟩ := List.getElem?_eq_some_iff.1 hL
   obtain ⟨hk, hLk⟩ := List.getElem?_eq_some_iff.1 hX
   rcases Nat.lt_or_gt_of_ne hik with hlt | hlt
   ·have := hp i k hi hk hlt
    rw [hLi, hLk] at this
    exact this B (by simp [rO, slB]) (by simp [rO, slB, e])
   ·have := hp k i hk hi hlt
    rw [hLi, hLk] at this
    exact this A (by simp [rO, slB]) (by simp [rO, slB, e])
  have hj15 : j * 15 ≤ ds.length * 15 := Nat.mul_le_mul_right _ hj
  have hX1 : (cs.drop p).take (j * 15) = dcs (ds.take j) := by rw [← dcs_take, ← ht, take_cells hj15]
  have hX2 : (cs.drop (p + j * 15)).take ((ds.length - j) * 15) = dcs (ds.drop j) := by rw [← dcs_drop, ← ht, drop_cells, Nat.sub_mul]
  have hc15 : ds.length * 15 ≤ c * 15 := Nat.mul_le_mul_right _ hnc
  have hl1 : (dcs (ds.take j)).length = j * 15 := by rw [dcs_len, List.length_take, Nat.min_eq_left hj]
  have hl3 : (dcs (ds.drop j)).length = (ds.length - j) * 15 := by rw [dcs_len, List.length_drop]
  have hsub : (ds.length - j) * 15 = ds.length * 15 - j * 15 := Nat.sub_mul _ _ _
  refine insert_w hB hc hnc hj hn hA hxr hne hy1 (by rw [hX2]; exact dcs_one fun a ha => hds a (List.mem_of_mem_drop ha)) (fun hcap w' e hb hs => ?_) (fun hcap c3 w' zs hc3 e hb hz hs => ?_)
  ·rw [hX2] at hb
   have hcap15 : (ds.length + 1) * 15 ≤ c * 15 := Nat.mul_le_mul_right _ hcap
   have hyl : (dcs [d] ++ dcs (ds.drop j)).length = 15 + (ds.length - j) * 15 := by rw [List.length_append, hdl, hl3]
   refine h _ w' (s.upd (T := rOD (.slice (some ⟨B, p, none⟩) ds.length c) ds) i hL (T' := rOD (.slice (some ⟨B, p, none⟩) (ds.length + 1) c) (ds.take j ++ d :: ds.drop j)) ?_ e (fun b hb => .inl hb))
   refine .inr ⟨B, p, c, _, by rw [hlen], hb, by rw [dcs_len], ?_, ?_, by rw [hlen]; omega⟩
   ·rw [hlen, hcells, List.append_assoc, ← hX1]
    generalize dcs [d] ++ dcs (ds.drop j) = Y at *
    apply List.ext_getElem?
    intro q
    rw [List.getElem?_take, List.getElem?_drop, lspl_at _ _ _ _ (by omega), List.getElem?_append, List.length_take, List.length_drop, List.getElem?_take, List.getElem?_drop]
    by_cases h1 : q < (ds.length + 1) * 15
    ·rw [if_pos h1]
     by_cases h2 : q < j * 15
     ·rw [if_pos (by omega), if_pos (by omega), if_pos (by omega)]
     ·rw [if_neg (by omega), if_pos (by omega), if_neg (by omega)]
      congr 1; omega
    ·rw [if_neg h1, if_neg (by omega), List.getElem?_eq_none (by omega)]
   ·rw [lspl_len _ _ _ (by omega)]; exact hc
  ·rw [hX1, hX2] at hb
   refine h _ w' (s.upd (T := rOD (.slice (some ⟨B, p, none⟩) ds.length c) ds) i hL (T' := rOD (.slice (some ⟨w.heap.size, 0, none⟩) (ds.length + 1) c3) (ds.take j ++ d :: ds.drop j)) ?_ (e.mono (by simp)) (fun b hb => .inr (by simp [rO, slB] at hb; omega)))
   have htot : (dcs (ds.take j) ++ dcs [d] ++ dcs (ds.drop j)).length = (ds.length + 1) * 15 := by simp only [List.length_append, hl1, hdl, hl3]; omega
   refine .inr ⟨w.heap.size, 0, c3, _, by rw [hlen], hb, by rw [dcs_len], ?_, ?_, by rw [hlen]; omega⟩
   ·rw [hlen, hcells, List.drop_zero, ← htot, List.take_left]
   ·rw [List.length_append, htot, hz]
    have := Nat.mul_le_mul_right 15 hc3
    rw [Nat.sub_mul]
    omega
end
end Go.Proofs.YtcihccmkionliaaGreatDoor
