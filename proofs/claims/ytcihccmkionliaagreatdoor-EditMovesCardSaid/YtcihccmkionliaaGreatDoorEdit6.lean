/- Texts that the law EditMoves stands on, part 7 of 7. Conditions: see each. -/
import Derived.Test.YtcihccmkionliaaGreatDoorEdit5

namespace Go.Proofs.YtcihccmkionliaaGreatDoor
open Go
set_option maxRecDepth 100000
noncomputable def nInt (x : XV) (f : Int -> Nat) : Nat :=
 XV.rec (motive_1 := fun _ => Nat) (motive_2 := fun _ => Nat) 0 (fun _ => 0) (fun k n => Bool.rec 0 (f n) (eqK k .i64)) (fun _ => 0) 0 (fun _ _ => 0) 0 (fun _ _ _ _ _ => 0) 0 (fun _ => 0) 0 (fun _ _ _ _ _ => 0) 0 (fun _ _ _ => 0) (fun _ _ => 0) (fun _ _ => 0) (fun _ => 0) 0 (fun _ _ _ _ => 0) x
noncomputable def nStr (x : XV) (f : List Nat -> Nat) : Nat :=
 XV.rec (motive_1 := fun _ => Nat) (motive_2 := fun _ => Nat) 0 (fun _ => 0) (fun _ _ => 0) f 0 (fun _ _ => 0) 0 (fun _ _ _ _ _ => 0) 0 (fun _ => 0) 0 (fun _ _ _ _ _ => 0) 0 (fun _ _ _ => 0) (fun _ _ => 0) (fun _ _ => 0) (fun _ => 0) 0 (fun _ _ _ _ => 0) x
noncomputable def nSl (x : XV) (a : Nat) (f : Nat -> Nat -> Nat -> Nat -> Nat) : Nat :=
 XV.rec (motive_1 := fun _ => Nat) (motive_2 := fun _ => Nat) 0 (fun _ => 0) (fun _ _ => 0) (fun _ => 0) 0 (fun _ _ => 0) a (fun b o l _ z => f b o l z) 0 (fun _ => 0) 0 (fun _ _ _ _ _ => 0) 0 (fun _ _ _ => 0) (fun _ _ => 0) (fun _ _ => 0) (fun _ => 0) 0 (fun _ _ _ _ => 0) x
noncomputable def nAgg (x : XV) (f : List XV -> Nat) : Nat :=
 XV.rec (motive_1 := fun _ => Nat) (motive_2 := fun _ => Nat) 0 (fun _ => 0) (fun _ _ => 0) (fun _ => 0) 0 (fun _ _ => 0) 0 (fun _ _ _ _ _ => 0) 0 (fun _ => 0) 0 (fun _ _ _ _ _ => 0) 0 (fun _ _ _ => 0) (fun l _ => f l) (fun _ _ => 0) (fun _ => 0) 0 (fun _ _ _ _ => 0) x
noncomputable def nB (s : XS) (b : Nat) (f : AB -> Nat) : Nat :=
 Option.rec (motive := fun _ => Nat) 0 (fun o => AO.rec (motive := fun _ => Nat) f (fun _ _ => 0) (fun _ _ _ _ _ _ => 0) o) (getK s.heap b)
noncomputable def nC {α : Type} (l : List α) (f : α -> List α -> Nat) : Nat := List.rec 0 (fun a r _ => f a r) l
noncomputable def nNat (n : Int) (f : Nat -> Nat) : Nat := Int.rec f (fun _ => 0) n
noncomputable def nE {α : Type} (l : List α) (r : Nat) : Nat := List.rec r (fun _ _ _ => 0) l
noncomputable abbrev nG (c : Bool) (r : Nat) : Nat := Bool.rec 0 r c
noncomputable def nS (a : Nat) (f : Nat -> Nat) : Nat := Nat.rec 0 (fun n _ => f n) a
theorem nInt_no {x : XV} {f : Int -> Nat} (h : nInt x f ≠ 0) : ∃ n, x = .int .i64 n ∧ nInt x f = f n := by
 cases x with
 | int k n =>
  have e : nInt (.int k n) f = Bool.rec 0 (f n) (eqK k .i64) := rfl
  rw [e] at h ⊢
  cases hk : eqK k .i64 with
  | true => rw [eqK_t hk]; exact ⟨n, rfl, rfl⟩
  | false => rw [hk] at h; exact absurd rfl h
 | _ => exact absurd rfl h
theorem nStr_no {x : XV} {f : List Nat -> Nat} (h : nStr x f ≠ 0) : ∃ n, x = .str n ∧ nStr x f = f n := by
 cases x <;> first
  | exact ⟨_, rfl, rfl⟩
  | exact absurd rfl h
theorem nSl_no {x : XV} {a : Nat} {f : Nat -> Nat -> Nat -> Nat -> Nat} (h : nSl x a f ≠ 0) : (x = .nils ∧ nSl x a f = a) ∨ ∃ b o l c z, x = .sl b o l c z ∧ nSl x a f = f b o l z := by
 cases x <;> first
  | exact .inl ⟨rfl, rfl⟩
  | exact .inr ⟨_, _, _, _, _, rfl, rfl⟩
  | exact absurd rfl h
theorem nAgg_no {x : XV} {f : List XV -> Nat} (h : nAgg x f ≠ 0) : ∃ l, x = .agg l ∧ nAgg x f = f l := by
 cases x <;> first
  | exact ⟨_, rfl, rfl⟩
  | exact absurd rfl h
theorem nB_no {s : XS} {b : Nat} {f : AB -> Nat} (h : nB s b f ≠ 0) : ∃ B, getK s.heap b = some (.blk B) ∧ nB s b f = f B := by
 unfold nB at h ⊢
 cases hg : getK s.heap b with
 | none => rw [hg] at h; exact absurd rfl h
 | some o =>
  rw [hg] at h
  cases o with
  | blk B => exact ⟨B, rfl, rfl⟩
  | map es c => exact absurd rfl h
  | lp => exact absurd rfl h
theorem nC_no {α : Type} {l : List α} {f : α -> List α -> Nat} (h : nC l f ≠ 0) : ∃ a r, l = a :: r ∧ nC l f = f a r := by
 cases l with
 | nil => exact absurd rfl h
 | cons a r => exact ⟨a, r, rfl, rfl⟩
theorem nNat_no {n : Int} {f : Nat -> Nat} (h : nNat n f ≠ 0) : ∃ m : Nat, n = m ∧ nNat n f = f m := by
 cases n with
 | ofNat m => exact ⟨m, rfl, rfl⟩
 | negSucc m => exact absurd rfl h
theorem nE_no {α : Type} {l : List α} {r : Nat} (h : nE l r ≠ 0) : l = [] ∧ nE l r = r := by
 cases l with
 | nil => exact ⟨rfl, rfl⟩
 | cons => exact absurd rfl h
theorem nG_no {c : Bool} {r : Nat} (h : nG c r ≠ 0) : c = true ∧ nG c r = r := by
 cases c with
 | true => exact ⟨rfl, rfl⟩
 | false => exact absurd rfl h
theorem nS_no {a : Nat} {f : Nat -> Nat} (h : nS a f ≠ 0) : ∃ n, a = n + 1 ∧ nS a f = f n := by
 cases a with
 | zero => exact absurd rfl h
 | succ n => exact ⟨n, rfl, rfl⟩
noncomputable def plN (i p m : Nat) (x : Int) : Bool := Int.rec (fun n => andB (Nat.ble n m) (Nat.ble (Nat.succ i) p)) (fun j => Nat.beq j 0) x
noncomputable def lvN (t : Tr XV) (p o : Nat) : Nat :=
 nInt (cellX t o) fun b => nNat b fun m => nG (Nat.ble m 100) <| nInt (cellX t (Nat.add o 1)) fun a => nG (plN 0 p m a) <| nInt (cellX t (Nat.add o 2)) fun a => nG (plN 1 p m a) <| nInt (cellX t (Nat.add o 3)) fun a => nG (plN 2 p m a) <| nInt (cellX t (Nat.add o 4)) fun a => nG (plN 3 p m a) 1
noncomputable def lvsN (t : Tr XV) (p n : Nat) : Nat -> Nat := Nat.rec (motive := fun _ => Nat -> Nat) (fun _ => 1) (fun _ ih o => nS (lvN t p o) fun _ => ih (Nat.add o 5)) n
noncomputable def levN' (s : XS) (p : Nat) (l : XV) : Nat := nSl l 1 fun b o n z => nG (Nat.beq z 5) <| nB s b fun B => nG (Nat.ble (Nat.add o (Nat.mul n 5)) B.size) <| nS (lvsN B.cs p n o) fun _ => Nat.succ n
noncomputable def ltN (c : Nat) : Bool := Bool.rec (andB (Nat.ble 65 c) (Nat.ble c 90)) true (andB (Nat.ble 97 c) (Nat.ble c 122))
noncomputable def dgN (c : Nat) : Bool := Bool.rec (Nat.beq c 95) true (andB (Nat.ble 48 c) (Nat.ble c 57))
noncomputable def scN (l : List Nat) : Bool -> Bool :=
 List.rec (motive := fun _ => Bool -> Bool) (fun b => Bool.rec true false b) (fun c _ ih b => Bool.rec (Bool.rec (Bool.rec (Bool.rec false (ih false) (dgN c)) (ih true) (Nat.beq c 46)) false b) (ih false) (ltN c)) l
noncomputable def anyNL (l : List Nat) (ws : List (List Nat)) : Bool := List.rec false (fun w _ ih => Bool.rec ih true (eqNL w l)) ws
abbrev resN : List (List Nat) := [[80, 114, 111, 112], [84, 121, 112, 101], [102, 117, 110], [97, 108, 108], [108, 101, 116], [105, 110], [111, 102], [119, 105, 116, 104], [97, 120, 105, 111, 109], [100, 101, 102], [116, 104, 101, 111, 114, 101, 109], [102, 97, 109, 105, 108, 121], [117, 48], [117, 49], [117, 50], [117, 51]]
noncomputable def wdN (l : List Nat) : Bool := andB (Nat.blt 0 (lenN l)) (andB (Nat.ble (lenN l) 32) (andB (scN l true) (Bool.rec true false (anyNL l resN))))
noncomputable def kidsN (ih : List XV -> Nat -> Nat -> Nat) (t : Tr XV) (fs : List Nat) (v d : Nat) : Nat -> Nat :=
 List.rec (motive := fun _ => Nat -> Nat) (fun _ => 1) (fun f _ r o => nS (ih (cellsX t 5 o) (Nat.add v f) (Nat.add d f)) fun a => nS (r (Nat.add o 5)) fun b => Nat.add (Nat.add a b) 2) fs
noncomputable def argN (ih : List XV -> Nat -> Nat -> Nat) (s : XS) (a : XV) (fs : List Nat) (v d : Nat) : Nat :=
 nSl a (Nat.rec 1 (fun _ _ => 0) (lenN fs)) fun b o n z => nG (Nat.beq z 5) <| nG (Nat.beq n (lenN fs)) <| nB s b fun B => nG (Nat.ble (Nat.add o (Nat.mul n 5)) B.size) <| kidsN ih B.cs fs v d o
noncomputable def emp (l : List Nat) : Bool := List.rec true (fun _ _ _ => false) l
noncomputable def kdN (k n nl v : Nat) (nm : List Nat) (f : List Nat -> Nat) : Nat :=
 Bool.rec (Bool.rec (Bool.rec (Bool.rec (Bool.rec (Bool.rec (Bool.rec (Bool.rec (Bool.rec 0
  (nG (Nat.ble n 31) <| nG (Nat.beq nl 0) <| nG (wdN nm) (f [0])) (Nat.beq k 9))
  (nG (Nat.beq n 0) <| nG (Nat.beq nl 1) <| nG (emp nm) (f [])) (Nat.beq k 3))
  (nG (Nat.beq n 0) <| nG (Nat.beq nl 0) <| nG (emp nm) (f [])) (Nat.beq k 2))
  (nG (Nat.beq n 0) <| nG (Nat.beq nl 0) <| nG (emp nm) (f [0, 0, 1])) (Nat.beq k 8))
  (nG (Nat.beq n 0) <| nG (Nat.beq nl 0) <| nG (emp nm) (f [0, 1])) (Nat.beq k 6))
  (nG (Nat.beq n 0) <| nG (Nat.beq nl 0) <| nG (emp nm) (f [0, 1])) (Nat.beq k 7))
  (nG (Nat.beq n 0) <| nG (Nat.ble nl 4) <| nG (wdN nm) (f [])) (Nat.beq k 4))
  (nG (Nat.blt n v) <| nG (Nat.beq nl 0) <| nG (emp nm) (f [])) (Nat.beq k 1))
  (nG (Nat.beq n 0) <| nG (Nat.beq nl 0) <| nG (emp nm) (f [0, 0])) (Nat.beq k 5)
noncomputable def rgtN (s : XS) (p : Nat) (fuel : Nat) : List XV -> Nat -> Nat -> Nat :=
 Nat.rec (motive := fun _ => List XV -> Nat -> Nat -> Nat) (fun _ _ _ => 0) (fun _ ih cs v d => nC cs fun k cs => nC cs fun n cs => nC cs fun nm cs => nC cs fun l cs => nC cs fun a cs => nE cs <|
  nInt k fun k => nNat k fun k => nInt n fun n => nNat n fun n => nStr nm fun nm => nG (Nat.ble d 200) <| nG (Nat.ble n 2199023255552) <| nS (levN' s p l) fun nl => kdN k n nl v nm fun fs => nS (argN ih s a fs v d) fun m => Nat.succ (Nat.add nl m)) fuel
theorem take5 {l : List Value} {k : Nat} {a b c d e : Value} (h0 : l[k]? = some a) (h1 : l[k + 1]? = some b) (h2 : l[k + 2]? = some c) (h3 : l[k + 3]? = some d) (h4 : l[k + 4]? = some e) : (l.drop k).take 5 = [a, b, c, d, e] := by
 apply List.ext_getElem?
 intro i
 rw [List.getElem?_take, List.getElem?_drop]
 match i with
 | 0 => simpa using h0
 | 1 => simpa using h1
 | 2 => simpa using h2
 | 3 => simpa using h3
 | 4 => simpa using h4
 | i + 5 => rw [if_neg (by omega)]; simp
theorem plN_ok {i p m : Nat} {x : Int} (h : plN i p m x = true) : (-1 ≤ x ∧ x ≤ m) ∧ (x > -1 -> ((i + 1 : Nat) : Int) ≤ p) := by
 cases x with
 | ofNat n =>
  obtain ⟨h1, h2⟩ := andB_t (show andB (Nat.ble n m) (Nat.ble (Nat.succ i) p) = true from h)
  have h1 := Nat.le_of_ble_eq_true h1
  have h2 := Nat.le_of_ble_eq_true h2
  refine ⟨⟨?_, ?_⟩, fun _ => ?_⟩
  ·show (-1 : Int) ≤ (n : Int); omega
  ·show (n : Int) ≤ m; omega
  ·exact Int.ofNat_le.2 h2
 | negSucc j =>
  have : j = 0 := Nat.eq_of_beq_eq_true (show Nat.beq j 0 = true from h)
  subst this
  refine ⟨⟨by decide, ?_⟩, fun h => absurd h (by decide)⟩
  show (-1 : Int) ≤ m; omega
section
variable {α : Al} {B : AB} {base : Nat} {cs : Array Value}
theorem cell_int (hR : CellsR α B base cs) {o : Nat} (ho : o < B.size) {n : Int} (h : cellX B.cs o = .int .i64 n) : cs.toList[base + o]? = some (iv n) := by
 obtain ⟨v, h1, h2⟩ := cellX_R hR ho
 rw [h] at h2
 rw [Array.getElem?_toList, h1, h2.int_inv]
theorem lvN_ok (hR : CellsR α B base cs) {p o : Nat} (ho : o + 5 ≤ B.size) (h : lvN B.cs p o ≠ 0) : ∃ l : Lv, l.ok ∧ (cs.toList.drop (base + o)).take 5 = l.cells ∧ lvR l = true ∧ lvW l ≤ p := by
 unfold lvN at h
 obtain ⟨b, hb, e⟩ := nInt_no h; rw [e] at h; clear e
 obtain ⟨m, rfl, e⟩ := nNat_no h; rw [e] at h; clear e
 obtain ⟨hm, e⟩ := nG_no h; rw [e] at h; clear e
 obtain ⟨a0, h0, e⟩ := nInt_no h; rw [e] at h; clear e
 obtain ⟨k0, e⟩ := nG_no h; rw [e] at h; clear e
 obtain ⟨a1, h1, e⟩ := nInt_no h; rw [e] at h; clear e
 obtain ⟨k1, e⟩ := nG_no h; rw [e] at h; clear e
 obtain ⟨a2, h2, e⟩ := nInt_no h; rw [e] at h; clear e
 obtain ⟨k2, e⟩ := nG_no h; rw [e] at h; clear e
 obtain ⟨a3, h3, e⟩ := nInt_no h; rw [e] at h; clear e
 obtain ⟨k3, e⟩ := nG_no h; clear e h
 have hm := Nat.le_of_ble_eq_true hm
 have k0 := plN_ok k0
 have k1 := plN_ok k1
 have k2 := plN_ok k2
 have k3 := plN_ok k3
 refine ⟨⟨m, a0, a1, a2, a3⟩, ⟨?_, ?_, ?_, ?_, ?_⟩, take5 (cell_int hR (by omega) hb) ?_ ?_ ?_ ?_, ?_, ?_⟩
 ·show i64ok (m : Int); unfold i64ok; omega
 ·show i64ok a0; unfold i64ok; omega
 ·show i64ok a1; unfold i64ok; omega
 ·show i64ok a2; unfold i64ok; omega
 ·show i64ok a3; unfold i64ok; omega
 ·exact cell_int hR (o := o + 1) (by omega) h0
 ·exact cell_int hR (o := o + 2) (by omega) h1
 ·exact cell_int hR (o := o + 3) (by omega) h2
 ·exact cell_int hR (o := o + 4) (by omega) h3
 ·unfold lvR
  refine decide_eq_true ?_
  show (0 : Int) ≤ m ∧ (m : Int) ≤ 100 ∧ _
  exact ⟨by omega, by omega, k0.1, k1.1, k2.1, k3.1⟩
 ·unfold lvW
  show (if a3 > -1 then (4 : Int) else if a2 > -1 then 3 else if a1 > -1 then 2 else if a0 > -1 then 1 else 0) ≤ p
  split
  ·rename_i hx; exact k3.2 hx
  ·split
   ·rename_i hx; exact k2.2 hx
   ·split
    ·rename_i hx; exact k1.2 hx
    ·split
     ·rename_i hx; exact k0.2 hx
     ·omega
theorem take_step (l : List Value) (k n : Nat) : (l.drop k).take ((n + 1) * 5) = (l.drop k).take 5 ++ (l.drop (k + 5)).take (n * 5) := by
 rw [show (n + 1) * 5 = 5 + n * 5 by omega, List.take_add, List.drop_drop]
theorem lvsN_ok (hR : CellsR α B base cs) {p : Nat} : ∀ (n o : Nat), o + n * 5 ≤ B.size -> lvsN B.cs p n o ≠ 0 -> ∃ ls : List Lv, ls.length = n ∧ (∀ l ∈ ls, l.ok ∧ lvR l = true ∧ lvW l ≤ p) ∧ (cs.toList.drop (base + o)).take (n * 5) = lcs ls
 | 0, o, _, _ => ⟨[], rfl, by simp, by simp⟩
 | n + 1, o, ho, h => by
  obtain ⟨m, h1, e⟩ := nS_no (show nS (lvN B.cs p o) (fun _ => lvsN B.cs p n (Nat.add o 5)) ≠ 0 from h)
  have h2 : lvsN B.cs p n (o + 5) ≠ 0 := by
   have h : nS (lvN B.cs p o) (fun _ => lvsN B.cs p n (Nat.add o 5)) ≠ 0 := h
   rw [e] at h
   exact h
  obtain ⟨l, g1, g2, g3, g4⟩ := lvN_ok hR (p := p) (o := o) (by omega) (by rw [h1]; exact Nat.succ_ne_zero m)
  obtain ⟨ls, g5, g6, g7⟩ := lvsN_ok hR n (o + 5) (by omega) h2
  refine ⟨l :: ls, by rw [List.length_cons, g5], fun x hx => ?_, ?_⟩
  ·rcases List.mem_cons.1 hx with rfl | hx
   ·exact ⟨g1, g3, g4⟩
   ·exact g6 x hx
  ·rw [take_step, g2, show base + o + 5 = base + (o + 5) by omega, g7]
   rfl
end
theorem rdSl_x {w : World} {Bc base o n z : Nat} {cs : Array Value} {t : TypeId} {fz : Nat × Nat} {p c' c : Nat} (hC : w.heap[Bc]? = some (.cells cs t fz)) (hp : p = base + o ∨ (c' = 0 ∧ c = bigI)) (hl : n ≤ c') {ys : List Value} (hy : (cs.toList.drop (base + o)).take (n * z) = ys) (hlen : ys.length = n * z)
  (hle : base + o + n * z ≤ cs.size) : RdSl w (.slice (some ⟨Bc, p, none⟩) n c') z ys n ∧ capOk (.slice (some ⟨Bc, p, none⟩) n c') := by
 refine ⟨⟨hlen, ?_⟩, hl⟩
 rcases hp with hp | ⟨h0, _⟩
 ·subst hp
  exact .inr ⟨Bc, base + o, c', cs.toList, rfl, ⟨t, fz, by simpa using hC⟩, hy, by rw [Array.length_toList]; exact hle⟩
 ·have : n = 0 := by omega
  subst this
  refine .inl ⟨List.eq_nil_of_length_eq_zero (by omega), _, _, rfl⟩
theorem levN_ok {α : Al} {s : XS} {w : World} (ha : Abs α s w) {p : Nat} {l : XV} {lv : Value} (hv : VR α l lv) (h : levN' s p l ≠ 0) :
  ∃ ls : List Lv, levN' s p l = ls.length + 1 ∧ (∀ l ∈ ls, l.ok ∧ lvR l = true ∧ lvW l ≤ p) ∧ RdSl w lv 5 (lcs ls) ls.length ∧ capOk lv := by
 unfold levN' at h ⊢
 rcases nSl_no h with ⟨rfl, e⟩ | ⟨b, o, n, c, z, rfl, e⟩
 ·rw [e, hv.nils_inv]
  exact ⟨[], rfl, by simp, ⟨rfl, .inl ⟨rfl, _, _, rfl⟩⟩, rfl⟩
 ·rw [e] at h ⊢
  obtain ⟨hz, e⟩ := nG_no h; rw [e] at h ⊢; clear e
  obtain ⟨B, hB, e⟩ := nB_no h; rw [e] at h ⊢; clear e
  obtain ⟨hsz, e⟩ := nG_no h; rw [e] at h ⊢; clear e
  obtain ⟨m, h1, e⟩ := nS_no h; rw [e]; clear e
  have hz := Nat.eq_of_beq_eq_true hz
  subst hz
  have hsz : o + n * 5 ≤ B.size := Nat.le_of_ble_eq_true hsz
  obtain ⟨Bc, base, m', q, c', hα, rfl, hp, hc, hl, hm⟩ := hv.sl_inv
  obtain ⟨cs, t, fz, hC, _, hm', hR⟩ := ha.blk hα hB
  obtain ⟨ls, g1, g2, g3⟩ := lvsN_ok hR (p := p) n o hsz (by rw [h1]; exact Nat.succ_ne_zero m)
  have hlc : (lcs ls).length = n * 5 := by
   rw [← g3, List.length_take, List.length_drop, Array.length_toList]
   have := hR.1
   omega
  obtain ⟨r1, r2⟩ := rdSl_x hC hp hl g3 hlc (by have := hR.1; omega)
  exact ⟨ls, by rw [g1], g2, by rw [g1]; exact r1, r2⟩
theorem ltN_eq (c : UInt8) : ltN c.toNat = letB c := by
 have h : ∀ n : Nat, n < 256 -> ltN n = decide (97 ≤ n ∧ n ≤ 122 ∨ 65 ≤ n ∧ n ≤ 90) := by decide +kernel
 exact h c.toNat c.toNat_lt
theorem dgN_eq (c : UInt8) : dgN c.toNat = (digB c || decide (c = 95)) := by
 have h : ∀ n : Nat, n < 256 -> dgN n = (decide (48 ≤ n ∧ n ≤ 57) || decide (n = 95)) := by decide +kernel
 have e : decide (c = 95) = decide (c.toNat = 95) := decide_eq_decide.2 ⟨fun h => by subst h; rfl, fun h => UInt8.toNat_inj.1 (by simpa using h)⟩
 rw [h c.toNat c.toNat_lt, e]
 rfl
theorem scN_cons (c : Nat) (l : List Nat) (b : Bool) : scN (c :: l) b = Bool.rec (Bool.rec (Bool.rec (Bool.rec false (scN l false) (dgN c)) (scN l true) (Nat.beq c 46)) false b) (scN l false) (ltN c) := rfl
theorem scN_ok : ∀ (l : Bytes) (b : Bool), scN (l.map UInt8.toNat) b = true -> scanW b l = some false
 | [], b, h => by
  cases b with
  | true => cases h
  | false => rfl
 | c :: l, b, h => by
  rw [List.map_cons, scN_cons, ltN_eq, dgN_eq] at h
  rw [scanW]
  cases hl : letB c with
  | true =>
   rw [hl] at h
   have hc : c ≠ 46 := fun e => by subst e; rw [let46] at hl; cases hl
   simp only [Bool.not_true, Bool.and_false, Bool.false_eq_true, if_false, if_neg hc, Bool.false_and]
   exact scN_ok l false h
  | false =>
   rw [hl] at h
   cases b with
   | true => cases h
   | false =>
    dsimp only at h
    simp only [Bool.false_and, Bool.false_eq_true, if_false, Bool.not_false, Bool.true_and]
    by_cases hc : c = 46
    ·subst hc
     rw [if_pos rfl]
     exact scN_ok l true h
    ·rw [if_neg hc]
     have hb : Nat.beq c.toNat 46 = false := beq_ne fun e => hc (UInt8.toNat_inj.1 (by simpa using e.symm))
     rw [hb] at h
     dsimp only at h
     cases hd : (digB c || decide (c = 95)) with
     | false => rw [hd] at h; cases h
     | true =>
      rw [hd] at h
      rw [if_neg]
      ·exact scN_ok l false h
      ·simp only [Bool.or_eq_true, decide_eq_true_eq] at hd
       rcases hd with hd | hd
       ·simp [hd]
       ·simp [hd]
theorem anyNL_no {l : List Nat} : ∀ {ws : List (List Nat)}, anyNL l ws = false -> l ∉ ws
 | [], _ => by simp
 | w :: ws, h => by
  have h : (Bool.rec (anyNL l ws) true (eqNL w l) : Bool) = false := h
  rw [eqNL_eq] at h
  by_cases e : w = l
  ·rw [decide_eq_true e] at h; cases h
  ·rw [decide_eq_false e] at h
   have := anyNL_no (ws := ws) h
   simp only [List.mem_cons, not_or]
   exact ⟨fun x => e x.symm, this⟩
theorem resN_eq : resN = wordsL.map fun w => w.map UInt8.toNat := by decide
theorem wdN_ok {l : Bytes} (h : wdN (l.map UInt8.toNat) = true) : wordB l = true ∧ l.length ≤ 32 := by
 obtain ⟨h1, h⟩ := andB_t h
 obtain ⟨h2, h⟩ := andB_t h
 obtain ⟨h3, h⟩ := andB_t h
 rw [lenN_eq, List.length_map] at h1 h2
 have h1 := blt_t h1
 have h2 := Nat.le_of_ble_eq_true h2
 refine ⟨?_, h2⟩
 rw [word_eq]
 unfold wordR
 rw [scN_ok l true h3, decide_eq_true (show 1 ≤ l.length ∧ l.length ≤ 32 from ⟨h1, h2⟩)]
 cases ha : anyNL (l.map UInt8.toNat) resN with
 | true => rw [ha] at h; cases h
 | false =>
  have hn := anyNL_no ha
  simp only [Bool.not_false, Bool.true_and, Bool.not_eq_true', List.contains_eq_mem, decide_eq_false_iff_not]
  intro hm
  refine hn ?_
  rw [resN_eq]
  exact List.mem_map.2 ⟨l, hm, rfl⟩
theorem emp_ok {l : List Nat} (h : emp l = true) : l = [] := by
 cases l with
 | nil => rfl
 | cons => cases h
def KdR (k n nl v : Nat) (nm : List Nat) (fs : List Nat) : Prop :=
 fs.length = argsN k ∧ (∀ i f, fs[i]? = some f -> f = bndA k i) ∧ 1 ≤ k ∧ k ≤ 9 ∧ nl ≤ 4 ∧ (nm = [] ∨ wdN nm = true) ∧
 (∀ s : Bytes, s.map UInt8.toNat = nm -> ∀ (ls : List Lv) (args : List TM), numR (.mk k n s ls args) v = true) ∧
 (∀ (s : Bytes) (ls : List Lv) (args : List TM) (p : Int), ls.length = nl -> (∀ l ∈ ls, lvR l = true ∧ lvW l ≤ p) -> lvsR (.mk k n s ls args) p = true)
theorem lvsR_all {k n p : Int} {s : Bytes} {ls : List Lv} {args : List TM} (h : ∀ l ∈ ls, lvR l = true ∧ lvW l ≤ p) (h2 : (if k = 3 then decide (ls.length = 1) else if k = 4 then decide (ls.length ≤ 4) else decide (ls.length = 0)) = true) : lvsR (.mk k n s ls args) p = true := by
 unfold lvsR
 show ((if k = 3 then decide (ls.length = 1) else if k = 4 then decide (ls.length ≤ 4) else decide (ls.length = 0)) && ls.all fun l => lvR l && decide (lvW l ≤ p)) = true
 rw [h2, Bool.true_and, List.all_eq_true]
 intro l hl
 rw [(h l hl).1, decide_eq_true (h l hl).2]
 rfl
theorem numR_eq {k n v : Int} {s : Bytes} {ls : List Lv} {args : List TM} : numR (.mk k n s ls args) v = if k = 1 then decide (0 ≤ n ∧ n < v ∧ s = []) else if k = 4 then decide (n = 0) && wordB s else if k = 9 then decide (0 ≤ n ∧ n ≤ 31) && wordB s else decide (n = 0 ∧ s = []) := rfl
theorem kdN_no {k n nl v : Nat} {nm : List Nat} {f : List Nat -> Nat} (h : kdN k n nl v nm f ≠ 0) : ∃ fs, kdN k n nl v nm f = f fs ∧ KdR k n nl v nm fs := by
 unfold kdN at h ⊢
 have hmap : ∀ {s : Bytes}, s.map UInt8.toNat = [] -> s = [] := fun h => by simpa using h
 have fin : ∀ {k : Nat} {a b c : Bool} {fs : List Nat}, nG a (nG b (nG c (f fs))) ≠ 0 -> (a = true -> b = true -> c = true -> KdR k n nl v nm fs) -> ∃ fs', nG a (nG b (nG c (f fs))) = f fs' ∧ KdR k n nl v nm fs' := fun h hk => by
  obtain ⟨h1, e⟩ := nG_no h; rw [e] at h ⊢; clear e
  obtain ⟨h2, e⟩ := nG_no h; rw [e] at h ⊢; clear e
  obtain ⟨h3, e⟩ := nG_no h; rw [e]
  exact ⟨_, rfl, hk h1 h2 h3⟩
 have bnd : ∀ (k : Nat) (fs : List Nat), (∀ i, i < fs.length -> fs[i]? = some (bndA k i)) -> ∀ i f, fs[i]? = some f -> f = bndA k i := fun k fs h i f e => by
  have := (List.getElem?_eq_some_iff.1 e).1
  rw [h i this] at e
  exact (Option.some.inj e).symm
 have plain : ∀ {k : Nat} {fs : List Nat}, k ≠ 1 -> k ≠ 3 -> k ≠ 4 -> k ≠ 9 -> 1 ≤ k -> k ≤ 9 -> fs.length = argsN k -> (∀ i, i < fs.length -> fs[i]? = some (bndA k i)) -> Nat.beq n 0 = true -> Nat.beq nl 0 = true -> emp nm = true -> KdR k n nl v nm fs := fun {k fs} h1 h3 h4 h9 hk1 hk9 hf hb hn hnl hm => by
  have hn := Nat.eq_of_beq_eq_true hn
  have hnl := Nat.eq_of_beq_eq_true hnl
  have hm := emp_ok hm
  subst hn hnl hm
  refine ⟨hf, bnd k fs hb, hk1, hk9, by omega, .inl rfl, fun s hs ls args => ?_, fun s ls args p hl h => lvsR_all h ?_⟩
  ·rw [numR_eq, if_neg (by omega), if_neg (by omega), if_neg (by omega)]
   exact decide_eq_true ⟨rfl, hmap hs⟩
  ·rw [if_neg (by omega), if_neg (by omega)]
   exact decide_eq_true hl
 cases h5 : Nat.beq k 5 with
 | true =>
  rw [h5] at h
  have := Nat.eq_of_beq_eq_true h5
  subst this
  exact fin h fun a b c => plain (by decide) (by decide) (by decide) (by decide) (by decide) (by decide) rfl (by decide) a b c
 | false =>
 rw [h5] at h
 cases h1 : Nat.beq k 1 with
 | true =>
  rw [h1] at h
  have := Nat.eq_of_beq_eq_true h1
  subst this
  refine fin h fun a b c => ?_
  have a := blt_t a
  have hnl := Nat.eq_of_beq_eq_true b
  have hm := emp_ok c
  subst hnl hm
  refine ⟨rfl, fun i f e => by simp at e, by decide, by decide, by omega, .inl rfl, fun s hs ls args => ?_, fun s ls args p hl h => lvsR_all h ?_⟩
  ·rw [numR_eq, if_pos (by decide)]
   exact decide_eq_true ⟨by omega, by omega, hmap hs⟩
  ·rw [if_neg (by decide), if_neg (by decide)]
   exact decide_eq_true hl
 | false =>
 rw [h1] at h
 cases h4 : Nat.beq k 4 with
 | true =>
  rw [h4] at h
  have := Nat.eq_of_beq_eq_true h4
  subst this
  refine fin h fun a b c => ?_
  have hn := Nat.eq_of_beq_eq_true a
  have b := Nat.le_of_ble_eq_true b
  subst hn
  refine ⟨rfl, fun i f e => by simp at e, by decide, by decide, b, .inr c, fun s hs ls args => ?_, fun s ls args p hl h => lvsR_all h ?_⟩
  ·rw [numR_eq, if_neg (by decide), if_pos (by decide), (wdN_ok (hs ▸ c)).1]
   rfl
  ·rw [if_neg (by decide), if_pos (by decide)]
   exact decide_eq_true (by omega)
 | false =>
 rw [h4] at h
 cases h7 : Nat.beq k 7 with
 | true =>
  rw [h7] at h
  have := Nat.eq_of_beq_eq_true h7
  subst this
  exact fin h fun a b c => plain (by decide) (by decide) (by decide) (by decide) (by decide) (by decide) rfl (by decide) a b c
 | false =>
 rw [h7] at h
 cases h6 : Nat.beq k 6 with
 | true =>
  rw [h6] at h
  have := Nat.eq_of_beq_eq_true h6
  subst this
  exact fin h fun a b c => plain (by decide) (by decide) (by decide) (by decide) (by decide) (by decide) rfl (by decide) a b c
 | false =>
 rw [h6] at h
 cases h8 : Nat.beq k 8 with
 | true =>
  rw [h8] at h
  have := Nat.eq_of_beq_eq_true h8
  subst this
  exact fin h fun a b c => plain (by decide) (by decide) (by decide) (by decide) (by decide) (by decide) rfl (by decide) a b c
 | false =>
 rw [h8] at h
 cases h2 : Nat.beq k 2 with
 | true =>
  rw [h2] at h
  have := Nat.eq_of_beq_eq_true h2
  subst this
  exact fin h fun a b c => plain (by decide) (by decide) (by decide) (by decide) (by decide) (by decide) rfl (by decide) a b c
 | false =>
 rw [h2] at h
 cases h3 : Nat.beq k 3 with
 | true =>
  rw [h3] at h
  have := Nat.eq_of_beq_eq_true h3
  subst this
  refine fin h fun a b c => ?_
  have hn := Nat.eq_of_beq_eq_true a
  have b := Nat.eq_of_beq_eq_true b
  have hm := emp_ok c
  subst hn b hm
  refine ⟨rfl, fun i f e => by simp at e, by decide, by decide, by omega, .inl rfl, fun s hs ls args => ?_, fun s ls args p hl h => lvsR_all h ?_⟩
  ·rw [numR_eq, if_neg (by decide), if_neg (by decide), if_neg (by decide)]
   exact decide_eq_true ⟨rfl, hmap hs⟩
  ·rw [if_pos (by decide)]
   exact decide_eq_true hl
 | false =>
 rw [h3] at h
 cases h9 : Nat.beq k 9 with
 | true =>
  rw [h9] at h
  have := Nat.eq_of_beq_eq_true h9
  subst this
  refine fin h fun a b c => ?_
  have a := Nat.le_of_ble_eq_true a
  have hnl := Nat.eq_of_beq_eq_true b
  subst hnl
  refine ⟨rfl, fun i f e => by
   match i, e with
   | 0, e => exact (Option.some.inj e).symm
   | i + 1, e => simp at e, by decide, by decide, by omega, .inr c, fun s hs ls args => ?_, fun s ls args p hl h => lvsR_all h ?_⟩
  ·rw [numR_eq, if_neg (by decide), if_neg (by decide), if_pos (by decide), (wdN_ok (hs ▸ c)).1, decide_eq_true (show (0 : Int) ≤ n ∧ (n : Int) ≤ 31 from ⟨by omega, by omega⟩)]
   rfl
  ·rw [if_neg (by decide), if_neg (by decide)]
   exact decide_eq_true hl
 | false =>
  rw [h9] at h
  exact absurd rfl h
section
variable {α : Al} {s : XS} {w : World} {p : Nat}
def RgtR (w : World) (p : Nat) (m : Nat) (v d : Nat) (vs : List Value) : Prop := ∃ t : TV, t.cells = vs ∧ t.ok w ∧ allR t.e p v d = true ∧ t.size = m
theorem cells5_R {B : AB} {base : Nat} {cs : Array Value} (hR : CellsR α B base cs) {o : Nat} (ho : o + 5 ≤ B.size) : VRs α (cellsX B.cs 5 o) ((cs.toList.drop (base + o)).take 5) := by
 have hsz := hR.1
 refine VRs.of (by simp [cellsX_length]; omega) fun j x u e1 e2 => ?_
 have hj : j < 5 := by have := (List.getElem?_eq_some_iff.1 e1).1; rwa [cellsX_length] at this
 rw [cellsX_get _ _ _ _ hj] at e1
 cases e1
 obtain ⟨u', h1, h2⟩ := cellX_R (i := o + j) hR (by omega)
 rw [List.getElem?_take, if_pos hj, List.getElem?_drop, Nat.add_assoc, Array.getElem?_toList, h1] at e2
 cases e2
 exact h2
theorem kidsN_ok {ih : List XV -> Nat -> Nat -> Nat} (hih : ∀ cs v d, ih cs v d ≠ 0 -> ∀ vs, VRs α cs vs -> RgtR w p (ih cs v d) v d vs) {B : AB} {base : Nat} {cs : Array Value} (hR : CellsR α B base cs) (v d : Nat) :
  ∀ (fs : List Nat) (o : Nat), o + fs.length * 5 ≤ B.size -> kidsN ih B.cs fs v d o ≠ 0 -> ∃ ts : List TV, ts.length = fs.length ∧ (cs.toList.drop (base + o)).take (fs.length * 5) = tcs ts ∧ (∀ t ∈ ts, t.ok w) ∧ kidsN ih B.cs fs v d o = TV.sizes ts + 1 ∧
   ∀ (i : Nat) (t : TV) (f : Nat), ts[i]? = some t -> fs[i]? = some f -> allR t.e p ((v + f : Nat) : Int) (d + f) = true
 | [], o, _, _ => ⟨[], rfl, by simp, by simp, rfl, by simp⟩
 | f :: fs, o, ho, h => by
  have e0 : kidsN ih B.cs (f :: fs) v d o = nS (ih (cellsX B.cs 5 o) (Nat.add v f) (Nat.add d f)) fun a => nS (kidsN ih B.cs fs v d (Nat.add o 5)) fun b => Nat.add (Nat.add a b) 2 := rfl
  rw [e0] at h ⊢
  obtain ⟨a, ha, e⟩ := nS_no h; rw [e] at h ⊢; clear e
  obtain ⟨b, hb, e⟩ := nS_no h; rw [e]; clear e h e0
  rw [List.length_cons] at ho ⊢
  obtain ⟨t, g1, g2, g3, g4⟩ := hih _ _ _ (by rw [ha]; exact Nat.succ_ne_zero a) _ (cells5_R hR (o := o) (by omega))
  obtain ⟨ts, k1, k2, k3, k4, k5⟩ := kidsN_ok hih hR v d fs (o + 5) (by omega) (by show kidsN ih B.cs fs v d (Nat.add o 5) ≠ 0; rw [hb]; exact Nat.succ_ne_zero b)
  refine ⟨t :: ts, by rw [List.length_cons, k1], ?_, fun x hx => ?_, ?_, fun i x g e1 e2 => ?_⟩
  ·rw [take_step, show base + o + 5 = base + (o + 5) by omega, k2, ← g1]
   rfl
  ·rcases List.mem_cons.1 hx with rfl | hx
   ·exact g2
   ·exact k3 x hx
  ·have k4 : kidsN ih B.cs fs v d (Nat.add o 5) = TV.sizes ts + 1 := k4
   rw [TV.sizes, g4, ha]
   rw [hb] at k4
   show a + b + 2 = a + 1 + TV.sizes ts + 1
   omega
  ·cases i with
   | zero =>
    cases e1
    cases e2
    exact g3
   | succ i => exact k5 i x g (by simpa using e1) (by simpa using e2)
theorem argN_ok (ha : Abs α s w) {ih : List XV -> Nat -> Nat -> Nat} (hih : ∀ cs v d, ih cs v d ≠ 0 -> ∀ vs, VRs α cs vs -> RgtR w p (ih cs v d) v d vs) {a : XV} {av : Value} (hv : VR α a av) {fs : List Nat} {v d : Nat} (h : argN ih s a fs v d ≠ 0) :
  ∃ ts : List TV, ts.length = fs.length ∧ (RdSl w av 5 (tcs ts) ts.length ∧ capOk av) ∧ (∀ t ∈ ts, t.ok w) ∧ argN ih s a fs v d = TV.sizes ts + 1 ∧
   ∀ (i : Nat) (t : TV) (f : Nat), ts[i]? = some t -> fs[i]? = some f -> allR t.e p ((v + f : Nat) : Int) (d + f) = true := by
 unfold argN at h ⊢
 rcases nSl_no h with ⟨rfl, e⟩ | ⟨b, o, n, c, z, rfl, e⟩
 ·rw [e] at h ⊢
  rw [hv.nils_inv]
  cases fs with
  | nil => exact ⟨[], rfl, ⟨⟨rfl, .inl ⟨rfl, _, _, rfl⟩⟩, rfl⟩, by simp, rfl, by simp⟩
  | cons f fs => exact absurd rfl h
 ·rw [e] at h ⊢
  obtain ⟨hz, e⟩ := nG_no h; rw [e] at h ⊢; clear e
  obtain ⟨hn, e⟩ := nG_no h; rw [e] at h ⊢; clear e
  obtain ⟨B, hB, e⟩ := nB_no h; rw [e] at h ⊢; clear e
  obtain ⟨hsz, e⟩ := nG_no h; rw [e] at h ⊢; clear e
  have hz := Nat.eq_of_beq_eq_true hz
  have hn := Nat.eq_of_beq_eq_true hn
  rw [lenN_eq] at hn
  subst hz hn
  have hsz : o + fs.length * 5 ≤ B.size := Nat.le_of_ble_eq_true hsz
  obtain ⟨Bc, base, m', q, c', hα, rfl, hp, hc, hl, hm⟩ := hv.sl_inv
  obtain ⟨cs, t, fz, hC, _, hm', hR⟩ := ha.blk hα hB
  obtain ⟨ts, g1, g2, g3, g4, g5⟩ := kidsN_ok hih hR v d fs o hsz h
  have hlc : (tcs ts).length = fs.length * 5 := by
   rw [← g2, List.length_take, List.length_drop, Array.length_toList (xs := cs)]
   have := hR.1
   omega
  have := rdSl_x hC hp hl g2 hlc (by have := hR.1; omega)
  exact ⟨ts, g1, by rw [g1]; exact this, g3, g4, g5⟩
theorem VRs.cons_inv {x : XV} {xs : List XV} {vs : List Value} (h : VRs α (x :: xs) vs) : ∃ v r, vs = v :: r ∧ VR α x v ∧ VRs α xs r := by
 cases h with
 | cons _ v _ r h1 h2 => exact ⟨v, r, rfl, h1, h2⟩
theorem rgtN_ok (ha : Abs α s w) : ∀ (fuel : Nat) (cs : List XV) (v d : Nat), rgtN s p fuel cs v d ≠ 0 -> ∀ vs, VRs α cs vs -> RgtR w p (rgtN s p fuel cs v d) v d vs
 | 0, cs, v, d, h, _, _ => absurd rfl h
 | fuel + 1, cs, v, d, h, vs, hv => by
  have e0 : rgtN s p (fuel + 1) cs v d = (nC cs fun k cs => nC cs fun n cs => nC cs fun nm cs => nC cs fun l cs => nC cs fun a cs => nE cs <|
   nInt k fun k => nNat k fun k => nInt n fun n => nNat n fun n => nStr nm fun nm => nG (Nat.ble d 200) <| nG (Nat.ble n 2199023255552) <| nS (levN' s p l) fun nl => kdN k n nl v nm fun fs => nS (argN (rgtN s p fuel) s a fs v d) fun m => Nat.succ (Nat.add nl m)) := rfl
  rw [e0] at h ⊢
  clear e0
  obtain ⟨k, cs, rfl, e⟩ := nC_no h; rw [e] at h ⊢; clear e
  obtain ⟨n, cs, rfl, e⟩ := nC_no h; rw [e] at h ⊢; clear e
  obtain ⟨nm, cs, rfl, e⟩ := nC_no h; rw [e] at h ⊢; clear e
  obtain ⟨l, cs, rfl, e⟩ := nC_no h; rw [e] at h ⊢; clear e
  obtain ⟨a, cs, rfl, e⟩ := nC_no h; rw [e] at h ⊢; clear e
  obtain ⟨rfl, e⟩ := nE_no h; rw [e] at h ⊢; clear e
  obtain ⟨k, rfl, e⟩ := nInt_no h; rw [e] at h ⊢; clear e
  obtain ⟨k, rfl, e⟩ := nNat_no h; rw [e] at h ⊢; clear e
  obtain ⟨n, rfl, e⟩ := nInt_no h; rw [e] at h ⊢; clear e
  obtain ⟨n, rfl, e⟩ := nNat_no h; rw [e] at h ⊢; clear e
  obtain ⟨nm, rfl, e⟩ := nStr_no h; rw [e] at h ⊢; clear e
  obtain ⟨hd, e⟩ := nG_no h; rw [e] at h ⊢; clear e
  obtain ⟨hn, e⟩ := nG_no h; rw [e] at h ⊢; clear e
  obtain ⟨nl, hnl, e⟩ := nS_no h; rw [e] at h ⊢; clear e
  obtain ⟨fs, e, hk⟩ := kdN_no h; rw [e] at h ⊢; clear e
  obtain ⟨m, hm, e⟩ := nS_no h; rw [e]; clear e h
  obtain ⟨v0, r, rfl, q0, hv⟩ := hv.cons_inv
  obtain ⟨v1, r, rfl, q1, hv⟩ := hv.cons_inv
  obtain ⟨v2, r, rfl, q2, hv⟩ := hv.cons_inv
  obtain ⟨v3, r, rfl, q3, hv⟩ := hv.cons_inv
  obtain ⟨v4, r, rfl, q4, hv⟩ := hv.cons_inv
  cases hv
  rw [q0.int_inv, q1.int_inv]
  obtain ⟨S, rfl, hS⟩ := q2.str_inv
  have hd := Nat.le_of_ble_eq_true hd
  have hn := Nat.le_of_ble_eq_true hn
  obtain ⟨ls, g1, g2, g3, g4⟩ := levN_ok ha (p := p) q3 (by rw [hnl]; exact Nat.succ_ne_zero nl)
  obtain ⟨ts, k1, k2, k3, k4, k5⟩ := argN_ok ha (rgtN_ok ha fuel) q4 (by rw [hm]; exact Nat.succ_ne_zero m)
  obtain ⟨c1, c2, c3, c4, c5, c6, c7, c8⟩ := hk
  have hlen : nl = ls.length := by omega
  have hal : ts.length ≤ 3 := by
   rw [k1, c1]
   unfold argsN
   split
   ·omega
   ·split
    ·omega
    ·split <;> omega
  have hsl : S.data.toList.length ≤ 32 := by
   rcases c6 with c6 | c6
   ·rw [c6] at hS
    have := congrArg List.length hS
    rw [List.length_map] at this
    rw [this]; decide
   ·rw [← hS] at c6
    exact (wdN_ok c6).2
  have hsv : Value.string S = sv S.data.toList := rfl
  refine ⟨.mk k n S.data.toList ls v3 v4 ts, by rw [hsv]; rfl, tok_iff.2 ⟨?_, ?_, ?_, fun l hl => (g2 l hl).1, ?_, ?_, g3, g4, k2.1, k2.2, k3⟩, ?_, ?_⟩
  ·show i64ok (k : Int); unfold i64ok; omega
  ·show i64ok (n : Int); unfold i64ok; omega
  ·show S.data.toList.length < 2 ^ 60; omega
  ·show ls.length < 2 ^ 50; omega
  ·show ts.length < 2 ^ 50; omega
  ·rw [TV.e_eq]
   show allR (.mk k n S.data.toList ls (ts.map TV.e)) p v d = true
   rw [allR_args, Bool.and_eq_true]
   refine ⟨?_, ?_⟩
   ·unfold nodeR
    rw [c7 _ hS, c8 _ _ _ _ hlen.symm fun l hl => (g2 l hl).2]
    refine (Bool.and_true _).trans ((Bool.and_true _).trans (decide_eq_true ?_))
    refine ⟨?_, ?_, hd, ?_⟩
    ·show (1 : Int) ≤ (k : Int); omega
    ·show (k : Int) ≤ 9; omega
    ·show (ts.map TV.e).length = argsN k
     rw [List.length_map, k1, c1]
   ·rw [List.all_eq_true]
    intro i hi
    rw [List.mem_range, List.length_map] at hi
    obtain ⟨f, hf⟩ : ∃ f, fs[i]? = some f := ⟨fs[i]'(by omega), List.getElem?_eq_getElem _⟩
    have := k5 i ts[i] f (List.getElem?_eq_getElem hi) hf
    rw [c2 i f hf] at this
    rw [List.getElem?_map, List.getElem?_eq_getElem hi]
    show allR ts[i].e p ((v : Int) + (bndA k i : Nat)) (d + bndA k i) = true
    rw [← Int.natCast_add]
    exact this
  ·rw [TV.size]
   rw [hm] at k4
   show 1 + ls.length + TV.sizes ts = nl + m + 1
   omega
end
noncomputable def isRgt (s : XS) (x : XV) (p v : Int) : Bool :=
 Nat.blt 0 (nAgg x fun cs => nNat p fun p => nG (Nat.ble p 4) <| nNat v fun v => nG (Nat.ble v 1099511627776) <| nS (rgtN s p 3000 cs v 0) fun m => nG (Nat.blt m 3000) 1)
noncomputable def rightF (F : Fx) : Fx := ⟨fun C args s => List.rec .no (fun x r _ => List.rec .no (fun p r _ => List.rec .no (fun v r _ => List.rec (asInt p fun kp p => asInt v fun kv v => Bool.rec (F.run C args s) (.ret (.bool true) s) (andB (eqK kp .i64) (andB (eqK kv .i64) (isRgt s x p v)))) (fun _ _ _ => .no) r) r) r) args⟩
theorem ext_XE {α : Al} {s : XS} {w w' : World} (ha : Abs α s w) (h : Ext [] w w') : XE (fun _ => False) α s w α s w' ∧ Abs α s w' := by
 have same : ∀ B, B < w.heap.size -> w'.heap[B]? = w.heap[B]? := fun B hB => h.same B hB (by simp)
 exact ⟨⟨.refl α, h.os, h.tape, h.output, h.size, fun B hB _ => same B hB, fun b B q e _ => ⟨b, q, e⟩, Nat.le_refl _, fun _ _ hn _ => ⟨hn, rfl⟩⟩,
  ⟨fun b B base m e => by
   obtain ⟨o, O, h1, h2, h3⟩ := ha.obj b B base m e
   exact ⟨o, O, h1, by rw [same B (ha.lt e)]; exact h2, h3⟩, ha.sep, ha.kin, ha.fresh⟩⟩
theorem isRgt_ok {α : Al} {s : XS} {w : World} (ha : Abs α s w) {x : XV} {p v : Int} (h : isRgt s x p v = true) {xv : Value} (hv : VR α x xv) : ∃ t : TV, xv = t.v ∧ t.ok w ∧ rightR t.e p v = true ∧ t.size ≤ 3000 := by
 have h := blt_t h
 have h := Nat.ne_of_gt h
 obtain ⟨cs, rfl, e⟩ := nAgg_no h; rw [e] at h; clear e
 obtain ⟨p, rfl, e⟩ := nNat_no h; rw [e] at h; clear e
 obtain ⟨hp, e⟩ := nG_no h; rw [e] at h; clear e
 obtain ⟨v, rfl, e⟩ := nNat_no h; rw [e] at h; clear e
 obtain ⟨hv2, e⟩ := nG_no h; rw [e] at h; clear e
 obtain ⟨m, hm, e⟩ := nS_no h; rw [e] at h; clear e
 obtain ⟨hm3, e⟩ := nG_no h; clear e h
 obtain ⟨a, rfl, ha2⟩ := hv.agg_inv
 obtain ⟨t, g1, g2, g3, g4⟩ := rgtN_ok ha _ _ _ _ (by rw [hm]; exact Nat.succ_ne_zero m) _ ha2
 have hm3 := blt_t hm3
 have hp := Nat.le_of_ble_eq_true hp
 have hv2 := Nat.le_of_ble_eq_true hv2
 refine ⟨t, ?_, g2, ?_, by omega⟩
 ·unfold TV.v
  rw [g1]
 ·unfold rightR
  rw [g3, size_e, Bool.and_true]
  exact decide_eq_true ⟨by omega, by omega, by omega, by omega, by omega⟩
theorem rightF_sound {G : GInv} (hJ : ∀ w, G.J w -> GS w) {F : Fx} (hF : SoundF Tryz.prog G 74 F) : SoundF Tryz.prog G 74 (rightF F) := by
 intro C hC args s r h hr α w args' ha hg hv
 have h0 : (rightF F).run C args s = r := h
 cases args with
 | nil => exact absurd h.symm hr
 | cons x l =>
 cases l with
 | nil => exact absurd h.symm hr
 | cons p l =>
 cases l with
 | nil => exact absurd h.symm hr
 | cons v l =>
 cases l with
 | cons => exact absurd h.symm hr
 | nil =>
 have h : (asInt p fun kp p2 => asInt v fun kv v2 => Bool.rec (F.run C [x, p, v] s) (.ret (.bool true) s) (andB (eqK kp .i64) (andB (eqK kv .i64) (isRgt s x p2 v2)))) = r := h
 obtain ⟨kp, p2, rfl, h⟩ := asInt_no h hr
 obtain ⟨kv, v2, rfl, h⟩ := asInt_no h hr
 cases hb : andB (eqK kp .i64) (andB (eqK kv .i64) (isRgt s x p2 v2)) with
 | false =>
  rw [hb] at h
  exact hF C hC _ s r h hr α w args' ha hg hv
 | true =>
  rw [hb] at h
  obtain ⟨hk1, hb⟩ := andB_t hb
  obtain ⟨hk2, hb⟩ := andB_t hb
  cases eqK_t hk1
  cases eqK_t hk2
  obtain ⟨v0, r0, e0, q0, hv⟩ := hv.cons_inv
  obtain ⟨v1, r1, rfl, q1, hv⟩ := hv.cons_inv
  obtain ⟨v2, r2, rfl, q2, hv⟩ := hv.cons_inv
  cases hv
  obtain ⟨t, rfl, h2, h3, h4⟩ := isRgt_ok ha hb q0
  obtain rfl : args' = #[t.v, v1, v2] := Array.ext' e0
  rw [q1.int_inv, q2.int_inv]
  refine fnZ_of (by kernel_rfl) (Calls.mono (tright_c (K := PR r α s w) h2 (hJ w hg.2.2) (by omega) fun w' e => ?_) fun e w2 he => ?_)
  ·rw [h3]
   obtain ⟨g1, g2⟩ := ext_XE ha e
   exact ⟨.bool true, α, s, h.symm, g1, g2, .bool true⟩
  ·cases e with
   | returned v => exact he
   | panicked ch => exact he.elim
   | outgrown => exact he.elim
theorem scN_iff : ∀ (l : Bytes) (b : Bool), scN (l.map UInt8.toNat) b = (match scanW b l with | some false => true | _ => false)
 | [], b => by cases b <;> rfl
 | c :: l, b => by
  rw [List.map_cons, scN_cons, ltN_eq, dgN_eq, scanW]
  cases hl : letB c with
  | true =>
   have hc : c ≠ 46 := fun e => by subst e; rw [let46] at hl; cases hl
   simp only [Bool.not_true, Bool.and_false, Bool.false_eq_true, if_false, if_neg hc, Bool.false_and]
   exact scN_iff l false
  | false =>
   cases b with
   | true => simp
   | false =>
    simp only [Bool.false_and, Bool.false_eq_true, if_false, Bool.not_false, Bool.true_and]
    by_cases hc : c = 46
    ·subst hc
     rw [if_pos rfl]
     exact scN_iff l true
    ·rw [if_neg hc]
     have hb : Nat.beq c.toNat 46 = false := beq_ne fun e => hc (UInt8.toNat_inj.1 (by simpa using e.symm))
     rw [hb]
     dsimp only
     cases hd : (digB c || decide (c = 95)) with
     | false =>
      rw [if_pos]
      simp only [Bool.or_eq_false_iff, decide_eq_false_iff_not] at hd
      simp [hd.1, hd.2]
     | true =>
      rw [if_neg]
      ·exact scN_iff l false
      ·simp only [Bool.or_eq_true, decide_eq_true_eq] at hd
       rcases hd with hd | hd <;> simp [hd]
theorem anyNL_iff {l : List Nat} : ∀ {ws : List (List Nat)}, anyNL l ws = decide (l ∈ ws)
 | [] => by simp [anyNL]
 | w :: ws => by
  show (Bool.rec (anyNL l ws) true (eqNL w l) : Bool) = _
  rw [eqNL_eq, anyNL_iff (ws := ws)]
  by_cases e : w = l
  ·subst e; simp
  ·rw [decide_eq_false e]
   have : ¬ l = w := fun h => e h.symm
   simp [this]
theorem wdN_iff (l : Bytes) : wdN (l.map UInt8.toNat) = wordB l := by
 rw [word_eq]
 have e : wdN (l.map UInt8.toNat) = andB (Nat.blt 0 (lenN (l.map UInt8.toNat))) (andB (Nat.ble (lenN (l.map UInt8.toNat)) 32) (andB (scN (l.map UInt8.toNat) true) (Bool.rec true false (anyNL (l.map UInt8.toNat) resN)))) := rfl
 have a : ∀ x y : Bool, andB x y = (x && y) := fun x y => by cases x <;> rfl
 have r : (Bool.rec true false (anyNL (l.map UInt8.toNat) resN) : Bool) = !wordsL.contains l := by
  have h : anyNL (l.map UInt8.toNat) resN = wordsL.contains l := by
   rw [anyNL_iff, resN_eq, List.contains_eq_mem]
   refine decide_eq_decide.2 ⟨fun h => ?_, fun h => List.mem_map.2 ⟨l, h, rfl⟩⟩
   obtain ⟨x, hx, he⟩ := List.mem_map.1 h
   rw [← map_inj8 he]; exact hx
  rw [h]
  cases wordsL.contains l <;> rfl
 rw [e, a, a, a, r, scN_iff, lenN_eq, List.length_map]
 unfold wordR
 have b1 : Nat.blt 0 l.length = decide (1 ≤ l.length) := by
  by_cases h : 1 ≤ l.length
  ·rw [decide_eq_true h, blt_of (by omega)]
  ·rw [decide_eq_false h, blt_not (by omega)]
 have b2 : Nat.ble l.length 32 = decide (l.length ≤ 32) := by
  by_cases h : l.length ≤ 32
  ·rw [decide_eq_true h, Nat.ble_eq_true_of_le h]
  ·rw [decide_eq_false h]
   cases hb : Nat.ble l.length 32 with
   | false => rfl
   | true => exact absurd (Nat.le_of_ble_eq_true hb) h
 rw [b1, b2, Bool.decide_and]
 cases scanW true l with
 | none => simp
 | some b => cases b <;> simp [Bool.and_assoc]
noncomputable def wordF : Fx := ⟨fun _ args s => List.rec .no (fun x r _ => List.rec (asStr x fun l => gX (Nat.ble (lenN l) 1000000) (.ret (.bool (wdN l)) s)) (fun _ _ _ => .no) r) args⟩
theorem wordF_sound {G : GInv} (hJ : ∀ w, G.J w -> GS w) : SoundF Tryz.prog G 76 wordF := by
 intro C hC args s r h hr α w args' ha hg hv
 cases args with
 | nil => exact absurd h.symm hr
 | cons x l =>
 cases l with
 | cons => exact absurd h.symm hr
 | nil =>
 obtain ⟨l, rfl, h1⟩ := asStr_no (show asStr x (fun l => gX (Nat.ble (lenN l) 1000000) (.ret (.bool (wdN l)) s)) = r from h) hr
 obtain ⟨hlen, h2⟩ := gX_no h1 hr
 obtain ⟨v0, r0, e0, q0, hv⟩ := hv.cons_inv
 cases hv
 obtain ⟨S, rfl, hS⟩ := q0.str_inv
 obtain rfl : args' = #[sv S.data.toList] := Array.ext' e0
 have hlen := Nat.le_of_ble_eq_true hlen
 have hl : lenN l = S.data.toList.length := by rw [lenN_eq, ← hS]; exact List.length_map _
 refine fnZ_of (by kernel_rfl) (Calls.mono (word_c (K := PR r α s w) (s := S.data.toList) (by omega) (hJ w hg.2.2) fun w' e => ?_) fun e w2 he => ?_)
 ·obtain ⟨g1, g2⟩ := ext_XE ha e
  rw [← hS] at h2
  have h2 : XR.ret (.bool (wdN (S.data.toList.map UInt8.toNat))) s = r := h2
  rw [wdN_iff] at h2
  exact ⟨_, α, s, h2.symm, g1, g2, .bool _⟩
 ·cases e with
  | returned v => exact he
  | panicked ch => exact he.elim
  | outgrown => exact he.elim
noncomputable def idxI (c : Nat) (l : List Nat) : Nat -> Int := List.rec (motive := fun _ => Nat -> Int) (fun _ => .negSucc 0) (fun x _ ih i => Bool.rec (ih (Nat.succ i)) (.ofNat i) (Nat.beq x c)) l
theorem idxI_cons (c x : Nat) (l : List Nat) (i : Nat) : idxI c (x :: l) i = Bool.rec (idxI c l (Nat.succ i)) (.ofNat i) (Nat.beq x c) := rfl
theorem indexByte_ge : ∀ (l : List UInt8) (c : UInt8), Lib.indexByte l c = -1 ∨ 0 ≤ Lib.indexByte l c
 | [], c => .inl rfl
 | b :: l, c => by
  unfold Lib.indexByte
  split
  ·exact .inr (by decide)
  ·split
   ·exact .inl rfl
   ·rename_i h
    rcases indexByte_ge l c with h2 | h2
    ·rw [h2] at h; exact absurd rfl h
    ·exact .inr (by omega)
theorem idxI_eq (c : UInt8) : ∀ (l : List UInt8) (i : Nat), idxI c.toNat (l.map UInt8.toNat) i = if Lib.indexByte l c = -1 then -1 else Lib.indexByte l c + i
 | [], i => rfl
 | b :: l, i => by
  rw [List.map_cons, idxI_cons]
  by_cases h : b = c
  ·subst h
   have e : Lib.indexByte (b :: l) b = 0 := by unfold Lib.indexByte; simp
   rw [e, Nat.beq_refl, if_neg (by decide)]
   show (i : Int) = 0 + i
   omega
  ·have hb : Nat.beq b.toNat c.toNat = false := beq_ne fun e => h (UInt8.toNat_inj.1 e.symm)
   have e : Lib.indexByte (b :: l) c = if Lib.indexByte l c == -1 then -1 else Lib.indexByte l c + 1 := by
    conv => lhs; unfold Lib.indexByte
    rw [if_neg (by simpa using h)]
   rw [hb, e]
   show idxI c.toNat (l.map UInt8.toNat) (i + 1) = _
   rw [idxI_eq c l (i + 1)]
   by_cases h1 : Lib.indexByte l c = -1
   ·rw [if_pos h1, if_pos (show (Lib.indexByte l c == -1) = true by simp [h1]), if_pos rfl]
   ·have h2 : (Lib.indexByte l c == -1) = false := by simp [h1]
    have := (indexByte_ge l c).resolve_left h1
    rw [if_neg h1, h2, if_neg Bool.false_ne_true, if_neg (by omega)]
    omega
noncomputable def idxF : Fx := ⟨fun _ args s => List.rec .no (fun x r _ => List.rec .no (fun y r _ => List.rec (asStr x fun l => asInt y fun k c => asNat c fun n => gX (eqK k .u8) (gX (Nat.blt n 256) (.ret (.int .i64 (idxI n l 0)) s))) (fun _ _ _ => .no) r) r) args⟩
theorem idxF_sound {P : Program} {G : GInv} {f : FuncId} (hx : ExtOf P f Extern.BytealgIndexByte.indexByte) : SoundF P G f idxF := by
 intro C hC args s r h hr α w args' ha hg hv
 cases args with
 | nil => exact absurd h.symm hr
 | cons x l =>
 cases l with
 | nil => exact absurd h.symm hr
 | cons y l =>
 cases l with
 | cons => exact absurd h.symm hr
 | nil =>
 obtain ⟨l, rfl, h1⟩ := asStr_no (show asStr x (fun l => asInt y fun k c => asNat c fun n => gX (eqK k .u8) (gX (Nat.blt n 256) (.ret (.int .i64 (idxI n l 0)) s))) = r from h) hr
 obtain ⟨k, c, rfl, h2⟩ := asInt_no h1 hr
 obtain ⟨n, rfl, h3⟩ := asNat_no h2 hr
 obtain ⟨hk, h4⟩ := gX_no h3 hr
 obtain ⟨hn, h5⟩ := gX_no h4 hr
 cases eqK_t hk
 have hn := blt_t hn
 obtain ⟨v0, r0, e0, q0, hv⟩ := hv.cons_inv
 obtain ⟨v1, r1, rfl, q1, hv⟩ := hv.cons_inv
 cases hv
 obtain ⟨S, rfl, hS⟩ := q0.str_inv
 rw [q1.int_inv] at e0
 obtain rfl : args' = #[.string S, .int .u8 n] := Array.ext' e0
 refine fnZ_ext hx (Lib.run_indexByteString S n w) ?_
 refine ⟨_, α, s, h5.symm, .refl _ α s w, ha, ?_⟩
 have hc : (n : Int).toNat.toUInt8.toNat = n := by
  show n % 256 = n
  omega
 have e : idxI n l 0 = Lib.indexByte S.data.toList (n : Int).toNat.toUInt8 := by
  have := idxI_eq (n : Int).toNat.toUInt8 S.data.toList 0
  rw [hc] at this
  rw [← hS]
  show idxI n (S.data.toList.map UInt8.toNat) 0 = _
  rw [this]
  split
  ·rename_i h; exact h.symm
  ·exact Int.add_zero _
 rw [e]
 exact .int _ _
section
variable {ρ : List Nat} {α1 α' : Al} {n : Nat}
end
noncomputable def isTX (r : XR) : Bool := XR.rec (motive := fun _ => Bool) false (fun x _ => XV.rec (motive_1 := fun _ => Bool) (motive_2 := fun _ => Bool) false (fun b => b) (fun _ _ => false) (fun _ => false) false (fun _ _ => false) false (fun _ _ _ _ _ => false) false (fun _ => false) false (fun _ _ _ _ _ => false) false (fun _ _ _ => false) (fun _ _ => false) (fun _ _ => false) (fun _ => false) false (fun _ _ _ _ => false) x) (fun _ _ => false) r
theorem isTX_t {r : XR} (h : isTX r = true) : ∃ s, r = .ret (.bool true) s := by
 cases r with
 | no => cases h
 | pan => cases h
 | ret x s =>
  cases x <;> first
   | (rename_i b; have h : b = true := h; subst h; exact ⟨s, rfl⟩)
   | cases h
theorem PV.same {X : Nat -> Prop} {k : XK} {r : XR} {α : Al} {s : XS} {w w1 w2 : World} {v : Value} (h : PV X k r α s w v w1) (hh : w2.heap = w1.heap) (ho : w2.os = w1.os) (ht : w2.tape = w1.tape) (hu : w2.output = w1.output) : PV X k r α s w v w2 := by
 obtain ⟨x, α', s', e, ha, hv, hk⟩ := h
 exact ⟨x, α', s', ⟨e.le, ho.trans e.os, ht.trans e.tape, hu.trans e.output, by rw [hh]; exact e.size, fun B hB hn => by rw [hh]; exact e.same B hB hn, e.img, e.next, e.pend⟩, ⟨fun b B base m q => by rw [hh]; exact ha.obj b B base m q, ha.sep, ha.kin, ha.fresh⟩, hv, hk⟩
theorem heap_set {w w' : World} {B : Nat} {cs : List Value} {t : TypeId} (e : Ext [B] w w') (hb : Blk w' B cs t) (hs : w'.heap.size = w.heap.size) (hB : B < w.heap.size) : w'.heap = (setB w B (.cells cs.toArray t)).heap := by
 apply Array.ext_getElem?
 intro j
 show _ = (w.heap.setIfInBounds B _)[j]?
 rw [Array.getElem?_setIfInBounds]
 by_cases h : B = j
 ·subst h
  rw [if_pos rfl, if_pos hB]
  exact hb
 ·rw [if_neg h]
  by_cases hj : j < w.heap.size
  ·exact e.same j hj (by simp; omega)
  ·rw [Array.getElem?_eq_none (by omega), Array.getElem?_eq_none (by omega)]
theorem heap_new {w w' : World} {cs : List Value} {t : TypeId} (e : Ext [] w w') (hb : Blk w' w.heap.size cs t) (hs : w'.heap.size = w.heap.size + 1) : w'.heap = (w.drew.alloc (.cells cs.toArray t)).heap := by
 apply Array.ext_getElem?
 intro j
 show _ = (w.heap.push _)[j]?
 rw [Array.getElem?_push]
 by_cases h : j = w.heap.size
 ·subst h
  rw [if_pos rfl]
  exact hb
 ·rw [if_neg h]
  by_cases hj : j < w.heap.size
  ·exact e.same j hj (by simp)
  ·rw [Array.getElem?_eq_none (by omega), Array.getElem?_eq_none (by omega)]
noncomputable def insX (b o l i b2 o2 : Nat) (s : XS) (k : XK) : XR :=
 getB s b fun B => gX (Nat.ble (Nat.add o (Nat.mul l 15)) B.size) <| nRo B <| getB s b2 fun B2 => gX (Nat.ble (Nat.add o2 15) B2.size) <| nRo B2 <| gX (notB (Nat.beq B.root B2.root)) <| rootX s b B fun y =>
  gX (allOneX (appL (cellsX B2.cs 15 o2) (cellsX B.cs (Nat.mul (Nat.sub l i) 15) (Nat.add o (Nat.mul i 15)))))
   (appU b o i 15 (Nat.succ (Nat.sub l i)) (appL (cellsX B2.cs 15 o2) (cellsX B.cs (Nat.mul (Nat.sub l i) 15) (Nat.add o (Nat.mul i 15)))) B y s k)
noncomputable def insF : Fx := ⟨fun _ args s => match args with
 | [a, ix, x] => asSl a .no fun b o l c z => gX (Nat.beq z 15) <| gX (Nat.ble big c) <| gX (Nat.ble l 1000000) <| gX (Nat.ble 1 l) <| asInt ix fun k n => gX (eqK k .i64) <| asNat n fun i => gX (Nat.ble i l) <| asSl x .no fun b2 o2 l2 _ z2 => gX (Nat.beq z2 15) <| gX (Nat.beq l2 1) <| insX b o l i b2 o2 s .ret
 | _ => .no⟩
theorem insX_W {b o l i b2 o2 : Nat} {s : XS} {k : XK} {r : XR} (h : insX b o l i b2 o2 s k = r) (hr : r ≠ .no) {α : Al} {w : World} (ha : Abs α s w) {Bc base m p c' A base2 m2 p2 c2 : Nat} (hα : α b = some (Bc, base, m)) (hp : p = base + o ∨ c' = 0) (hl : l ≤ c') (hxm : base + o + c' * 15 = m) (hm : p + c' * 15 ≤ m) (hn : l ≤ 1000000) (hl1 : 1 ≤ l) (hi : i ≤ l)
  (hα2 : α b2 = some (A, base2, m2)) (hp2 : p2 = base2 + o2) (hl2 : 1 ≤ c2) :
  fnW Tryz.prog 63 #[.slice (some ⟨Bc, p, none⟩) l c', .int .i64 i, .slice (some ⟨A, p2, none⟩) 1 c2] w (PV (fun _ => False) k r α s w) := by
 obtain ⟨B, hB, h⟩ := getB_no h hr
 obtain ⟨h1, h⟩ := gX_no h hr
 have h1 : o + l * 15 ≤ B.size := Nat.le_of_ble_eq_true h1
 obtain ⟨hro, h⟩ := nRo_no h hr
 obtain ⟨B2, hB2, h⟩ := getB_no h hr
 obtain ⟨h2, h⟩ := gX_no h hr
 have h2 : o2 + 15 ≤ B2.size := Nat.le_of_ble_eq_true h2
 obtain ⟨hro2, h⟩ := nRo_no h hr
 obtain ⟨h3, h⟩ := gX_no h hr
 obtain ⟨y, hy, h⟩ := rootX_no h hr hB
 obtain ⟨h4, h⟩ := gX_no h hr
 obtain ⟨cs, t, hC, hcm, hR⟩ := ha.blkW hα hB hro
 obtain ⟨ds, u, hD, hdm, hR2⟩ := ha.blkW hα2 hB2 hro2
 have hne : A ≠ Bc := by
  intro e
  subst e
  have hb : b ≠ b2 := by
   intro e
   subst e
   rw [hB] at hB2
   cases hB2
   rw [Nat.beq_refl] at h3
   cases h3
  obtain ⟨x1, x2, g1, g2, g3, _⟩ := ha.sep b b2 A base base2 m m2 hα hα2 hb
  rw [hB] at g1
  rw [hB2] at g2
  cases g1
  cases g2
  rw [g3, Nat.beq_refl] at h3
  cases h3
 have hsz := hR.1
 have hsz2 := hR2.1
 have hsub : (l - i) * 15 = l * 15 - i * 15 := Nat.sub_mul _ _ _
 have hi15 : i * 15 ≤ l * 15 := Nat.mul_le_mul_right _ hi
 have hl15 : l * 15 ≤ c' * 15 := Nat.mul_le_mul_right _ hl
 have hv1 := cellsX_R (o := o2) (n := 15) hR2 h2
 have hv2 := cellsX_R (o := o + i * 15) (n := (l - i) * 15) hR (by omega)
 have hvs := hv1.append hv2
 rw [← appL_eq] at hvs
 have hone := allOneX_R hvs h4
 have hC' : Blk w Bc cs.toList t := by unfold Blk; rw [Array.toArray_toList]; exact hC
 have hD' : Blk w A ds.toList u := by unfold Blk; rw [Array.toArray_toList]; exact hD
 have hp : p = base + o := by omega
 subst hp hp2
 have hxr : RdSl w (.slice (some ⟨A, base2 + o2, none⟩) 1 c2) 15 ((ds.toList.drop (base2 + o2)).take 15) 1 := by
  have := rdSl_of (l := 1) (z := 15) (c := c2) (o := o2) hD hR2 (by omega) (.inl rfl) hl2
  simpa using this
 have hyl : ((ds.toList.drop (base2 + o2)).take 15 ++ (cs.toList.drop (base + (o + i * 15))).take ((l - i) * 15)).length = (l - i + 1) * 15 := by
  simp only [List.length_append, List.length_take, List.length_drop, Array.length_toList]
  omega
 obtain ⟨p1, p2⟩ := appU_pv (X := fun _ => False) h hr ha hB hro hy hα (.inl rfl) (Nat.succ_ne_zero _) (by omega) hm hxm (by omega) hyl hvs hC
 have htot : i + (Nat.sub l i).succ = l + 1 := by show i + (l - i + 1) = l + 1; omega
 rw [htot] at p1 p2
 have e1 : base + (o + i * 15) = base + o + i * 15 := by omega
 rw [e1] at p1 p2 hone
 have hBl := hC'.lt
 refine insert_w hC' (by rw [Array.length_toList]; omega) hl hi hn hD' hxr hne (fun y hy => hone y (List.mem_append_left _ hy)) (fun y hy => hone y (List.mem_append_right _ hy)) (fun hcap w' e hb hs => ?_) (fun hcap c3 w' zs hc3 e hb hz hs => ?_)
 ·refine (p1 hcap).same ?_ e.os e.tape e.output
  rw [heap_set e hb hs hBl]
  rfl
 ·refine (p2 (by omega) c3 zs.toArray 28 hc3 (by rw [List.size_toArray, hz])).same ?_ e.os e.tape e.output
  rw [heap_new e hb hs]
  congr 3
  simp
theorem insF_sound {G : GInv} : SoundF Tryz.prog G 63 insF := by
 intro C hC args s r h hr α w args' ha hg hv
 unfold insF at h
 dsimp only at h
 split at h
 ·rename_i a ix x
  rcases asSl_no h hr with ⟨_, g⟩ | ⟨b, o, l, c, z, rfl, t0⟩
  ·exact absurd g.symm hr
  obtain ⟨q1, t1⟩ := gX_no t0 hr
  obtain ⟨q2, t2⟩ := gX_no t1 hr
  obtain ⟨q3, t3⟩ := gX_no t2 hr
  obtain ⟨q4, t4⟩ := gX_no t3 hr
  obtain ⟨kd, n, rfl, t5⟩ := asInt_no t4 hr
  obtain ⟨q5, t6⟩ := gX_no t5 hr
  obtain ⟨i, rfl, t7⟩ := asNat_no t6 hr
  obtain ⟨q6, t8⟩ := gX_no t7 hr
  rcases asSl_no t8 hr with ⟨_, g⟩ | ⟨b2, o2, l2, cx, z2, rfl, t9⟩
  ·exact absurd g.symm hr
  obtain ⟨q7, t10⟩ := gX_no t9 hr
  obtain ⟨q8, t11⟩ := gX_no t10 hr
  clear h t0 t1 t2 t3 t4 t5 t6 t7 t8 t9 t10
  have q1 := Nat.eq_of_beq_eq_true q1
  have q2 := Nat.le_of_ble_eq_true q2
  have q3 := Nat.le_of_ble_eq_true q3
  have q4 := Nat.le_of_ble_eq_true q4
  have q5 := eqK_t q5
  have q6 := Nat.le_of_ble_eq_true q6
  have q7 := Nat.eq_of_beq_eq_true q7
  have q8 := Nat.eq_of_beq_eq_true q8
  subst q1 q5 q7 q8
  obtain ⟨v1, v2, v3, rfl⟩ : ∃ v1 v2 v3, args' = #[v1, v2, v3] := by
   have := hv.length
   match args', this with
   | ⟨[v1, v2, v3]⟩, _ => exact ⟨v1, v2, v3, rfl⟩
  cases hv with
  | cons _ _ _ _ g1 hv =>
  cases hv with
  | cons _ _ _ _ g2 hv =>
  cases hv with
  | cons _ _ _ _ g3 hv =>
  cases g2 with
  | int k n =>
  cases g1 with
  | sl _ _ _ _ _ Bc base m p c' h1 h2 h3 h4 h5 =>
  cases g3 with
  | sl _ _ _ _ _ A base2 m2 p2 c2 k1 k2 k3 k4 k5 =>
   have hx : base + o + c' * 15 = m := by
    rcases h3 with h3 | h3
    ·have : big ≤ c := q2
     omega
    ·exact h3.2
   refine nextZ_mono (insX_W t11 hr ha h1 ?_ h4 hx h5 q3 q4 q6 k1 ?_ k4) (fun _ _ hz => hz.elim) (fun v w' hk => ?_)
   ·rcases h2 with h2 | h2
    ·exact .inl h2
    ·exact .inr h2.1
   ·rcases k2 with k2 | k2
    ·exact k2
    ·omega
   ·obtain ⟨x, α', s', e1, e2, e3, e4⟩ := hk
    exact ⟨x, α', s', e4.symm, e1, e2, e3⟩
 ·exact absurd h.symm hr
theorem lspl_two3 (cs xs ys : List Value) (o : Nat) (h : o + xs.length + ys.length ≤ cs.length) : lspl (lspl cs o xs) (o + xs.length) ys = lspl cs o (xs ++ ys) := by
 apply List.ext_getElem?
 intro j
 have hl : (lspl cs o xs).length = cs.length := lspl_len _ _ _ (by omega)
 rw [lspl_at _ _ _ _ (by rw [hl]; omega), lspl_at _ _ _ _ (by omega), lspl_at _ _ _ _ (by rw [List.length_append]; omega), List.length_append, List.getElem?_append]
 by_cases h1 : j < o
 ·rw [if_pos (by omega), if_pos h1, if_pos h1]
 ·rw [if_neg h1, if_neg h1]
  by_cases h2 : j < o + xs.length
  ·rw [if_pos h2, if_pos h2, if_pos (by omega), if_pos (by omega)]
  ·rw [if_neg h2, if_neg h2]
   by_cases h3 : j < o + xs.length + ys.length
   ·rw [if_pos h3, if_pos (by omega), if_neg (by omega)]
    congr 1
    omega
   ·rw [if_neg h3, if_neg (by omega)]
noncomputable def delC (B : AB) (o l i : Nat) : List XV := appL (cellsX B.cs (Nat.mul (Nat.sub l (Nat.succ i)) 15) (Nat.add o (Nat.mul (Nat.succ i) 15))) (cvL zD)
noncomputable def delX (b o l c i : Nat) (s : XS) (k : XK) : XR :=
 getB s b fun B => gX (Nat.ble (Nat.add o (Nat.mul l 15)) B.size) <| nRo B <| rootX s b B fun y => gX (allOneX (delC B o l i))
  (k (.sl b o (Nat.sub l 1) c 15) ⟨poisX b (Nat.add (Nat.add o (Nat.mul i 15)) B.delta) (Nat.add (Nat.add o (Nat.mul l 15)) B.delta) B.root y.kin (putK s.heap b (.blk ⟨putL (delC B o l i) B.cs (Nat.add o (Nat.mul i 15)), B.size, B.root, B.delta, B.kin, B.hw, B.ro⟩)), s.next⟩)
noncomputable def delF : Fx := ⟨fun _ args s => match args with
 | [a, ix, jx] => asSl a .no fun b o l c z => gX (Nat.beq z 15) <| gX (Nat.ble l 1000000) <| asInt ix fun k n => gX (eqK k .i64) <| asNat n fun i => asInt jx fun k2 n2 => gX (eqK k2 .i64) <| asNat n2 fun j => gX (Nat.beq j (Nat.succ i)) <| gX (Nat.ble j l) <| delX b o l c i s .ret
 | _ => .no⟩
theorem delX_W {b o l c i : Nat} {s : XS} {k : XK} {r : XR} (h : delX b o l c i s k = r) (hr : r ≠ .no) {α : Al} {w : World} (ha : Abs α s w) {Bc base m c' : Nat} (hα : α b = some (Bc, base, m)) (hl : l ≤ c') (hm : base + o + c' * 15 ≤ m) (hn : l ≤ 1000000) (hi : i < l)
  (hv : ∀ α' : Al, AlLe α α' -> VR α' (.sl b o (l - 1) c 15) (.slice (some ⟨Bc, base + o, none⟩) (l - 1) c')) :
  fnW Tryz.prog 64 #[.slice (some ⟨Bc, base + o, none⟩) l c', .int .i64 i, .int .i64 (i + 1 : Nat)] w (PV (fun _ => False) k r α s w) := by
 obtain ⟨B, hB, h⟩ := getB_no h hr
 obtain ⟨h1, h⟩ := gX_no h hr
 have h1 : o + l * 15 ≤ B.size := Nat.le_of_ble_eq_true h1
 obtain ⟨hro, h⟩ := nRo_no h hr
 obtain ⟨y, hy, h⟩ := rootX_no h hr hB
 obtain ⟨h4, h⟩ := gX_no h hr
 obtain ⟨cs, t, hC, hcm, hR⟩ := ha.blkW hα hB hro
 have hsz := hR.1
 have hsub : (l - (i + 1)) * 15 = l * 15 - (i + 1) * 15 := Nat.sub_mul _ _ _
 have hi15 : (i + 1) * 15 ≤ l * 15 := Nat.mul_le_mul_right _ hi
 have hl15 : l * 15 ≤ c' * 15 := Nat.mul_le_mul_right _ hl
 have hl1 : (l - 1) * 15 + 15 = l * 15 := by omega
 have hv1 := cellsX_R (o := o + (i + 1) * 15) (n := (l - (i + 1)) * 15) hR (by omega)
 have hvs := hv1.append (cvL_R α zD)
 rw [← appL_eq] at hvs
 have hone := allOneX_R hvs h4
 have e1 : base + (o + (i + 1) * 15) = base + o + (i + 1) * 15 := by omega
 rw [e1] at hvs hone
 have hC' : Blk w Bc cs.toList t := by unfold Blk; rw [Array.toArray_toList]; exact hC
 have hBl := hC'.lt
 have hYl : ((cs.toList.drop (base + o + (i + 1) * 15)).take ((l - (i + 1)) * 15)).length = (l - (i + 1)) * 15 := by rw [List.length_take, List.length_drop, Array.length_toList]; omega
 have hzl : zD.length = 15 := rfl
 refine delete_w hC' (by rw [Array.length_toList]; omega) hl hi hn (fun y hy => hone y (List.mem_append_left _ hy)) fun w' e hb hs => ?_
 rw [show base + o + (l - 1) * 15 = base + o + i * 15 + ((cs.toList.drop (base + o + (i + 1) * 15)).take ((l - (i + 1)) * 15)).length by rw [hYl]; omega, lspl_two3 _ _ _ _ (by rw [hYl, hzl, Array.length_toList]; omega)] at hb
 have hyl : ((cs.toList.drop (base + o + (i + 1) * 15)).take ((l - (i + 1)) * 15) ++ zD).length = (l - i) * 15 := by rw [List.length_append, hYl, hzl]; omega
 generalize hys : (cs.toList.drop (base + o + (i + 1) * 15)).take ((l - (i + 1)) * 15) ++ zD = ys at hb hvs hone hyl
 have hfit : base + (o + i * 15) + ys.toArray.size ≤ cs.size := by rw [List.size_toArray]; omega
 have hvs0 : VRs α (delC B o l i) ys.toArray.toList := hvs
 obtain ⟨g1, g2⟩ := ha.write hα hB hy hC (spl_size cs (base + (o + i * 15)) ys.toArray hfit) (lo := o + i * 15 + B.delta) (hi := o + l * 15 + B.delta)
  (fun q hq => by rw [spl_get _ _ _ hfit, if_neg (by rw [List.size_toArray]; omega)]) (B' := ⟨putL (delC B o l i) B.cs (o + i * 15), B.size, B.root, B.delta, B.kin, B.hw, B.ro⟩) ⟨rfl, rfl, rfl, rfl, rfl, rfl⟩
  (hR.put (xs := delC B o l i) (vs := ys.toArray) hvs0 (by rw [List.size_toArray]; omega) rfl rfl) (h' := poisX b (o + i * 15 + B.delta) (o + l * 15 + B.delta) B.root y.kin (putK s.heap b (.blk ⟨putL (delC B o l i) B.cs (o + i * 15), B.size, B.root, B.delta, B.kin, B.hw, B.ro⟩)))
  (by rw [poisX_self]; exact getK_same _ _ _)
  (fun c hc => by rw [poisX_get ha hα hB hy _ _ _ c hc, getK_ne _ _ hc]) (fun _ => False)
 refine PV.same (w1 := setB w Bc (.cells (spl cs (base + (o + i * 15)) ys.toArray) t)) ⟨_, α, _, g2, g1, hv α (AlLe.refl α), h⟩ ?_ e.os e.tape e.output
 rw [heap_set e hb hs hBl]
 unfold spl lspl
 simp only [Nat.add_assoc, List.size_toArray]
theorem delF_sound {G : GInv} : SoundF Tryz.prog G 64 delF := by
 intro C hC args s r h hr α w args' ha hg hv
 unfold delF at h
 dsimp only at h
 split at h
 ·rename_i a ix jx
  rcases asSl_no h hr with ⟨_, g⟩ | ⟨b, o, l, c, z, rfl, t0⟩
  ·exact absurd g.symm hr
  obtain ⟨q1, t1⟩ := gX_no t0 hr
  obtain ⟨q2, t2⟩ := gX_no t1 hr
  obtain ⟨kd, n, rfl, t3⟩ := asInt_no t2 hr
  obtain ⟨q3, t4⟩ := gX_no t3 hr
  obtain ⟨i, rfl, t5⟩ := asNat_no t4 hr
  obtain ⟨kd2, n2, rfl, t6⟩ := asInt_no t5 hr
  obtain ⟨q4, t7⟩ := gX_no t6 hr
  obtain ⟨j, rfl, t8⟩ := asNat_no t7 hr
  obtain ⟨q5, t9⟩ := gX_no t8 hr
  obtain ⟨q6, t10⟩ := gX_no t9 hr
  clear h t0 t1 t2 t3 t4 t5 t6 t7 t8 t9
  have q1 := Nat.eq_of_beq_eq_true q1
  have q2 := Nat.le_of_ble_eq_true q2
  have q3 := eqK_t q3
  have q4 := eqK_t q4
  have q5 := Nat.eq_of_beq_eq_true q5
  have q6 := Nat.le_of_ble_eq_true q6
  subst q1 q3 q4 q5
  obtain ⟨v1, v2, v3, rfl⟩ : ∃ v1 v2 v3, args' = #[v1, v2, v3] := by
   have := hv.length
   match args', this with
   | ⟨[v1, v2, v3]⟩, _ => exact ⟨v1, v2, v3, rfl⟩
  cases hv with
  | cons _ _ _ _ g1 hv =>
  cases hv with
  | cons _ _ _ _ g2 hv =>
  cases hv with
  | cons _ _ _ _ g3 hv =>
  cases g2 with
  | int k n =>
  cases g3 with
  | int k n =>
  cases g1 with
  | sl _ _ _ _ _ Bc base m p c' h1 h2 h3 h4 h5 =>
   have hp : p = base + o := by
    rcases h2 with h2 | h2
    ·exact h2
    ·omega
   subst hp
   refine nextZ_mono (delX_W t10 hr ha h1 h4 h5 q2 q6 fun α' hα' => .sl b o (l - 1) c 15 Bc base m (base + o) c' (hα' _ _ h1) (.inl rfl) h3 (by omega) h5) (fun _ _ hz => hz.elim) (fun v w' hk => ?_)
   obtain ⟨x, α', s', e1, e2, e3, e4⟩ := hk
   exact ⟨x, α', s', e4.symm, e1, e2, e3⟩
 ·exact absurd h.symm hr
theorem gs_st (w w' : World) (h : ∀ B ∈ [0], w'.heap[B]? = w.heap[B]?) (k : GS w) : GS w' := by
 obtain ⟨m, hm⟩ := k
 refine ⟨m, ?_⟩
 unfold World.cell? at hm ⊢
 rw [h _ (List.mem_singleton.2 rfl)]
 exact hm
def gInv : GInv := ⟨[], [0], GS, gs_st⟩
theorem ext_idx : ExtOf Tryz.prog 204 Extern.BytealgIndexByte.indexByte := ⟨Tryz.f204, Tryz.func204, by kernel_rfl, by kernel_rfl, by kernel_rfl, by kernel_rfl⟩
theorem mixedX : Tryz.prog.follows .mixedOrders = true := by kernel_rfl
noncomputable def selF (A B : Fx) (f n : Nat) : Fx := Bool.rec (motive := fun _ => Fx) B A (Nat.beq f n)
theorem selF_sound {P : Program} {G : GInv} {A B : Fx} {f n : Nat} (hA : SoundF P G n A) (hB : SoundF P G f B) : SoundF P G f (selF A B f n) := by
 unfold selF
 cases h : Nat.beq f n with
 | true => have := Nat.eq_of_beq_eq_true h; subst this; exact hA
 | false => exact hB
theorem fnC_soundG {P : Program} (hmx : P.follows .mixedOrders = true) {G : GInv} {l : List Nat} (h : G.gs = l) {N f : Nat} : SoundF P G f (fnC P l N f) := by
 subst h
 exact fnC_sound hmx
theorem gInv_gs : gInv.gs = [] := rfl
noncomputable def fnG (f : Nat) : Fx := fnC Tryz.prog [] 100000 f
theorem fnG_sound (f : Nat) : SoundF Tryz.prog gInv f (fnG f) := by
 unfold fnG
 generalize hP : Tryz.prog = P
 have hm := mixedX
 rw [hP] at hm
 exact fnC_soundG hm gInv_gs
noncomputable def tab0 (f : Nat) : Fx :=
 selF delF (selF insF (selF idxF (selF wordF (selF (rightF (fnG 74)) (fnG f) f 74) f 76) f 204) f 63) f 64
theorem del_sound : SoundF Tryz.prog gInv 64 delF := delF_sound
theorem ins_sound : SoundF Tryz.prog gInv 63 insF := insF_sound
theorem idx_sound : SoundF Tryz.prog gInv 204 idxF := by
 have h := ext_idx
 generalize Tryz.prog = P at h ⊢
 exact idxF_sound h
theorem word_sound : SoundF Tryz.prog gInv 76 wordF := wordF_sound fun _ h => h
theorem right_sound : SoundF Tryz.prog gInv 74 (rightF (fnG 74)) := rightF_sound (fun _ h => h) (fnG_sound _)
theorem tab0_sound (f : Nat) : SoundF Tryz.prog gInv f (tab0 f) := by
 unfold tab0
 refine selF_sound del_sound ?_
 refine selF_sound ins_sound ?_
 refine selF_sound idx_sound ?_
 refine selF_sound word_sound ?_
 refine selF_sound right_sound ?_
 exact fnG_sound f
noncomputable abbrev run0 (T : Nat -> Fx) (f : Nat) (l : List XV) : XR := tabC T (yldC Tryz.prog [] 100000) 300 false f l ⟨.nil, 0⟩
theorem calls_of_fnW {P : Program} {f : FuncId} {args : Array Value} {w : World} {K : VPost} (he : entersB P f = true) (h : fnW P f args w K) : Calls P f args w (retK K) := by
 unfold entersB at he
 unfold fnW fnZ callFunc at h
 cases hf : P.funcs[f]? with
 | none => simp [hf] at he
 | some fn =>
  simp only [hf, Bool.and_eq_true, bne_iff_ne, ne_eq] at he
  obtain ⟨h1, h2⟩ := he
  have h3 : fn.body.isNone = false := by cases hb : fn.body <;> simp [hb] at h1 ⊢
  simp only [Sem.run_bind, Go.program, Sem.run, Result.andThen_ok, hf, beq_iff_eq, h2, if_false, h3, Bool.false_eq_true, Sem.run_pure] at h
  exact h
theorem gs_lt {w : World} (h : GS w) : ∀ B ∈ gInv.bs, B < w.heap.size := by
 intro B hB
 have e : B = 0 := List.mem_singleton.1 hB
 subst e
 obtain ⟨m, h⟩ := h
 unfold World.cell? at h
 cases h2 : w.heap[0]? with
 | none => rw [h2] at h; cases h
 | some o => exact (Array.getElem?_eq_some_iff.1 h2).1
theorem run_walk {T : Nat -> Fx} (hT : ∀ f, SoundF Tryz.prog gInv f (T f)) {f : Nat} (he : entersB Tryz.prog f = true) {args : List XV} (hr : isTX (run0 T f args) = true) {args' : Array Value} (hv : VRs (fun _ => none) args args'.toList)
  {W : World} {K : VPost} (hg : GS W) (hK : ∀ w', Ext [] W w' -> K (.bool true) w') : Calls Tryz.prog f args' W (retK K) := by
 obtain ⟨s', hs⟩ := isTX_t hr
 refine calls_of_fnW he (nextZ_mono (closed_fn mixedX gInv_gs hT (M := 100000) (N := 300) (x := .bool true) (s' := s') (by rw [gInv_gs]; exact hs) hv (gs_lt hg) hg) (fun _ _ hz => hz.elim) fun v w' hk => ?_)
 obtain ⟨α', h1, h2, h3⟩ := hk
 rw [h3.bool_inv]
 exact hK w' ⟨h1.os, h1.tape, h1.output, h1.size, fun B hB _ => h1.same B hB fun _ _ e => by cases e⟩
theorem alive24_run : isTX (run0 tab0 5 []) = true := by kernel_rfl
theorem alive24_c {w : World} {K : VPost} (hg : GS w) (hK : ∀ w', Ext [] w w' -> K (.bool true) w') : Calls Tryz.prog 5 #[] w (retK K) :=
 run_walk tab0_sound (by kernel_rfl) alive24_run .nil hg hK
end Go.Proofs.YtcihccmkionliaaGreatDoor
