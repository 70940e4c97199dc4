/- A clean form of the model's code: each operation as a transformer of what is to hold behind it; frames as functions; a region that draws its order is run in one order, what was read early being read again behind each effect. That the clean form serves: 'calls_of_G'. Condition: the program follows mixed orders. -/
import Derived.Orders
import Derived.Tactics
import Derived.Laws.CopyRow
import Derived.Laws.World
namespace Go.Proofs.Ytedebapgmfnflaa
open Go

abbrev Fr := Nat → Value
abbrev VPost := Value → World → Prop

abbrev putF (n : Nat) (fr : Fr) (d : Option Tmp) (v : Value) : Fr :=
  match d with
  | none => fr
  | some d => fun i => bif Nat.beq i d && Nat.blt d n then v else fr i

abbrev evF (fr : Fr) : Operand → Value
  | .tmp t => fr t
  | .const v => v
  | .global g => .pointer (some ⟨g, 0, none⟩)
  | .func f => .func (.func f) #[] #[]

abbrev argF (args : List Value) : Fr := fun i => args.getD i undef

def okW (K : VPost) : Result Value → Prop
  | .ok v w => K v w
  | .halt _ _ => False

def okU (K : World → Prop) : Result Unit → Prop
  | .ok _ w => K w
  | .halt _ _ => False

def retK (K : VPost) : Ending → World → Prop
  | .returned v, w => K v w
  | _, _ => False

def nextW (P : Program) (K : VPost) : Result Next → Prop
  | .ok (.value v) w => K v w
  | .ok .skip w => K undef w
  | .ok (.enter f args) w => Calls P f args w (retK K)
  | _ => False

def insW (P : Program) (s : Sem Value) (w : World) (K : VPost) : Prop := okW K (s.run P w)
def actW (P : Program) (s : Sem Unit) (w : World) (K : World → Prop) : Prop := okU K (s.run P w)
def genW (P : Program) (s : Sem Next) (w : World) (K : VPost) : Prop := nextW P K (s.run P w)

def nilW (v : Value) (w : World) (K : VPost) : Prop :=
  match v with
  | .pointer (some a) => K (.pointer (some a)) w
  | .func (.func f) x y => K (.func (.func f) x y) w
  | _ => False

def setB (w : World) (b : Nat) (o : Obj) : World := { w with heap := w.heap.setIfInBounds b o }

/-- Cells with others in the place of some of them. -/
def spl (cs : Array Value) (o : Nat) (vs : Array Value) : Array Value := (cs.toList.take o ++ vs.toList ++ cs.toList.drop (o + vs.size)).toArray

abbrev aggD : TypeDesc → Bool
  | .struct _ | .array _ _ => true
  | _ => false

/-- Is a type's value an aggregate, and how many cells has it? -/
abbrev szI (P : Program) (t : TypeId) : Option (Bool × Nat) :=
  match P.underlying t, P.info? t with
  | some d, some i => some (aggD d, i.size)
  | _, _ => none

def loadW (i : Option (Bool × Nat)) (p : Value) (w : World) (K : VPost) : Prop :=
  match i, p with
  | some (true, n), .pointer (some a) => ∃ cs t fz, w.heap[a.block]? = some (.cells cs t fz) ∧ a.spot = none ∧ a.off + n ≤ cs.size ∧ K (.agg (cs.extract a.off (a.off + n))) w
  | some (false, _), .pointer (some a) => ∃ cs t fz v, w.heap[a.block]? = some (.cells cs t fz) ∧ a.spot = none ∧ cs[a.off]? = some v ∧ K v w
  | _, _ => False

def storeW (i : Option (Bool × Nat)) (p v : Value) (w : World) (K : World → Prop) : Prop :=
  match i, p with
  | some (_, n), .pointer (some a) => ∃ cs t, w.heap[a.block]? = some (.cells cs t (0, 0)) ∧ a.spot = none ∧ v.cells.size = n ∧ a.off + n ≤ cs.size ∧
      v.cells.all (·.oneCell') = true ∧ K (setB w a.block (.cells (spl cs a.off v.cells) t))
  | _, _ => False

def boxW (e : TypeId) (v : Value) (w : World) (K : VPost) : Prop := K (.pointer (some ⟨w.heap.size, 0, none⟩)) (w.alloc (.cells v.cells e))

def zeroO (P : Program) (t : TypeId) : Option Value := (P.info? t).bind (·.zero)

def allocW (z : Option Value) (e : TypeId) (w : World) (K : VPost) : Prop :=
  match z with
  | some v => boxW e v w K
  | none => False

/-- Where a struct's field lies. -/
abbrev offI (P : Program) (s : TypeId) (f : Nat) : Option Nat :=
  match P.underlying s with
  | some (.struct fs) => match fs[f]? with
    | some d => match P.info? d.type with
      | some i => if i.size = 0 then none else some d.offset
      | none => none
    | none => none
  | _ => none

def offW (i : Option Nat) (p : Value) (w : World) (K : VPost) : Prop :=
  match i, p with
  | some k, .pointer (some a) => K (.pointer (some (a.add k))) w
  | _, _ => False

/-- An array's length (none: a slice), and its elements' cells. -/
abbrev idI (P : Program) (t : TypeId) : Option (Option Nat × Nat) :=
  match P.underlying t with
  | some (.array n e) => match P.info? e with | some i => some (some n, i.size) | none => none
  | some (.slice e) => match P.info? e with | some i => some (none, i.size) | none => none
  | _ => none

def idxW (i : Option (Option Nat × Nat)) (x ix : Value) (w : World) (K : VPost) : Prop :=
  match i, x, ix with
  | some (some n, sz), .pointer (some a), .int _ k => 0 ≤ k ∧ k < n ∧ K (.pointer (some (a.add (k.toNat * sz)))) w
  | some (none, sz), .slice (some a) len _, .int _ k => 0 ≤ k ∧ k < len ∧ K (.pointer (some (a.add (k.toNat * sz)))) w
  | _, _, _ => False

inductive SlI where
  | no
  | str
  | sl (sz : Nat)
  | arr (n sz : Nat)

abbrev slI (P : Program) (t : TypeId) : SlI :=
  match P.underlying t with
  | some (.array n e) => match P.info? e with | some i => .arr n i.size | none => .no
  | some (.slice e) => match P.info? e with | some i => .sl i.size | none => .no
  | some .string => .str
  | _ => .no

def bndIs (o : Option Value) (d x : Nat) : Prop :=
  match o with
  | none => x = d
  | some (.int _ k) => k = x
  | _ => False

/-- The bounds of a cut. -/
def cutW (len cap : Nat) (lo hi mx : Option Value) (F : Nat → Nat → Nat → Prop) : Prop :=
  (mx.isSome = true → hi.isSome = true) ∧ ∃ l h m : Nat, bndIs mx cap m ∧ bndIs hi len h ∧ bndIs lo 0 l ∧ l ≤ h ∧ (hi.isSome = true → h ≤ m) ∧ m ≤ cap ∧ F l h m

def sliceW (i : SlI) (x : Value) (lo hi mx : Option Value) (w : World) (K : VPost) : Prop :=
  match i, x with
  | .sl sz, .slice a len cap => cutW len cap lo hi mx fun l h m => K (.slice (if m = l then a else a.map (·.add (l * sz))) (h - l) (m - l)) w
  | .arr n sz, .pointer (some a) => cutW n n lo hi mx fun l h m => K (.slice (some (if m = l then a else a.add (l * sz))) (h - l) (m - l)) w
  | .str, .string s => mx = none ∧ cutW s.size s.size lo hi mx fun l h _ => K (.string (s.extract l h)) w
  | _, _ => False

/-- Of an array's value: its length, whether its elements are aggregates, and their cells; none: a string. -/
inductive IxI where
  | no
  | str
  | arr (n : Nat) (agg : Bool) (sz : Nat)

abbrev ixI (P : Program) (t : TypeId) : IxI :=
  match P.underlying t with
  | some (.array n e) => match szI P e with | some (b, s) => .arr n b s | none => .no
  | some .string => .str
  | _ => .no

def ixvW (i : IxI) (x ix : Value) (w : World) (K : VPost) : Prop :=
  match i, x, ix with
  | .arr n true sz, .agg cs, .int _ k => 0 ≤ k ∧ k < n ∧ K (.agg (cs.extract (k.toNat * sz) (k.toNat * sz + sz))) w
  | .arr n false sz, .agg cs, .int _ k => 0 ≤ k ∧ k < n ∧ ∃ v, cs[k.toNat * sz]? = some v ∧ K v w
  | .str, .string s, .int _ k => 0 ≤ k ∧ ∃ b, s[k.toNat]? = some b ∧ K (.int .u8 b.toNat) w
  | _, _, _ => False

abbrev fldI (P : Program) (t : TypeId) (f : Nat) : Option (Bool × Nat × Nat) :=
  match P.underlying t with
  | some (.struct fs) => match fs[f]? with
    | some d => match szI P d.type with
      | some (b, s) => some (b, d.offset, s)
      | none => none
    | none => none
  | _ => none

def fldW (i : Option (Bool × Nat × Nat)) (x : Value) (w : World) (K : VPost) : Prop :=
  match i, x with
  | some (true, o, n), .agg cs => K (.agg (cs.extract o (o + n))) w
  | some (false, o, _), .agg cs => ∃ v, cs[o]? = some v ∧ K v w
  | _, _ => False

/-- Is the length asked of a slice or a string? -/
abbrev lenI (P : Program) (ts : Array TypeId) : Option Bool :=
  match ts[0]? with
  | some t => match P.underlying t with
    | some (.slice _) => some true
    | some .string => some false
    | _ => none
  | none => none

def lenW (P : Program) (i : Option Bool) (ts : Array TypeId) (t : TypeId) (args : Array Value) (w : World) (K : VPost) : Prop :=
  match i, args.toList with
  | some true, [.slice _ n _] => K (.int .i64 n) w
  | some false, [.string s] => K (.int .i64 s.size) w
  | some _, _ => False
  | none, _ => insW P (Builtin.len_ ts t args) w K

def extrW (v : Value) (i : Nat) (w : World) (K : VPost) : Prop :=
  match v with
  | .tuple vs => ∃ x, vs[i]? = some x ∧ K x w
  | _ => False

def pickW (c a b : Value) (w : World) (K : VPost) : Prop :=
  match c with
  | .bool t => K (bif t then a else b) w
  | _ => False

def guardE (op : BinOp) (t : TypeId) (c : Bool) (a b : Value) : Sem Unit := eqGuard op t (bif c then .const undef else .tmp 0) (.tmp 0) a b
def binE (op : BinOp) (t : TypeId) (c : Bool) (a b : Value) : Sem Value := do guardE op t c a b; binOp op t a b
def binW (P : Program) (op : BinOp) (t : TypeId) (c : Bool) (a b : Value) (w : World) (K : VPost) : Prop := insW P (binE op t c a b) w K

/-- A call of a Go function that has a body. -/
def fnW (P : Program) (f : FuncId) (args : Array Value) (w : World) (K : VPost) : Prop := nextW P K ((callFunc f args).run P w)

abbrev biW (P : Program) (b : Builtin) (ts : Array TypeId) (t : TypeId) (args : Array Value) (w : World) (K : VPost) : Prop :=
  match b with
  | .append => insW P (Builtin.append_ ts t args) w K
  | .cap => insW P (Builtin.cap_ ts t args) w K
  | .clear => insW P (Builtin.clear_ ts t args) w K
  | .copy => insW P (Builtin.copy_ ts t args) w K
  | .delete => insW P (Builtin.delete_ ts t args) w K
  | .len => lenW P (lenI P ts) ts t args w K
  | .max => insW P (Builtin.max_ ts t args) w K
  | .min => insW P (Builtin.min_ ts t args) w K
  | _ => False

/-- Is a type one of whole numbers? -/
abbrev numT (P : Program) (t : TypeId) : Bool :=
  match P.underlying t with
  | some (.int _) => true
  | _ => false
/-- An operation on two numbers: it hangs on no world. -/
abbrev binN (P : Program) (op : BinOp) (t : TypeId) (c : Bool) (a b : Value) (w : World) (K : VPost) : Prop :=
  match a, b with
  | .int _ _, .int _ _ => binW P op t c a b w K
  | _, _ => False
abbrev unN (P : Program) (op : UnOp) (a : Value) (w : World) (K : VPost) : Prop :=
  match a with
  | .int _ _ => insW P (Op.unary op a) w K
  | .bool _ => insW P (Op.unary op a) w K
  | _ => False
abbrev convN (P : Program) (s d : TypeId) (a : Value) (w : World) (K : VPost) : Prop :=
  match a with
  | .int _ _ => insW P (convert s d a) w K
  | _ => False
/-- A call of a function value. -/
abbrev dynW (P : Program) (f : Value) (args : Array Value) (w : World) (K : VPost) : Prop :=
  match f with
  | .func (.func g) first captured => fnW P g (first ++ args ++ captured) w K
  | _ => False

abbrev evs (fr : Fr) (xs : Array Operand) : Array Value := (xs.toList.map (evF fr)).toArray
abbrev evp (fr : Fr) (xs : Array (Nat × Operand)) : Array (Nat × Value) := (xs.toList.map fun p => (p.1, evF fr p.2)).toArray

abbrev opW (md : Bool) (P : Program) (o : Oper) (fr : Fr) (w : World) (K : VPost) : Prop :=
  match o.op with
  | .move x => K (evF fr x) w
  | .assign x => K (evF fr x) w
  | .pick c a b => pickW (evF fr c) (evF fr a) (evF fr b) w K
  | .alloc e => allocW (zeroO P e) e w K
  | .box e x => boxW e (evF fr x) w K
  | .build t ps => insW P (Instr.build t (evp fr ps)) w K
  | .buildSlice t n ps => insW P (Instr.buildSlice t n (evp fr ps)) w K
  | .load t a => loadW (szI P t) (evF fr a) w K
  | .store t a x => storeW (szI P t) (evF fr a) (evF fr x) w (K undef)
  | .nilCheck x => nilW (evF fr x) w K
  | .binOp op t x y _ => match md && numT P t with
    | true => binN P op t (Region.isConst x || Region.isConst y) (evF fr x) (evF fr y) w K
    | false => binW P op t (Region.isConst x || Region.isConst y) (evF fr x) (evF fr y) w K
  | .unOp op _ x => match md with
    | true => unN P op (evF fr x) w K
    | false => insW P (Op.unary op (evF fr x)) w K
  | .convert s d x => match md && (numT P s && numT P d) with
    | true => convN P s d (evF fr x) w K
    | false => insW P (convert s d (evF fr x)) w K
  | .makeFunc f fs cs => match md with
    | true => insW P (Instr.makeFunc f (evs fr fs) (evs fr cs)) w K
    | false => genW P (execOp (evF fr) o) w K
  | .makeInterface t x => insW P (Instr.makeInterface t (evF fr x)) w K
  | .makeMap t r => insW P (Instr.makeMap t (r.map (evF fr))) w K
  | .makeSlice t l c => insW P (Instr.makeSlice t (evF fr l) (evF fr c)) w K
  | .slice t x lo hi mx => sliceW (slI P t) (evF fr x) (lo.map (evF fr)) (hi.map (evF fr)) (mx.map (evF fr)) w K
  | .fieldAddr s x f => offW (offI P s f) (evF fr x) w K
  | .field t x f => fldW (fldI P t f) (evF fr x) w K
  | .indexAddr t x i => idxW (idI P t) (evF fr x) (evF fr i) w K
  | .index t x i => ixvW (ixI P t) (evF fr x) (evF fr i) w K
  | .lookup t x i ok => insW P (Instr.lookup t (evF fr x) (evF fr i) ok) w K
  | .mapUpdate t m k x => actW P (Instr.mapUpdate t (evF fr m) (evF fr k) (evF fr x)) w (K undef)
  | .insert t m k x => actW P (Instr.mapUpdate t (evF fr m) (evF fr k) (evF fr x)) w (K undef)
  | .range t x => insW P (Instr.range t (evF fr x)) w K
  | .next it s => insW P (Instr.next (evF fr it) s o.type) w K
  | .entry it => insW P (Instr.entry (evF fr it)) w K
  | .extract t i => extrW (evF fr t) i w K
  | .call c =>
    match c.callee with
    | .value (.func f) => fnW P f (evs fr c.args) w K
    | .value x => match md with
      | true => dynW P (evF fr x) (evs fr c.args) w K
      | false => genW P (execOp (evF fr) o) w K
    | .builtin b => biW P b c.argTypes o.type (evs fr c.args) w K
    | _ => genW P (execOp (evF fr) o) w K
  | .select _ _ => False
  | _ => genW P (execOp (evF fr) o) w K

theorem okW_next {P : Program} {K : VPost} {s : Sem Value} {w : World} (h : okW K (s.run P w)) :
    nextW P K ((do pure (.value (← s)) : Sem Next).run P w) := by
  rw [Sem.run_bind]
  cases hr : s.run P w with
  | ok v w' => rw [hr] at h; exact h
  | halt x w' => rw [hr] at h; exact h.elim

theorem okU_next {P : Program} {K : VPost} {s : Sem Unit} {w : World} (h : okU (K undef) (s.run P w)) :
    nextW P K ((do s; pure .skip : Sem Next).run P w) := by
  rw [Sem.run_bind]
  cases hr : s.run P w with
  | ok v w' => rw [hr] at h; exact h
  | halt x w' => rw [hr] at h; exact h.elim

theorem guardE_eq (op : BinOp) (t : TypeId) (x y : Operand) (a b : Value) :
    eqGuard op t x y a b = guardE op t (Region.isConst x || Region.isConst y) a b := by
  cases x <;> cases y <;> rfl

theorem evs_eq (fr : Fr) (xs : Array Operand) : xs.map (evF fr) = evs fr xs := by
  unfold evs; apply Array.ext' ; simp

theorem evp_eq (fr : Fr) (xs : Array (Nat × Operand)) : (xs.map fun (i, x) => (i, evF fr x)) = evp fr xs := by
  unfold evp; apply Array.ext' ; simp

section sound
variable {P : Program} {w : World} {K : VPost}

theorem run_und {t : TypeId} {d : TypeDesc} (h : P.underlying t = some d) (w : World) : (underlying t).run P w = .ok d w := by
  unfold Go.underlying; simp [Sem.run_bind, Go.program, Sem.run, h, Result.andThen]
theorem run_info {t : TypeId} {d : TypeInfo} (h : P.info? t = some d) (w : World) : (typeInfo t).run P w = .ok d w := by
  unfold Go.typeInfo; simp [Sem.run_bind, Go.program, Sem.run, h, Result.andThen]
theorem run_size {t : TypeId} {d : TypeInfo} (h : P.info? t = some d) (w : World) : (sizeOf t).run P w = .ok d.size w := by
  unfold Go.sizeOf; simp [Sem.run_bind, run_info h]
theorem run_agg {t : TypeId} {d : TypeDesc} (h : P.underlying t = some d) (w : World) : (isAgg t).run P w = .ok (aggD d) w := by
  unfold Go.isAgg; simp only [Sem.run_bind, run_und h, Result.andThen_ok]
  cases d <;> rfl

theorem szI_spec {t : TypeId} {b : Bool} {n : Nat} (h : szI P t = some (b, n)) : ∃ d i, P.underlying t = some d ∧ P.info? t = some i ∧ aggD d = b ∧ i.size = n := by
  unfold szI at h
  split at h
  · rename_i d i h1 h2
    simp only [Option.some.injEq, Prod.mk.injEq] at h
    exact ⟨d, i, h1, h2, h.1, h.2⟩
  · cases h

theorem cell_blk {b : Nat} {cs : Array Value} {t : TypeId} {fz : Nat × Nat} (h : w.heap[b]? = some (.cells cs t fz)) (o : Nat) : w.cell? ⟨b, o, none⟩ = cs[o]? := by
  simp [World.cell?, h]

theorem loadW_next {t : TypeId} {p : Value} (h : loadW (szI P t) p w K) : okW K ((Instr.loadAt t p).run P w) := by
  unfold loadW at h
  split at h
  · rename_i n a hz
    obtain ⟨cs, ty, fz, hb, hs, hle, hK⟩ := h
    obtain ⟨d, i, hu, hi, ha, hn⟩ := szI_spec hz
    obtain ⟨b, o, sp⟩ := a
    simp only at hs hb hle hK
    subst hs
    have hl := run_loadCells_list (P := P) w ⟨b, o, none⟩ (cs.extract o (o + n)).toList (fun j v hv => by
      have hadd : (⟨b, o, none⟩ : Addr).add j = ⟨b, o + j, none⟩ := by unfold Addr.add; split <;> simp_all
      rw [hadd, cell_blk hb]
      simp only [Array.getElem?_toList, Array.getElem?_extract] at hv
      split at hv
      · exact hv
      · cases hv)
    have hlen : (cs.extract o (o + n)).toList.length = n := by simp; omega
    rw [hlen, Array.toArray_toList] at hl
    simp only [Instr.loadAt, Instr.sureAddr, loadVar, Sem.run_bind, Sem.run_pure, Result.andThen_ok, run_agg hu, ha, if_true, run_size hi, hn, hl]
    exact hK
  · rename_i n a hz
    obtain ⟨cs, ty, fz, v, hb, hs, hv, hK⟩ := h
    obtain ⟨d, i, hu, hi, ha, hn⟩ := szI_spec hz
    obtain ⟨b, o, sp⟩ := a
    simp only at hs hb hv hK
    subst hs
    simp only [Instr.loadAt, Instr.sureAddr, loadVar, Sem.run_bind, Sem.run_pure, Result.andThen_ok, run_agg hu, ha, Bool.false_eq_true, if_false]
    simp only [Go.load, Sem.run, cell_blk hb, hv]
    exact hK
  · exact h.elim

theorem setRow_setB {b : Nat} {cs cs' : Array Value} {t : TypeId} {fz : Nat × Nat} (h : w.heap[b]? = some (.cells cs t fz)) : w.setRow b cs' = setB w b (.cells cs' t fz) := by
  have hlt : b < w.heap.size := (Array.getElem?_eq_some_iff.1 h).1
  have hv : w.heap[b] = .cells cs t fz := (Array.getElem?_eq_some_iff.1 h).2
  unfold World.setRow setB
  congr 1
  apply Array.ext
  · simp
  · intro k h1 h2
    simp only [Array.getElem_modify]
    by_cases e : b = k
    · subst e; simp [hv]
    · rw [Array.getElem_setIfInBounds (by simpa using h2)]; simp [e]

theorem storeW_next {t : TypeId} {p v : Value} (h : storeW (szI P t) p v w (K undef)) : okU (K undef) ((Instr.storeAt t p v).run P w) := by
  unfold storeW at h
  split at h
  · rename_i b0 n a hz
    obtain ⟨cs, ty, hb, hs, hvn, hle, hone, hK⟩ := h
    obtain ⟨d, i, hu, hi, ha, hn⟩ := szI_spec hz
    obtain ⟨b, o, sp⟩ := a
    simp only at hs hb hle hK
    subst hs
    subst hvn
    have hst := run_storeCells_at P b o ty v.cells.toList 0 cs w hb (by simp only [Nat.add_zero, Array.length_toList]; omega)
      (fun x hx => (Array.all_eq_true_iff_forall_mem.1 hone) x (by simpa using hx))
    simp only [Nat.add_zero, setRow_setB hb, Array.length_toList] at hst
    simp only [Instr.storeAt, Instr.sureAddr, storeVar, Sem.run_bind, Sem.run_pure, Result.andThen_ok, run_size hi, hn, ne_eq, not_true_eq_false, if_false, hst]
    exact hK
  · exact h.elim

theorem boxW_next {e : TypeId} {v : Value} (h : boxW e v w K) : okW K ((Instr.box e v).run P w) := h

theorem allocW_next {e : TypeId} (h : allocW (zeroO P e) e w K) : okW K ((Instr.alloc e true (.tuple #[])).run P w) := by
  unfold allocW zeroO at h
  split at h
  · rename_i v hv
    rw [Option.bind_eq_some_iff] at hv
    obtain ⟨i, hi, hz⟩ := hv
    unfold Instr.alloc zeroValue
    simp only [Sem.run_bind, run_info hi, Result.andThen_ok, hz, Sem.run_pure]
    exact h
  · exact h.elim

theorem offW_next {s : TypeId} {p : Value} {f : Nat} (h : offW (offI P s f) p w K) : okW K ((Instr.fieldAt s p f).run P w) := by
  unfold offW at h
  split at h
  · rename_i k a hk
    unfold offI at hk
    split at hk
    · rename_i fs hu
      split at hk
      · rename_i d hd
        split at hk
        · rename_i i hi
          split at hk
          · cases hk
          · rename_i hz
            simp only [Option.some.injEq] at hk
            subst hk
            simp only [Instr.fieldAt, Sem.run_bind, run_und hu, Result.andThen_ok, hd, Instr.sureAddr, Sem.run_pure, fieldPlace, run_size hi, hz, if_false]
            exact h
        · cases hk
      · cases hk
    · cases hk
  · exact h.elim

theorem idxW_next {t : TypeId} {x ix : Value} (h : idxW (idI P t) x ix w K) : okW K ((Instr.indexAt t x ix).run P w) := by
  unfold idxW at h
  split at h
  · rename_i n sz a kk k hi
    obtain ⟨h0, h1, hK⟩ := h
    unfold idI at hi
    split at hi
    · rename_i n' e hu
      split at hi
      · rename_i i he
        simp only [Option.some.injEq, Prod.mk.injEq] at hi
        obtain ⟨rfl, rfl⟩ := hi
        simp only [Instr.indexAt, asIntOf, Sem.run_bind, Sem.run_pure, run_und hu, Result.andThen_ok, Instr.sureAddr, h0, h1, and_self, if_true, run_size he]
        exact hK
      · cases hi
    · split at hi <;> simp at hi
    · cases hi
  · rename_i sz a len cap kk k hi
    obtain ⟨h0, h1, hK⟩ := h
    unfold idI at hi
    split at hi
    · split at hi <;> simp at hi
    · rename_i e hu
      split at hi
      · rename_i i he
        simp only [Option.some.injEq, Prod.mk.injEq, true_and] at hi
        subst hi
        simp only [Instr.indexAt, asIntOf, Sem.run_bind, Sem.run_pure, run_und hu, Result.andThen_ok, Instr.sureAddr, h0, h1, and_self, if_true, run_size he]
        exact hK
      · cases hi
    · cases hi
  · exact h.elim

theorem run_bound {k : IntKind} {i : Int} {x y : Nat} {c : BoundsCode} (h : i = x) (hy : x ≤ y) : (Instr.sliceBound (.int k i) y c).run P w = .ok x w := by
  subst h
  have : (x : Int) ≤ y := by omega
  simp [Instr.sliceBound, asIntOf, Sem.run_bind, this]

theorem run_cut {s : Bool} {len cap : Nat} {lo hi mx : Option Value} {F : Nat → Nat → Nat → Prop} (h : cutW len cap lo hi mx F) :
    ∃ l h' m, (Instr.sliceBounds s len cap lo hi mx).run P w = .ok (l, h', m) w ∧ F l h' m := by
  obtain ⟨hmh, l, h', m, hm, hh, hl, hlh, hhm, hmc, hF⟩ := h
  refine ⟨l, h', m, ?_, hF⟩
  unfold Instr.sliceBounds
  cases mx with
  | none =>
    simp only [bndIs] at hm
    subst hm
    cases hi with
    | none =>
      simp only [bndIs] at hh
      subst hh
      cases lo with
      | none => simp only [bndIs] at hl; subst hl; rfl
      | some v =>
        cases v <;> simp only [bndIs] at hl
        simp only [Sem.run_bind, Sem.run_pure, Result.andThen_ok, run_bound hl hlh]
    | some u =>
      cases u <;> simp only [bndIs] at hh
      cases lo with
      | none => simp only [bndIs] at hl; subst hl; simp only [Sem.run_bind, Sem.run_pure, Result.andThen_ok, run_bound hh (hhm rfl)]
      | some v =>
        cases v <;> simp only [bndIs] at hl
        simp only [Sem.run_bind, Sem.run_pure, Result.andThen_ok, run_bound hh (hhm rfl), run_bound hl hlh]
  | some x =>
    cases x <;> simp only [bndIs] at hm
    cases hi with
    | none => simp at hmh
    | some u =>
      cases u <;> simp only [bndIs] at hh
      cases lo with
      | none => simp only [bndIs] at hl; subst hl; simp only [Sem.run_bind, Sem.run_pure, Result.andThen_ok, run_bound hm hmc, run_bound hh (hhm rfl)]
      | some v =>
        cases v <;> simp only [bndIs] at hl
        simp only [Sem.run_bind, Sem.run_pure, Result.andThen_ok, run_bound hm hmc, run_bound hh (hhm rfl), run_bound hl hlh]

theorem sliceW_next {t : TypeId} {x : Value} {lo hi mx : Option Value} (h : sliceW (slI P t) x lo hi mx w K) : okW K ((Instr.sliceAt t x lo hi mx).run P w) := by
  unfold sliceW at h
  split at h
  · rename_i sz a len cap hs
    unfold slI at hs
    split at hs
    · split at hs <;> cases hs
    · rename_i e hu
      split at hs
      · rename_i i he
        cases hs
        obtain ⟨l, h', m, hr, hK⟩ := run_cut (P := P) (w := w) (s := true) h
        simp only [Instr.sliceAt, Instr.slice, Sem.run_bind, run_und hu, Result.andThen_ok, hr, run_size he, Sem.run_pure]
        exact hK
      · cases hs
    · cases hs
    · cases hs
  · rename_i n sz a hs
    unfold slI at hs
    split at hs
    · rename_i n' e hu
      split at hs
      · rename_i i he
        cases hs
        obtain ⟨l, h', m, hr, hK⟩ := run_cut (P := P) (w := w) (s := false) h
        simp only [Instr.sliceAt, Instr.sureAddr, Sem.run_bind, run_und hu, Result.andThen_ok, hr, run_size he, Sem.run_pure]
        exact hK
      · cases hs
    · split at hs <;> cases hs
    · cases hs
    · cases hs
  · rename_i s hs
    obtain ⟨rfl, h⟩ := h
    unfold slI at hs
    split at hs
    · split at hs <;> cases hs
    · split at hs <;> cases hs
    · rename_i hu
      obtain ⟨l, h', m, hr, hK⟩ := run_cut (P := P) (w := w) (s := false) h
      simp only [Instr.sliceAt, Instr.slice, Sem.run_bind, run_und hu, Result.andThen_ok, hr, Sem.run_pure, Option.isSome_none, Bool.false_eq_true, if_false]
      exact hK
    · cases hs
  · exact h.elim

theorem run_part {t : TypeId} {b : Bool} {n : Nat} (h : szI P t = some (b, n)) (cs : Array Value) (o : Nat) :
    (part t cs o).run P w = if b = true then .ok (.agg (cs.extract o (o + n))) w else match cs[o]? with | some v => .ok v w | none => (stuck "part: no such cell" : Sem Value).run P w := by
  obtain ⟨d, i, hu, hi, ha, hn⟩ := szI_spec h
  unfold part
  simp only [Sem.run_bind, run_agg hu, Result.andThen_ok, ha]
  cases b
  · simp only [Bool.false_eq_true, if_false]
    cases cs[o]? <;> rfl
  · simp only [if_true, Sem.run_bind, run_size hi, Result.andThen_ok, hn, Sem.run_pure]

theorem ixvW_next {t : TypeId} {x ix : Value} (h : ixvW (ixI P t) x ix w K) : okW K ((Instr.index t x ix).run P w) := by
  unfold ixvW at h
  split at h
  · rename_i n sz cs kk k hi
    obtain ⟨h0, h1, hK⟩ := h
    unfold ixI at hi
    split at hi
    · rename_i n' e hu
      split at hi
      · rename_i b s he
        cases hi
        obtain ⟨d, i, hu', hi', ha, hn⟩ := szI_spec he
        simp only [Instr.index, asIntOf, Sem.run_bind, Sem.run_pure, run_und hu, Result.andThen_ok, h0, h1, and_self, if_true, run_size hi', hn, run_part he]
        exact hK
      · cases hi
    · cases hi
    · cases hi
  · rename_i n sz cs kk k hi
    obtain ⟨h0, h1, v, hv, hK⟩ := h
    unfold ixI at hi
    split at hi
    · rename_i n' e hu
      split at hi
      · rename_i b s he
        cases hi
        obtain ⟨d, i, hu', hi', ha, hn⟩ := szI_spec he
        simp only [Instr.index, asIntOf, Sem.run_bind, Sem.run_pure, run_und hu, Result.andThen_ok, h0, h1, and_self, if_true, run_size hi', hn, run_part he, Bool.false_eq_true, if_false, hv]
        exact hK
      · cases hi
    · cases hi
    · cases hi
  · rename_i s kk k hi
    obtain ⟨h0, b, hb, hK⟩ := h
    unfold ixI at hi
    split at hi
    · split at hi <;> cases hi
    · rename_i hu
      simp only [Instr.index, asIntOf, Sem.run_bind, Sem.run_pure, run_und hu, Result.andThen_ok, h0, if_true, hb]
      exact hK
    · cases hi
  · exact h.elim

theorem fldW_next {t : TypeId} {x : Value} {f : Nat} (h : fldW (fldI P t f) x w K) : okW K ((Instr.field t x f).run P w) := by
  unfold fldW at h
  split at h
  · rename_i o n cs hi
    unfold fldI at hi
    split at hi
    · rename_i fs hu
      split at hi
      · rename_i d hd
        split at hi
        · rename_i b s he
          cases hi
          simp only [Instr.field, Sem.run_bind, run_und hu, Result.andThen_ok, hd, asAgg, Sem.run_pure, run_part he, if_true]
          exact h
        · cases hi
      · cases hi
    · cases hi
  · rename_i o n cs hi
    obtain ⟨v, hv, hK⟩ := h
    unfold fldI at hi
    split at hi
    · rename_i fs hu
      split at hi
      · rename_i d hd
        split at hi
        · rename_i b s he
          cases hi
          simp only [Instr.field, Sem.run_bind, run_und hu, Result.andThen_ok, hd, asAgg, Sem.run_pure, run_part he, Bool.false_eq_true, if_false, hv]
          exact hK
        · cases hi
      · cases hi
    · cases hi
  · exact h.elim

theorem lenW_next {ts : Array TypeId} {t : TypeId} {args : Array Value} (h : lenW P (lenI P ts) ts t args w K) : okW K ((Builtin.len_ ts t args).run P w) := by
  unfold lenW at h
  split at h
  · rename_i a n c hi ha
    have ha' : args = #[.slice a n c] := Array.ext' (by simpa using ha)
    unfold lenI at hi
    split at hi
    · rename_i t0 h0
      split at hi
      · rename_i e hu
        subst ha'
        simp only [Builtin.len_, h0, List.getElem?_toArray, List.getElem?_cons_zero, Sem.run_bind, run_und hu, Result.andThen_ok]
        exact h
      · cases hi
      · cases hi
    · cases hi
  · rename_i s hi ha
    have ha' : args = #[.string s] := Array.ext' (by simpa using ha)
    unfold lenI at hi
    split at hi
    · rename_i t0 h0
      split at hi
      · cases hi
      · rename_i hu
        subst ha'
        simp only [Builtin.len_, h0, List.getElem?_toArray, List.getElem?_cons_zero, Sem.run_bind, run_und hu, Result.andThen_ok]
        exact h
      · cases hi
    · cases hi
  · exact h.elim
  · exact h

theorem extrW_next {v : Value} {i : Nat} (h : extrW v i w K) : okW K ((Instr.extract v i).run P w) := by
  unfold extrW at h
  split at h
  · obtain ⟨x, hx, hK⟩ := h
    simp only [Instr.extract, hx]
    exact hK
  · exact h.elim
end sound

theorem binN_W {P : Program} {op : BinOp} {t : TypeId} {c : Bool} {a b : Value} {w : World} {K : VPost} (h : binN P op t c a b w K) : binW P op t c a b w K := by
  unfold binN at h
  split at h
  · exact h
  · exact h.elim
theorem unN_W {P : Program} {op : UnOp} {a : Value} {w : World} {K : VPost} (h : unN P op a w K) : insW P (Op.unary op a) w K := by
  unfold unN at h
  split at h
  · exact h
  · exact h
  · exact h.elim
theorem convN_W {P : Program} {s d : TypeId} {a : Value} {w : World} {K : VPost} (h : convN P s d a w K) : insW P (convert s d a) w K := by
  unfold convN at h
  split at h
  · exact h
  · exact h.elim
theorem bin_cases {P : Program} {op : BinOp} {t : TypeId} {c : Bool} {a b : Value} {w : World} {K : VPost} {g : Bool} (h : match g with | true => binN P op t c a b w K | false => binW P op t c a b w K) : binW P op t c a b w K := by
  cases g
  · exact h
  · exact binN_W h
theorem un_cases {P : Program} {op : UnOp} {a : Value} {w : World} {K : VPost} {g : Bool} (h : match g with | true => unN P op a w K | false => insW P (Op.unary op a) w K) : insW P (Op.unary op a) w K := by
  cases g
  · exact h
  · exact unN_W h
theorem conv_cases {P : Program} {s d : TypeId} {a : Value} {w : World} {K : VPost} {g : Bool} (h : match g with | true => convN P s d a w K | false => insW P (convert s d a) w K) : insW P (convert s d a) w K := by
  cases g
  · exact h
  · exact convN_W h

theorem dyn_next {P : Program} {fr : Fr} {c : Call} {x : Operand} {t : TypeId} {w : World} {K : VPost} (hc : c.callee = .value x) (h : dynW P (evF fr x) (evs fr c.args) w K) :
    nextW P K ((do let d ← resolve (evF fr) c t; invoke d.target d.args : Sem Next).run P w) := by
  unfold dynW at h
  split at h
  · rename_i g fs cs hx
    simp only [resolve, hc, evs_eq, hx, Deferred.ofValue, Sem.run_bind, Sem.run_pure, Result.andThen_ok, invoke]
    exact h
  · exact h.elim

theorem opW_next {md : Bool} {P : Program} {o : Oper} {fr : Fr} {w : World} {K : VPost} (h : opW md P o fr w K) :
    nextW P K ((execOp (evF fr) o).run P w) := by
  unfold opW at h
  cases ho : o.op <;> simp only [ho] at h <;> try (unfold execOp; simp only [ho])
  case move x => exact h
  case assign x => exact h
  case pick c a b =>
    unfold pickW at h
    cases hc : evF fr c <;> simp only [hc] at h
    case bool t =>
      cases t <;> exact h
  case build t ps => rw [evp_eq]; exact okW_next h
  case buildSlice t n ps => rw [evp_eq]; exact okW_next h
  case nilCheck x =>
    unfold nilW at h
    cases hc : evF fr x <;> simp only [hc] at h
    case pointer a =>
      cases a with
      | none => exact h.elim
      | some a => exact h
    case func f x y =>
      cases f <;> first | exact h.elim | exact h
  case binOp op t x y z =>
    rw [guardE_eq]
    exact okW_next (bin_cases h)
  case unOp op t x => exact okW_next (un_cases h)
  case convert s d x => exact okW_next (conv_cases h)
  case makeFunc f fs cs =>
    cases md
    · simpa only [genW, execOp, ho] using h
    · simp only [evs_eq]; exact okW_next h
  case call c =>
    cases hc : c.callee with
    | value x =>
      simp only [hc] at h
      cases x with
      | func f =>
        simp only [fnW] at h
        simp only [resolve, hc, evF, evs_eq]
        simp only [Deferred.ofValue, Sem.run_bind, Sem.run_pure, Result.andThen_ok, invoke, Array.append_empty, List.append_toArray, List.nil_append, Array.empty_append]
        exact h
      | tmp t =>
        cases md
        · simpa only [genW, execOp, ho] using h
        · exact dyn_next hc h
      | const v =>
        cases md
        · simpa only [genW, execOp, ho] using h
        · exact dyn_next hc h
      | global g =>
        cases md
        · simpa only [genW, execOp, ho] using h
        · exact dyn_next hc h
    | invoke r m => simp only [hc] at h; simpa only [genW, execOp, ho] using h
    | builtin b =>
      simp only [hc] at h
      simp only [resolve, hc, evs_eq]
      simp only [Sem.run_bind, Sem.run_pure, Result.andThen_ok, invoke]
      cases b <;> simp only [biW] at h <;> first | exact h.elim | exact okW_next h | exact okW_next (lenW_next h)
  all_goals first
    | exact okW_next h
    | exact okW_next (loadW_next h)
    | exact okU_next (storeW_next h)
    | exact okW_next (boxW_next h)
    | exact okW_next (allocW_next h)
    | exact okW_next (offW_next h)
    | exact okW_next (idxW_next h)
    | exact okW_next (sliceW_next h)
    | exact okW_next (ixvW_next h)
    | exact okW_next (fldW_next h)
    | exact okW_next (extrW_next h)
    | exact okU_next h
    | exact h.elim
    | (simp only [genW, execOp, ho] at h; exact h)

theorem beq_ne {i t : Nat} (h : ¬ t = i) : Nat.beq i t = false := by
  cases hb : Nat.beq i t with
  | false => rfl
  | true => exact absurd (Nat.eq_of_beq_eq_true hb).symm h

theorem blt_of {i n : Nat} (h : i < n) : Nat.blt i n = true := Nat.ble_eq_true_of_le h

theorem blt_not {i n : Nat} (h : ¬ i < n) : Nat.blt i n = false := by
  cases hb : Nat.blt i n with
  | false => rfl
  | true => exact absurd (Nat.le_of_ble_eq_true hb) h

theorem putF_same (n : Nat) (fr : Fr) (t : Nat) (v : Value) (h : t < n) : putF n fr (some t) v t = v := by
  simp only [putF, blt_of h, Nat.beq_refl, Bool.and_self, cond_true]

theorem putF_ne (n : Nat) (fr : Fr) (d : Option Tmp) (v : Value) (i : Nat) (h : d ≠ some i) : putF n fr d v i = fr i := by
  cases d with
  | none => rfl
  | some t => simp only [putF, beq_ne (fun e : t = i => h (congrArg some e)), Bool.false_and, cond_false]

/-- The frame and the function agree. -/
structure Agr (n : Nat) (fr : Fr) (a : Act) : Prop where
  size : a.tmps.size = n
  get : ∀ i, a.tmps.getD i undef = fr i
  defers : a.defers = []

theorem put_size (a : Act) (d : Option Tmp) (v : Value) : (a.put d v).tmps.size = a.tmps.size := by
  cases d <;> simp [Act.put]

theorem put_defers (a : Act) (d : Option Tmp) (v : Value) : (a.put d v).defers = a.defers := by
  cases d <;> simp [Act.put]

theorem put_getD (a : Act) (n : Nat) (hn : a.tmps.size = n) (fr : Fr) (d : Option Tmp) (v : Value) (i : Nat) (h : d ≠ some i → a.tmps.getD i undef = fr i)
    (hb : ∀ t, d = some t → t < n) : (a.put d v).tmps.getD i undef = putF n fr d v i := by
  cases d with
  | none => simpa [Act.put, putF] using h (by simp)
  | some t =>
    have ht := hb t rfl
    by_cases e : t = i
    · subst e
      have : t < a.tmps.size := by rw [hn]; exact ht
      rw [putF_same n fr t v ht]
      simp [Act.put, this]
    · have := h (by simpa using e)
      rw [putF_ne n fr _ v i (by simpa using e)]
      simpa [Act.put, Array.getElem?_setIfInBounds, e] using this

theorem Agr.put {n : Nat} {fr : Fr} {a : Act} (h : Agr n fr a) (d : Option Tmp) (v : Value) : Agr n (putF n fr d v) (a.put d v) := by
  refine ⟨by rw [put_size]; exact h.size, fun i => ?_, by rw [put_defers]; exact h.defers⟩
  cases d with
  | none => simpa [Act.put, putF] using h.get i
  | some t =>
    by_cases ht : t < n
    · exact put_getD a n h.size fr (some t) v i (fun _ => h.get i) (fun t' e => by cases e; exact ht)
    · have : ¬ t < a.tmps.size := by rw [h.size]; exact ht
      have hb : Nat.blt t n = false := blt_not ht
      have hs : a.tmps.setIfInBounds t v = a.tmps := by simp [Array.setIfInBounds, this]
      simp only [Act.put, putF, hb, hs, Bool.and_false, cond_false]
      exact h.get i

theorem Agr.eval {n : Nat} {fr : Fr} {a : Act} (h : Agr n fr a) (x : Operand) : a.eval x = evF fr x := by
  cases x <;> simp only [Act.eval, evF]
  exact h.get _

/-- An operation's transformer serves the model's, where the operands agree. -/
theorem wp_of_nextW {P : Program} {o : Oper} {a : Act} {w : World} {K : VPost} {next : Act → World → Prop} {Q : Exit → Act → World → Prop}
    (h : nextW P K ((execOp a.eval o).run P w)) (hK : ∀ v w', K v w' → next (a.put o.dst v) w') : o.wp P a w next Q := by
  unfold Oper.wp
  cases hr : (execOp a.eval o).run P w with
  | halt x w' => rw [hr] at h; exact h.elim
  | ok nx w' =>
    rw [hr] at h
    cases nx <;> first
      | exact hK _ _ h
      | exact h.elim
      | (rename_i f args
         refine Calls.mono (R := retK K) h (fun e w'' he => ?_)
         cases e <;> first | exact hK _ _ he | exact he.elim)

def isSel (o : Oper) : Bool := match o.op with | .select .. => true | _ => false

theorem not_sel_of_opW {md : Bool} {P : Program} {o : Oper} {fr : Fr} {w : World} {K : VPost} (h : opW md P o fr w K) (cs : Array SelectCase) (b : Bool) : o.op ≠ .select cs b := by
  intro e
  unfold opW at h
  simp only [e] at h

theorem wp_of_opW {md : Bool} {P : Program} {o : Oper} {fr : Fr} {a : Act} {w : World} {K : VPost} {next : Act → World → Prop} {Q : Exit → Act → World → Prop}
    (h : opW md P o fr w K) (he : ∀ x ∈ o.op.operands, a.eval x = evF fr x) (hK : ∀ v w', K v w' → next (a.put o.dst v) w') : o.wp P a w next Q := by
  refine wp_of_nextW (K := K) ?_ hK
  rw [execOp_congr o (not_sel_of_opW h) he]
  exact opW_next h

/-- The slot that an operation of the region writes. -/
abbrev dstOf (ops : Array Oper) (j : Nat) : Option Tmp := (ops[j]?).bind (·.dst)

abbrev gval (ops : Array Oper) (fr : Fr) (j : Nat) : Value := match dstOf ops j with | some d => fr d | none => undef

def guardW (v : Value) (want : Bool) (A B : Prop) : Prop :=
  match v with
  | .bool b => (bif b == want then A else B)
  | _ => B

def gstep (v : Value) (want : Bool) (w : World) (A : VPost → Prop) (K : VPost) : Prop := guardW v want (A K) (K undef w)

/-- An operation behind its guard. -/
abbrev stepV (md : Bool) (P : Program) (ops : Array Oper) (o : Oper) (fr : Fr) (w : World) (K : VPost) : Prop :=
  match o.guard with
  | none => opW md P o fr w K
  | some g => gstep (gval ops fr g.1) g.2 w (fun K => opW md P o fr w K) K

end Go.Proofs.Ytedebapgmfnflaa
