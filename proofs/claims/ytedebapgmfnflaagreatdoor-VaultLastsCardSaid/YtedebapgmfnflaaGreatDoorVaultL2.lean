/- Texts that the law VaultLasts stands on, part 3 of 5. Conditions: see each. -/
import Derived.Test.YtedebapgmfnflaaGreatDoorVaultL1
import Derived.ChangeKeysEq
import Derived.KernelRfl
import Derived.Laws.IdiomStrings
import Derived.Lib.ConvBytes
import Derived.Lib.Strings

/- Bytes as cells; arrays of numbers compared and built; elements of slices. -/
namespace Go.Proofs.YtedebapgmfnflaaGreatDoor
open Go
set_option maxRecDepth 100000

abbrev Bytes := List UInt8
def bv (b : UInt8) : Value := .int .u8 b.toNat
def bc (l : Bytes) : List Value := l.map bv
theorem bc_length (l : Bytes) : (bc l).length = l.length := by simp [bc]
theorem bc_one (l : Bytes) : ∀ x ∈ bc l, x.oneCell' = true := by
  intro x hx
  obtain ⟨b, _, rfl⟩ := List.mem_map.1 hx
  rfl
theorem bv_inj {a b : UInt8} (h : bv a = bv b) : a = b := by
  unfold bv at h
  simp only [Value.int.injEq, true_and] at h
  exact UInt8.toNat_inj.1 (by omega)
theorem bc_inj {a b : Bytes} (h : bc a = bc b) : a = b := by
  induction a generalizing b with
  | nil => cases b with
    | nil => rfl
    | cons y r => simp [bc] at h
  | cons x r ih =>
    cases b with
    | nil => simp [bc] at h
    | cons y s =>
      simp only [bc, List.map_cons, List.cons.injEq] at h
      rw [bv_inj h.1, ih (by simpa [bc] using h.2)]
/-- Bytes with others in the place of some of them. -/
def bspl (l : Bytes) (o : Nat) (b : Bytes) : Bytes := l.take o ++ b ++ l.drop (o + b.length)
theorem bc_spl (l : Bytes) (o : Nat) (b : Bytes) : bc (bspl l o b) = lspl (bc l) o (bc b) := by
  simp [bc, bspl, lspl, List.map_take, List.map_drop]
theorem bspl_length {l : Bytes} {o : Nat} {b : Bytes} (h : o + b.length ≤ l.length) : (bspl l o b).length = l.length := by
  simp [bspl]; omega
theorem bc_part (l : Bytes) (o n : Nat) : ((bc l).drop o).take n = bc ((l.drop o).take n) := by
  simp [bc, List.map_take, List.map_drop]
theorem bc_append (a b : Bytes) : bc (a ++ b) = bc a ++ bc b := by simp [bc]
/-- What owns some blocks has gone on: the named blocks alone may have changed; it has of them, and new ones. -/
structure Mv (F : List Nat) (w : World) (F' : List Nat) (w' : World) : Prop where
  ext : Ext F w w'
  own : ∀ b ∈ F', b ∈ F ∨ w.heap.size ≤ b
theorem Mv.refl (F : List Nat) (w : World) : Mv F w F w := ⟨Ext.refl F w, fun b hb => .inl hb⟩
theorem Mv.trans {F F1 F2 : List Nat} {w w1 w2 : World} (h : Mv F w F1 w1) (k : Mv F1 w1 F2 w2) : Mv F w F2 w2 :=
  ⟨h.ext.step k.ext (fun x hx hlt => by rcases h.own x hx with h1 | h1 <;> first | exact h1 | omega),
   fun b hb => by
    rcases k.own b hb with h1 | h1
    · exact h.own b h1
    · exact .inr (Nat.le_trans h.ext.size h1)⟩
theorem Ext.undrew {S : List Nat} {w w' : World} (h : Ext S w.drew w') : Ext S w w' := ⟨h.os, h.tape, h.output, h.size, h.same⟩
/-- A block that begins with these cells. -/
def PB (w : World) (b : Nat) (cs : List Value) (t : TypeId) : Prop := ∃ rest, Blk w b (cs ++ rest) t
theorem Blk.pb {w : World} {b : Nat} {cs : List Value} {t : TypeId} (h : Blk w b cs t) : PB w b cs t := ⟨[], by rwa [List.append_nil]⟩
theorem PB.keep {w w' : World} {b : Nat} {cs : List Value} {t : TypeId} {S : List Nat} (h : PB w b cs t) (e : Ext S w w') (hn : b ∉ S) : PB w' b cs t := by
  obtain ⟨r, h⟩ := h; exact ⟨r, h.keep e hn⟩
theorem PB.lt {w : World} {b : Nat} {cs : List Value} {t : TypeId} (h : PB w b cs t) : b < w.heap.size := by obtain ⟨r, h⟩ := h; exact h.lt
theorem lspl_app {cs vs rest : List Value} {o : Nat} (h : o + vs.length ≤ cs.length) : lspl (cs ++ rest) o vs = lspl cs o vs ++ rest := by
  unfold lspl
  rw [List.take_append_of_le_length (by omega), List.drop_append_of_le_length (by omega), List.append_assoc, List.append_assoc, List.append_assoc]
theorem PB.loadN {w : World} {K : VPost} {n b o : Nat} {cs : List Value} {t : TypeId} (hb : PB w b cs t) (hn : o + n ≤ cs.length) (h : K (.agg ((cs.drop o).take n).toArray) w) : loadW (some (true, n)) (.pointer (some ⟨b, o, none⟩)) w K := by
  obtain ⟨r, hb⟩ := hb
  refine Go.Proofs.YtedebapgmfnflaaGreatDoor.loadN hb.r (by rw [List.length_append]; omega) ?_
  rw [List.drop_append_of_le_length (by omega), List.take_append_of_le_length (by rw [List.length_drop]; omega)]
  exact h
theorem PB.store {g : Bool} {n b o : Nat} {w : World} {cs vs : List Value} {t : TypeId} {v : Value} {K : World → Prop} (hb : PB w b cs t) (hv : v.cells = vs.toArray) (hn : vs.length = n) (hle : o + n ≤ cs.length)
    (h1 : ∀ x ∈ vs, x.oneCell' = true) (h : ∀ w', Ext [b] w w' → PB w' b (lspl cs o vs) t → w'.heap.size = w.heap.size → K w') : storeW (some (g, n)) (.pointer (some ⟨b, o, none⟩)) v w K := by
  obtain ⟨r, hb⟩ := hb
  refine storeW_i hb hv hn (by rw [List.length_append]; omega) h1 fun w' e hb' hs => h w' e ⟨r, ?_⟩ hs
  rwa [lspl_app (by omega)] at hb'
theorem PB.rd {w : World} {b m s c : Nat} {cs : List Value} {t : TypeId} (hb : PB w b cs t) (hc : cs.length = m * s) : RdSl w (.slice (some ⟨b, 0, none⟩) m c) s cs m := by
  obtain ⟨r, hb⟩ := hb
  exact ⟨hc, .inr ⟨b, 0, c, _, rfl, hb.r, by rw [List.drop_zero, ← hc, List.take_left], by rw [List.length_append]; omega⟩⟩
theorem PB.copy {P : Program} {w : World} {K : VPost} {T T' ty e : TypeId} {i : TypeInfo} {x : Value} {ys cs : List Value} {n m c b o : Nat} {te : TypeId}
    (hu : P.underlying T = some (.slice e)) (hi : P.info? e = some i) (hb : PB w b cs te) (hx : RdSl w x i.size ys m) (h1 : ∀ y ∈ ys, y.oneCell' = true) (hle : o + n * i.size ≤ cs.length)
    (h : ∀ w', Ext [b] w w' → PB w' b (lspl cs o (ys.take (min m n * i.size))) te → w'.heap.size = w.heap.size → K (.int .i64 (min m n : Nat)) w') :
    insW P (Builtin.copy_ #[T, T'] ty #[.slice (some ⟨b, o, none⟩) n c, x]) w K := by
  obtain ⟨r, hb⟩ := hb
  have hmn2 : min m n * i.size ≤ n * i.size := Nat.mul_le_mul_right _ (Nat.min_le_right _ _)
  refine copy_i hu hi hb hx h1 (by rw [List.length_append]; omega) fun w' e hb' hs => h w' e ⟨r, ?_⟩ hs
  rwa [lspl_app (by rw [List.length_take]; omega)] at hb'
/-- A type's zero value, cells and bytes. -/
def tyI (P : Program) (t : TypeId) : Option (Value × Nat × Nat) :=
  match P.info? t with
  | some i => match i.zero with | some z => some (z, i.size, i.bytes) | none => none
  | none => none
theorem tyI_spec {P : Program} {t : TypeId} {z : Value} {s b : Nat} (h : tyI P t = some (z, s, b)) : ∃ i, P.info? t = some i ∧ i.zero = some z ∧ i.size = s ∧ i.bytes = b := by
  unfold tyI at h
  split at h
  · rename_i i hi
    split at h
    · rename_i z' hz
      simp only [Option.some.injEq, Prod.mk.injEq] at h
      obtain ⟨rfl, rfl, rfl⟩ := h
      exact ⟨i, hi, hz, rfl, rfl⟩
    · cases h
  · cases h
theorem ty_u8 : tyI Tryz.prog 5 = some (.int .u8 0, 1, 1) := by kernel_rfl
theorem und_u8s : Tryz.prog.underlying 36 = some (.slice 5) := by kernel_rfl

theorem OwnSl.shape {w : World} {v : Value} {e : TypeId} {s : Nat} {xs : List Value} {n : Nat} (h : OwnSl w v e s xs n) : ∃ a c, v = .slice a n c := h.rd.len
theorem seq_n {B : Fr → World → Prop} {K J : XPost} (h : ∀ e fr w, seqX B K e fr w → J e fr w) {fr : Fr} {w : World} (hb : B fr w) : J .normal fr w := h _ _ _ hb
theorem i64_self {n : Int} (h : -9223372036854775808 ≤ n ∧ n ≤ 9223372036854775807) : IntKind.i64.wrap n = n := by rw [IntKind.wrap_i64]; omega
theorem lspl_two (Z : List Value) (x : Value) (l : List Value) (h : Z.length = 1 + l.length) : lspl (lspl Z 0 [x]) 1 l = x :: l := by
  have := lspl_lspl Z 0 [x] l (by simp; omega)
  simp only [List.length_singleton, Nat.zero_add] at this
  rw [this]
  unfold lspl
  rw [List.drop_of_length_le (by simp; omega)]
  simp

theorem blk_x {K : XPost} {id : Nat} {fr : Fr} {w : World} (h : K .normal fr w) : blkX id K (.exit id) fr w := by
  unfold blkX; simp only [Nat.beq_refl]; exact h
theorem bc_zeros (n : Nat) : bc (List.replicate n 0) = List.replicate n (.int .u8 0) := by simp [bc, bv]
theorem lspl_all {cs vs : List Value} (h : cs.length = vs.length) : lspl cs 0 vs = vs := by
  unfold lspl
  rw [List.drop_of_length_le (by omega)]
  simp
theorem bspl_all {cs vs : Bytes} (h : cs.length = vs.length) : bspl cs 0 vs = vs := by
  unfold bspl
  rw [List.drop_of_length_le (by omega)]
  simp
theorem max_e {P : Program} {ts : Array TypeId} {ty : TypeId} {k : IntKind} {x y : Int} {w : World} {K : VPost} : insW P (Builtin.max_ ts ty #[.int k x, .int k y]) w K = K (.int k (max x y)) w := by
  unfold insW Builtin.max_
  simp only [List.foldlM_cons, List.foldlM_nil, Builtin.max2, Sem.run_bind, Sem.run_pure, Result.andThen_ok, okW]
  have : (if y > x then y else x) = max x y := by
    rw [Int.max_def]; split <;> split <;> omega
  rw [this]
theorem min_e {P : Program} {ts : Array TypeId} {ty : TypeId} {k : IntKind} {x y : Int} {w : World} {K : VPost} : insW P (Builtin.min_ ts ty #[.int k x, .int k y]) w K = K (.int k (min x y)) w := by
  unfold insW Builtin.min_
  simp only [List.foldlM_cons, List.foldlM_nil, Builtin.min2, Sem.run_bind, Sem.run_pure, Result.andThen_ok, okW]
  have : (if y < x then y else x) = min x y := by
    rw [Int.min_def]; split <;> split <;> omega
  rw [this]

theorem slArr_i {b n sz : Nat} {w : World} {K : VPost} (h : K (.slice (some ⟨b, 0, none⟩) n n) w) : sliceW (.arr n sz) (.pointer (some ⟨b, 0, none⟩)) none none none w K := by
  refine ⟨by simp, 0, n, n, rfl, rfl, rfl, Nat.zero_le _, by simp, Nat.le_refl _, ?_⟩
  have : (if n = 0 then (⟨b, 0, none⟩ : Addr) else Addr.add ⟨b, 0, none⟩ (0 * sz)) = ⟨b, 0, none⟩ := by
    rw [add_addr]; simp
  show K (.slice (some (if n = 0 then (⟨b, 0, none⟩ : Addr) else Addr.add ⟨b, 0, none⟩ (0 * sz))) (n - 0) (n - 0)) w
  rw [this]; simpa using h

theorem conv_int {P : Program} {s t : TypeId} {d : TypeDesc} {k k' : IntKind} {x : Int} {w : World} {K : VPost} (hu : P.underlying s = some d) (hu' : P.underlying t = some (.int k)) :
    insW P (convert s t (.int k' x)) w K = K (.int k (k.wrap x)) w := by
  unfold insW convert
  simp only [Sem.run_bind, run_und hu, run_und hu', Result.andThen_ok]
  rfl
theorem slA_to {b o n sz k : Nat} {w : World} {K : VPost} {kk : IntKind} (hk : k ≤ n) (h : K (.slice (some ⟨b, o, none⟩) k n) w) : sliceW (.arr n sz) (.pointer (some ⟨b, o, none⟩)) none (some (.int kk k)) none w K := by
  refine ⟨by simp, 0, k, n, rfl, rfl, rfl, Nat.zero_le _, by simpa using hk, Nat.le_refl _, ?_⟩
  show K (.slice (some (if n = 0 then (⟨b, o, none⟩ : Addr) else Addr.add ⟨b, o, none⟩ (0 * sz))) (k - 0) (n - 0)) w
  rw [add_addr]; simpa using h
theorem slA_from {b o n sz l : Nat} {w : World} {K : VPost} {kk : IntKind} (hl : l ≤ n) (h : K (.slice (some (if n = l then ⟨b, o, none⟩ else ⟨b, o + l * sz, none⟩)) (n - l) (n - l)) w) :
    sliceW (.arr n sz) (.pointer (some ⟨b, o, none⟩)) (some (.int kk l)) none none w K := by
  refine ⟨by simp, l, n, n, rfl, rfl, rfl, hl, by simp, Nat.le_refl _, ?_⟩
  show K (.slice (some (if n = l then (⟨b, o, none⟩ : Addr) else Addr.add ⟨b, o, none⟩ (l * sz))) (n - l) (n - l)) w
  rw [add_addr]; exact h
theorem lspl_nil (cs : List Value) (o : Nat) : lspl cs o [] = cs := by simp [lspl]

theorem getD_lt {l : Bytes} {i : Nat} (h : i < l.length) : (bc l)[i]? = some (bv (l.getD i 0)) := by
  simp [bc, List.getElem?_map, h]
/-- An element of a slice that may be read. -/
theorem RdSl.at1 {w : World} {v : Value} {l : Bytes} {i : Nat} {m : Nat} (h : RdSl w v 1 (bc l) m) (hi : i < l.length) (k : IntKind) :
    ∃ b o, (∀ K : VPost, K (.pointer (some ⟨b, o, none⟩)) w → idxW (some (none, 1)) v (.int k i) w K) ∧ (∀ K : VPost, K (bv (l.getD i 0)) w → loadW (some (false, 1)) (.pointer (some ⟨b, o, none⟩)) w K) := by
  obtain ⟨hl, ⟨h0, _⟩ | ⟨b, o, c, cs, rfl, hb, h1, h2⟩⟩ := h
  · have := congrArg List.length h0
    rw [bc_length, List.length_nil] at this
    omega
  · rw [bc_length] at hl
    refine ⟨b, o + i * 1, fun K hK => idx_i (by omega) hK, fun K hK => load1 hb ?_ hK⟩
    have := getD_lt hi
    rw [← h1, List.getElem?_take, if_pos (by omega), List.getElem?_drop] at this
    rw [Nat.mul_one]; exact this

section
variable {P : Program} {w : World} {K : VPost}
theorem eqItems_ints {e : TypeId} {k : IntKind} (he : P.underlying e = some (.int k)) (hp : P.plainKey e = true) (d : Nat) (xs ys : List Int) : ∀ (is : List Nat), (∀ i ∈ is, i < xs.length ∧ i < ys.length) →
    (Op.eqItems (d + 1) e 1 (xs.map (Value.int k)).toArray (ys.map (Value.int k)).toArray is).run P w = .ok (decide (∀ i ∈ is, xs[i]? = ys[i]?)) w := by
  intro is
  induction is with
  | nil => intro _; simp [Op.eqItems]
  | cons i is ih =>
    intro h
    have h0 := h i List.mem_cons_self
    have hx : (xs.map (Value.int k)).toArray[i * 1]? = some (.int k xs[i]) := by simp [h0.1]
    have hy : (ys.map (Value.int k)).toArray[i * 1]? = some (.int k ys[i]) := by simp [h0.2]
    have he' : (Op.equalIn (d + 1) e (.int k xs[i]) (.int k ys[i])).run P w = .ok (xs[i] == ys[i]) w := by
      unfold Op.equalIn
      rw [Sem.run_bind, run_und he]
      simp
    simp only [Op.eqItems, Sem.run_bind, run_part_plain w hp hx, run_part_plain w hp hy, he', Result.andThen_ok]
    have ih := ih (fun j hj => h j (List.mem_cons_of_mem _ hj))
    by_cases hq : xs[i] = ys[i]
    · simp only [hq, beq_self_eq_true, Bool.not_true, Bool.false_eq_true, if_false, ih, List.mem_cons, forall_eq_or_imp, h0.1, h0.2, List.getElem?_eq_getElem, true_and]
    · have : (xs[i] == ys[i]) = false := by simpa using hq
      simp only [this, Bool.not_false, if_true, Sem.run_pure, List.mem_cons, forall_eq_or_imp, h0.1, h0.2, List.getElem?_eq_getElem, Option.some.injEq, hq, false_and, decide_false]
theorem equal_ints {t e : TypeId} {n : Nat} {i : TypeInfo} {k : IntKind} (hu : P.underlying t = some (.array n e)) (hi : P.info? e = some i) (he : P.underlying e = some (.int k)) (hp : P.plainKey e = true) (hc : P.cellsOf e = 1)
    (xs ys : List Int) (hx : xs.length = n) (hy : ys.length = n) : (Op.equal t (.agg (xs.map (Value.int k)).toArray) (.agg (ys.map (Value.int k)).toArray)).run P w = .ok (decide (xs = ys)) w := by
  show (Op.equalIn (9999 + 1) t _ _).run P w = _
  rw [run_equalIn_array w _ _ _ hu hi, hc, eqItems_ints he hp 9998 xs ys _ (by intro j hj; have := List.mem_range.1 hj; omega)]
  congr 2
  rw [eq_iff_iff]
  constructor
  · intro h
    apply List.ext_getElem?
    intro j
    by_cases hj : j < n
    · exact h j (List.mem_range.2 hj)
    · rw [List.getElem?_eq_none (by omega), List.getElem?_eq_none (by omega)]
  · intro h; subst h; intro _ _; rfl
theorem guard_agg {op : BinOp} {t : TypeId} {c : Bool} {xs ys : Array Value} (hg : P.eqGuardType P.depth t = false) (w : World) : (guardE op t c (.agg xs) (.agg ys)).run P w = .ok () w := by
  unfold guardE eqGuard
  cases op <;> simp [Sem.run_bind, Go.program, Sem.run, hg, Result.andThen]
theorem bin_ints_eql {t e : TypeId} {n : Nat} {c : Bool} {i : TypeInfo} {k : IntKind} (hu : P.underlying t = some (.array n e)) (hi : P.info? e = some i) (he : P.underlying e = some (.int k)) (hp : P.plainKey e = true) (hc : P.cellsOf e = 1) (hg : P.eqGuardType P.depth t = false)
    (xs ys : List Int) (hx : xs.length = n) (hy : ys.length = n) : binW P .eql t c (.agg (xs.map (Value.int k)).toArray) (.agg (ys.map (Value.int k)).toArray) w K = K (.bool (decide (xs = ys))) w :=
  bin_equal (guard_agg hg) rfl (equal_ints hu hi he hp hc xs ys hx hy)
theorem bin_ints_neq {t e : TypeId} {n : Nat} {c : Bool} {i : TypeInfo} {k : IntKind} (hu : P.underlying t = some (.array n e)) (hi : P.info? e = some i) (he : P.underlying e = some (.int k)) (hp : P.plainKey e = true) (hc : P.cellsOf e = 1) (hg : P.eqGuardType P.depth t = false)
    (xs ys : List Int) (hx : xs.length = n) (hy : ys.length = n) : binW P .neq t c (.agg (xs.map (Value.int k)).toArray) (.agg (ys.map (Value.int k)).toArray) w K = K (.bool (!decide (xs = ys))) w :=
  bin_nequal (guard_agg hg) rfl (equal_ints hu hi he hp hc xs ys hx hy)
theorem slice_eql_nil {t e : TypeId} {c : Bool} {a : Option Addr} {n m : Nat} (hu : P.underlying t = some (.slice e)) : binW P .eql t c (.slice a n m) (.slice none 0 0) w K = K (.bool a.isNone) w := by
  refine bin_equal (fun _ => by cases c <;> rfl) rfl ?_
  show (Op.equalIn (9999 + 1) t _ _).run P w = _
  unfold Op.equalIn
  rw [Sem.run_bind, run_und hu]
  cases a <;> rfl
end

theorem bc_ints (l : Bytes) : bc l = (l.map fun b => (b.toNat : Int)).map (Value.int .u8) := by simp [bc, bv]
theorem ints_inj (a b : Bytes) : (a.map fun b => (b.toNat : Int)) = (b.map fun b => (b.toNat : Int)) ↔ a = b := by
  constructor
  · intro h
    exact bc_inj (by rw [bc_ints, bc_ints, h])
  · intro h; rw [h]

def fillA (s : Nat) : List Value → List (Nat × Value) → Option (List Value)
  | cs, [] => some cs
  | cs, (i, v) :: r => if v.cells.size = s ∧ i * s + s ≤ cs.length then fillA s (lspl cs (i * s) v.cells.toList) r else none
theorem fill_A {s : Nat} : ∀ {parts : List (Nat × Value)} {cs out : List Value}, fillA s cs parts = some out → Instr.fill (fun i => some (i * s, s)) cs.toArray parts = some out.toArray := by
  intro parts
  induction parts with
  | nil => intro cs out h; simp only [fillA, Option.some.injEq] at h; subst h; rfl
  | cons p r ih =>
    intro cs out h
    obtain ⟨i, v⟩ := p
    unfold fillA at h
    split at h
    · rename_i hc
      obtain ⟨h1, h2⟩ := hc
      subst h1
      rw [fill_cons rfl h2]
      exact ih h
    · cases h
theorem buildA_i {P : Program} {w : World} {K : VPost} {t e : TypeId} {n : Nat} {ti ei : TypeInfo} {z : Value} {parts : List (Nat × Value)} {out : List Value} (hu : P.underlying t = some (.array n e)) (hi : P.info? t = some ti) (hz : ti.zero = some z) (he : P.info? e = some ei)
    (hf : fillA ei.size z.cells.toList parts = some out) (h : K (.agg out.toArray) w) : insW P (Instr.build t parts.toArray) w K := by
  refine insW_ok ?_ h
  unfold Instr.build
  have hzr : (zeroValue t).run P w = .ok z w := by
    unfold zeroValue; simp only [Sem.run_bind, run_info hi, Result.andThen_ok, hz, Sem.run_pure]
  simp only [Sem.run_bind, hzr, Result.andThen_ok, run_und hu, run_size he]
  have := fill_A hf
  rw [Array.toArray_toList] at this
  simp only [this, Sem.run_pure]

section
variable {P : Program} {w : World} {K : VPost}
theorem bin_and {t : TypeId} {c : Bool} {k : IntKind} {x y : Int} : binW P .and t c (.int k x) (.int k y) w K = K (.int k (k.wrap (BitVec.ofInt k.bits x &&& BitVec.ofInt k.bits y).toNat)) w := by
  simp [binW, binE, guardE, eqGuard, binOp, Op.intBits, insW, okW, Sem.run_bind]
theorem and_mask (x : Int) (n : Nat) (hn : n < 63) : IntKind.i64.wrap (BitVec.ofInt IntKind.i64.bits x &&& BitVec.ofInt IntKind.i64.bits (2 ^ n - 1)).toNat = x % 2 ^ n := by
  have hb : IntKind.i64.bits = 64 := rfl
  have hp : (2 : Nat) ^ n < 2 ^ 63 := Nat.pow_lt_pow_right (by decide) hn
  have hp0 : 0 < (2 : Nat) ^ n := Nat.two_pow_pos n
  have hm : (BitVec.ofInt IntKind.i64.bits (2 ^ n - 1)).toNat = 2 ^ n - 1 := by
    rw [BitVec.toNat_ofInt, hb]
    have : ((2 : Int) ^ n - 1) = ((2 ^ n - 1 : Nat) : Int) := by
      rw [Int.ofNat_sub hp0]; simp
    rw [this]
    omega
  rw [BitVec.toNat_and, hm, Nat.and_two_pow_sub_one_eq_mod, BitVec.toNat_ofInt, hb]
  have hd : (2 ^ n : Int) ∣ ((2 ^ 64 : Nat) : Int) := ⟨2 ^ (64 - n), by
    rw [← Int.pow_add, show n + (64 - n) = 64 by omega]; rfl⟩
  have e1 : (((x % ((2 ^ 64 : Nat) : Int)).toNat % 2 ^ n : Nat) : Int) = x % 2 ^ n := by
    rw [Int.natCast_emod, Int.toNat_of_nonneg (Int.emod_nonneg _ (by decide))]
    simp only [Int.natCast_pow, Int.cast_ofNat_Int] at hd ⊢
    exact Int.emod_emod_of_dvd x hd
  rw [e1]
  have h2 : (0 : Int) < 2 ^ n := by exact_mod_cast hp0
  have h3 : ((2 : Int) ^ n) < 2 ^ 63 := by exact_mod_cast hp
  have h4 := Int.emod_nonneg x (show (2 : Int) ^ n ≠ 0 by omega)
  have h5 := Int.emod_lt_of_pos x h2
  rw [IntKind.wrap_i64]
  omega
end

theorem RdSl.ltb {w : World} {v : Value} {s m : Nat} {ys : List Value} (h : RdSl w v s ys m) (h0 : 0 < ys.length) : ∀ b ∈ slB v, b < w.heap.size := by
  obtain ⟨_, ⟨rfl, _⟩ | ⟨b, o, c, cs, rfl, hb, _⟩⟩ := h
  · exact absurd h0 (Nat.lt_irrefl _)
  · intro x hx
    simp [slB] at hx; subst hx
    exact hb.lt
theorem flat_get {α : Type} (f : α → List Value) (s : Nat) : ∀ (l : List α), (∀ x ∈ l, (f x).length = s) → ∀ (i : Nat) (h : i < l.length), ((l.flatMap f).drop (i * s)).take s = f l[i] := by
  intro l
  induction l with
  | nil => intro _ i h; exact absurd h (Nat.not_lt_zero _)
  | cons x r ih =>
    intro hl i h
    have h0 := hl x List.mem_cons_self
    rw [List.flatMap_cons]
    cases i with
    | zero =>
      rw [Nat.zero_mul, List.drop_zero, List.take_append_of_le_length (by omega), List.take_of_length_le (by omega)]
      rfl
    | succ i =>
      rw [Nat.add_mul, Nat.one_mul, Nat.add_comm (i * s) s, ← List.drop_drop, List.drop_append_of_le_length (by omega), List.drop_of_length_le (l := f x) (by omega), List.nil_append]
      exact ih (fun y hy => hl y (List.mem_cons_of_mem _ hy)) i (by simpa using h)
theorem flat_len {α : Type} (f : α → List Value) (s : Nat) : ∀ (l : List α), (∀ x ∈ l, (f x).length = s) → (l.flatMap f).length = l.length * s := by
  intro l
  induction l with
  | nil => intro _; simp
  | cons x r ih =>
    intro h
    rw [List.flatMap_cons, List.length_append, h x List.mem_cons_self, ih (fun y hy => h y (List.mem_cons_of_mem _ hy)), List.length_cons, Nat.add_mul]
    omega
/-- An element of a slice that may be read, by its cells. -/
theorem RdSl.elem {w : World} {v : Value} {s m i : Nat} {ys : List Value} (h : RdSl w v s ys m) (hi : i < m) (hs : 0 < s) (k : IntKind) :
    ∃ b o cs, (∀ K : VPost, K (.pointer (some ⟨b, o, none⟩)) w → idxW (some (none, s)) v (.int k i) w K) ∧ RBlk w b cs ∧ o + s ≤ cs.length ∧ (cs.drop o).take s = (ys.drop (i * s)).take s := by
  obtain ⟨hl, ⟨rfl, _⟩ | ⟨b, o, c, cs, rfl, hb, h1, h2⟩⟩ := h
  · have : 0 < m * s := Nat.mul_pos (by omega) hs
    rw [List.length_nil] at hl
    omega
  · have hi2 : i * s + s ≤ m * s := by
      have := Nat.mul_le_mul_right s (show i + 1 ≤ m from hi)
      rw [Nat.add_mul, Nat.one_mul] at this; exact this
    refine ⟨b, o + i * s, cs, fun K hK => idx_i hi hK, hb, by omega, ?_⟩
    rw [← h1, List.drop_take, List.take_take, List.drop_drop, Nat.min_eq_left (by omega)]
theorem at_get {cs ys : List Value} {o s j : Nat} (h : (cs.drop o).take s = ys) (hj : j < s) : cs[o + j]? = ys[j]? := by
  rw [← h, List.getElem?_take, if_pos hj, List.getElem?_drop]
theorem at_part {cs ys : List Value} {o s j n : Nat} (h : (cs.drop o).take s = ys) (hj : j + n ≤ s) : (cs.drop (o + j)).take n = (ys.drop j).take n := by
  rw [← h, List.drop_take, List.take_take, List.drop_drop, Nat.min_eq_left (by omega)]
def i64ok (x : Int) : Prop := -9223372036854775808 ≤ x ∧ x ≤ 9223372036854775807
theorem wf_i64 {n : Int} (h : (Lit.int .i64 n).wf = true) : i64ok n := by
  simp [Lit.wf] at h
  have k1 : IntKind.i64.min = -9223372036854775808 := by decide
  have k2 : IntKind.i64.max = 9223372036854775807 := by decide
  have k3 : n ≤ IntKind.i64.max := by have := h.2; omega
  exact ⟨by omega, by omega⟩
end Go.Proofs.YtedebapgmfnflaaGreatDoor

/- Bytes as new memory; bytes compared: by contracts. Words; SHA-256 as plain Lean; rows. -/
namespace Go.Proofs.YtedebapgmfnflaaGreatDoor
open Go
set_option maxRecDepth 100000

/-- Bytes as new memory. -/
theorem copyBytes_c {w : World} {v : Value} {l : Bytes} (hv : RdSl w v 1 (bc l) l.length) (hl : l.length ≤ 2 ^ 30) {K : VPost}
    (hK : ∀ v' w', OwnSl w' v' 5 1 (bc l) l.length → Ext [] w w' → (∀ b ∈ slB v', w.heap.size ≤ b) → K v' w') :
    Calls Tryz.prog 10 #[v] w (retK K) := by
  refine c10_calls _ w K ?_
  unfold c10
  obtain ⟨ui, hui, huz, husz, huby⟩ := tyI_spec ty_u8
  refine buildSlice_i (vs := []) und_u8s hui huz rfl (by simp) (by simp) fun b1 w1 hb1 e1 hk1 hs1 => ?_
  refine append_i (ys := bc l) (m := l.length) (xs := []) (n := 0) und_u8s und_u8s hui huz (by rw [husz]; rfl) (by rw [huby]; decide) (.inr ⟨b1, 0, [], rfl, by simpa [flatV] using hk1, by simp, by simp, Nat.le_refl _⟩) (by rw [husz]; exact hv.keep e1 (by simp)) (bc_one _) (by rw [huby]; omega) fun v2 w2 hv2 e2 hb2 => ?_
  rw [husz, Nat.zero_add, List.nil_append] at hv2
  refine hK v2 w2 hv2 (((Ext.refl [] w).new e1).step e2 (by intro x hx hlt; simp [slB] at hx; omega)) ?_
  intro b hb
  rcases hb2 with e | ⟨b', e, hge⟩
  · rw [e] at hb; simp [slB] at hb; omega
  · rw [e] at hb; simp at hb; omega
theorem sameBytes_c {w : World} {v v' : Value} {l l' : Bytes} (hv : RdSl w v 1 (bc l) l.length) (hv' : RdSl w v' 1 (bc l') l'.length) (hl : l.length < 2 ^ 62) {K : VPost}
    (hK : ∀ w', Ext [] w w' → K (.bool (decide (l = l'))) w') :
    Calls Tryz.prog 14 #[v, v'] w (retK K) := by
  refine c14_calls _ _ w K ?_
  unfold c14
  obtain ⟨a, c, hva⟩ := hv.len
  obtain ⟨a', c', hva'⟩ := hv'.len
  have hl1 : ∀ (w : World) (K : VPost), lenW Tryz.prog (some true) #[36] 3 #[v] w K = K (.int .i64 l.length) w := fun w K => by rw [hva, len_s]
  have hl2 : ∀ (w : World) (K : VPost), lenW Tryz.prog (some true) #[36] 3 #[v'] w K = K (.int .i64 l'.length) w := fun w K => by rw [hva', len_s]
  simp only [hl1, hl2, bin_neq]
  refine cond_b (fun hc => ?_) (fun hc => ?_)
  · have hne : ¬ l = l' := fun e => by subst e; simp at hc
    have := hK w (Ext.refl _ _)
    simpa [hne] using this
  · have hll : l.length = l'.length := by simp at hc; omega
    refine bindX_i fun J0 h0 => bindX_i fun J1 h1 => bindX_i fun J2 h2 => ?_
    refine loop_i (fun m fr w1 => ∃ k : Nat, m = l.length - k ∧ k ≤ l.length ∧ fr 0 = v ∧ fr 1 = v' ∧ fr 5 = .int .i64 k ∧ l.take k = l'.take k ∧ Ext [] w w1) l.length ?_ ?_
    · exact ⟨0, rfl, Nat.zero_le _, rfl, rfl, rfl, rfl, Ext.refl _ _⟩
    · rintro m fr w1 J ⟨k, rfl, hk, f0, f1, f5, heq, e1⟩ hJ hX
      simp only [f0, f1, f5, hl1, bin_lss]
      refine cond_d (fun hlt => ?_) (fun hlt => ?_)
      · have hlt : k < l.length := by omega
        have e2 : Ext [] w w1.drew := e1.new (Ext.drew _ _)
        generalize w1.drew = w2 at *
        obtain ⟨b, o, hix, hld⟩ := (hv.keep e2 (by simp)).at1 hlt .i64
        obtain ⟨b', o', hix', hld'⟩ := (hv'.keep e2 (by simp)).at1 (i := k) (by omega) .i64
        refine hix _ (hld _ (hix' _ (hld' _ ?_)))
        unfold bv
        simp only [bin_neq]
        refine ⟨trivial, cond_b (fun hc => ?_) (fun hc => ?_)⟩
        · have hne : ¬ l = l' := fun e => by subst e; simp at hc
          refine hX _ _ _ (by simp) (h2 _ _ _ (h1 _ _ _ (h0 _ _ _ ?_)))
          have := hK w2 e2
          show K (Value.bool false) w2
          simpa [hne] using this
        · have heq1 : l.getD k 0 = l'.getD k 0 := by
            have : ((l.getD k 0).toNat : Int) = ((l'.getD k 0).toNat : Int) := by simpa using hc
            exact UInt8.toNat_inj.1 (by omega)
          simp only [bin_add]
          rw [i64_self (by omega)]
          refine hJ (l.length - (k + 1)) _ _ (by omega) ⟨k + 1, rfl, hlt, f0, f1, ?_, ?_, e2⟩
          · show Value.int .i64 ((k : Int) + 1) = _
            simp
          · have hlt' : k < l'.length := by omega
            rw [List.take_succ_eq_append_getElem hlt, List.take_succ_eq_append_getElem hlt', heq]
            simp only [List.getD_eq_getElem?_getD, List.getElem?_eq_getElem hlt, List.getElem?_eq_getElem hlt', Option.getD_some] at heq1
            rw [heq1]
      · have hkn : k = l.length := by omega
        subst hkn
        rw [List.take_length, hll, List.take_length] at heq
        refine hX _ _ _ (by simp) (h2 _ _ _ (blk_x (seq_n h1 ?_)))
        have := hK w1 e1
        simpa [heq] using this

def uv (x : UInt32) : Value := .int .u32 x.toNat
def uc (l : List UInt32) : List Value := l.map uv
theorem uc_length (l : List UInt32) : (uc l).length = l.length := by simp [uc]
theorem uc_one (l : List UInt32) : ∀ x ∈ uc l, x.oneCell' = true := by
  intro x hx
  obtain ⟨b, _, rfl⟩ := List.mem_map.1 hx
  rfl
theorem uc_get {l : List UInt32} {i : Nat} (h : i < l.length) : (uc l)[i]? = some (uv (l.getD i 0)) := by
  simp [uc, List.getElem?_map, h]
theorem bc_get {l : Bytes} {i : Nat} (h : i < l.length) : (bc l)[i]? = some (bv (l.getD i 0)) := by
  simp [bc, List.getElem?_map, h]
theorem uc_append (a b : List UInt32) : uc (a ++ b) = uc a ++ uc b := by simp [uc]
theorem uc_set (l : List UInt32) (i : Nat) (x : UInt32) : (uc l).set i (uv x) = uc (l.set i x) := by simp [uc, List.map_set]
theorem bc_set (l : Bytes) (i : Nat) (x : UInt8) : (bc l).set i (bv x) = bc (l.set i x) := by simp [bc, List.map_set]

section
variable {P : Program} {w : World} {K : VPost} {t : TypeId} {c : Bool}

theorem wrap_u32n (n : Nat) : IntKind.u32.wrap (n : Int) = ((n % 4294967296 : Nat) : Int) := by
  rw [IntKind.wrap_u32]; omega

theorem u32_add {a b : UInt32} : binN P .add t c (uv a) (uv b) w K = K (uv (a + b)) w := by
  show binW P .add t c (uv a) (uv b) w K = _
  unfold uv
  rw [bin_add, ← Int.natCast_add, wrap_u32n, UInt32.toNat_add]

theorem ofInt_u32 (a : UInt32) : BitVec.ofInt IntKind.u32.bits ((a.toNat : Nat) : Int) = a.toBitVec := by
  apply BitVec.eq_of_toNat_eq
  rw [BitVec.toNat_ofInt]
  have := a.toNat_lt
  show (((a.toNat : Nat) : Int) % ((2 ^ 32 : Nat) : Int)).toNat = a.toNat
  omega

theorem bits_u32 {op : BinOp} {f : BitVec 32 → BitVec 32 → BitVec 32} (x y : UInt32) (hb : binOp op t (uv x) (uv y) = (pure (.int .u32 (IntKind.u32.wrap ((f (BitVec.ofInt 32 (x.toNat : Int)) (BitVec.ofInt 32 (y.toNat : Int))).toNat : Nat))) : Sem Value)) (hg : ∀ w, (guardE op t c (uv x) (uv y)).run P w = .ok () w) :
    binW P op t c (uv x) (uv y) w K = K (.int .u32 ((f x.toBitVec y.toBitVec).toNat : Nat)) w := by
  unfold binW insW binE
  rw [Sem.run_bind, hg, Result.andThen_ok, hb, Sem.run_pure]
  have h1 : BitVec.ofInt 32 ((x.toNat : Nat) : Int) = x.toBitVec := ofInt_u32 x
  have h2 : BitVec.ofInt 32 ((y.toNat : Nat) : Int) = y.toBitVec := ofInt_u32 y
  rw [h1, h2, wrap_u32n]
  have := (f x.toBitVec y.toBitVec).isLt
  rw [Nat.mod_eq_of_lt (by omega)]
  rfl

theorem u32_xor {a b : UInt32} : binN P .xor t c (uv a) (uv b) w K = K (uv (a ^^^ b)) w := by
  show binW P .xor t c (uv a) (uv b) w K = _
  rw [bits_u32 (f := (· ^^^ ·)) a b rfl (fun _ => by cases c <;> rfl)]
  rfl
theorem u32_and {a b : UInt32} : binN P .and t c (uv a) (uv b) w K = K (uv (a &&& b)) w := by
  show binW P .and t c (uv a) (uv b) w K = _
  rw [bits_u32 (f := (· &&& ·)) a b rfl (fun _ => by cases c <;> rfl)]
  rfl
theorem u32_or {a b : UInt32} : binN P .or t c (uv a) (uv b) w K = K (uv (a ||| b)) w := by
  show binW P .or t c (uv a) (uv b) w K = _
  rw [bits_u32 (f := (· ||| ·)) a b rfl (fun _ => by cases c <;> rfl)]
  rfl
theorem u32_not {a : UInt32} : unN P .xor (uv a) w K = K (uv (~~~ a)) w := by
  show insW P (Op.unary .xor (uv a)) w K = _
  unfold insW
  have : Op.unary .xor (uv a) = (pure (.int .u32 (IntKind.u32.wrap ((BitVec.ofInt 32 (4294967295 : Int) ^^^ BitVec.ofInt 32 (a.toNat : Int)).toNat : Nat))) : Sem Value) := rfl
  rw [this, Sem.run_pure]
  have h1 : BitVec.ofInt 32 ((a.toNat : Nat) : Int) = a.toBitVec := ofInt_u32 a
  rw [h1, wrap_u32n]
  have h2 : BitVec.ofInt 32 (4294967295 : Int) = BitVec.allOnes 32 := by decide
  rw [h2, BitVec.allOnes_xor]
  have := (~~~ a.toBitVec).isLt
  rw [Nat.mod_eq_of_lt (by omega)]
  rfl
theorem u32_shl {a : UInt32} {k : IntKind} {s : Nat} (h : s < 32) : binN P .shl t c (uv a) (.int k s) w K = K (uv (a <<< UInt32.ofNat s)) w := by
  show binW P .shl t c (uv a) (.int k s) w K = _
  unfold uv
  rw [bin_shl (by omega)]
  congr 2
  have h1 : min ((s : Int).toNat) IntKind.u32.bits = s := by
    show min ((s : Int).toNat) 32 = s
    omega
  rw [h1]
  have h2 : ((a.toNat : Int) * 2 ^ s) = ((a.toNat * 2 ^ s : Nat) : Int) := by rw [Int.natCast_mul, Int.natCast_pow]; rfl
  rw [h2, wrap_u32n, UInt32.toNat_shiftLeft]
  congr 1
  rw [UInt32.toNat_ofNat', Nat.mod_eq_of_lt (show s < 2 ^ 32 by omega), Nat.mod_eq_of_lt h, Nat.shiftLeft_eq]
theorem u32_shr {a : UInt32} {k : IntKind} {s : Nat} (h : s < 32) : binN P .shr t c (uv a) (.int k s) w K = K (uv (a >>> UInt32.ofNat s)) w := by
  show binW P .shr t c (uv a) (.int k s) w K = _
  unfold uv
  rw [bin_shr (by omega)]
  congr 2
  have h1 : min ((s : Int).toNat) IntKind.u32.bits = s := by
    show min ((s : Int).toNat) 32 = s
    omega
  rw [h1]
  have h2 : (2 : Int) ^ s = ((2 ^ s : Nat) : Int) := by rw [Int.natCast_pow]; rfl
  rw [h2, UInt32.toNat_shiftRight, UInt32.toNat_ofNat', Nat.mod_eq_of_lt (show s < 2 ^ 32 by omega), Nat.mod_eq_of_lt h, Nat.shiftRight_eq_div_pow]
  exact (Int.ofNat_fdiv _ _).symm
theorem u32_bits {k : IntKind} (a : UInt32) : a.toNat < 4294967296 := a.toNat_lt

def u8w (b : UInt8) : UInt32 := UInt32.ofNat b.toNat
theorem u8w_nat (b : UInt8) : (u8w b).toNat = b.toNat := by
  unfold u8w
  have := b.toNat_lt
  rw [UInt32.toNat_ofNat', Nat.mod_eq_of_lt (by omega)]
theorem conv_u8w {s d : TypeId} {td : TypeDesc} {b : UInt8} (hu : P.underlying s = some td) (hu' : P.underlying d = some (.int .u32)) : convN P s d (bv b) w K = K (uv (u8w b)) w := by
  show insW P (convert s d (bv b)) w K = _
  unfold bv uv
  rw [conv_int hu hu', wrap_u32n, u8w_nat]
  have := b.toNat_lt
  rw [Nat.mod_eq_of_lt (by omega)]
theorem wrap_u8n (n : Nat) : IntKind.u8.wrap (n : Int) = ((UInt8.ofNat n).toNat : Int) := by
  rw [IntKind.wrap_u8, UInt8.toNat_ofNat']; omega
/-- A number's last byte. -/
theorem conv_byte {s d : TypeId} {td : TypeDesc} {k : IntKind} {n : Nat} (hu : P.underlying s = some td) (hu' : P.underlying d = some (.int .u8)) : convN P s d (.int k n) w K = K (bv (UInt8.ofNat n)) w := by
  show insW P (convert s d (.int k n)) w K = _
  unfold bv
  rw [conv_int hu hu', wrap_u8n]
theorem conv_b64 {s d : TypeId} {td : TypeDesc} {k : IntKind} {b : UInt8} (hu : P.underlying s = some td) (hu' : P.underlying d = some (.int .i64)) : convN P s d (bv b) w K = K (.int .i64 b.toNat) w := by
  show insW P (convert s d (bv b)) w K = _
  unfold bv
  have := b.toNat_lt
  rw [conv_int hu hu', i64_self (by omega)]
end

def rr (x : UInt32) (n : Nat) : UInt32 := x <<< UInt32.ofNat (32 - n) ||| x >>> UInt32.ofNat n
def shaK : List UInt32 := [
  0x428a2f98, 0x71374491, 0xb5c0fbcf, 0xe9b5dba5, 0x3956c25b, 0x59f111f1, 0x923f82a4, 0xab1c5ed5,
  0xd807aa98, 0x12835b01, 0x243185be, 0x550c7dc3, 0x72be5d74, 0x80deb1fe, 0x9bdc06a7, 0xc19bf174,
  0xe49b69c1, 0xefbe4786, 0x0fc19dc6, 0x240ca1cc, 0x2de92c6f, 0x4a7484aa, 0x5cb0a9dc, 0x76f988da,
  0x983e5152, 0xa831c66d, 0xb00327c8, 0xbf597fc7, 0xc6e00bf3, 0xd5a79147, 0x06ca6351, 0x14292967,
  0x27b70a85, 0x2e1b2138, 0x4d2c6dfc, 0x53380d13, 0x650a7354, 0x766a0abb, 0x81c2c92e, 0x92722c85,
  0xa2bfe8a1, 0xa81a664b, 0xc24b8b70, 0xc76c51a3, 0xd192e819, 0xd6990624, 0xf40e3585, 0x106aa070,
  0x19a4c116, 0x1e376c08, 0x2748774c, 0x34b0bcb5, 0x391c0cb3, 0x4ed8aa4a, 0x5b9cca4f, 0x682e6ff3,
  0x748f82ee, 0x78a5636f, 0x84c87814, 0x8cc70208, 0x90befffa, 0xa4506ceb, 0xbef9a3f7, 0xc67178f2]
def shaH : List UInt32 := [0x6a09e667, 0xbb67ae85, 0x3c6ef372, 0xa54ff53a, 0x510e527f, 0x9b05688c, 0x1f83d9ab, 0x5be0cd19]
def word (b : Bytes) (t : Nat) : UInt32 :=
  (((u8w (b.getD (4*t) 0)) <<< 8 ||| u8w (b.getD (4*t+1) 0)) <<< 8 ||| u8w (b.getD (4*t+2) 0)) <<< 8 ||| u8w (b.getD (4*t+3) 0)
def wNext (ws : List UInt32) (t : Nat) : UInt32 :=
  ws.getD (t - 16) 0 + (rr (ws.getD (t - 15) 0) 7 ^^^ rr (ws.getD (t - 15) 0) 18 ^^^ ws.getD (t - 15) 0 >>> 3) + ws.getD (t - 7) 0 + (rr (ws.getD (t - 2) 0) 17 ^^^ rr (ws.getD (t - 2) 0) 19 ^^^ ws.getD (t - 2) 0 >>> 10)
def wAt (b : Bytes) (ws : List UInt32) (t : Nat) : UInt32 := if t < 16 then word b t else wNext ws t
def sched (b : Bytes) : Nat → List UInt32
  | 0 => []
  | t + 1 => sched b t ++ [wAt b (sched b t) t]
structure St where
  (a b c d e f g h : UInt32)
def rnd (s : St) (k w : UInt32) : St :=
  let t1 := s.h + (rr s.e 6 ^^^ rr s.e 11 ^^^ rr s.e 25) + (s.e &&& s.f ^^^ ~~~s.e &&& s.g) + k + w
  let t2 := (rr s.a 2 ^^^ rr s.a 13 ^^^ rr s.a 22) + (s.a &&& s.b ^^^ s.a &&& s.c ^^^ s.b &&& s.c)
  ⟨t1 + t2, s.a, s.b, s.c, s.d + t1, s.e, s.f, s.g⟩
/-- so many rounds -/
def rnds (ws : List UInt32) : Nat → St → St
  | 0, s => s
  | t + 1, s => rnd (rnds ws t s) (shaK.getD t 0) (ws.getD t 0)
def St.list (s : St) : List UInt32 := [s.a, s.b, s.c, s.d, s.e, s.f, s.g, s.h]
def St.ofL (l : List UInt32) : St := ⟨l.getD 0 0, l.getD 1 0, l.getD 2 0, l.getD 3 0, l.getD 4 0, l.getD 5 0, l.getD 6 0, l.getD 7 0⟩
def compress (st : List UInt32) (b : Bytes) : List UInt32 := List.zipWith (· + ·) st (rnds (sched b 64) 64 (St.ofL st)).list
/-- The state behind so many blocks. -/
def absorb : Nat → List UInt32 → Bytes → List UInt32
  | 0, s, _ => s
  | k + 1, s, b => absorb k (compress s (b.take 64)) (b.drop 64)
def be8 (x : Nat) : Bytes := [x >>> 56, x >>> 48, x >>> 40, x >>> 32, x >>> 24, x >>> 16, x >>> 8, x].map UInt8.ofNat
def zeros (n : Nat) : Nat := (119 - n % 64) % 64
def padM (n : Nat) : Bytes := 128 :: List.replicate (zeros n) 0 ++ be8 (n * 8)
def outM (s : List UInt32) : Bytes := (List.range 32).map fun i => UInt8.ofNat (((s.getD (i / 4) 0).toNat >>> (24 - 8 * (i % 4))))
structure HM where
  st : List UInt32
  rest : Bytes
  n : Nat
def HM.take (h : HM) (b : Bytes) : HM := ⟨absorb ((h.rest ++ b).length / 64) h.st (h.rest ++ b), (h.rest ++ b).drop (64 * ((h.rest ++ b).length / 64)), h.n + b.length⟩
def hm (a : Bytes) : HM := ⟨absorb (a.length / 64) shaH a, a.drop (64 * (a.length / 64)), a.length⟩
def digest (a : Bytes) : Bytes := outM (absorb ((a ++ padM a.length).length / 64) shaH (a ++ padM a.length))

theorem sched_length (b : Bytes) (t : Nat) : (sched b t).length = t := by
  induction t with
  | zero => rfl
  | succ t ih => simp [sched, ih]
theorem compress_length (s : List UInt32) (b : Bytes) (h : s.length = 8) : (compress s b).length = 8 := by
  simp [compress, St.list, h]
theorem absorb_length (k : Nat) : ∀ (s : List UInt32) (b : Bytes), s.length = 8 → (absorb k s b).length = 8 := by
  induction k with
  | zero => intro s b h; exact h
  | succ k ih => intro s b h; exact ih _ _ (compress_length _ _ h)
theorem outM_length (s : List UInt32) : (outM s).length = 32 := by simp [outM]
theorem digest_length (a : Bytes) : (digest a).length = 32 := outM_length _
theorem be8_length (x : Nat) : (be8 x).length = 8 := rfl
theorem padM_length (n : Nat) : (padM n).length = 9 + zeros n := by simp [padM, be8_length]; omega
theorem pad_mod (n : Nat) : (n + (padM n).length) % 64 = 0 := by rw [padM_length]; unfold zeros; omega

theorem absorb_append (x y : Bytes) (i j : Nat) (s : List UInt32) (h : x.length = 64 * i) : absorb (i + j) s (x ++ y) = absorb j (absorb i s x) y := by
  induction i generalizing x s with
  | zero =>
    have : x = [] := List.length_eq_zero_iff.1 (by omega)
    subst this
    simp [absorb]
  | succ i ih =>
    rw [show i + 1 + j = (i + j) + 1 by omega]
    show absorb (i + j) (compress s ((x ++ y).take 64)) ((x ++ y).drop 64) = absorb j (absorb i (compress s (x.take 64)) (x.drop 64)) y
    rw [List.take_append_of_le_length (by omega), List.drop_append_of_le_length (by omega), ih _ _ (by simp; omega)]
/-- What stands behind the blocks doesn't count. -/
theorem absorb_take (i : Nat) (s : List UInt32) (x : Bytes) (h : 64 * i ≤ x.length) : absorb i s x = absorb i s (x.take (64 * i)) := by
  have := absorb_append (x.take (64 * i)) (x.drop (64 * i)) i 0 s (by simp; omega)
  rw [List.take_append_drop, Nat.add_zero] at this
  exact this
theorem hm_take (a b : Bytes) : (hm a).take b = hm (a ++ b) := by
  unfold HM.take hm
  simp only
  have ha : a.take (64 * (a.length / 64)) ++ a.drop (64 * (a.length / 64)) = a := List.take_append_drop _ _
  have hl : (a.take (64 * (a.length / 64))).length = 64 * (a.length / 64) := by simp; omega
  have key : ∀ j, absorb j (absorb (a.length / 64) shaH a) (a.drop (64 * (a.length / 64)) ++ b) = absorb (a.length / 64 + j) shaH (a ++ b) := by
    intro j
    have := absorb_append (a.take (64 * (a.length / 64))) (a.drop (64 * (a.length / 64)) ++ b) (a.length / 64) j shaH hl
    rw [← List.append_assoc, ha] at this
    rw [this, ← absorb_take _ _ _ (by omega)]
  have hn : (a.drop (64 * (a.length / 64)) ++ b).length / 64 + a.length / 64 = (a ++ b).length / 64 := by simp; omega
  congr 1
  · rw [key, ← hn, Nat.add_comm]
  · rw [← hn, Nat.mul_add, Nat.add_comm, ← List.drop_drop]
    congr 1
    exact (List.drop_append_of_le_length (by omega)).symm
  · simp
theorem hm_new : (⟨shaH, [], 0⟩ : HM) = hm [] := rfl
/-- The digest is the state behind what was taken in and what stands behind it. -/
theorem digest_hm (a : Bytes) : outM ((hm a).take (padM a.length)).st = digest a := by rw [hm_take]; rfl
theorem hm_n (a : Bytes) : (hm a).n = a.length := rfl
theorem hm_st (a : Bytes) : (hm a).st.length = 8 := absorb_length _ _ _ rfl
theorem hm_rest (a : Bytes) : (hm a).rest.length < 64 := by simp [hm]; omega

def uq (x : UInt64) : Value := .int .u64 x.toNat
def uqs (l : List UInt64) : List Value := l.map uq
theorem uqs_length (l : List UInt64) : (uqs l).length = l.length := by simp [uqs]
theorem uqs_one (l : List UInt64) : ∀ x ∈ uqs l, x.oneCell' = true := by
  intro x hx
  obtain ⟨b, _, rfl⟩ := List.mem_map.1 hx
  rfl
theorem uqs_get {l : List UInt64} {i : Nat} (h : i < l.length) : (uqs l)[i]? = some (uq (l.getD i 0)) := by
  simp [uqs, List.getElem?_map, h]
theorem uqs_append (a b : List UInt64) : uqs (a ++ b) = uqs a ++ uqs b := by simp [uqs]
theorem uqs_set (l : List UInt64) (i : Nat) (x : UInt64) : (uqs l).set i (uq x) = uqs (l.set i x) := by simp [uqs, List.map_set]

section
variable {P : Program} {w : World} {K : VPost} {t : TypeId} {c : Bool}

theorem wrap_u64 (n : Int) : IntKind.u64.wrap n = n % 18446744073709551616 := by simp [IntKind.wrap, IntKind.signed, IntKind.bits]
theorem wrap_u64n (n : Nat) : IntKind.u64.wrap (n : Int) = ((n % 18446744073709551616 : Nat) : Int) := by
  rw [wrap_u64]; omega

theorem u64_add {a b : UInt64} : binN P .add t c (uq a) (uq b) w K = K (uq (a + b)) w := by
  show binW P .add t c (uq a) (uq b) w K = _
  unfold uq
  rw [bin_add, ← Int.natCast_add, wrap_u64n, UInt64.toNat_add]

theorem ofInt_u64 (a : UInt64) : BitVec.ofInt IntKind.u64.bits ((a.toNat : Nat) : Int) = a.toBitVec := by
  apply BitVec.eq_of_toNat_eq
  rw [BitVec.toNat_ofInt]
  have := a.toNat_lt
  show (((a.toNat : Nat) : Int) % ((2 ^ 64 : Nat) : Int)).toNat = a.toNat
  omega

theorem bits_u64 {op : BinOp} {f : BitVec 64 → BitVec 64 → BitVec 64} (x y : UInt64) (hb : binOp op t (uq x) (uq y) = (pure (.int .u64 (IntKind.u64.wrap ((f (BitVec.ofInt 64 (x.toNat : Int)) (BitVec.ofInt 64 (y.toNat : Int))).toNat : Nat))) : Sem Value)) (hg : ∀ w, (guardE op t c (uq x) (uq y)).run P w = .ok () w) :
    binW P op t c (uq x) (uq y) w K = K (.int .u64 ((f x.toBitVec y.toBitVec).toNat : Nat)) w := by
  unfold binW insW binE
  rw [Sem.run_bind, hg, Result.andThen_ok, hb, Sem.run_pure]
  have h1 : BitVec.ofInt 64 ((x.toNat : Nat) : Int) = x.toBitVec := ofInt_u64 x
  have h2 : BitVec.ofInt 64 ((y.toNat : Nat) : Int) = y.toBitVec := ofInt_u64 y
  rw [h1, h2, wrap_u64n]
  have := (f x.toBitVec y.toBitVec).isLt
  rw [Nat.mod_eq_of_lt (by omega)]
  rfl

theorem u64_xor {a b : UInt64} : binN P .xor t c (uq a) (uq b) w K = K (uq (a ^^^ b)) w := by
  show binW P .xor t c (uq a) (uq b) w K = _
  rw [bits_u64 (f := (· ^^^ ·)) a b rfl (fun _ => by cases c <;> rfl)]
  rfl
theorem u64_and {a b : UInt64} : binN P .and t c (uq a) (uq b) w K = K (uq (a &&& b)) w := by
  show binW P .and t c (uq a) (uq b) w K = _
  rw [bits_u64 (f := (· &&& ·)) a b rfl (fun _ => by cases c <;> rfl)]
  rfl
theorem u64_or {a b : UInt64} : binN P .or t c (uq a) (uq b) w K = K (uq (a ||| b)) w := by
  show binW P .or t c (uq a) (uq b) w K = _
  rw [bits_u64 (f := (· ||| ·)) a b rfl (fun _ => by cases c <;> rfl)]
  rfl
theorem u64_not {a : UInt64} : unN P .xor (uq a) w K = K (uq (~~~ a)) w := by
  show insW P (Op.unary .xor (uq a)) w K = _
  unfold insW
  have : Op.unary .xor (uq a) = (pure (.int .u64 (IntKind.u64.wrap ((BitVec.ofInt 64 (18446744073709551615 : Int) ^^^ BitVec.ofInt 64 (a.toNat : Int)).toNat : Nat))) : Sem Value) := rfl
  rw [this, Sem.run_pure]
  have h1 : BitVec.ofInt 64 ((a.toNat : Nat) : Int) = a.toBitVec := ofInt_u64 a
  rw [h1, wrap_u64n]
  have h2 : BitVec.ofInt 64 (18446744073709551615 : Int) = BitVec.allOnes 64 := by decide
  rw [h2, BitVec.allOnes_xor]
  have := (~~~ a.toBitVec).isLt
  rw [Nat.mod_eq_of_lt (by omega)]
  rfl
theorem u64_shl {a : UInt64} {k : IntKind} {s : Nat} (h : s < 64) : binN P .shl t c (uq a) (.int k s) w K = K (uq (a <<< UInt64.ofNat s)) w := by
  show binW P .shl t c (uq a) (.int k s) w K = _
  unfold uq
  rw [bin_shl (by omega)]
  congr 2
  have h1 : min ((s : Int).toNat) IntKind.u64.bits = s := by
    show min ((s : Int).toNat) 64 = s
    omega
  rw [h1]
  have h2 : ((a.toNat : Int) * 2 ^ s) = ((a.toNat * 2 ^ s : Nat) : Int) := by rw [Int.natCast_mul, Int.natCast_pow]; rfl
  rw [h2, wrap_u64n, UInt64.toNat_shiftLeft]
  congr 1
  rw [UInt64.toNat_ofNat', Nat.mod_eq_of_lt (show s < 2 ^ 64 by omega), Nat.mod_eq_of_lt h, Nat.shiftLeft_eq]
theorem u64_shr {a : UInt64} {k : IntKind} {s : Nat} (h : s < 64) : binN P .shr t c (uq a) (.int k s) w K = K (uq (a >>> UInt64.ofNat s)) w := by
  show binW P .shr t c (uq a) (.int k s) w K = _
  unfold uq
  rw [bin_shr (by omega)]
  congr 2
  have h1 : min ((s : Int).toNat) IntKind.u64.bits = s := by
    show min ((s : Int).toNat) 64 = s
    omega
  rw [h1]
  have h2 : (2 : Int) ^ s = ((2 ^ s : Nat) : Int) := by rw [Int.natCast_pow]; rfl
  rw [h2, UInt64.toNat_shiftRight, UInt64.toNat_ofNat', Nat.mod_eq_of_lt (show s < 2 ^ 64 by omega), Nat.mod_eq_of_lt h, Nat.shiftRight_eq_div_pow]
  exact (Int.ofNat_fdiv _ _).symm

theorem u64_sub {a b : UInt64} : binN P .sub t c (uq a) (uq b) w K = K (uq (a - b)) w := by
  show binW P .sub t c (uq a) (uq b) w K = _
  unfold uq
  have ha := a.toNat_lt
  have hb := b.toNat_lt
  rw [bin_sub, wrap_u64, UInt64.toNat_sub]
  congr 2
  omega
theorem u64_mul {a b : UInt64} : binN P .mul t c (uq a) (uq b) w K = K (uq (a * b)) w := by
  show binW P .mul t c (uq a) (uq b) w K = _
  unfold uq
  rw [bin_mul, ← Int.natCast_mul, wrap_u64n, UInt64.toNat_mul]
theorem u64_lss {a b : UInt64} : binN P .lss t c (uq a) (uq b) w K = K (.bool (decide (a < b))) w := by
  show binW P .lss t c (uq a) (uq b) w K = _
  unfold uq
  rw [bin_lss]
  congr 2
  rw [decide_eq_decide, UInt64.lt_iff_toNat_lt]
  omega
theorem u64_leq {a b : UInt64} : binN P .leq t c (uq a) (uq b) w K = K (.bool (decide (a ≤ b))) w := by
  show binW P .leq t c (uq a) (uq b) w K = _
  unfold uq
  rw [bin_leq]
  congr 2
  rw [decide_eq_decide, UInt64.le_iff_toNat_le]
  omega
theorem u64_eql {a b : UInt64} : binN P .eql t c (uq a) (uq b) w K = K (.bool (decide (a = b))) w := by
  show binW P .eql t c (uq a) (uq b) w K = _
  unfold uq
  rw [bin_eql]
  congr 2
  rw [Bool.eq_iff_iff]
  simp [← UInt64.toNat_inj]
  omega
theorem u64_neq {a b : UInt64} : binN P .neq t c (uq a) (uq b) w K = K (.bool (!decide (a = b))) w := by
  show binW P .neq t c (uq a) (uq b) w K = _
  unfold uq
  rw [bin_neq]
  congr 2
  rw [Bool.eq_iff_iff]
  simp [← UInt64.toNat_inj]
  omega
theorem u64_rem {a b : UInt64} (h : b ≠ 0) : binN P .rem t c (uq a) (uq b) w K = K (uq (a % b)) w := by
  show binW P .rem t c (uq a) (uq b) w K = _
  unfold uq
  have h0 : (b.toNat : Int) ≠ 0 := fun e => h (UInt64.toNat_inj.1 (by simpa using e))
  rw [bin_rem h0, UInt64.toNat_mod]
  rfl
theorem conv_u64n {s d : TypeId} {td : TypeDesc} {k : IntKind} {n : Nat} (hu : P.underlying s = some td) (hu' : P.underlying d = some (.int .u64)) (hn : n < 18446744073709551616) : convN P s d (.int k n) w K = K (uq (UInt64.ofNat n)) w := by
  show insW P (convert s d (.int k n)) w K = _
  unfold uq
  rw [conv_int hu hu', wrap_u64n, UInt64.toNat_ofNat']
theorem conv_u64u32 {s d : TypeId} {td : TypeDesc} {x : UInt64} (hu : P.underlying s = some td) (hu' : P.underlying d = some (.int .u32)) : convN P s d (uq x) w K = K (uv x.toUInt32) w := by
  show insW P (convert s d (uq x)) w K = _
  unfold uq uv
  rw [conv_int hu hu', wrap_u32n]
  rfl
end

theorem ch_or (e f g : UInt32) : e &&& f ||| ~~~e &&& g = e &&& f ^^^ ~~~e &&& g := by
  apply UInt32.eq_of_toBitVec_eq
  simp only [UInt32.toBitVec_or, UInt32.toBitVec_and, UInt32.toBitVec_xor, UInt32.toBitVec_not]
  apply BitVec.eq_of_getLsbD_eq
  intro i hi
  simp only [BitVec.getLsbD_or, BitVec.getLsbD_and, BitVec.getLsbD_xor, BitVec.getLsbD_not, hi, decide_true, Bool.true_and]
  cases e.toBitVec.getLsbD i <;> cases f.toBitVec.getLsbD i <;> cases g.toBitVec.getLsbD i <;> rfl
theorem maj_or (a b c : UInt32) : a &&& b ||| a &&& c ||| b &&& c = a &&& b ^^^ a &&& c ^^^ b &&& c := by
  apply UInt32.eq_of_toBitVec_eq
  simp only [UInt32.toBitVec_or, UInt32.toBitVec_and, UInt32.toBitVec_xor]
  apply BitVec.eq_of_getLsbD_eq
  intro i _
  simp only [BitVec.getLsbD_or, BitVec.getLsbD_and, BitVec.getLsbD_xor]
  cases a.toBitVec.getLsbD i <;> cases b.toBitVec.getLsbD i <;> cases c.toBitVec.getLsbD i <;> rfl
theorem word_or (a b c d : UInt32) : ((a <<< 8 ||| b) <<< 8 ||| c) <<< 8 ||| d = a <<< 24 ||| b <<< 16 ||| c <<< 8 ||| d := by
  apply UInt32.eq_of_toBitVec_eq
  simp only [UInt32.toBitVec_or, UInt32.toBitVec_shiftLeft]
  have h8 : (UInt32.toBitVec 8 % 32) = 8#32 := by decide
  have h16 : (UInt32.toBitVec 16 % 32) = 16#32 := by decide
  have h24 : (UInt32.toBitVec 24 % 32) = 24#32 := by decide
  rw [h8, h16, h24]
  simp only [BitVec.shiftLeft_eq', BitVec.reduceToNat]
  simp only [BitVec.shiftLeft_or_distrib, ← BitVec.shiftLeft_add]
theorem zero_shl (b : UInt32) : (0 : UInt32) <<< 8 ||| b = b := by
  simp

def getU (l : List UInt64) (i : Nat) : UInt64 := l.getD i 0
def timesJ (x : UInt64) (i : Nat) : List UInt64 → Nat → List UInt64 → UInt64 → List UInt64 × UInt64
  | [], _, out, c => (out, c)
  | y :: r, j, out, c =>
    timesJ x i r (j + 1) (out.set (i + j) ((getU out (i + j) + x * y + c) &&& 0xffff)) ((getU out (i + j) + x * y + c) >>> 16)
def timesI (b : List UInt64) : List UInt64 → Nat → List UInt64 → List UInt64
  | [], _, out => out
  | x :: r, i, out =>
    timesI b r (i + 1) ((timesJ x i b 0 out 0).1.set (i + b.length) (getU (timesJ x i b 0 out 0).1 (i + b.length) + (timesJ x i b 0 out 0).2))
def times (a b : List UInt64) : List UInt64 := timesI b a 0 (List.replicate (a.length + b.length) 0)
def cmpF (s want : List UInt64) : Nat → Bool
  | 0 => true
  | i + 1 => if getU s i = getU want i then cmpF s want i else decide (getU s i < getU want i)
def belowF (y p : UInt64) : Bool :=
  cmpF (times (times [y &&& 0xffff, y >>> 16 &&& 0xffff, y >>> 32] [y &&& 0xffff, y >>> 16 &&& 0xffff, y >>> 32]) [y &&& 0xffff, y >>> 16 &&& 0xffff, y >>> 32] ++ List.replicate 7 0) ((List.replicate 16 0).set 6 p) 16
def cubeF (p : UInt64) : Nat → UInt64 → UInt64
  | 0, x => x
  | k + 1, x => cubeF p k (if belowF (x + UInt64.ofNat (1 <<< k)) p then x + UInt64.ofNat (1 <<< k) else x)

def hi32 (y : UInt64) : UInt64 := y >>> (32 : UInt64)
def lo32 (y : UInt64) : UInt64 := y &&& (4294967295 : UInt64)
def sqMid (y : UInt64) : UInt64 := (2 : UInt64) * hi32 y * lo32 y + hi32 (lo32 y * lo32 y)
def sqTop (y : UInt64) : UInt64 := hi32 y * hi32 y + hi32 (sqMid y)
def sqRest (y : UInt64) : UInt64 := lo32 (sqMid y) <<< (32 : UInt64) ||| lo32 (lo32 y * lo32 y)
def sqC (p y : UInt64) : Bool := decide (sqTop y < p) || decide (sqTop y = p) && decide (sqRest y = 0)
def squareF (p : UInt64) : Nat → UInt64 → UInt64
  | 0, x => x
  | k + 1, x => squareF p k (if sqC p (x + UInt64.ofNat (1 <<< k)) = true then x + UInt64.ofNat (1 <<< k) else x)
def inn : Nat → UInt64 → UInt64 → Bool → Option Bool
  | 0, _, _, _ => none
  | k + 1, p, q, r => if q * q ≤ p then (if q = 0 then none else inn k p (q + 1) (if p % q = 0 then false else r)) else some r
def prs : Nat → Nat → UInt64 → List UInt64 → Option (List UInt64)
  | 0, _, _, _ => none
  | k + 1, n, p, out => if out.length < n then (inn 100 p 2 true).bind fun b => prs k n (p + 1) (if b = true then out ++ [p] else out) else some out
def primes64 : List UInt64 := [2, 3, 5, 7, 11, 13, 17, 19, 23, 29, 31, 37, 41, 43, 47, 53, 59, 61, 67, 71, 73, 79, 83, 89, 97, 101, 103, 107, 109, 113, 127, 131, 137, 139, 149, 151, 157, 163, 167, 173, 179, 181, 191, 193, 197, 199, 211, 223, 227, 229, 233, 239, 241, 251, 257, 263, 269, 271, 277, 281, 283, 293, 307, 311]
theorem prs64 : prs 400 64 2 [] = some primes64 := by decide +kernel
theorem prs8 : prs 400 8 2 [] = some (primes64.take 8) := by decide +kernel
theorem square8 : (primes64.take 8).map (fun p => (squareF p 36 0).toUInt32) = shaH := by decide +kernel

/-- An element of one cell. -/
theorem RdSl.get1 {w : World} {v : Value} {ys : List Value} {i m : Nat} (h : RdSl w v 1 ys m) (hi : i < ys.length) (k : IntKind) :
    ∃ b o, (∀ K : VPost, K (.pointer (some ⟨b, o, none⟩)) w → idxW (some (none, 1)) v (.int k i) w K) ∧ (∀ K : VPost, K ys[i] w → loadW (some (false, 1)) (.pointer (some ⟨b, o, none⟩)) w K) := by
  obtain ⟨hl, ⟨h0, _⟩ | ⟨b, o, c, cs, rfl, hb, h1, h2⟩⟩ := h
  · rw [h0] at hi; simp at hi
  · refine ⟨b, o + i * 1, fun K hK => idx_i (by omega) hK, fun K hK => load1 hb ?_ hK⟩
    have h3 : ys[i]? = some ys[i] := List.getElem?_eq_getElem hi
    rw [← h3, ← h1, List.getElem?_take, if_pos (by omega), List.getElem?_drop, Nat.mul_one]

/-- The rows that headers head. -/
def RowsL (w : World) : List Value → List Bytes → Prop
  | [], [] => True
  | h :: hs, l :: ls => (RdSl w h 1 (bc l) l.length ∧ capOk h) ∧ RowsL w hs ls
  | _, _ => False
def rowsF : List Value → List Bytes → List Nat
  | h :: hs, l :: ls => rdB h (bc l) ++ rowsF hs ls
  | _, _ => []
theorem RowsL.length {w : World} : ∀ {hs : List Value} {ls : List Bytes}, RowsL w hs ls → hs.length = ls.length
  | [], [], _ => rfl
  | _ :: hs, _ :: ls, h => by simp [RowsL.length h.2]
theorem RowsL.get {w : World} : ∀ {hs : List Value} {ls : List Bytes}, RowsL w hs ls → ∀ (i : Nat) (h1 : i < hs.length) (h2 : i < ls.length), RdSl w hs[i] 1 (bc ls[i]) ls[i].length ∧ capOk hs[i]
  | _ :: _, _ :: _, h, 0, _, _ => h.1
  | _ :: hs, _ :: ls, h, i + 1, h1, h2 => RowsL.get h.2 i (by simpa using h1) (by simpa using h2)
theorem rowsF_get : ∀ {hs : List Value} {ls : List Bytes} (i : Nat) (h1 : i < hs.length) (h2 : i < ls.length), ∀ b ∈ rdB hs[i] (bc ls[i]), b ∈ rowsF hs ls
  | _ :: _, _ :: _, 0, _, _, b, hb => List.mem_append_left _ hb
  | _ :: hs, _ :: ls, i + 1, h1, h2, b, hb => List.mem_append_right _ (rowsF_get i (by simpa using h1) (by simpa using h2) b hb)
theorem RowsL.lt {w : World} : ∀ {hs : List Value} {ls : List Bytes}, RowsL w hs ls → ∀ b ∈ rowsF hs ls, b < w.heap.size
  | [], [], _, b, hb => by simp [rowsF] at hb
  | h :: hs, l :: ls, hh, b, hb => by
    rcases List.mem_append.1 hb with hb | hb
    · exact (rR h 1 (bc l) l.length).lt hh.1.1 b hb
    · exact RowsL.lt hh.2 b hb
theorem RowsL.keep {w w' : World} {S : List Nat} (e : Ext S w w') : ∀ {hs : List Value} {ls : List Bytes}, RowsL w hs ls → (∀ b ∈ rowsF hs ls, b ∉ S) → RowsL w' hs ls
  | [], [], _, _ => trivial
  | h :: hs, l :: ls, hh, hd => ⟨⟨(rR h 1 (bc l) l.length).keep hh.1.1 e (fun b hb => hd b (List.mem_append_left _ hb)), hh.1.2⟩, RowsL.keep e hh.2 (fun b hb => hd b (List.mem_append_right _ hb))⟩
theorem RowsL.append {w : World} {h : Value} {l : Bytes} (h1 : RdSl w h 1 (bc l) l.length) (h2 : capOk h) : ∀ {hs : List Value} {ls : List Bytes}, RowsL w hs ls → RowsL w (hs ++ [h]) (ls ++ [l])
  | [], [], _ => ⟨⟨h1, h2⟩, trivial⟩
  | _ :: _, _ :: _, hh => ⟨hh.1, RowsL.append h1 h2 hh.2⟩

/-- A slice of rows that is read. -/
def RowsR (w : World) (v : Value) (hs : List Value) (ls : List Bytes) : Prop := RdSl w v 1 hs hs.length ∧ RowsL w hs ls
def rW (v : Value) (hs : List Value) (ls : List Bytes) : Res :=
  ⟨rdB v hs ++ rowsF hs ls, fun w => RowsR w v hs ls, fun h b hb => by
    rcases List.mem_append.1 hb with hb | hb
    · exact (rR v 1 hs hs.length).lt h.1 b hb
    · exact h.2.lt b hb, fun h e hd => ⟨(rR v 1 hs hs.length).keep h.1 e (fun b hb => hd b (List.mem_append_left _ hb)), h.2.keep e (fun b hb => hd b (List.mem_append_right _ hb))⟩⟩
theorem RowsR.len {w : World} {v : Value} {hs : List Value} {ls : List Bytes} (h : RowsR w v hs ls) : ∃ a c, v = .slice a ls.length c := by
  obtain ⟨a, c, e⟩ := h.1.len
  exact ⟨a, c, by rw [e, h.2.length]⟩
/-- A row. -/
theorem RowsR.elem {w : World} {v : Value} {hs : List Value} {ls : List Bytes} (h : RowsR w v hs ls) {i : Nat} (hi : i < ls.length) (k : IntKind) :
    ∃ b o r, (∀ K : VPost, K (.pointer (some ⟨b, o, none⟩)) w → idxW (some (none, 1)) v (.int k i) w K) ∧ (∀ K : VPost, K r w → loadW (some (false, 1)) (.pointer (some ⟨b, o, none⟩)) w K) ∧
      RdSl w r 1 (bc ls[i]) ls[i].length ∧ capOk r ∧ ∀ c ∈ rdB r (bc ls[i]), c ∈ rdB v hs ++ rowsF hs ls := by
  have hl := h.2.length
  obtain ⟨b, o, h1, h2⟩ := h.1.get1 (i := i) (by omega) k
  obtain ⟨h3, h4⟩ := h.2.get i (by omega) hi
  exact ⟨b, o, _, h1, h2, h3, h4, fun c hc => List.mem_append_right _ (rowsF_get i (by omega) hi c hc)⟩

theorem OwnAt.at1 {w : World} {v : Value} {e : TypeId} {xs : List Value} {n k : Nat} (h : OwnAt w v e 1 xs n) (hk : k < n) (kk : IntKind) : ∃ b o, slB v = [b] ∧ (∀ K : VPost, K (.pointer (some ⟨b, o, none⟩)) w → idxW (some (none, 1)) v (.int kk k) w K) ∧
    (∀ (y : Value) (K : VPost), xs[k]? = some y → K y w → loadW (some (false, 1)) (.pointer (some ⟨b, o, none⟩)) w K) ∧
    (∀ (g : Bool) (y : Value) (K : World → Prop), y.cells = #[y] → y.oneCell' = true → (∀ w', Ext [b] w w' → OwnAt w' v e 1 (xs.set k y) n → K w') → storeW (some (g, 1)) (.pointer (some ⟨b, o, none⟩)) y w K) := by
  rcases h with ⟨rfl, rfl, rfl⟩ | ⟨b, o, c, cs, rfl, hb, hl, ht, hc, hn⟩
  · omega
  · rw [Nat.mul_one] at hl ht hc
    refine ⟨b, o + k * 1, rfl, fun K hK => idx_i hk hK, fun y K hy hK => load1 hb.r ?_ hK, fun g y K hy h1 hK => store1 hb hy (by omega) h1 fun w' e' hb' _ => hK w' e' (.inr ⟨b, o, c, _, rfl, hb', ?_, ?_, ?_, hn⟩)⟩
    · rw [← ht, List.getElem?_take, if_pos hk, List.getElem?_drop] at hy
      rw [Nat.mul_one]; exact hy
    · rw [List.length_set, Nat.mul_one]; exact hl
    · rw [Nat.mul_one, Nat.mul_one, ← ht]
      apply List.ext_getElem?
      intro j
      rw [List.getElem?_take, List.getElem?_drop, List.getElem?_set, List.getElem?_set, List.getElem?_take, List.getElem?_drop, List.length_take, List.length_drop]
      by_cases hj : j < n
      · by_cases hjk : k = j
        · subst hjk
          have h1 : o + k < cs.length := by omega
          have h2 : k < min n (cs.length - o) := by omega
          simp [hj, h1, h2]
        · have h3 : ¬ o + k = o + j := by omega
          simp [hj, hjk, h3]
      · have hjk : ¬ k = j := by omega
        simp [hj, hjk]
    · rw [List.length_set, Nat.mul_one]; exact hc

section
variable {P : Program} {w : World} {K : VPost} {t : TypeId} {c : Bool}
theorem u8_add {a b : UInt8} : binN P .add t c (bv a) (bv b) w K = K (bv (a + b)) w := by
  show binW P .add t c (bv a) (bv b) w K = _
  unfold bv
  rw [bin_add, ← Int.natCast_add, wrap_u8n]
  congr 3
end

/-- A byte of one's own, read and written. -/
theorem Sep.byteAt {S : List Nat} {w0 w : World} {L R : List Res} {v : Value} {l : Bytes} {n k : Nat} (s : Sep S w0 w L R) (i : Nat) (hL : L[i]? = some (rO v 5 1 (bc l) n)) (hk : k < n) (kk : IntKind) :
    ∃ b o, (∀ K : VPost, K (.pointer (some ⟨b, o, none⟩)) w → idxW (some (none, 1)) v (.int kk k) w K) ∧ (∀ (K : VPost), K (bv (l.getD k 0)) w → loadW (some (false, 1)) (.pointer (some ⟨b, o, none⟩)) w K) ∧
    (∀ (g : Bool) (y : UInt8) (K : World → Prop), (∀ w', Sep S w0 w' (L.set i (rO v 5 1 (bc (l.set k y)) n)) R → K w') → storeW (some (g, 1)) (.pointer (some ⟨b, o, none⟩)) (bv y) w K) := by
  have ho : OwnAt w v 5 1 (bc l) n := s.at i hL
  have hl : l.length = n := by have := ho.rd.1; rw [bc_length, Nat.mul_one] at this; exact this
  obtain ⟨b, o, hb, h1, h2, h3⟩ := ho.at1 hk kk
  refine ⟨b, o, h1, fun K hK => h2 _ K (bc_get (by omega)) hK, fun g y K hK => h3 g (bv y) K rfl rfl fun w' e hw => hK w' ?_⟩
  rw [bc_set] at hw
  exact s.upd (T := rO v 5 1 (bc l) n) i hL (T' := rO v 5 1 (bc (l.set k y)) n) hw (by show Ext (slB v) w w'; rw [hb]; exact e) (fun x hx => .inl hx)
end Go.Proofs.YtedebapgmfnflaaGreatDoor

/- SHA-256: all contracts. Conditions: at most 2^36 bytes. -/
namespace Go.Proofs.YtedebapgmfnflaaGreatDoor
open Go
set_option maxRecDepth 100000

section
variable {P : Program} {S : List Nat} {w0 w : World} {L R : List Res} {K : VPost}
theorem idxA1 {b n i : Nat} {k : IntKind} (hi : i < n) (h : K (.pointer (some ⟨b, i, none⟩)) w) : idxW (some (some n, 1)) (.pointer (some ⟨b, 0, none⟩)) (.int k i) w K :=
  idxA_i hi (by rw [Nat.mul_one, Nat.zero_add]; exact h)
theorem Sep.ldw {b : Nat} {l : List UInt32} {t : TypeId} (s : Sep S w0 w L R) (i : Nat) (hL : L[i]? = some (rB b (uc l) t)) {k : Nat} (hk : k < l.length) (h : K (uv (l.getD k 0)) w) : loadW (some (false, 1)) (.pointer (some ⟨b, k, none⟩)) w K :=
  s.load1 i hL (uc_get hk) h
theorem Sep.stw {g : Bool} {b : Nat} {l : List UInt32} {t : TypeId} {x : UInt32} {K : World → Prop} (s : Sep S w0 w L R) (i : Nat) (hL : L[i]? = some (rB b (uc l) t)) {k : Nat} (hk : k < l.length)
    (h : ∀ w', Sep S w0 w' (L.set i (rB b (uc (l.set k x)) t)) R → K w') : storeW (some (g, 1)) (.pointer (some ⟨b, k, none⟩)) (uv x) w K :=
  s.store1 i hL rfl (by rw [uc_length]; exact hk) rfl fun w' s' _ => h w' (by rw [← uc_set]; exact s')
end

theorem rot_and : ∀ r : Fin 32, 0 < r.val → IntKind.u64.wrap (BitVec.ofInt IntKind.u64.bits (IntKind.u64.wrap (-(r.val : Int))) &&& BitVec.ofInt IntKind.u64.bits 31).toNat = ((32 - r.val : Nat) : Int) := by decide +kernel

theorem und_int : Tryz.prog.underlying 3 = some (.int .i64) := by kernel_rfl
theorem und_uint : Tryz.prog.underlying 106 = some (.int .u64) := by kernel_rfl
theorem und_u8 : Tryz.prog.underlying 5 = some (.int .u8) := by kernel_rfl
theorem und_u32 : Tryz.prog.underlying 137 = some (.int .u32) := by kernel_rfl

/-- A word turned. -/
theorem rot_c {w : World} {K : VPost} (x : UInt32) (r : Nat) (h0 : 0 < r) (h1 : r < 32) (hK : K (uv (rr x r)) w) : Calls Tryz.prog 107 #[uv x, .int .i64 (-(r : Int))] w (retK K) := by
  refine c107_calls _ _ w K ?_
  unfold c107
  rw [convN_i und_int und_uint, binN_e, bin_and, rot_and ⟨r, h1⟩ h0]
  simp only
  rw [u32_shl (show 32 - r < 32 by omega), binN_e, bin_sub, wrap_u64]
  have : ((32 : Int) - ((32 - r : Nat) : Int)) % 18446744073709551616 = (r : Int) := by omega
  rw [this, u32_shr h1, u32_or]
  exact hK

theorem mix_c {w : World} {K : VPost} (x l : UInt32) (a b : Nat) (ha0 : 0 < a) (ha1 : a < 32) (hb0 : 0 < b) (hb1 : b < 32) (hK : K (uv (rr x a ^^^ rr x b ^^^ l)) w) :
    Calls Tryz.prog 106 #[uv x, .int .i64 a, .int .i64 b, uv l] w (retK K) := by
  refine c106_calls _ _ _ _ w K ?_
  unfold c106
  rw [negN, i64_self (by omega)]
  refine fnW_of (by kernel_rfl) (rot_c x a ha0 ha1 ?_)
  rw [negN, i64_self (by omega)]
  refine fnW_of (by kernel_rfl) (rot_c x b hb0 hb1 ?_)
  rw [u32_xor, u32_xor]
  exact hK

/-! ### Arrays of words -/
theorem zero_w8 : zeroO Tryz.prog 138 = some (.agg (Array.replicate 8 (.int .u32 0))) := by kernel_rfl
theorem zero_w64 : zeroO Tryz.prog 148 = some (.agg (Array.replicate 64 (.int .u32 0))) := by kernel_rfl
theorem cells_w8 : (Value.agg (Array.replicate 8 (.int .u32 0))).cells.toList = uc (List.replicate 8 0) := rfl
theorem cells_w64 : (Value.agg (Array.replicate 64 (.int .u32 0))).cells.toList = uc (List.replicate 64 0) := rfl

theorem build_words {w : World} {K : VPost} {t : TypeId} {n : Nat} {ti : TypeInfo} {parts : List (Nat × Value)} {l : List UInt32} (hu : Tryz.prog.underlying t = some (.array n 137)) (hi : Tryz.prog.info? t = some ti) (hz : ti.zero = some (.agg (Array.replicate n (.int .u32 0))))
    (hf : fillA 1 (List.replicate n (Value.int .u32 0)) parts = some (uc l)) (h : K (.agg (uc l).toArray) w) : insW Tryz.prog (Instr.build t parts.toArray) w K := by
  obtain ⟨ui, hui, huz, husz, huby⟩ := tyI_spec (by kernel_rfl : tyI Tryz.prog 137 = some (.int .u32 0, 1, 4))
  refine buildA_i hu hi hz hui ?_ h
  rw [husz]
  simpa [Value.cells] using hf
theorem build_w8 {w : World} {K : VPost} {parts : List (Nat × Value)} {l : List UInt32} (hf : fillA 1 (List.replicate 8 (Value.int .u32 0)) parts = some (uc l)) (h : K (.agg (uc l).toArray) w) : insW Tryz.prog (Instr.build 138 parts.toArray) w K := by
  obtain ⟨ti, hi, hz, hs, hb⟩ := tyI_spec (by kernel_rfl : tyI Tryz.prog 138 = some (.agg (Array.replicate 8 (.int .u32 0)), 8, 32))
  exact build_words (by kernel_rfl) hi hz hf h
theorem build_w64 {w : World} {K : VPost} {parts : List (Nat × Value)} {l : List UInt32} (hf : fillA 1 (List.replicate 64 (Value.int .u32 0)) parts = some (uc l)) (h : K (.agg (uc l).toArray) w) : insW Tryz.prog (Instr.build 148 parts.toArray) w K := by
  obtain ⟨ti, hi, hz, hs, hb⟩ := tyI_spec (by kernel_rfl : tyI Tryz.prog 148 = some (.agg (Array.replicate 64 (.int .u32 0)), 64, 256))
  exact build_words (by kernel_rfl) hi hz hf h

theorem first_c {w : World} {K : VPost} (hK : ∀ w', Ext [] w w' → K (.agg (uc shaH).toArray) w') : Calls Tryz.prog 93 #[] w (retK K) := by
  refine c93_calls w K ?_
  unfold c93
  refine (Sep.nil w).alloc zero_w8 cells_w8 fun b w1 s _ => ?_
  refine build_w8 (l := shaH) (by kernel_rfl) ?_
  refine s.storeAll 0 rfl rfl rfl (uc_one _) fun w2 s _ => s.loadAll 0 rfl rfl ?_
  exact hK w2 s.ext

theorem constants_c {w : World} {K : VPost} (hK : ∀ w', Ext [] w w' → K (.agg (uc shaK).toArray) w') : Calls Tryz.prog 104 #[] w (retK K) := by
  refine c104_calls w K ?_
  unfold c104
  refine (Sep.nil w).alloc zero_w64 cells_w64 fun b w1 s _ => ?_
  refine build_w64 (l := shaK) (by kernel_rfl) ?_
  refine s.storeAll 0 rfl rfl rfl (uc_one _) fun w2 s _ => s.loadAll 0 rfl rfl ?_
  exact hK w2 s.ext

theorem set_mid {α : Type} (a : List α) (x y : α) (r : List α) (n : Nat) (h : a.length = n) : (a ++ x :: r).set n y = a ++ y :: r := by
  subst h
  rw [List.set_append_right _ _ (Nat.le_refl _), Nat.sub_self, List.set_cons_zero]
theorem get_mid {α : Type} (a : List α) (x : α) (r : List α) (n : Nat) (h : a.length = n) : (a ++ x :: r)[n]? = some x := by
  subst h
  rw [List.getElem?_append_right (Nat.le_refl _), Nat.sub_self]; rfl
theorem get_left (a r : List UInt32) (n : Nat) (h : n < a.length) : (uc (a ++ r))[n]? = some (uv (a.getD n 0)) := by
  rw [uc_append, List.getElem?_append_left (by rw [uc_length]; exact h), uc_get h]

def accW (b : Bytes) (t : Nat) : Nat → UInt32
  | 0 => 0
  | j + 1 => accW b t j <<< 8 ||| u8w (b.getD (4 * t + j) 0)
theorem accW_word (b : Bytes) (t : Nat) : accW b t 4 = word b t := by
  unfold accW accW accW accW accW word
  rw [zero_shl, Nat.add_zero]

theorem schedule_c {w : World} {K : VPost} {v : Value} {blk : Bytes} (hb : RdSl w v 1 (bc blk) 64) (hcap : capOk v) (hK : ∀ w', Ext [] w w' → K (.agg (uc (sched blk 64)).toArray) w') :
    Calls Tryz.prog 105 #[v] w (retK K) := by
  have hbl : blk.length = 64 := by have := hb.1; rw [bc_length] at this; omega
  refine c105_calls _ w K ?_
  unfold c105
  refine ((Sep.nil w).addR (T := rR v 1 (bc blk) 64) hb (by simp)).alloc zero_w64 cells_w64 fun b w1 s _ => ?_
  refine bindX_i fun J0 h0 => bindX_i fun J1 h1 => bindX_i fun J2 h2 => ?_
  refine loop_i (fun m fr wr => ∃ t : Nat, m = 64 - t ∧ t ≤ 64 ∧ fr 0 = v ∧ fr 2 = .pointer (some ⟨b, 0, none⟩) ∧ fr 8 = .int .i64 t ∧
    Sep [] w wr [rB b (uc (sched blk t ++ List.replicate (64 - t) 0)) 148] [rR v 1 (bc blk) 64]) 64 ?_ ?_
  · exact ⟨0, rfl, by omega, rfl, rfl, rfl, s⟩
  · rintro m fr wr J ⟨t, rfl, ht, f0, f2, f8, s⟩ hJ hX
    rw [f8]
    refine nlss (x := t) (y := 64) ?_
    refine cond_d (fun hlt => ?_) (fun hlt => ?_)
    · refine bindX_i fun J3 h3 => bindX_i fun J4 h4 => bindX_i fun J5 h5 => ?_
      have hsl := sched_length blk t
      have hrep : List.replicate (64 - t) (0 : UInt32) = 0 :: List.replicate (63 - t) 0 := by rw [show 64 - t = (63 - t) + 1 by omega, List.replicate_succ]
      rw [hrep] at s
      -- the round's end
      have fin : ∀ (fr : Fr) (wr : World), fr 0 = v → fr 2 = .pointer (some ⟨b, 0, none⟩) → fr 8 = .int .i64 t → Sep [] w wr [rB b (uc (sched blk (t + 1) ++ List.replicate (63 - t) 0)) 148] [rR v 1 (bc blk) 64] → J3 .normal fr wr := by
        intro fr wr f0 f2 f8 s
        refine seq_n h3 ?_
        rw [f8]
        refine nadd (x := t) (y := 1) (by omega) ?_
        exact hJ (64 - (t + 1)) _ _ (by omega) ⟨t + 1, rfl, by omega, f0, f2, rfl, by rwa [show 64 - (t + 1) = 63 - t by omega]⟩
      refine nlss (x := t) (y := 16) (cond_d (fun h16 => ?_) (fun h16 => ?_))
      · refine bindX_i fun J6 h6 => ?_
        refine nmul (x := 4) (y := t) (by omega) (nmul (x := 4) (y := t) (by omega) (nadd (x := 4 * t) (y := 4) (by omega) ?_))
        rw [f0]
        refine RdSl.cut (l := 4 * t) (h := 4 * t + 4) (s.rat 0 rfl) hcap rfl rfl (by omega) (by omega) fun v' hv' hc' hs' hf' => ?_
        have hpart : (List.take ((4 * t + 4 - 4 * t) * 1) (List.drop (4 * t * 1) (bc blk))) = bc ((blk.drop (4 * t)).take 4) := by
          rw [bc_part, Nat.mul_one, Nat.mul_one, show 4 * t + 4 - 4 * t = 4 by omega]
        have hl4 : ((blk.drop (4 * t)).take 4).length = 4 := by rw [List.length_take, List.length_drop]; omega
        rw [hpart, show 4 * t + 4 - 4 * t = 4 by omega] at hv'
        rw [hpart] at hf'
        have s := s.part (T := rR v' 1 (bc ((blk.drop (4 * t)).take 4)) 4) (U := rR v 1 (bc blk) 64) (by simp) hv' hf'
        obtain ⟨va, vc, hva⟩ := hv'.len
        have hlen : ∀ (w : World) (K : VPost), lenW Tryz.prog (some true) #[36] 3 #[v'] w K = K (.int .i64 (4 : Nat)) w := fun w K => by rw [hva, len_s]
        rw [hlen]
        refine bindX_i fun J7 h7 => ?_
        refine loop_i (fun m fr wr => ∃ j : Nat, m = 4 - j ∧ j ≤ 4 ∧ fr 0 = v ∧ fr 2 = .pointer (some ⟨b, 0, none⟩) ∧ fr 8 = .int .i64 t ∧ fr 3 = .int .i64 t ∧ fr 19 = v' ∧ fr 20 = .int .i64 (4 : Nat) ∧ fr 21 = .int .i64 j ∧
          Sep [] w wr [rB b (uc (sched blk t ++ accW blk t j :: List.replicate (63 - t) 0)) 148] [rR v' 1 (bc ((blk.drop (4 * t)).take 4)) 4, rR v 1 (bc blk) 64]) 4 ?_ ?_
        · exact ⟨0, rfl, by omega, f0, f2, f8, rfl, rfl, rfl, rfl, s⟩
        · rintro m fr wr I ⟨j, rfl, hj, g0, g2, g8, g3, g19, g20, g21, s⟩ hI hY
          rw [g20, g21]
          refine nlss (x := j) (y := 4) (cond_d (fun hj4 => ?_) (fun hj4 => ?_))
          · rw [g19, g2, g3]
            obtain ⟨pb, po, hix, hld⟩ := RdSl.at1 (s.rat 0 rfl) (i := j) (by rw [hl4]; exact hj4) .i64
            refine hix _ (hld _ ?_)
            have hget : ((blk.drop (4 * t)).take 4).getD j 0 = blk.getD (4 * t + j) 0 := by
              simp only [List.getD_eq_getElem?_getD, List.getElem?_take, hj4, if_true, List.getElem?_drop]
            rw [hget]
            have hl64 : (sched blk t ++ accW blk t j :: List.replicate (63 - t) 0).length = 64 := by simp [hsl]; omega
            have hg : (sched blk t ++ accW blk t j :: List.replicate (63 - t) 0).getD t 0 = accW blk t j := by rw [List.getD_eq_getElem?_getD, get_mid _ _ _ t hsl]; rfl
            refine idxA1 hlt (s.ldw 0 rfl (by omega) ?_)
            rw [hg, show ((8 : Int)) = ((8 : Nat) : Int) from rfl, u32_shl (show 8 < 32 by decide), conv_u8w und_u8 und_u32, u32_or]
            refine idxA1 hlt (s.stw 0 rfl (by omega) fun w2 s => ?_)
            rw [set_mid _ _ _ _ t hsl] at s
            have s : Sep [] w w2 [rB b (uc (sched blk t ++ accW blk t (j + 1) :: List.replicate (63 - t) 0)) 148] _ := s
            refine nadd (x := j) (y := 1) (by omega) ?_
            exact hI (4 - (j + 1)) _ _ (by omega) ⟨j + 1, rfl, by omega, g0, g2, g8, g3, g19, g20, rfl, s⟩
          · obtain rfl : j = 4 := by omega
            rw [accW_word] at s
            refine hY _ _ _ (by simp) (h7 _ _ _ (blk_x (seq_n h6 (fin _ _ g0 g2 g8 ?_))))
            have s := s.sub (L' := [rB b (uc (sched blk t ++ word blk t :: List.replicate (63 - t) 0)) 148]) (R' := [rR v 1 (bc blk) 64]) (List.Sublist.refl _) (by simp)
            have e : sched blk (t + 1) ++ List.replicate (63 - t) 0 = sched blk t ++ word blk t :: List.replicate (63 - t) 0 := by simp [sched, wAt, h16]
            rw [e]; exact s
      · have far : ∀ (fr : Fr) (wr : World), fr 0 = v → fr 2 = .pointer (some ⟨b, 0, none⟩) → fr 8 = .int .i64 t → fr 3 = .int .i64 t → Sep [] w wr [rB b (uc (sched blk t ++ 0 :: List.replicate (63 - t) 0)) 148] [rR v 1 (bc blk) 64] → J5 .normal fr wr := by
          intro fr wr f0 f2 f8 f3 s
          refine seq_n h5 ?_
          rw [f2, f3]
          have s := s.drew
          generalize wr.drew = wr at *
          have hl64 : (sched blk t ++ 0 :: List.replicate (63 - t) 0).length = 64 := by simp [hsl]; omega
          have hg : ∀ k, k < t → (sched blk t ++ 0 :: List.replicate (63 - t) 0).getD k 0 = (sched blk t).getD k 0 := by
            intro k hk
            rw [List.getD_eq_getElem?_getD, List.getElem?_append_left (by omega), List.getD_eq_getElem?_getD]
          refine nsub (x := t) (y := 15) (by omega) (by omega) (idxA1 (by omega) (s.ldw 0 rfl (by omega) ?_))
          refine nsub (x := t) (y := 2) (by omega) (by omega) (idxA1 (by omega) (s.ldw 0 rfl (by omega) ?_))
          have s := s.drew
          generalize wr.drew = wr at *
          refine nsub (x := t) (y := 16) (by omega) (by omega) (idxA1 (by omega) (s.ldw 0 rfl (by omega) ?_))
          rw [show ((3 : Int)) = ((3 : Nat) : Int) from rfl, u32_shr (show 3 < 32 by decide)]
          refine nsub (x := t) (y := 7) (by omega) (by omega) (idxA1 (by omega) (s.ldw 0 rfl (by omega) ?_))
          rw [show ((10 : Int)) = ((10 : Nat) : Int) from rfl, u32_shr (show 10 < 32 by decide)]
          refine fnW_of (by kernel_rfl) (mix_c _ _ 7 18 (by decide) (by decide) (by decide) (by decide) ?_)
          refine ⟨s.ldw 0 rfl (by omega) ⟨rfl, rfl⟩, s.ldw 0 rfl (by omega) ⟨rfl, rfl⟩, ?_⟩
          rw [u32_add, u32_add]
          refine fnW_of (by kernel_rfl) (mix_c _ _ 17 19 (by decide) (by decide) (by decide) (by decide) ?_)
          refine ⟨s.ldw 0 rfl (by omega) ⟨rfl, rfl⟩, s.ldw 0 rfl (by omega) ⟨rfl, rfl⟩, ?_⟩
          rw [u32_add]
          rw [hg _ (by omega), hg _ (by omega), hg _ (by omega), hg _ (by omega)]
          refine idxA1 hlt (s.stw 0 rfl (by omega) fun w2 s => ?_)
          rw [set_mid _ _ _ _ t hsl] at s
          refine fin _ _ f0 f2 f8 ?_
          have e : sched blk (t + 1) ++ List.replicate (63 - t) 0 = sched blk t ++ wNext (sched blk t) t :: List.replicate (63 - t) 0 := by simp [sched, wAt, h16]
          rw [e]
          exact s
        exact far _ _ f0 f2 f8 rfl s
    · obtain rfl : t = 64 := by omega
      refine hX _ _ _ (by simp) (h2 _ _ _ (blk_x ?_))
      have tail : ∀ (fr : Fr) (wr : World), fr 2 = .pointer (some ⟨b, 0, none⟩) → Sep [] w wr [rB b (uc (sched blk 64 ++ List.replicate (64 - 64) 0)) 148] [rR v 1 (bc blk) 64] → J1 .normal fr wr := ?_
      · exact tail _ _ f2 s
      intro fr wr f2 s
      refine seq_n h1 ?_
      rw [f2]
      have hc : (uc (sched blk 64 ++ List.replicate (64 - 64) 0)) = uc (sched blk 64) := by simp
      rw [hc] at s
      have hl : (uc (sched blk 64)).length = 64 := by rw [uc_length, sched_length]
      refine s.loadAll 0 rfl hl (s.storeAll 0 rfl hl hl (uc_one _) fun w2 s _ => s.loadAll 0 rfl hl ?_)
      exact hK w2 s.ext

theorem rnds_8 (ws : List UInt32) (t : Nat) (s : St) : (rnds ws t s).list.length = 8 := rfl
theorem zip_step (st l : List UInt32) (i : Nat) (h : i < st.length) (h' : i < l.length) :
    (((List.zipWith (· + ·) st l).take i ++ st.drop i).set i (st.getD i 0 + l.getD i 0)) = (List.zipWith (· + ·) st l).take (i + 1) ++ st.drop (i + 1) := by
  have hz : i < (List.zipWith (· + ·) st l).length := by simp; omega
  have hl : ((List.zipWith (· + ·) st l).take i).length = i := by simp; omega
  rw [List.drop_eq_getElem_cons h, set_mid _ _ _ _ i hl, List.take_succ_eq_append_getElem hz]
  simp [List.getD_eq_getElem?_getD, h, h']
theorem zip_get (st l : List UInt32) (i : Nat) (h : i < st.length) (h' : i < l.length) : ((List.zipWith (· + ·) st l).take i ++ st.drop i).getD i 0 = st.getD i 0 := by
  have hl : ((List.zipWith (· + ·) st l).take i).length = i := by simp; omega
  rw [List.getD_eq_getElem?_getD, List.getElem?_append_right (by omega), hl, Nat.sub_self, List.getElem?_drop, List.getD_eq_getElem?_getD, Nat.add_zero]

theorem fill_w8 (a b c d e f g h : UInt32) : fillA 1 (List.replicate 8 (Value.int .u32 0)) [(0, uv a), (1, uv b), (2, uv c), (3, uv d), (4, uv e), (5, uv f), (6, uv g), (7, uv h)] = some (uc [a, b, c, d, e, f, g, h]) := by kernel_rfl

set_option maxHeartbeats 1000000 in
theorem compress_c {w : World} {K : VPost} {v : Value} {blk : Bytes} {st : List UInt32} (hst : st.length = 8) (hb : RdSl w v 1 (bc blk) 64) (hcap : capOk v) (hK : ∀ w', Ext [] w w' → K (.agg (uc (compress st blk)).toArray) w') :
    Calls Tryz.prog 101 #[.agg (uc st).toArray, v] w (retK K) := by
  refine c101_calls _ _ w K ?_
  unfold c101
  have hsl := sched_length blk 64
  have hus : (uc st).length = 8 := by rw [uc_length]; exact hst
  refine ((Sep.nil w).addR (T := rR v 1 (bc blk) 64) hb (by simp)).box fun b2 w1 s _ => ?_
  refine s.alloc zero_w8 cells_w8 fun b4 w2 s _ => ?_
  refine fnW_of (by kernel_rfl) (constants_c fun w3 e => ?_)
  have s := s.ext0 e
  refine fnW_of (by kernel_rfl) (schedule_c (s.rat 0 rfl) hcap fun w4 e => ?_)
  have s := s.ext0 e
  refine s.alloc zero_w64 cells_w64 fun b5 w5 s _ => s.alloc zero_w64 cells_w64 fun b6 w6 s _ => ?_
  have hus64 : (uc (sched blk 64)).length = 64 := by rw [uc_length, hsl]
  refine s.storeAll 1 rfl rfl rfl (uc_one _) fun w7 s _ => s.storeAll 0 rfl hus64 rfl (uc_one _) fun w8 s _ => ?_
  have s : Sep [] w w8 [rB b6 (uc (sched blk 64)) 148, rB b5 (uc shaK) 148, rB b4 (uc (List.replicate 8 0)) 138, rB b2 (uc st) 138] [rR v 1 (bc blk) 64] := s
  have s := s.drew
  generalize w8.drew = w9 at *
  refine idxA1 (i := 0) (by decide) ?_
  refine s.ldw 3 rfl (by omega) ?_
  refine idxA1 (i := 1) (by decide) ?_
  refine s.ldw 3 rfl (by omega) ?_
  refine idxA1 (i := 2) (by decide) ?_
  refine s.ldw 3 rfl (by omega) ?_
  refine idxA1 (i := 3) (by decide) ?_
  refine s.ldw 3 rfl (by omega) ?_
  refine idxA1 (i := 4) (by decide) ?_
  refine s.ldw 3 rfl (by omega) ?_
  refine idxA1 (i := 5) (by decide) ?_
  refine s.ldw 3 rfl (by omega) ?_
  refine idxA1 (i := 6) (by decide) ?_
  refine s.ldw 3 rfl (by omega) ?_
  refine idxA1 (i := 7) (by decide) ?_
  refine s.ldw 3 rfl (by omega) ?_
  refine bindX_i fun J0 h0 => bindX_i fun J1 h1 => bindX_i fun J2 h2 => ?_
  -- behind the rounds
  have tail : ∀ (fr : Fr) (wr : World) (q : St), q = rnds (sched blk 64) 64 (St.ofL st) → fr 2 = .pointer (some ⟨b2, 0, none⟩) → fr 4 = .pointer (some ⟨b4, 0, none⟩) → fr 7 = uv q.a → fr 8 = uv q.b → fr 9 = uv q.c → fr 10 = uv q.d → fr 11 = uv q.e → fr 12 = uv q.f → fr 13 = uv q.g → fr 14 = uv q.h →
      Sep [] w wr [rB b6 (uc (sched blk 64)) 148, rB b5 (uc shaK) 148, rB b4 (uc (List.replicate 8 0)) 138, rB b2 (uc st) 138] [rR v 1 (bc blk) 64] → J1 .normal fr wr := by
    intro fr wr q hq f2 f4 f7 f8 f9 f10 f11 f12 f13 f14 s
    refine seq_n h1 ?_
    refine bindX_i fun J3 h3 => ?_
    refine build_w8 (l := q.list) (by rw [f7, f8, f9, f10, f11, f12, f13, f14]; exact fill_w8 _ _ _ _ _ _ _ _) ?_
    refine bindX_i fun J4 h4 => ?_
    have hql : q.list.length = 8 := rfl
    have fin : ∀ (fr : Fr) (wr : World), fr 2 = .pointer (some ⟨b2, 0, none⟩) → fr 4 = .pointer (some ⟨b4, 0, none⟩) →
        Sep [] w wr [rB b6 (uc (sched blk 64)) 148, rB b5 (uc shaK) 148, rB b4 (uc (List.replicate 8 0)) 138, rB b2 (uc (compress st blk)) 138] [rR v 1 (bc blk) 64] → J3 .normal fr wr := by
      intro fr wr f2 f4 s
      refine seq_n h3 ?_
      rw [f2, f4]
      have hcl : (uc (compress st blk)).length = 8 := by rw [uc_length]; exact compress_length _ _ hst
      refine s.loadAll 3 rfl hcl (s.storeAll 2 rfl hcl rfl (uc_one _) fun w2 s _ => s.loadAll 2 rfl hcl ?_)
      exact hK w2 s.ext
    refine loop_i (fun m fr wr => ∃ i : Nat, m = 8 - i ∧ i ≤ 8 ∧ fr 2 = .pointer (some ⟨b2, 0, none⟩) ∧ fr 4 = .pointer (some ⟨b4, 0, none⟩) ∧ fr 102 = .agg (uc q.list).toArray ∧ fr 103 = .int .i64 i ∧
      Sep [] w wr [rB b6 (uc (sched blk 64)) 148, rB b5 (uc shaK) 148, rB b4 (uc (List.replicate 8 0)) 138, rB b2 (uc ((List.zipWith (· + ·) st q.list).take i ++ st.drop i)) 138] [rR v 1 (bc blk) 64]) 8 ?_ ?_
    · exact ⟨0, rfl, by omega, f2, f4, rfl, rfl, s⟩
    · rintro m fr wr J ⟨i, rfl, hi, g2, g4, g102, g103, s⟩ hJ hX
      rw [g103]
      refine nlss (x := i) (y := 8) (cond_d (fun hlt => ?_) (fun hlt => ?_))
      · rw [g102, g2]
        have hll : ((List.zipWith (· + ·) st q.list).take i ++ st.drop i).length = 8 := by simp [hst, hql]; omega
        refine ixv1 hlt (v := uv (q.list.getD i 0)) (by rw [List.getElem?_toArray]; exact uc_get (by omega)) ?_
        refine idxA1 hlt (s.ldw 3 rfl (by omega) ?_)
        rw [zip_get _ _ _ (by omega) (by omega), u32_add]
        refine idxA1 hlt (s.stw 3 rfl (by omega) fun w2 s => ?_)
        rw [zip_step _ _ _ (by omega) (by omega)] at s
        refine nadd (x := i) (y := 1) (by omega) ?_
        exact hJ (8 - (i + 1)) _ _ (by omega) ⟨i + 1, rfl, by omega, g2, g4, g102, rfl, s⟩
      · obtain rfl : i = 8 := by omega
        refine hX _ _ _ (by simp) (h4 _ _ _ (blk_x (fin _ _ g2 g4 ?_)))
        have e : (List.zipWith (· + ·) st q.list).take 8 ++ st.drop 8 = compress st blk := by
          rw [List.take_of_length_le (by simp; omega), List.drop_of_length_le (by omega), List.append_nil, hq]; rfl
        rw [e] at s
        exact s
  refine loop_i (fun m fr wr => ∃ (t : Nat) (q : St), m = 64 - t ∧ t ≤ 64 ∧ q = rnds (sched blk 64) t (St.ofL st) ∧ fr 2 = .pointer (some ⟨b2, 0, none⟩) ∧ fr 4 = .pointer (some ⟨b4, 0, none⟩) ∧ fr 5 = .pointer (some ⟨b5, 0, none⟩) ∧ fr 6 = .pointer (some ⟨b6, 0, none⟩) ∧ fr 39 = .int .i64 t ∧
    fr 7 = uv q.a ∧ fr 8 = uv q.b ∧ fr 9 = uv q.c ∧ fr 10 = uv q.d ∧ fr 11 = uv q.e ∧ fr 12 = uv q.f ∧ fr 13 = uv q.g ∧ fr 14 = uv q.h ∧
    Sep [] w wr [rB b6 (uc (sched blk 64)) 148, rB b5 (uc shaK) 148, rB b4 (uc (List.replicate 8 0)) 138, rB b2 (uc st) 138] [rR v 1 (bc blk) 64]) 64 ?_ ?_
  · exact ⟨0, St.ofL st, rfl, by omega, rfl, rfl, rfl, rfl, rfl, rfl, rfl, rfl, rfl, rfl, rfl, rfl, rfl, rfl, s⟩
  · rintro m fr wr J ⟨t, q, rfl, ht, hq, f2, f4, f5, f6, f39, f7, f8, f9, f10, f11, f12, f13, f14, s⟩ hJ hX
    rw [f39]
    refine nlss (x := t) (y := 64) (cond_d (fun hlt => ?_) (fun hlt => ?_))
    · rw [f5, f6, f7, f8, f9, f10, f11, f12, f13, f14]
      have s := s.drew
      generalize wr.drew = wr at *
      have hkl : shaK.length = 64 := rfl
      rw [u32_and, u32_not, u32_and, u32_xor]
      refine idxA1 hlt ?_
      refine s.ldw 1 rfl (by omega) ?_
      refine idxA1 hlt ?_
      refine s.ldw 0 rfl (by omega) ?_
      refine fnW_of (by kernel_rfl) (rot_c _ 25 (by decide) (by decide) ?_)
      refine ⟨s.ldw 1 rfl (by omega) ⟨rfl, rfl⟩, s.ldw 0 rfl (by omega) ⟨rfl, rfl⟩, ?_⟩
      refine fnW_of (by kernel_rfl) (mix_c _ _ 6 11 (by decide) (by decide) (by decide) (by decide) ?_)
      refine ⟨s.ldw 1 rfl (by omega) ⟨rfl, rfl⟩, s.ldw 0 rfl (by omega) ⟨rfl, rfl⟩, ?_⟩
      rw [u32_add, u32_add, u32_add, u32_add]
      refine fnW_of (by kernel_rfl) (rot_c _ 22 (by decide) (by decide) ?_)
      refine fnW_of (by kernel_rfl) (mix_c _ _ 2 13 (by decide) (by decide) (by decide) (by decide) ?_)
      rw [u32_and, u32_and, u32_xor, u32_and, u32_xor, u32_add, u32_add, u32_add]
      refine nadd (x := t) (y := 1) (by omega) ?_
      refine hJ (64 - (t + 1)) _ _ (by omega) ⟨t + 1, rnd q (shaK.getD t 0) ((sched blk 64).getD t 0), rfl, by omega, by rw [hq]; rfl, f2, f4, f5, f6, rfl, rfl, ?_, ?_, ?_, rfl, ?_, ?_, ?_, s⟩
      all_goals rfl
    · obtain rfl : t = 64 := by omega
      exact hX _ _ _ (by simp) (h2 _ _ _ (blk_x (tail _ _ q hq f2 f4 f7 f8 f9 f10 f11 f12 f13 f14 s)))

def hcells (m : HM) (rv : Value) : List Value := uc m.st ++ [rv, .int .i64 m.n]
section
variable {m : HM} {rv : Value} (h : m.st.length = 8)
include h
theorem hc_len : (hcells m rv).length = 10 := by simp [hcells, uc_length, h]
theorem hc_8 : (hcells m rv)[8]? = some rv := by
  unfold hcells; rw [List.getElem?_append_right (by rw [uc_length]; omega), uc_length, h]; rfl
theorem hc_9 : (hcells m rv)[9]? = some (.int .i64 m.n) := by
  unfold hcells; rw [List.getElem?_append_right (by rw [uc_length]; omega), uc_length, h]; rfl
theorem hc_st : ((hcells m rv).drop 0).take 8 = uc m.st := by
  unfold hcells; rw [List.drop_zero, List.take_append_of_le_length (by rw [uc_length]; omega), List.take_of_length_le (by rw [uc_length]; omega)]
theorem hc_s8 (rv' : Value) : (hcells m rv).set 8 rv' = hcells m rv' := by
  unfold hcells; rw [List.set_append_right _ _ (by rw [uc_length]; omega), uc_length, h]; rfl
theorem hc_s9 (n : Nat) : (hcells m rv).set 9 (.int .i64 n) = hcells { m with n := n } rv := by
  unfold hcells; rw [List.set_append_right _ _ (by rw [uc_length]; omega), uc_length, h]; rfl
theorem hc_spl (st : List UInt32) (hs : st.length = 8) : lspl (hcells m rv) 0 (uc st) = hcells { m with st := st } rv := by
  unfold hcells lspl
  rw [List.take_zero, List.nil_append, Nat.zero_add, uc_length, hs, List.drop_append_of_le_length (by rw [uc_length]; omega), List.drop_of_length_le (by rw [uc_length]; omega), List.nil_append]
end

structure IsHash (w : World) (p : Nat) (rv : Value) (m : HM) : Prop where
  hdr : Blk w p (hcells m rv) 141
  rest : OwnAt w rv 5 1 (bc m.rest) m.rest.length
  ne : p ∉ slB rv
  st : m.st.length = 8
/-- The hash behind a pointer, and the blocks that are its. -/
def Hash (w : World) (p : Nat) (F : List Nat) (m : HM) : Prop := ∃ rv, IsHash w p rv m ∧ F = p :: slB rv
theorem Hash.keep {w w' : World} {p : Nat} {F S : List Nat} {m : HM} (h : Hash w p F m) (e : Ext S w w') (hd : ∀ b ∈ F, b ∉ S) : Hash w' p F m := by
  obtain ⟨rv, h, rfl⟩ := h
  exact ⟨rv, ⟨h.hdr.keep e (hd p (by simp)), h.rest.keep e (fun b hb => hd b (by simp [hb])), h.ne, h.st⟩, rfl⟩
theorem Hash.lt {w : World} {p : Nat} {F : List Nat} {m : HM} (h : Hash w p F m) : ∀ b ∈ F, b < w.heap.size := by
  obtain ⟨rv, h, rfl⟩ := h
  intro b hb
  rcases List.mem_cons.1 hb with rfl | hb
  · exact h.hdr.lt
  · exact h.rest.lt b hb
def rH (p : Nat) (F : List Nat) (m : HM) : Res := ⟨F, fun w => Hash w p F m, fun h => h.lt, fun h e hd => h.keep e hd⟩

theorem Hash.len8 {w : World} {p : Nat} {F : List Nat} {m : HM} (h : Hash w p F m) : m.st.length = 8 := by obtain ⟨_, h, _⟩ := h; exact h.st

/-- A hash's parts in hand. -/
theorem Hash.open {w : World} {p : Nat} {rv : Value} {m : HM} {R : List Res} (h : IsHash w p rv m) (hR : ∀ T ∈ R, T.holds w) (hd : ∀ T ∈ R, ∀ b ∈ p :: slB rv, b ∉ T.foot) :
    Sep (p :: slB rv) w w [rB p (hcells m rv) 141, rO rv 5 1 (bc m.rest) m.rest.length] R :=
  Sep.start (by
    intro T hT
    rcases List.mem_cons.1 hT with rfl | hT
    · exact h.hdr
    · simp at hT; subst hT; exact h.rest) hR (by
    intro T hT b hb
    rcases List.mem_cons.1 hT with rfl | hT
    · simp [rB] at hb; subst hb; simp
    · simp at hT; subst hT; exact List.mem_cons_of_mem _ hb) (by
    refine List.pairwise_cons.2 ⟨fun T hT b hb => ?_, by simp⟩
    simp [rB] at hb
    simp at hT
    subst hb; subst hT
    exact h.ne) (by
    intro T hT U hU b hb
    refine hd U hU b ?_
    rcases List.mem_cons.1 hT with rfl | hT
    · simp [rB] at hb; subst hb; simp
    · simp at hT; subst hT; exact List.mem_cons_of_mem _ hb)
/-- .. and a hash again. -/
theorem Sep.hash {S : List Nat} {w0 w : World} {L R : List Res} {p : Nat} {rv : Value} {m : HM} (s : Sep S w0 w (rB p (hcells m rv) 141 :: rO rv 5 1 (bc m.rest) m.rest.length :: L) R) (hst : m.st.length = 8) :
    Hash w p (p :: slB rv) m ∧ ∀ b ∈ p :: slB rv, b ∈ S ∨ w0.heap.size ≤ b := by
  have hp := (List.pairwise_cons.1 s.dis).1 (rO rv 5 1 (bc m.rest) m.rest.length) (by simp) p (by simp [rB])
  refine ⟨⟨rv, ⟨s.at 0 rfl, s.at 1 rfl, hp, hst⟩, rfl⟩, fun b hb => ?_⟩
  rcases List.mem_cons.1 hb with rfl | hb
  · exact s.old _ List.mem_cons_self b (by simp [rB])
  · exact s.old (rO rv 5 1 (bc m.rest) m.rest.length) (by simp) b hb

theorem absorb_snoc (j : Nat) : ∀ (s : List UInt32) (x : Bytes), 64 * (j + 1) ≤ x.length → absorb (j + 1) s x = compress (absorb j s x) ((x.drop (64 * j)).take 64) := by
  induction j with
  | zero => intro s x _; rfl
  | succ j ih =>
    intro s x h
    show absorb (j + 1) (compress s (x.take 64)) (x.drop 64) = compress (absorb j (compress s (x.take 64)) (x.drop 64)) _
    rw [ih _ _ (by rw [List.length_drop]; omega), List.drop_drop, show 64 + 64 * j = 64 * (j + 1) by omega]

theorem und_bytes' : Tryz.prog.underlying 36 = some (.slice 5) := und_u8s

set_option maxHeartbeats 1000000 in
theorem take_c {w : World} {K : VPost} {p : Nat} {F : List Nat} {m : HM} {x : Value} {b : Bytes} (h : Hash w p F m) (hx : RdSl w x 1 (bc b) b.length) (hd : ∀ c ∈ F, c ∉ rdB x (bc b)) (hn : m.n + b.length ≤ 2 ^ 38) (hr : m.rest.length + b.length ≤ 2 ^ 38)
    (hK : ∀ F' w', Hash w' p F' (m.take b) → Mv F w F' w' → K (.tuple #[]) w') : Calls Tryz.prog 94 #[.pointer (some ⟨p, 0, none⟩), x] w (retK K) := by
  refine c94_calls _ _ w K ?_
  unfold c94
  obtain ⟨rv, h, rfl⟩ := h
  have h8 := h.st
  obtain ⟨ui, hui, huz, husz, huby⟩ := tyI_spec ty_u8
  have s := Hash.open (R := [rR x 1 (bc b) b.length]) h (by intro T hT; simp at hT; subst hT; exact hx) (by intro T hT c hc; simp at hT; subst hT; exact hd c hc)
  rw [nilW_e]
  refine off_i (k := 8) ?_
  refine s.load1 0 rfl (hc_8 h8) ?_
  refine s.appendO (v := rv) (n := m.rest.length) (m := b.length) (ys := bc b) (xs := bc m.rest) 1 (by rw [husz]; rfl) und_u8s und_u8s hui huz (by rw [husz]; rfl) (by rw [huby]; decide) (by rw [husz]; exact s.rat 0 rfl) (bc_one _) (by rw [huby]; omega) fun rv1 w1 s => ?_
  rw [husz, ← bc_append] at s
  have s : Sep _ w w1 [rB p (hcells m rv) 141, rO rv1 5 1 (bc (m.rest ++ b)) (m.rest.length + b.length)] _ := s
  rw [nilW_e]
  refine off_i (k := 8) ?_
  have hv1 : rv1.cells = #[rv1] ∧ rv1.oneCell' = true := by
    obtain ⟨a, c, rfl⟩ := (OwnAt.rd (s.at 1 rfl)).len
    exact ⟨rfl, rfl⟩
  refine s.store1 0 rfl hv1.1 (by rw [hc_len h8]; decide) hv1.2 fun w2 s _ => ?_
  have s : Sep _ w w2 [rB p ((hcells m rv).set 8 rv1) 141, rO rv1 5 1 (bc (m.rest ++ b)) (m.rest.length + b.length)] _ := s
  rw [hc_s8 h8] at s
  rw [nilW_e]
  refine off_i (k := 9) ?_
  refine s.load1 0 rfl (hc_9 h8) ?_
  obtain ⟨xa, xc, hxa⟩ := hx.len
  rw [hxa, len_s]
  refine nadd (by omega) ?_
  rw [nilW_e]
  refine off_i (k := 9) ?_
  refine s.store1 0 rfl rfl (by rw [hc_len h8]; decide) rfl fun w3 s _ => ?_
  have s : Sep _ w w3 [rB p ((hcells m rv1).set 9 (.int .i64 ((m.n + b.length : Nat) : Int))) 141, rO rv1 5 1 (bc (m.rest ++ b)) (m.rest.length + b.length)] _ := s
  rw [hc_s9 h8] at s
  refine bindX_i fun J0 h0 => bindX_i fun J1 h1 => ?_
  generalize hr0 : m.rest ++ b = r0 at s
  have hrl : r0.length = m.rest.length + b.length := by rw [← hr0, List.length_append]
  rw [← hrl] at s
  refine loop_i (fun q fr wr => ∃ (j : Nat) (rv' : Value), q = r0.length - 64 * j ∧ 64 * j ≤ r0.length ∧ fr 0 = .pointer (some ⟨p, 0, none⟩) ∧
    Sep (p :: slB rv) w wr [rB p (hcells ⟨absorb j m.st r0, r0.drop (64 * j), m.n + b.length⟩ rv') 141, rO rv' 5 1 (bc (r0.drop (64 * j))) (r0.drop (64 * j)).length] [rR x 1 (bc b) b.length]) r0.length ?_ ?_
  · exact ⟨0, rv1, by omega, by omega, rfl, s⟩
  · rintro q fr wr J ⟨j, rv', rfl, hj, f0, s⟩ hJ hX
    have ha8 : (absorb j m.st r0).length = 8 := absorb_length _ _ _ h8
    have hdl : (r0.drop (64 * j)).length = r0.length - 64 * j := List.length_drop
    rw [f0, nilW_e]
    refine off_i (k := 8) ?_
    refine s.load1 0 rfl (hc_8 ha8) ?_
    obtain ⟨ra, rc, hra⟩ := (OwnAt.rd (s.at 1 rfl)).len
    have hlen : ∀ (w : World) (K : VPost), lenW Tryz.prog (some true) #[36] 3 #[rv'] w K = K (.int .i64 (r0.drop (64 * j)).length) w := fun w K => by rw [hra, len_s]
    rw [hlen]
    refine ngeq (y := 64) (cond_d (fun hge => ?_) (fun hge => ?_))
    · have s := s.drew
      generalize wr.drew = wr at *
      rw [nilW_e]
      refine off_i (k := 0) ?_
      refine s.loadN 0 rfl (by rw [hc_len ha8]; decide) ?_
      rw [Nat.zero_add, hc_st ha8, nilW_e]
      refine off_i (k := 8) ?_
      refine s.load1 0 rfl (hc_8 ha8) ?_
      refine RdSl.cut (l := 0) (h := 64) (OwnAt.rd (s.at 1 rfl)) (OwnAt.cap (s.at 1 rfl)) rfl rfl (by omega) hge fun v' hv' hc' _ _ => ?_
      have hpart : (List.take ((64 - 0) * 1) (List.drop (0 * 1) (bc (r0.drop (64 * j))))) = bc ((r0.drop (64 * j)).take 64) := by
        rw [Nat.zero_mul, bc_part, List.drop_zero]
      rw [hpart] at hv'
      refine fnW_of (by kernel_rfl) (compress_c ha8 hv' hc' fun w4 e => ?_)
      have s := s.ext0 e
      have hn8 : (compress (absorb j m.st r0) ((r0.drop (64 * j)).take 64)).length = 8 := compress_length _ _ ha8
      rw [nilW_e]
      refine off_i (k := 0) ?_
      refine s.storeN 0 rfl rfl (by rw [uc_length, hn8]) (by rw [hc_len ha8]; decide) (uc_one _) fun w5 s _ => ?_
      have s : Sep _ w w5 [rB p (lspl (hcells ⟨absorb j m.st r0, r0.drop (64 * j), m.n + b.length⟩ rv') 0 (uc (compress (absorb j m.st r0) ((r0.drop (64 * j)).take 64)))) 141, rO rv' 5 1 (bc (r0.drop (64 * j))) (r0.drop (64 * j)).length] _ := s
      rw [hc_spl ha8 _ hn8, ← absorb_snoc j _ _ (by omega)] at s
      have hb8 : (absorb (j + 1) m.st r0).length = 8 := absorb_length _ _ _ h8
      rw [nilW_e]
      refine off_i (k := 8) ?_
      refine s.load1 0 rfl (hc_8 hb8) ?_
      refine OwnAt.cutO (l := 64) (h := (r0.drop (64 * j)).length) (s.at 1 rfl) rfl rfl hge (Nat.le_refl _) fun v2 hv2 hb2 => ?_
      have hpart2 : (List.take (((r0.drop (64 * j)).length - 64) * 1) (List.drop (64 * 1) (bc (r0.drop (64 * j))))) = bc (r0.drop (64 * (j + 1))) := by
        rw [bc_part, List.drop_drop, List.take_of_length_le (by rw [List.length_drop]; omega)]
        congr 1
      have hl2 : (r0.drop (64 * j)).length - 64 = (r0.drop (64 * (j + 1))).length := by rw [List.length_drop, List.length_drop]; omega
      rw [hpart2, hl2] at hv2
      have s := s.upd 1 rfl (T' := rO v2 5 1 (bc (r0.drop (64 * (j + 1)))) (r0.drop (64 * (j + 1))).length) hv2 (Ext.refl _ _) (fun c hc => .inl (by
        show c ∈ slB rv'
        rw [← hb2]; exact hc))
      rw [nilW_e]
      refine off_i (k := 8) ?_
      have hvc : v2.cells = #[v2] ∧ v2.oneCell' = true := by
        obtain ⟨a, c, rfl⟩ := (OwnAt.rd hv2).len
        exact ⟨rfl, rfl⟩
      refine s.store1 0 rfl hvc.1 (by rw [hc_len hb8]; decide) hvc.2 fun w6 s _ => ?_
      have s : Sep _ w w6 [rB p ((hcells ⟨absorb (j + 1) m.st r0, r0.drop (64 * j), m.n + b.length⟩ rv').set 8 v2) 141, rO v2 5 1 (bc (r0.drop (64 * (j + 1)))) (r0.drop (64 * (j + 1))).length] _ := s
      rw [hc_s8 hb8] at s
      exact hJ (r0.length - 64 * (j + 1)) _ _ (by omega) ⟨j + 1, v2, rfl, by omega, f0, s⟩
    · refine hX _ _ _ (by simp) (h1 _ _ _ (blk_x (h0 _ _ _ ?_)))
      have hjj : r0.length / 64 = j := by omega
      obtain ⟨hh, ho⟩ := s.hash ha8
      have em : m.take b = ⟨absorb j m.st r0, r0.drop (64 * j), m.n + b.length⟩ := by
        unfold HM.take
        rw [hr0, hjj]
      refine hK _ _ (em ▸ hh) ⟨s.ext, ho⟩

theorem slArr0 {b n sz : Nat} {w : World} {K : VPost} (h : K (.slice (some ⟨b, 0, none⟩) n n) w) : sliceW (.arr n sz) (.pointer (some ⟨b, 0, none⟩)) none none none w K := slArr_i h

theorem Blk.rdAll {w : World} {b n : Nat} {cs : List Value} {t : TypeId} (h : Blk w b cs t) (hn : cs.length = n) : RdSl w (.slice (some ⟨b, 0, none⟩) n n) 1 cs n :=
  ⟨by rw [hn, Nat.mul_one], .inr ⟨b, 0, n, cs, rfl, h.r, by rw [List.drop_zero, List.take_of_length_le (by rw [hn, Nat.mul_one]; exact Nat.le_refl _)], by rw [hn]; omega⟩⟩

/-! ### What stands behind -/
theorem be8_range (x : Nat) : be8 x = (List.range 8).map fun j => UInt8.ofNat (x >>> (56 - 8 * j)) := rfl
theorem be8_step (x j : Nat) (h : j < 8) : (be8 x).take (j + 1) = (be8 x).take j ++ [UInt8.ofNat (x >>> (56 - 8 * j))] := by
  have hl : j < (be8 x).length := by rw [be8_length]; exact h
  rw [List.take_succ_eq_append_getElem hl]
  congr 2
  simp [be8_range]

theorem flat_one (v : Value) (h : v.cells = #[v]) : flatV [v] = [v] := by simp [flatV, h]
theorem bv_cells (b : UInt8) : (bv b).cells = #[bv b] := rfl

/-- A byte more. -/
theorem Sep.addByte {S : List Nat} {w0 w : World} {L R : List Res} {K : Value → VPost} {v : Value} {l : Bytes} {n : Nat} (s : Sep S w0 w L R) (i : Nat) (hL : L[i]? = some (rO v 5 1 (bc l) n)) (b : UInt8) (hn : n ≤ 2 ^ 38)
    (h : ∀ t v' w', Sep S w0 w' (L.set i (rO v' 5 1 (bc (l ++ [b])) (n + 1))) R → K t v' w') :
    insW Tryz.prog (Instr.buildSlice 36 1 #[(0, bv b)]) w fun t w' => insW Tryz.prog (Builtin.append_ #[36, 36] 36 #[v, t]) w' (K t) := by
  obtain ⟨ui, hui, huz, husz, huby⟩ := tyI_spec ty_u8
  refine s.lit (vs := [bv b]) und_u8s hui huz rfl (by intro x hx; simp at hx; subst hx; rw [husz]; rfl) (by rw [husz]; simp) fun t w1 s1 ht _ => ?_
  have s1 : Sep S w0 w1 (rO t 5 ui.size [bv b] 1 :: L) R := s1
  rw [husz] at s1
  have hi : i < L.length := (List.getElem?_eq_some_iff.1 hL).1
  refine s1.appendO (v := v) (n := n) (m := 1) (ys := [bv b]) (xs := bc l) (i + 1) (by rw [husz]; simpa using hL) und_u8s und_u8s hui huz (by rw [husz]; rfl) (by rw [huby]; decide) (by rw [husz]; exact OwnAt.rd (s1.at 0 rfl)) (by intro y hy; simp at hy; subst hy; rfl) (by rw [huby]; omega) fun v' w2 s2 => ?_
  rw [husz] at s2
  have e : bc l ++ [bv b] = bc (l ++ [b]) := by simp [bc]
  rw [e] at s2
  exact h t v' w2 (s2.drop 0)

theorem pad_c {w : World} {K : VPost} (n : Int) (hno : ¬ (0 ≤ n ∧ n ≤ 1125899906842624) → K (.slice none 0 0) w)
    (hK : 0 ≤ n ∧ n ≤ 1125899906842624 → ∀ v w', OwnAt w' v 5 1 (bc (padM n.toNat)) (padM n.toNat).length → Ext [] w w' → (∀ b ∈ slB v, w.heap.size ≤ b) → K v w') :
    Calls Tryz.prog 96 #[.int .i64 n] w (retK K) := by
  refine c96_calls _ w K ?_
  unfold c96
  obtain ⟨ui, hui, huz, husz, huby⟩ := tyI_spec ty_u8
  rw [ilss]
  by_cases h0 : n < 0
  · simp only [h0, decide_true, gstep_tf, pickW_t, condW_t]
    exact hno (by omega)
  · simp only [h0, decide_false, gstep_f, igtr, pickW_f]
    refine cond_d (fun h1 => hno (by omega)) (fun h1 => ?_)
    replace hK := hK (by omega)
    obtain ⟨n, rfl⟩ : ∃ k : Nat, n = k := ⟨n.toNat, by omega⟩
    simp only [Int.toNat_natCast] at hK
    refine nrem (y := 64) (by decide) ?_
    refine nsub (x := 119) (by omega) (by decide) ?_
    refine nrem (y := 64) (by decide) ?_
    refine (Sep.nil w).lit (vs := [bv 128]) und_u8s hui huz rfl (by intro x hx; simp at hx; subst hx; rw [husz]; rfl) (by rw [husz]; simp) fun t w1 s ht _ => ?_
    have hz : (119 - n % 64) % 64 = zeros n := rfl
    rw [hz]
    have hzl : zeros n < 64 := Nat.mod_lt _ (by decide)
    refine s.appendZ (v := t) (n := 1) (m := zeros n) (xs := flatV [bv 128]) 0 rfl und_u8s und_int hui huz (by rw [husz]; rfl) (by rw [huby]; decide) (by intro y hy; simp [Value.cells] at hy; subst hy; rfl) (by rw [huby]; omega) fun v w2 s => ?_
    have hzc : (Builtin.zeroCells (Value.int .u8 0).cells (zeros n)).toList = bc (List.replicate (zeros n) 0) := by
      rw [bc_zeros]
      apply List.ext_getElem
      · rw [zeroC _ _ 1 rfl]; simp
      · intro k h1 h2
        unfold Builtin.zeroCells
        simp [Value.cells, Nat.mod_one]
    rw [hzc, husz] at s
    have s : Sep [] w w2 [rO v 5 1 (bc (128 :: List.replicate (zeros n) 0)) (1 + zeros n)] [] := s
    refine bindX_i fun J0 h0 => bindX_i fun J1 h1 => bindX_i fun J2 h2 => ?_
    refine loop_i (fun m fr wr => ∃ (j : Nat) (v : Value), m = 8 - j ∧ j ≤ 8 ∧ fr 0 = .int .i64 n ∧ fr 4 = v ∧ fr 5 = .int .i64 (56 - 8 * (j : Int)) ∧
      Sep [] w wr [rO v 5 1 (bc (128 :: List.replicate (zeros n) 0 ++ (be8 (n * 8)).take j)) (1 + zeros n + j)] []) 8 ?_ ?_
    · exact ⟨0, v, rfl, by omega, rfl, rfl, rfl, by rw [List.take_zero, List.append_nil]; exact s⟩
    · rintro m fr wr J ⟨j, v, rfl, hj, f0, f4, f5, s⟩ hJ hX
      rw [f0, f4, f5, igeq]
      refine cond_d (fun hge => ?_) (fun hge => ?_)
      · have hj8 : j < 8 := by omega
        refine nmul (x := n) (y := 8) (by omega) ?_
        have e56 : (56 - 8 * (j : Int)) = ((56 - 8 * j : Nat) : Int) := by omega
        rw [e56]
        refine nshr (by show 56 - 8 * j ≤ 64; omega) ?_
        rw [conv_byte und_int und_u8]
        refine s.addByte 0 rfl _ (by omega) fun _ v' w3 s => ?_
        have s : Sep [] w w3 [rO v' 5 1 (bc (128 :: List.replicate (zeros n) 0 ++ (be8 (n * 8)).take j ++ [UInt8.ofNat ((n * 8) >>> (56 - 8 * j))])) (1 + zeros n + j + 1)] [] := s
        rw [List.append_assoc, ← be8_step _ _ hj8] at s
        refine isub (by omega) ?_
        exact hJ (8 - (j + 1)) _ _ (by omega) ⟨j + 1, v', rfl, by omega, f0, rfl, by show Value.int .i64 _ = _; congr 1; omega, s⟩
      · obtain rfl : j = 8 := by omega
        refine hX _ _ _ (by simp) (h2 _ _ _ (blk_x (seq_n h1 ?_)))
        have e : 128 :: List.replicate (zeros n) 0 ++ (be8 (n * 8)).take 8 = padM n := rfl
        have hl : 1 + zeros n + 8 = (padM n).length := by rw [padM_length]; omega
        rw [e, hl] at s
        have hv := s.fresh 0 rfl
        show K (fr 4) wr
        rw [f4]
        exact hK v wr (s.at 0 rfl) s.ext hv

/-! ### A hash made -/
theorem fill_hash {Z : List Value} (hZ : Z.length = 10) (st : List UInt32) (hst : st.length = 8) (v : Value) (hv : v.cells = #[v]) (n : Nat) :
    fillL [(0, 8), (8, 1), (9, 1)] Z [(0, .agg (uc st).toArray), (1, v), (2, .int .i64 n)] = some (uc st ++ [v, .int .i64 n]) := by
  have h1 : (Value.agg (uc st).toArray).cells = (uc st).toArray := rfl
  have h2 : (Value.int .i64 (n : Int)).cells = #[.int .i64 n] := rfl
  have hu : (uc st).length = 8 := by rw [uc_length]; exact hst
  have l1 : (lspl Z 0 (uc st)).length = 10 := by rw [lspl_length (by omega)]; exact hZ
  have l2 : (lspl (lspl Z 0 (uc st)) 8 [v]).length = 10 := by rw [lspl_length (by simp; omega)]; exact l1
  have e1 := lspl_lspl Z 0 (uc st) [v] (by simp; omega)
  rw [hu, Nat.zero_add] at e1
  have e2 := lspl_lspl Z 0 (uc st ++ [v]) [.int .i64 n] (by simp; omega)
  rw [List.length_append, hu, Nat.zero_add, ← e1] at e2
  have e3 : lspl Z 0 (uc st ++ [v] ++ [.int .i64 n]) = uc st ++ [v, .int .i64 n] := by
    unfold lspl
    rw [List.drop_of_length_le (by simp; omega)]
    simp
  rw [e3] at e2
  simp [fillL, h1, h2, hv, hu, hZ, l1, l2]
  exact e2
theorem fill_hash0 {Z : List Value} (hZ : Z.length = 10) (st : List UInt32) (hst : st.length = 8) :
    fillL [(0, 8), (8, 1), (9, 1)] Z [(0, .agg (uc st).toArray)] = some (uc st ++ Z.drop 8) := by
  have h1 : (Value.agg (uc st).toArray).cells = (uc st).toArray := rfl
  have hu : (uc st).length = 8 := by rw [uc_length]; exact hst
  simp [fillL, h1, hu, hZ, lspl]

def hashZ : List Value := List.replicate 8 (.int .u32 0) ++ [.slice none 0 0, .int .i64 0]
theorem str_hash : strI Tryz.prog 141 = some ([(0, 8), (8, 1), (9, 1)], hashZ) := by kernel_rfl

theorem newH_c {w : World} {K : VPost} (hK : ∀ p F w', Hash w' p F (hm []) → Ext [] w w' → (∀ b ∈ F, w.heap.size ≤ b) → K (.pointer (some ⟨p, 0, none⟩)) w') : Calls Tryz.prog 82 #[] w (retK K) := by
  refine c82_calls w K ?_
  unfold c82
  refine fnW_of (by kernel_rfl) (first_c fun w1 e1 => ?_)
  refine build_i str_hash (fill_hash0 rfl shaH rfl) ?_
  refine boxW_i fun p w2 hp e2 hk _ => ?_
  refine hK p [p] w2 ⟨.slice none 0 0, ⟨hk, .inl ⟨rfl, rfl, rfl⟩, by simp [slB], rfl⟩, rfl⟩ (e1.new e2) ?_
  intro b hb
  simp at hb
  have := e1.size
  omega

theorem Hash.n {w : World} {K : VPost} {p : Nat} {F : List Nat} {m : HM} (h : Hash w p F m) (hK : K (.int .i64 m.n) w) : nilW (.pointer (some ⟨p, 0, none⟩)) w fun t w' => offW (some 9) t w' fun t w' => loadW (some (false, 1)) t w' K := by
  obtain ⟨rv, h, rfl⟩ := h
  rw [nilW_e]
  refine off_i (k := 9) ?_
  exact load1 h.hdr.r (hc_9 h.st) hK

theorem forkH_c {w : World} {K : VPost} {p : Nat} {F : List Nat} {m : HM} (h : Hash w p F m) (hr : m.rest.length ≤ 2 ^ 38) (hK : ∀ q G w', Hash w' q G m → Ext [] w w' → (∀ b ∈ G, w.heap.size ≤ b) → K (.pointer (some ⟨q, 0, none⟩)) w') :
    Calls Tryz.prog 95 #[.pointer (some ⟨p, 0, none⟩)] w (retK K) := by
  refine c95_calls _ w K ?_
  unfold c95
  obtain ⟨ui, hui, huz, husz, huby⟩ := tyI_spec ty_u8
  have e0 := Ext.drew [] w
  have hsz : w.drew.heap.size = w.heap.size := rfl
  replace h : Hash w.drew p F m := h.keep e0 (by simp)
  generalize w.drew = w1 at *
  obtain ⟨rv, h, rfl⟩ := h
  have h8 := h.st
  rw [nilW_e]
  refine off_i (k := 0) ?_
  refine loadN h.hdr.r (by rw [hc_len h8]; decide) ?_
  rw [Nat.zero_add, hc_st h8, nilW_e]
  refine off_i (k := 8) ?_
  refine load1 h.hdr.r (hc_8 h8) ?_
  rw [nilW_e]
  refine off_i (k := 9) ?_
  refine load1 h.hdr.r (hc_9 h8) ?_
  refine buildSlice_i (vs := []) und_u8s hui huz rfl (by simp) (by simp) fun b1 w2 hb1 e1 hk1 hs1 => ?_
  have hh := h.hdr.keep e1 (by simp)
  have hst0 := hc_st (rv := rv) h8
  rw [List.drop_zero] at hst0
  refine ⟨loadN hh.r (by rw [hc_len h8]; decide) ⟨by rw [List.drop_zero, hst0], rfl⟩, load1 hh.r (hc_8 h8) ⟨rfl, rfl⟩, load1 hh.r (hc_9 h8) ⟨rfl, rfl⟩, ?_⟩
  have hb1s : b1 = w1.heap.size := hb1.symm
  refine append_i (ys := bc m.rest) (m := m.rest.length) (xs := []) (n := 0) und_u8s und_u8s hui huz (by rw [husz]; rfl) (by rw [huby]; decide) (.inr ⟨b1, 0, [], rfl, by simpa [flatV] using hk1, by simp, by simp, Nat.le_refl _⟩) (by rw [husz]; exact h.rest.rd.keep e1 (by simp)) (bc_one _) (by rw [huby]; omega) fun v2 w3 hv2 e2 hb2 => ?_
  rw [husz, Nat.zero_add, List.nil_append] at hv2
  have hne1 : p ∉ slB (.slice (some ⟨b1, 0, none⟩) 0 0) := by simp [slB]; have := h.hdr.lt; omega
  have hh2 := hh.keep e2 hne1
  refine ⟨loadN hh2.r (by rw [hc_len h8]; decide) ⟨by rw [List.drop_zero, hst0], rfl⟩, load1 hh2.r (hc_9 h8) ⟨rfl, rfl⟩, ?_⟩
  have hv2c : v2.cells = #[v2] := by obtain ⟨a, c, rfl⟩ := hv2.rd.len; rfl
  refine build_i str_hash (fill_hash rfl m.st h8 v2 hv2c m.n) ?_
  have hnew : ∀ b ∈ slB v2, w1.heap.size ≤ b := by
    intro b hb
    rcases hb2 with e | ⟨b', e, hge⟩
    · rw [e] at hb; simp [slB] at hb; omega
    · rw [e] at hb; simp at hb; have := e1.size; omega
  refine boxW_i fun q w4 hq e4 hk4 _ => ?_
  have hltv := hv2.lt
  refine hK q (q :: slB v2) w4 ⟨v2, ⟨hk4, hv2.at.keep e4 (by simp), fun hm => by have := hltv q hm; omega, h8⟩, rfl⟩ (((e0.new e1).step e2 (by intro x hx hlt; simp [slB] at hx; omega)).new e4) ?_
  intro b hb
  rcases List.mem_cons.1 hb with rfl | hb
  · have := e1.size
    have := e2.size
    omega
  · have := hnew b hb; omega

theorem takeA_c {w : World} {K : VPost} {p : Nat} {F : List Nat} {a : Bytes} {x : Value} {b : Bytes} (h : Hash w p F (hm a)) (hx : RdSl w x 1 (bc b) b.length) (hd : ∀ c ∈ F, c ∉ rdB x (bc b)) (hn : a.length + b.length ≤ 2 ^ 37)
    (hK : ∀ F' w', Hash w' p F' (hm (a ++ b)) → Mv F w F' w' → K (.tuple #[]) w') : Calls Tryz.prog 94 #[.pointer (some ⟨p, 0, none⟩), x] w (retK K) :=
  take_c h hx hd (by show a.length + b.length ≤ _; omega) (by have := hm_rest a; omega) fun F' w' h' m => hK F' w' (hm_take a b ▸ h') m

theorem writeH_c {w : World} {K : VPost} {p : Nat} {F : List Nat} {a : Bytes} {v : Value} {hs : List Value} {ls : List Bytes} (h : Hash w p F (hm a)) (hv : RowsR w v hs ls) (hd : ∀ c ∈ F, c ∉ rdB v hs ++ rowsF hs ls) (hn : a.length + ls.flatten.length ≤ 2 ^ 37) (hls : ls.length ≤ 2 ^ 38)
    (hK : ∀ F' w', Hash w' p F' (hm (a ++ ls.flatten)) → Mv F w F' w' → K (.tuple #[]) w') : Calls Tryz.prog 83 #[.pointer (some ⟨p, 0, none⟩), v] w (retK K) := by
  refine c83_calls _ _ w K ?_
  unfold c83
  have s : Sep F w w [rH p F (hm a)] [rW v hs ls] := Sep.one1 (T := rH p F (hm a)) (U := rW v hs ls) h hv hd
  obtain ⟨va, vc, hva⟩ := hv.len
  rw [hva, len_s, ← hva]
  refine bindX_i fun J0 h0 => bindX_i fun J1 h1 => ?_
  refine loop_i (fun m fr wr => ∃ (i : Nat) (F' : List Nat), m = ls.length - i ∧ i ≤ ls.length ∧ fr 0 = .pointer (some ⟨p, 0, none⟩) ∧ fr 6 = v ∧ fr 7 = .int .i64 ls.length ∧ fr 8 = .int .i64 i ∧
    Sep F w wr [rH p F' (hm (a ++ (ls.take i).flatten))] [rW v hs ls]) ls.length ?_ ?_
  · exact ⟨0, F, rfl, by omega, rfl, rfl, rfl, rfl, by rw [List.take_zero, List.flatten_nil, List.append_nil]; exact s⟩
  · rintro m fr wr J ⟨i, F', rfl, hi, f0, f6, f7, f8, s⟩ hJ hX
    rw [f0, f6, f7, f8]
    refine nlss (cond_d (fun hlt => ?_) (fun hlt => ?_))
    · obtain ⟨b, o, r, hix, hld, hr, hc, hf⟩ := RowsR.elem (s.rat 0 rfl) hlt .i64
      refine hix _ ?_
      refine hld _ ?_
      have htk : ls.take (i + 1) = ls.take i ++ [ls[i]] := List.take_succ_eq_append_getElem hlt
      have hlen : (ls.take (i + 1)).flatten.length ≤ ls.flatten.length := by
        have : ls = ls.take (i + 1) ++ ls.drop (i + 1) := (List.take_append_drop _ _).symm
        conv => rhs; rw [this, List.flatten_append, List.length_append]
        omega
      have e : (ls.take (i + 1)).flatten = (ls.take i).flatten ++ ls[i] := by rw [htk, List.flatten_append]; simp
      rw [e, List.length_append] at hlen
      refine fnW_of (by kernel_rfl) (takeA_c (s.at 0 rfl) hr (fun c hc' hcm => s.disR (rH p F' (hm (a ++ (ls.take i).flatten))) (by simp) (rW v hs ls) (by simp) c hc' (hf c hcm)) (by rw [List.length_append]; omega) fun F2 w2 h2 m2 => ?_)
      rw [List.append_assoc, ← e] at h2
      have s := s.upd 0 rfl (T' := rH p F2 (hm (a ++ (ls.take (i + 1)).flatten))) h2 m2.ext m2.own
      refine nadd (y := 1) (by omega) ?_
      exact hJ (ls.length - (i + 1)) _ _ (by omega) ⟨i + 1, F2, rfl, by omega, f0, f6, f7, rfl, s⟩
    · obtain rfl : i = ls.length := by omega
      rw [List.take_length] at s
      obtain ⟨hh, e, ho⟩ := s.out 0 rfl
      exact hX _ _ _ (by simp) (h1 _ _ _ (blk_x (h0 _ _ _ (hK _ _ hh ⟨e, ho⟩))))

/-- One row, written as such. -/
theorem rows_one {w : World} {t : Value} {x : Value} {b : Bytes} (ht : RdSl w t 1 [x] 1) (hx : RdSl w x 1 (bc b) b.length) (hc : capOk x) : RowsR w t [x] [b] := ⟨ht, ⟨hx, hc⟩, trivial⟩

theorem zero_dig : zeroO Tryz.prog 34 = some (.agg (Array.replicate 32 (.int .u8 0))) := by kernel_rfl
theorem cells_dig : (Value.agg (Array.replicate 32 (.int .u8 0))).cells.toList = bc (List.replicate 32 0) := rfl

theorem outM_step (s : List UInt32) (i : Nat) (h : i < 32) : ((outM s).take i ++ List.replicate (32 - i) 0).set i (UInt8.ofNat ((s.getD (i / 4) 0).toNat >>> (24 - 8 * (i % 4)))) = (outM s).take (i + 1) ++ List.replicate (32 - (i + 1)) 0 := by
  have hl : ((outM s).take i).length = i := by rw [List.length_take, outM_length]; omega
  have hr : List.replicate (32 - i) (0 : UInt8) = 0 :: List.replicate (32 - (i + 1)) 0 := by rw [show 32 - i = (32 - (i + 1)) + 1 by omega, List.replicate_succ]
  have hlt : i < (outM s).length := by rw [outM_length]; exact h
  rw [hr, set_mid _ _ _ _ i hl, List.take_succ_eq_append_getElem hlt, List.append_assoc]
  congr 2
  simp [outM]

set_option maxHeartbeats 1000000 in
theorem sumH_c {w : World} {K : VPost} {p : Nat} {F : List Nat} {a : Bytes} (h : Hash w p F (hm a)) (hn : a.length ≤ 2 ^ 36) (hK : ∀ w', Ext [] w w' → K (.agg (bc (digest a)).toArray) w') :
    Calls Tryz.prog 84 #[.pointer (some ⟨p, 0, none⟩)] w (retK K) := by
  refine c84_calls _ w K ?_
  unfold c84
  have s : Sep [] w w [] [rH p F (hm a)] := (Sep.nil w).addR (T := rH p F (hm a)) h (by simp)
  refine s.alloc zero_dig cells_dig fun b2 w1 s _ => ?_
  refine fnW_of (by kernel_rfl) (forkH_c (s.rat 0 rfl) (by have := hm_rest a; omega) fun q G w2 hq e hG => ?_)
  have s := s.add (T := rH q G (hm a)) hq e hG
  refine Hash.n (s.rat 0 rfl) ?_
  have hn0 : ((hm a).n : Int) = (a.length : Int) := rfl
  rw [hn0]
  refine fnW_of (by kernel_rfl) (pad_c _ (fun hh => absurd ⟨by omega, by omega⟩ hh) fun _ v w3 hv e hvn => ?_)
  rw [Int.toNat_natCast] at hv
  have s := s.add (T := rO v 5 1 (bc (padM a.length)) (padM a.length).length) hv e hvn
  have hpl : (padM a.length).length ≤ 73 := by rw [padM_length]; have : zeros a.length < 64 := Nat.mod_lt _ (by decide); omega
  have hdis := (List.pairwise_cons.1 s.dis).1 (rH q G (hm a)) (by simp)
  refine fnW_of (by kernel_rfl) (takeA_c (s.at 1 rfl) (OwnAt.rd (s.at 0 rfl)) (fun c hc hcm => hdis c (by
    show c ∈ slB v
    unfold rdB at hcm; split at hcm
    · cases hcm
    · exact hcm) hc) (by omega) fun G2 w4 hq2 m2 => ?_)
  have s := s.upd 1 rfl (T' := rH q G2 (hm (a ++ padM a.length))) hq2 m2.ext m2.own
  have s : Sep [] w w4 [rO v 5 1 (bc (padM a.length)) (padM a.length).length, rH q G2 (hm (a ++ padM a.length)), rB b2 (bc (List.replicate 32 0)) 34] [rH p F (hm a)] := s
  refine s.alloc zero_dig cells_dig fun b4 w5 s _ => ?_
  refine bindX_i fun J0 h0 => bindX_i fun J1 h1 => bindX_i fun J2 h2 => ?_
  generalize hst : (hm (a ++ padM a.length)).st = st at *
  have hdg : outM st = digest a := by rw [← hst]; rfl
  have h8 : st.length = 8 := by rw [← hst]; exact hm_st _
  refine loop_i (fun m fr wr => ∃ i : Nat, m = 32 - i ∧ i ≤ 32 ∧ fr 2 = .pointer (some ⟨b2, 0, none⟩) ∧ fr 3 = .pointer (some ⟨q, 0, none⟩) ∧ fr 4 = .pointer (some ⟨b4, 0, none⟩) ∧ fr 15 = .int .i64 i ∧
    Sep [] w wr [rB b4 (bc ((outM st).take i ++ List.replicate (32 - i) 0)) 34, rO v 5 1 (bc (padM a.length)) (padM a.length).length, rH q G2 (hm (a ++ padM a.length)), rB b2 (bc (List.replicate 32 0)) 34] [rH p F (hm a)]) 32 ?_ ?_
  · exact ⟨0, rfl, by omega, rfl, rfl, rfl, rfl, s⟩
  · rintro m fr wr J ⟨i, rfl, hi, f2, f3, f4, f15, s⟩ hJ hX
    rw [f15]
    refine nlss (y := 32) (cond_d (fun hlt => ?_) (fun hlt => ?_))
    · rw [f3, f4]
      refine nquo (y := 4) (by decide) (by omega) ?_
      rw [nilW_e]
      refine off_i (k := 0) ?_
      refine idxA1 (i := i / 4) (by omega) ?_
      obtain ⟨rv, hq, _⟩ : Hash wr q G2 (hm (a ++ padM a.length)) := s.at 2 rfl
      refine load1 (v := uv (st.getD (i / 4) 0)) hq.hdr.r ?_ ?_
      · unfold hcells
        rw [hst, List.getElem?_append_left (by rw [uc_length]; omega)]
        exact uc_get (by omega)
      refine nrem (y := 4) (by decide) ?_
      refine nmul (x := 8) (by omega) ?_
      refine nsub (x := 24) (by omega) (by decide) ?_
      unfold uv
      refine nshr (by show 24 - 8 * (i % 4) ≤ 32; omega) ?_
      rw [conv_byte und_u32 und_u8]
      refine idxA1 hlt ?_
      refine s.store1 0 rfl rfl (by rw [bc_length, List.length_append, List.length_take, List.length_replicate, outM_length]; omega) rfl fun w6 s _ => ?_
      rw [bc_set, outM_step _ _ hlt] at s
      refine nadd (y := 1) (by omega) ?_
      exact hJ (32 - (i + 1)) _ _ (by omega) ⟨i + 1, rfl, by omega, f2, f3, f4, rfl, s⟩
    · obtain rfl : i = 32 := by omega
      have tail : ∀ (fr : Fr) (wr : World), fr 2 = .pointer (some ⟨b2, 0, none⟩) → fr 4 = .pointer (some ⟨b4, 0, none⟩) → Sep [] w wr [rB b4 (bc (digest a)) 34, rO v 5 1 (bc (padM a.length)) (padM a.length).length, rH q G2 (hm (a ++ padM a.length)), rB b2 (bc (List.replicate 32 0)) 34] [rH p F (hm a)] → J1 .normal fr wr := by
        intro fr wr f2 f4 s
        refine seq_n h1 ?_
        rw [f2, f4]
        have hl : (bc (digest a)).length = 32 := by rw [bc_length, digest_length]
        refine s.loadAll 0 rfl hl ?_
        refine s.storeAll 3 rfl hl rfl (bc_one _) fun w7 s _ => ?_
        refine s.loadAll 3 rfl hl ?_
        exact hK _ s.ext
      refine hX _ _ _ (by simp) (h2 _ _ _ (blk_x (tail _ _ f2 f4 ?_)))
      have e : (outM st).take 32 ++ List.replicate (32 - 32) 0 = digest a := by rw [hdg]; simp [digest_length, List.take_of_length_le]
      rw [e] at s
      exact s

theorem sum_c {w : World} {K : VPost} {x : Value} {b : Bytes} (hx : RdSl w x 1 (bc b) b.length) (hc : capOk x) (hn : b.length ≤ 2 ^ 36) (hK : ∀ w', Ext [] w w' → K (.agg (bc (digest b)).toArray) w') :
    Calls Tryz.prog 79 #[x] w (retK K) := by
  refine c79_calls _ w K ?_
  unfold c79
  have s : Sep [] w w [] [rR x 1 (bc b) b.length] := (Sep.nil w).addR (T := rR x 1 (bc b) b.length) hx (by simp)
  refine s.alloc zero_dig cells_dig fun b2 w1 s _ => ?_
  refine fnW_of (by kernel_rfl) (newH_c fun p F w2 hh e hF => ?_)
  have s := s.add (T := rH p F (hm [])) hh e hF
  obtain ⟨ti, hi, hz, hs, hby⟩ := tyI_spec (by kernel_rfl : tyI Tryz.prog 36 = some (.slice none 0 0, 1, 24))
  have hxc : x.cells = #[x] := by obtain ⟨a, c, rfl⟩ := hx.len; rfl
  refine s.lit (vs := [x]) (by kernel_rfl : Tryz.prog.underlying 71 = some (.slice 36)) hi hz rfl (by intro y hy; simp at hy; subst hy; rw [hs, hxc]; rfl) (by rw [hs]; simp) fun t w3 s ht _ => ?_
  rw [hs, flat_one _ hxc] at s
  have s : Sep [] w w3 [rO t 36 1 [x] 1, rH p F (hm []), rB b2 (bc (List.replicate 32 0)) 34] [rR x 1 (bc b) b.length] := s
  have hdis := (List.pairwise_cons.1 s.dis).1 (rH p F (hm [])) (by simp)
  refine fnW_of (by kernel_rfl) (writeH_c (hs := [x]) (ls := [b]) (s.at 1 rfl) (rows_one (OwnAt.rd (s.at 0 rfl)) (s.rat 0 rfl) hc) ?_ (by simp; omega) (by simp) fun F2 w4 h2 m2 => ?_)
  · intro c hcF hcm
    simp only [rowsF, List.append_nil, List.mem_append] at hcm
    rcases hcm with hcm | hcm
    · exact hdis c (by
        show c ∈ slB t
        exact hcm) hcF
    · exact s.disR (rH p F (hm [])) (by simp) (rR x 1 (bc b) b.length) (by simp) c hcF hcm
  have s := s.upd 1 rfl (T' := rH p F2 (hm ([] ++ [b].flatten))) h2 m2.ext m2.own
  have e1 : ([] : Bytes) ++ [b].flatten = b := by simp
  rw [e1] at s
  have s : Sep [] w w4 [rO t 36 1 [x] 1, rH p F2 (hm b), rB b2 (bc (List.replicate 32 0)) 34] [rR x 1 (bc b) b.length] := s
  refine fnW_of (by kernel_rfl) (sumH_c (s.at 1 rfl) hn fun w5 e => ?_)
  have s := s.ext0 e
  have hl : (bc (digest b)).length = 32 := by rw [bc_length, digest_length]
  refine s.storeAll 2 rfl hl rfl (bc_one _) fun w7 s _ => ?_
  refine s.loadAll 2 rfl hl ?_
  exact hK _ s.ext
end Go.Proofs.YtedebapgmfnflaaGreatDoor

/- Digests, hashes and literal bytes in hand. -/
namespace Go.Proofs.YtedebapgmfnflaaGreatDoor
open Go
set_option maxRecDepth 100000

theorem und_rows : Tryz.prog.underlying 71 = some (.slice 36) := by kernel_rfl

section
variable {S : List Nat} {w0 w : World} {L R : List Res} {K : Value → VPost}
theorem und_phash : Tryz.prog.underlying 125 = some (.pointer 141) := by kernel_rfl
/-- Some rows, written at once. -/
theorem Sep.hwrite {vs : List Value} {ls : List Bytes} {p : Nat} {F : List Nat} {a : Bytes} {parts : List (Nat × Value)} (s : Sep S w0 w L R) (i : Nat) (hL : L[i]? = some (rH p F (hm a))) (hp : parts = enumV 0 vs) (hv : RowsL w vs ls) (hd : ∀ c ∈ F, c ∉ rowsF vs ls) (hlen : vs.length ≤ 100) (hn : a.length + ls.flatten.length ≤ 2 ^ 37)
    (h : ∀ F' t u w', Sep S w0 w' (L.set i (rH p F' (hm (a ++ ls.flatten)))) R → K t u w') :
    insW Tryz.prog (Instr.buildSlice 71 vs.length parts.toArray) w fun t w' => fnW Tryz.prog 83 #[.pointer (some ⟨p, 0, none⟩), t] w' (K t) := by
  obtain ⟨ti, hi, hz, hs, hby⟩ := tyI_spec (by kernel_rfl : tyI Tryz.prog 36 = some (.slice none 0 0, 1, 24))
  have hcells : ∀ {vs : List Value} {ls : List Bytes}, RowsL w vs ls → ∀ v ∈ vs, v.cells = #[v] := by
    intro vs
    induction vs with
    | nil => intro ls _ v hv; cases hv
    | cons x r ih =>
      intro ls hr v hv
      cases ls with
      | nil => exact hr.elim
      | cons l ls =>
        rcases List.mem_cons.1 hv with rfl | hv
        · obtain ⟨a, c, rfl⟩ := hr.1.1.len; rfl
        · exact ih hr.2 v hv
  have hflat : flatV vs = vs := by
    have : ∀ l : List Value, (∀ v ∈ l, v.cells = #[v]) → flatV l = l := by
      intro l
      induction l with
      | nil => intro _; rfl
      | cons x r ih =>
        intro hl
        have e : flatV (x :: r) = x.cells.toList ++ flatV r := by simp [flatV]
        rw [e, ih (fun v hv => hl v (List.mem_cons_of_mem _ hv)), hl x List.mem_cons_self]; rfl
    exact this vs (hcells hv)
  refine s.lit (vs := vs) und_rows hi hz hp (by intro y hy; rw [hs, hcells hv y hy]; rfl) (by rw [hs]; omega) fun t w3 s3 ht e3 => ?_
  rw [hs, hflat] at s3
  have hdis := (List.pairwise_cons.1 s3.dis).1 (rH p F (hm a)) (List.mem_of_getElem? hL)
  have hv3 := hv.keep e3 (by simp)
  refine fnW_of (by kernel_rfl) (writeH_c (hs := vs) (ls := ls) (s3.at (i + 1) (by simpa using hL)) ⟨OwnAt.rd (s3.at 0 rfl), hv3⟩ (fun c hcF hcm => ?_) hn (by rw [← hv.length]; omega) fun F2 w4 h2 m2 => ?_)
  · rcases List.mem_append.1 hcm with hcm | hcm
    · refine hdis c ?_ hcF
      show c ∈ slB t
      unfold rdB at hcm
      split at hcm
      · cases hcm
      · exact hcm
    · exact hd c hcF hcm
  · have s4 := s3.upd (T := rH p F (hm a)) (i + 1) (by simpa using hL) (T' := rH p F2 (hm (a ++ ls.flatten))) h2 m2.ext m2.own
    exact h F2 t _ w4 (s4.drop 0)
end

theorem ty_b64 : tyI Tryz.prog 78 = some (.agg (Array.replicate 64 (.int .u8 0)), 64, 64) := by kernel_rfl
theorem zero_b64 : zeroO Tryz.prog 78 = some (.agg (Array.replicate 64 (.int .u8 0))) := by kernel_rfl
theorem cells_b64 : (Value.agg (Array.replicate 64 (.int .u8 0))).cells.toList = bc (List.replicate 64 0) := by rw [bc_zeros]; simp [Value.cells]
theorem build0_b64 {w : World} {K : VPost} (h : K (.agg (bc (List.replicate 64 0)).toArray) w) : insW Tryz.prog (Instr.build 78 #[]) w K := by
  obtain ⟨ti, hi, hz, hs, hb⟩ := tyI_spec ty_b64
  obtain ⟨ui, hui, huz, husz, huby⟩ := tyI_spec ty_u8
  refine buildA_i (parts := []) (by kernel_rfl : Tryz.prog.underlying 78 = some (.array 64 5)) hi hz hui ?_ h
  rw [← cells_b64]; rfl

/-- Two digests, compared. -/
theorem dig_eql {w : World} {K : VPost} {c : Bool} {a b : Bytes} (ha : a.length = 32) (hb : b.length = 32) (h : K (.bool (decide (a = b))) w) : binW Tryz.prog .eql 34 c (.agg (bc a).toArray) (.agg (bc b).toArray) w K := by
  obtain ⟨ui, hui, huz, husz, huby⟩ := tyI_spec ty_u8
  rw [bc_ints a, bc_ints b, bin_ints_eql (by kernel_rfl : Tryz.prog.underlying 34 = some (.array 32 5)) hui (by kernel_rfl) (by kernel_rfl) (by kernel_rfl) (by kernel_rfl) _ _ (by simpa using ha) (by simpa using hb)]
  simpa only [ints_inj] using h
theorem dig_neq {w : World} {K : VPost} {c : Bool} {a b : Bytes} (ha : a.length = 32) (hb : b.length = 32) (h : K (.bool (!decide (a = b))) w) : binW Tryz.prog .neq 34 c (.agg (bc a).toArray) (.agg (bc b).toArray) w K := by
  obtain ⟨ui, hui, huz, husz, huby⟩ := tyI_spec ty_u8
  rw [bc_ints a, bc_ints b, bin_ints_neq (by kernel_rfl : Tryz.prog.underlying 34 = some (.array 32 5)) hui (by kernel_rfl) (by kernel_rfl) (by kernel_rfl) (by kernel_rfl) _ _ (by simpa using ha) (by simpa using hb)]
  simpa only [ints_inj] using h
/-- Literal bytes. -/
theorem Sep.litB {S : List Nat} {w0 w : World} {L R : List Res} {K : VPost} (s : Sep S w0 w L R) (l : Bytes) {parts : List (Nat × Value)} (hp : parts = enumV 0 (bc l)) (hl : l.length ≤ 1000)
    (h : ∀ v' w', Sep S w0 w' (rO v' 5 1 (bc l) l.length :: L) R → slB v' = [w.heap.size] → Ext [] w w' → K v' w') : insW Tryz.prog (Instr.buildSlice 36 l.length parts.toArray) w K := by
  obtain ⟨ui, hui, huz, husz, huby⟩ := tyI_spec ty_u8
  have hlen : (bc l).length = l.length := bc_length l
  have hc : ∀ v ∈ bc l, v.cells.size = ui.size := by
    intro v hv
    obtain ⟨b, _, rfl⟩ := List.mem_map.1 hv
    rw [husz]; rfl
  have hf : flatV (bc l) = bc l := by
    have : ∀ l : Bytes, flatV (bc l) = bc l := by
      intro l
      induction l with
      | nil => rfl
      | cons b r ih =>
        have e : flatV (bc (b :: r)) = (bv b).cells.toList ++ flatV (bc r) := by simp [flatV, bc]
        rw [e, ih]; rfl
    exact this l
  have := s.lit (K := K) (vs := bc l) und_u8s hui huz hp hc (by rw [hlen, husz]; omega) (fun t w' s' ht e => by
    rw [hlen, husz, hf] at s'
    exact h t w' s' ht e)
  rw [hlen] at this
  exact this
/-- The beginning of an array, as a slice. -/
theorem Blk.rdTo {w : World} {b n k : Nat} {l : Bytes} {t : TypeId} (h : Blk w b (bc l) t) (hl : l.length = n) (hk : k ≤ n) : RdSl w (.slice (some ⟨b, 0, none⟩) k n) 1 (bc (l.take k)) (l.take k).length := by
  have hlen : (l.take k).length = k := by rw [List.length_take]; omega
  rw [hlen]
  refine ⟨by rw [bc_length, hlen, Nat.mul_one], .inr ⟨b, 0, n, _, rfl, h.r, ?_, by rw [bc_length]; omega⟩⟩
  rw [bc_part, List.drop_zero, Nat.mul_one]
theorem Sep.hsum {S : List Nat} {w0 w : World} {L R : List Res} {K : VPost} {p : Nat} {F : List Nat} {a : Bytes} (s : Sep S w0 w L R) (i : Nat) (hL : L[i]? = some (rH p F (hm a))) (hn : a.length ≤ 2 ^ 36) (h : ∀ w', Sep S w0 w' L R → K (.agg (bc (digest a)).toArray) w') :
    fnW Tryz.prog 84 #[.pointer (some ⟨p, 0, none⟩)] w K :=
  fnW_of (by kernel_rfl) (sumH_c (s.at i hL) hn fun w' e => h w' (s.ext0 e))
theorem Sep.hnew {S : List Nat} {w0 w : World} {L R : List Res} {K : VPost} (s : Sep S w0 w L R) (h : ∀ p F w', Sep S w0 w' (rH p F (hm []) :: L) R → (∀ b ∈ F, w.heap.size ≤ b) → K (.pointer (some ⟨p, 0, none⟩)) w') :
    fnW Tryz.prog 82 #[] w K :=
  fnW_of (by kernel_rfl) (newH_c fun p F w' hh e hF => h p F w' (s.add (T := rH p F (hm [])) hh e hF) hF)
theorem Sep.hfork {S : List Nat} {w0 w : World} {L R : List Res} {K : VPost} {p : Nat} {F : List Nat} {a : Bytes} (s : Sep S w0 w L R) (i : Nat) (hL : L[i]? = some (rH p F (hm a))) (h : ∀ q G w', Sep S w0 w' (rH q G (hm a) :: L) R → (∀ b ∈ G, w.heap.size ≤ b) → K (.pointer (some ⟨q, 0, none⟩)) w') :
    fnW Tryz.prog 95 #[.pointer (some ⟨p, 0, none⟩)] w K :=
  fnW_of (by kernel_rfl) (forkH_c (s.at i hL) (by have := hm_rest a; omega) fun q G w' hh e hG => h q G w' (s.add (T := rH q G (hm a)) hh e hG) hG)
theorem rdB_slB {v : Value} {ys : List Value} {b : Nat} (h : b ∈ rdB v ys) : b ∈ slB v := by
  unfold rdB at h
  split at h
  · cases h
  · exact h
/-- A place of a slice of one's own whose elements are of one cell. -/
theorem Sep.elAt {α : Type} {f : α → Value} (hf : ∀ x, (f x).cells = #[f x] ∧ (f x).oneCell' = true) (d : α) {S : List Nat} {w0 w : World} {L R : List Res} {v : Value} {e : TypeId} {l : List α} {n k : Nat} (s : Sep S w0 w L R) (i : Nat) (hL : L[i]? = some (rO v e 1 (l.map f) n)) (hk : k < n) (kk : IntKind) :
    ∃ b o, (∀ K : VPost, K (.pointer (some ⟨b, o, none⟩)) w → idxW (some (none, 1)) v (.int kk k) w K) ∧ (∀ (K : VPost), K (f (l.getD k d)) w → loadW (some (false, 1)) (.pointer (some ⟨b, o, none⟩)) w K) ∧
    (∀ (g : Bool) (y : α) (K : World → Prop), (∀ w', Sep S w0 w' (L.set i (rO v e 1 ((l.set k y).map f) n)) R → K w') → storeW (some (g, 1)) (.pointer (some ⟨b, o, none⟩)) (f y) w K) := by
  have ho : OwnAt w v e 1 (l.map f) n := s.at i hL
  have hl : l.length = n := by have := ho.rd.1; rw [List.length_map, Nat.mul_one] at this; exact this
  obtain ⟨b, o, hb, h1, h2, h3⟩ := ho.at1 hk kk
  refine ⟨b, o, h1, fun K hK => h2 _ K (by simp [hl, hk, List.getD_eq_getElem?_getD]) hK, fun g y K hK => h3 g (f y) K (hf y).1 (hf y).2 fun w' e hw => hK w' ?_⟩
  rw [← List.map_set] at hw
  exact s.upd (T := rO v _ 1 (l.map f) n) i hL (T' := rO v _ 1 ((l.set k y).map f) n) hw (by show Ext (slB v) w w'; rw [hb]; exact e) (fun x hx => .inl hx)
/-- A place of a slice that is read, of one-cell elements. -/
theorem RdSl.elAt {α : Type} {f : α → Value} (d : α) {w : World} {v : Value} {l : List α} {m k : Nat} (h : RdSl w v 1 (l.map f) m) (hk : k < l.length) (kk : IntKind) :
    ∃ b o, (∀ K : VPost, K (.pointer (some ⟨b, o, none⟩)) w → idxW (some (none, 1)) v (.int kk k) w K) ∧ (∀ (K : VPost), K (f (l.getD k d)) w → loadW (some (false, 1)) (.pointer (some ⟨b, o, none⟩)) w K) := by
  obtain ⟨b, o, h1, h2⟩ := h.get1 (i := k) (by simpa using hk) kk
  refine ⟨b, o, h1, fun K hK => h2 K ?_⟩
  rw [List.getElem_map]
  rw [List.getD_eq_getElem?_getD, List.getElem?_eq_getElem hk] at hK
  exact hK
end Go.Proofs.YtedebapgmfnflaaGreatDoor

/- Things in hand: rows, bytes, what is found by what it is. Short steps. -/
namespace Go.Proofs.YtedebapgmfnflaaGreatDoor
open Go
set_option maxRecDepth 100000

/-- Two things of one's own are one. -/
theorem Sep.join {S : List Nat} {w0 w : World} {L R : List Res} {T1 T2 T : Res} (s : Sep S w0 w (T1 :: T2 :: L) R) (hT : T.holds w) (hf : ∀ b ∈ T.foot, b ∈ T1.foot ∨ b ∈ T2.foot) : Sep S w0 w (T :: L) R := by
  have hp := List.pairwise_cons.1 s.dis
  have hp2 := List.pairwise_cons.1 hp.2
  refine ⟨s.ext, fun U hU => ?_, s.rd, fun U hU b hb => ?_, List.pairwise_cons.2 ⟨fun U hU b hb => ?_, hp2.2⟩, fun U hU V hV b hb => ?_⟩
  · rcases List.mem_cons.1 hU with rfl | hU
    · exact hT
    · exact s.own U (by simp [hU])
  · rcases List.mem_cons.1 hU with rfl | hU
    · rcases hf b hb with h | h
      · exact s.old T1 (by simp) b h
      · exact s.old T2 (by simp) b h
    · exact s.old U (by simp [hU]) b hb
  · rcases hf b hb with h | h
    · exact hp.1 U (by simp [hU]) b h
    · exact hp2.1 U hU b h
  · rcases List.mem_cons.1 hU with rfl | hU
    · rcases hf b hb with h | h
      · exact s.disR T1 (by simp) V hV b h
      · exact s.disR T2 (by simp) V hV b h
    · exact s.disR U (by simp [hU]) V hV b hb
/-- The contents of rows. -/
def rL (hs : List Value) (ls : List Bytes) : Res := ⟨rowsF hs ls, fun w => RowsL w hs ls, fun h => h.lt, fun h e hd => h.keep e hd⟩
theorem rowsF_snoc {h : Value} {l : Bytes} : ∀ {hs : List Value} {ls : List Bytes}, hs.length = ls.length → rowsF (hs ++ [h]) (ls ++ [l]) = rowsF hs ls ++ rdB h (bc l)
  | [], [], _ => by simp [rowsF]
  | _ :: hs, _ :: ls, e => by simp [rowsF, rowsF_snoc (h := h) (l := l) (hs := hs) (ls := ls) (by simpa using e)]
  | [], _ :: _, e => by simp at e
  | _ :: _, [], e => by simp at e
theorem ty_row : tyI Tryz.prog 36 = some (.slice none 0 0, 1, 24) := by kernel_rfl
/-- A row more. -/
theorem Sep.addRow {S : List Nat} {w0 w : World} {L R : List Res} {K : Value → VPost} {v r : Value} {hs : List Value} {n : Nat} (s : Sep S w0 w L R) (i : Nat) (hL : L[i]? = some (rO v 36 1 hs n)) {a : Option Addr} {m c : Nat} (hr : r = .slice a m c) (hn : n ≤ 2 ^ 30)
    (h : ∀ t v' w', Sep S w0 w' (L.set i (rO v' 36 1 (hs ++ [r]) (n + 1))) R → K t v' w') :
    insW Tryz.prog (Instr.buildSlice 71 1 #[(0, r)]) w fun t w' => insW Tryz.prog (Builtin.append_ #[71, 71] 71 #[v, t]) w' (K t) := by
  subst hr
  obtain ⟨ui, hui, huz, husz, huby⟩ := tyI_spec ty_row
  refine s.lit (vs := [.slice a m c]) und_rows hui huz rfl (by intro x hx; simp at hx; subst hx; rw [husz]; rfl) (by rw [husz]; simp) fun t w1 s1 ht _ => ?_
  have s1 : Sep S w0 w1 (rO t 36 ui.size [.slice a m c] 1 :: L) R := s1
  rw [husz] at s1
  refine s1.appendO (v := v) (n := n) (m := 1) (ys := [.slice a m c]) (xs := hs) (i + 1) (by rw [husz]; simpa using hL) und_rows und_rows hui huz (by rw [husz]; rfl) (by rw [huby]; decide) (by rw [husz]; exact OwnAt.rd (s1.at 0 rfl)) (by intro y hy; simp at hy; subst hy; rfl) (by rw [huby]; omega) fun v' w2 s2 => ?_
  rw [husz] at s2
  exact h t v' w2 (s2.drop 0)
theorem bytesClone_c {w : World} {K : VPost} {x : Value} {l : Bytes} (hx : RdSl w x 1 (bc l) l.length) (hn : l.length ≤ 2 ^ 30)
    (hK : ∀ v w', OwnAt w' v 5 1 (bc l) l.length → Ext [] w w' → (∀ b ∈ slB v, w.heap.size ≤ b) → K v w') : Calls Tryz.prog 41 #[x] w (retK K) := by
  refine c41_calls _ w K ?_
  unfold c41
  obtain ⟨xa, xc, rfl⟩ := hx.len
  rw [slice_eql_nil und_u8s]
  cases xa with
  | none =>
    show condW (.bool true) _ _
    rw [condW_t]
    have hl : l = [] := by
      obtain ⟨_, ⟨h0, _⟩ | ⟨b, o, c, cs, h0, _⟩⟩ := hx
      · cases l with
        | nil => rfl
        | cons y r => simp [bc] at h0
      · cases h0
    subst hl
    exact hK _ w (.inl ⟨rfl, rfl, rfl⟩) (Ext.refl _ _) (by simp [slB])
  | some a =>
    show condW (.bool false) _ _
    rw [condW_f]
    refine (Sep.zero1 (U := rR _ 1 (bc l) l.length) hx).litB [] rfl (by simp) fun t w1 s _ _ => ?_
    obtain ⟨ui, hui, huz, husz, huby⟩ := tyI_spec ty_u8
    refine s.appendO (v := t) (n := 0) (m := l.length) (ys := bc l) (xs := bc []) 0 (by rw [husz]; rfl) und_u8s und_u8s hui huz (by rw [husz]; rfl) (by rw [huby]; decide) (by rw [husz]; exact s.rat 0 rfl) (bc_one _) (by rw [huby]; omega) fun v' w2 s => ?_
    rw [husz, ← bc_append, List.nil_append, Nat.zero_add] at s
    exact hK v' w2 (s.at 0 rfl) s.ext (s.fresh 0 rfl)

theorem part_bc (l : Bytes) (a b : Nat) : ((bc l).drop (a * 1)).take ((b - a) * 1) = bc ((l.drop a).take (b - a)) := by
  rw [Nat.mul_one, Nat.mul_one, bc_part]

section
variable {S : List Nat} {w0 w : World} {L R : List Res} {K : VPost}

theorem Sep.loadM {n b : Nat} {cs : List Value} {t : TypeId} (s : Sep S w0 w L R) (hm : rB b cs t ∈ L) (hn : cs.length = n) (h : K (.agg cs.toArray) w) : loadW (some (true, n)) (.pointer (some ⟨b, 0, none⟩)) w K :=
  Go.Proofs.YtedebapgmfnflaaGreatDoor.loadAll (Blk.r (s.own _ hm)) hn h
/-- Bytes of one's own. -/
def rDb (v : Value) (l : Bytes) : Res := rO v 5 1 (bc l) l.length
theorem Sep.apB {v x : Value} {l y : Bytes} (s : Sep S w0 w L R) (i : Nat) (hL : L[i]? = some (rDb v l)) (hx : RdSl w x 1 (bc y) y.length) (hn : l.length + y.length ≤ 2 ^ 36)
    (h : ∀ v' w', Sep S w0 w' (L.set i (rDb v' (l ++ y))) R → K v' w') : insW Tryz.prog (Builtin.append_ #[36, 36] 36 #[v, x]) w K := by
  obtain ⟨ui, hui, huz, husz, huby⟩ := tyI_spec ty_u8
  refine s.appendO (v := v) (n := l.length) (m := y.length) (ys := bc y) (xs := bc l) i (by rw [husz]; exact hL) und_u8s und_u8s hui huz (by rw [husz]; rfl) (by rw [huby]; decide) (by rw [husz]; exact hx) (bc_one _) (by rw [huby]; omega) fun v' w' s => ?_
  rw [husz, ← bc_append, ← List.length_append] at s
  exact h v' w' s
/-- A literal row. -/
theorem Sep.litR {a : Option Addr} {m c : Nat} (s : Sep S w0 w L R) (h : ∀ v' w', Sep S w0 w' (rO v' 36 1 [.slice a m c] 1 :: L) R → K v' w') : insW Tryz.prog (Instr.buildSlice 71 1 #[(0, .slice a m c)]) w K := by
  obtain ⟨ti, hti, htz, hts, htb⟩ := tyI_spec ty_row
  exact s.lit (vs := [.slice a m c]) und_rows hti htz rfl (by intro x hx; simp at hx; subst hx; rw [hts]; rfl) (by rw [hts]; simp) fun t w1 s1 _ _ => h t w1 (by rw [hts] at s1; exact s1)

end

section
variable {P : Program} {w : World} {K : VPost} {t : TypeId} {c : Bool}

theorem pick_ti {a b : Value} (h : K a w) : pickW (.bool true) a b w K := h
theorem pick_fi {a b : Value} (h : K b w) : pickW (.bool false) a b w K := h
theorem not_ti {b : Bool} (h : K (.bool !b) w) : unN P .not (.bool b) w K := h
theorem bool_eql {a b : Bool} (hu : P.underlying t = some .bool) (h : K (.bool (a == b)) w) : binW P .eql t c (.bool a) (.bool b) w K := by
  refine (bin_equal (fun _ => by cases c <;> rfl) rfl ?_).mpr h
  show (Op.equalIn (9999 + 1) t _ _).run P w = _
  unfold Op.equalIn
  rw [Sem.run_bind, run_und hu]
  rfl

end

theorem und_boolB : Tryz.prog.underlying 4 = some .bool := by kernel_rfl

theorem bool_neq {P : Program} {w : World} {K : VPost} {t : TypeId} {c : Bool} {a b : Bool} (hu : P.underlying t = some .bool) (h : K (.bool (!(a == b))) w) : binW P .neq t c (.bool a) (.bool b) w K := by
  refine (bin_nequal (fun _ => by cases c <;> rfl) rfl ?_).mpr h
  show (Op.equalIn (9999 + 1) t _ _).run P w = _
  unfold Op.equalIn
  rw [Sem.run_bind, run_und hu]
  rfl
theorem rows_nil (w : World) : RowsR w (.slice none 0 0) [] [] := ⟨⟨rfl, .inl ⟨rfl, _, _, rfl⟩⟩, trivial⟩

theorem slArr_at {b o n sz : Nat} {w : World} {K : VPost} (h : K (.slice (some ⟨b, o, none⟩) n n) w) : sliceW (.arr n sz) (.pointer (some ⟨b, o, none⟩)) none none none w K := by
  refine ⟨by simp, 0, n, n, rfl, rfl, rfl, Nat.zero_le _, by simp, Nat.le_refl _, ?_⟩
  show K (.slice (some (if n = 0 then (⟨b, o, none⟩ : Addr) else Addr.add ⟨b, o, none⟩ (0 * sz))) (n - 0) (n - 0)) w
  rw [Nat.sub_zero, Nat.zero_mul, add_addr, Nat.add_zero]
  split <;> exact h

theorem each_le {ls : List Bytes} {m : Nat} (h : ls.flatten.length + ls.length ≤ m) : ∀ l ∈ ls, l.length ≤ m := by
  intro l hl
  have : l.length ≤ ls.flatten.length := by
    clear h
    induction ls with
    | nil => cases hl
    | cons x r ih =>
      rw [List.flatten_cons, List.length_append]
      rcases List.mem_cons.1 hl with rfl | hl
      · omega
      · have := ih hl; omega
  omega

theorem flat_take (ls : List Bytes) (i : Nat) (h : i < ls.length) : (ls.take (i + 1)).flatten = (ls.take i).flatten ++ ls[i] := by
  rw [List.take_succ_eq_append_getElem h, List.flatten_append]; simp
end Go.Proofs.YtedebapgmfnflaaGreatDoor

/- Maps by digests: made, looked into, an entry more. Condition: keys have 32 bytes. -/
namespace Go.Proofs.YtedebapgmfnflaaGreatDoor
open Go
set_option maxRecDepth 100000

abbrev kv (k : Bytes) : Value := .agg (bc k).toArray
/-- A map in memory: its entries in the order in which they came. -/
def IsMap (w : World) (m : Nat) (ks : List (Bytes × Value)) : Prop := ∃ es clock, w.heap[m]? = some (.map es clock) ∧ es.toList.map (fun e => (e.key, e.val)) = ks.map (fun p => (kv p.1, p.2)) ∧ ∀ p ∈ ks, p.1.length = 32
def rM (m : Nat) (ks : List (Bytes × Value)) : Res :=
  ⟨[m], fun w => IsMap w m ks, fun h b hb => by
    obtain ⟨es, clock, h, _⟩ := h
    simp at hb
    subst hb
    exact (Array.getElem?_eq_some_iff.1 h).1,
   fun h e hd => by
    obtain ⟨es, clock, h, h2⟩ := h
    exact ⟨es, clock, by rw [e.same _ (Array.getElem?_eq_some_iff.1 h).1 (hd _ (by simp))]; exact h, h2⟩⟩
/-- What is there by a key. -/
def getM (ks : List (Bytes × Value)) (k : Bytes) : Option Value := (ks.find? fun p => decide (p.1 = k)).map (·.2)

theorem und_dig : Tryz.prog.underlying 34 = some (.array 32 5) := by kernel_rfl
theorem und_map : Tryz.prog.underlying 67 = some (.map 34 36) := by kernel_rfl

theorem run_getMap {P : Program} {w : World} {r : Nat} {es : Array MapEntry} {clock : Nat} (hb : w.heap[r]? = some (.map es clock)) : (getObj r).run P w = .ok (.map es clock) w := by
  simp [getObj, Sem.run, hb]
theorem run_setMap {P : Program} {w : World} {r : Nat} {es : Array MapEntry} {clock : Nat} (o : Obj) (hb : w.heap[r]? = some (.map es clock)) : (setObj r o).run P w = .ok () { w with heap := w.heap.setIfInBounds r o } := by
  simp [setObj, Sem.run, hb]
theorem run_checkDig {w : World} {em : Bool} {k : Bytes} (hk : k.length = 32) : (Instr.checkKey em 10000 34 (kv k)).run Tryz.prog w = .ok () w := by
  obtain ⟨ui, hui, huz, husz, huby⟩ := tyI_spec ty_u8
  have hu8 : Tryz.prog.underlying 5 = some (.int .u8) := und_u8
  rw [show (10000 : Nat) = 9998 + 1 + 1 from rfl, Instr.checkKey]
  simp only [Sem.run_bind, run_und und_dig, Result.andThen_ok]
  simp only [Std.Legacy.Range.forIn_eq_forIn_range', Std.Legacy.Range.size, Nat.sub_zero, Nat.add_one_sub_one, Nat.div_one]
  have hall : ∀ j ∈ List.range' 0 32, j < 32 := fun j hj => by
    have := List.mem_range'.1 hj
    omega
  generalize List.range' 0 32 = is at hall
  induction is with
  | nil => simp
  | cons j is ih =>
    have hj := hall j List.mem_cons_self
    have hx : (bc k).toArray[j * 1]? = some (bv k[j]) := by
      rw [Nat.mul_one]
      simp [bc, hk, hj]
    have hc : Tryz.prog.cellsOf 5 = 1 := by kernel_rfl
    have p1 := run_part_plain (P := Tryz.prog) w (by kernel_rfl : Tryz.prog.plainKey 5 = true) hx
    have p2 : (Instr.checkKey em (9998 + 1) 5 (bv k[j])).run Tryz.prog w = .ok () w := by
      unfold Instr.checkKey
      simp only [Sem.run_bind, run_und hu8, Result.andThen_ok]
      rfl
    have hso : (sizeOf 5).run Tryz.prog w = .ok (Tryz.prog.cellsOf 5) w := run_sizeOf w hui
    simp only [List.forIn_cons, Sem.run_bind, hso, hc, Result.andThen_ok, p1, p2, Sem.run_pure]
    exact ih (fun y hy => hall y (List.mem_cons_of_mem _ hy))

theorem run_equalDig {w : World} {a b : Bytes} (ha : a.length = 32) (hb : b.length = 32) : (Op.equal 34 (kv a) (kv b)).run Tryz.prog w = .ok (decide (a = b)) w := by
  obtain ⟨ui, hui, huz, husz, huby⟩ := tyI_spec ty_u8
  unfold kv
  rw [bc_ints a, bc_ints b, equal_ints und_dig hui (by kernel_rfl) (by kernel_rfl) (by kernel_rfl) _ _ (by simpa using ha) (by simpa using hb)]
  simp only [ints_inj]

theorem run_asking {w : World} {k : Bytes} (hk : k.length = 32) : ∀ (es : List MapEntry) (ks : List (Bytes × Value)) (i : Nat), es.map (fun e => (e.key, e.val)) = ks.map (fun p => (kv p.1, p.2)) → (∀ p ∈ ks, p.1.length = 32) →
    ∃ r, (Instr.findAsking 34 (kv k) es i).run Tryz.prog w = .ok r w ∧ r.map (·.2) = getM ks k
  | [], [], i, _, _ => ⟨none, by simp [Instr.findAsking], rfl⟩
  | e :: es, p :: ks, i, h, hl => by
    simp only [List.map_cons, List.cons.injEq, Prod.mk.injEq] at h
    obtain ⟨⟨h1, h2⟩, h3⟩ := h
    obtain ⟨r, r1, r2⟩ := run_asking hk es ks (i + 1) h3 (fun q hq => hl q (List.mem_cons_of_mem _ hq))
    have hp := hl p List.mem_cons_self
    by_cases hkp : k = p.1
    · refine ⟨some (i, e.val), ?_, ?_⟩
      · have he := run_equalDig (w := w) hk hp
        rw [decide_eq_true hkp] at he
        simp only [Instr.findAsking, Sem.run_bind, h1, he, Result.andThen_ok, if_true, Sem.run_pure]
      · unfold getM
        rw [List.find?_cons_of_pos (by simpa using hkp.symm)]
        simp [h2]
    · refine ⟨r, ?_, ?_⟩
      · simp only [Instr.findAsking, Sem.run_bind, h1, run_equalDig hk hp, Result.andThen_ok, decide_eq_false hkp, Bool.false_eq_true, if_false]
        exact r1
      · rw [r2]
        unfold getM
        rw [List.find?_cons_of_neg (by simpa using fun e => hkp e.symm)]
  | [], _ :: _, _, h, _ => by simp at h
  | _ :: _, [], _, h, _ => by simp at h
theorem run_findDig {w : World} {k : Bytes} (hk : k.length = 32) {es : List MapEntry} {ks : List (Bytes × Value)} (h : es.map (fun e => (e.key, e.val)) = ks.map (fun p => (kv p.1, p.2))) (hl : ∀ p ∈ ks, p.1.length = 32) :
    ∃ r, (Instr.findKey 34 (kv k) es).run Tryz.prog w = .ok r w ∧ r.map (·.2) = getM ks k := by
  unfold Instr.findKey
  simp only [Sem.run_bind, run_und und_dig, Result.andThen_ok]
  cases es with
  | nil =>
    cases ks with
    | nil => exact ⟨none, by simp [Instr.findNow], rfl⟩
    | cons p ks => simp at h
  | cons e es =>
    have : Instr.findNow (.array 32 5) (kv k) (e :: es) 0 = none := by
      simp [Instr.findNow, Instr.sameNow]
    rw [this]
    exact run_asking hk _ ks 0 h hl

theorem lookup_i {w : World} {K : VPost} {m : Nat} {ks : List (Bytes × Value)} {k : Bytes} (h : IsMap w m ks) (hk : k.length = 32) (hK : K (.tuple #[(getM ks k).getD (.slice none 0 0), .bool (getM ks k).isSome]) w) :
    insW Tryz.prog (Instr.lookup 67 (.map (some m)) (kv k) true) w K := by
  obtain ⟨es, clock, hb, hes, hl⟩ := h
  obtain ⟨r, r1, r2⟩ := run_findDig (w := w) hk hes hl
  refine insW_ok (v := .tuple #[(getM ks k).getD (.slice none 0 0), .bool (getM ks k).isSome]) (w' := w) ?_ hK
  unfold Instr.lookup
  have hz : (zeroValue 36).run Tryz.prog w = .ok (.slice none 0 0) w := by
    obtain ⟨ti, hti, htz, hts, htb⟩ := tyI_spec ty_row
    unfold zeroValue; simp only [Sem.run_bind, run_info hti, Result.andThen_ok, htz, Sem.run_pure]
  simp only [Sem.run_bind, run_und und_map, Result.andThen_ok, run_getMap hb, Sem.run_pure, run_checkDig hk, r1]
  cases r with
  | none =>
    simp only [Option.map_none] at r2
    simp only [Sem.run_bind, hz, Result.andThen_ok, Sem.run_pure, ← r2]
    rfl
  | some x =>
    simp only [Option.map_some] at r2
    simp only [Sem.run_pure, Result.andThen_ok, ← r2]
    rfl
theorem lookup1_i {w : World} {K : VPost} {m : Nat} {ks : List (Bytes × Value)} {k : Bytes} (h : IsMap w m ks) (hk : k.length = 32) (hK : K ((getM ks k).getD (.slice none 0 0)) w) :
    insW Tryz.prog (Instr.lookup 67 (.map (some m)) (kv k) false) w K := by
  obtain ⟨es, clock, hb, hes, hl⟩ := h
  obtain ⟨r, r1, r2⟩ := run_findDig (w := w) hk hes hl
  refine insW_ok (v := (getM ks k).getD (.slice none 0 0)) (w' := w) ?_ hK
  unfold Instr.lookup
  have hz : (zeroValue 36).run Tryz.prog w = .ok (.slice none 0 0) w := by
    obtain ⟨ti, hti, htz, hts, htb⟩ := tyI_spec ty_row
    unfold zeroValue; simp only [Sem.run_bind, run_info hti, Result.andThen_ok, htz, Sem.run_pure]
  simp only [Sem.run_bind, run_und und_map, Result.andThen_ok, run_getMap hb, Sem.run_pure, run_checkDig hk, r1]
  cases r with
  | none =>
    simp only [Option.map_none] at r2
    simp only [Sem.run_bind, hz, Result.andThen_ok, Sem.run_pure, ← r2]
    rfl
  | some x =>
    simp only [Option.map_some] at r2
    simp only [Sem.run_pure, Result.andThen_ok, ← r2]
    rfl
/-- An entry more. -/
theorem mapPut_i {w : World} {K : World → Prop} {m : Nat} {ks : List (Bytes × Value)} {k : Bytes} {v : Value} (h : IsMap w m ks) (hk : k.length = 32) (hno : getM ks k = none) (hK : ∀ w', Ext [m] w w' → IsMap w' m (ks ++ [(k, v)]) → K w') :
    actW Tryz.prog (Instr.mapUpdate 67 (.map (some m)) (kv k) v) w K := by
  obtain ⟨es, clock, hb, hes, hl⟩ := h
  obtain ⟨r, r1, r2⟩ := run_findDig (w := w) hk hes hl
  rw [hno] at r2
  obtain rfl : r = none := by cases r <;> simp_all
  have hrun : (Instr.mapUpdate 67 (.map (some m)) (kv k) v).run Tryz.prog w = .ok () (setB w m (.map (es.push { key := kv k, val := v, born := clock }) (clock + 1))) := by
    unfold Instr.mapUpdate
    simp only [Sem.run_bind, run_und und_map, Result.andThen_ok, run_getMap hb, run_checkDig hk, r1, run_setMap _ hb]
    rfl
  unfold actW
  rw [hrun]
  refine hK _ (ext_setB w m _) ⟨es.push { key := kv k, val := v, born := clock }, clock + 1, ?_, ?_, ?_⟩
  · show (w.heap.setIfInBounds m _)[m]? = _
    rw [Array.getElem?_setIfInBounds]
    have : m < w.heap.size := (Array.getElem?_eq_some_iff.1 hb).1
    simp only [if_true, this]
  · rw [Array.toList_push, List.map_append, hes, List.map_append]
    rfl
  · intro p hp
    rcases List.mem_append.1 hp with hp | hp
    · exact hl p hp
    · rw [List.mem_singleton] at hp
      subst hp
      exact hk
theorem makeMap_i {w : World} {K : VPost} (hK : ∀ m w', Ext [] w w' → IsMap w' m [] → w.heap.size = m → K (.map (some m)) w') : insW Tryz.prog (Instr.makeMap 67 none) w K := by
  refine insW_ok (v := .map (some w.heap.size)) (w' := w.alloc (.map #[] 0)) ?_ (hK _ _ (ext_alloc w _) ⟨#[], 0, alloc_new w _, rfl, by simp⟩ rfl)
  unfold Instr.makeMap
  simp [Sem.run_bind, run_newObj_alloc]

section
variable {S : List Nat} {w0 w : World} {L R : List Res} {K : VPost}
theorem Sep.makeMap (s : Sep S w0 w L R) (h : ∀ m w', Sep S w0 w' (rM m [] :: L) R → K (.map (some m)) w') : insW Tryz.prog (Instr.makeMap 67 none) w K :=
  makeMap_i fun m w' e hm hs => h m w' (s.add (T := rM m []) hm e (by simp [rM]; omega))
theorem Sep.mapPut {K : World → Prop} {m : Nat} {ks : List (Bytes × Value)} {k : Bytes} {v : Value} (s : Sep S w0 w L R) (i : Nat) (hL : L[i]? = some (rM m ks)) (hk : k.length = 32) (hno : getM ks k = none) (h : ∀ w', Sep S w0 w' (L.set i (rM m (ks ++ [(k, v)]))) R → K w') :
    actW Tryz.prog (Instr.mapUpdate 67 (.map (some m)) (kv k) v) w K :=
  mapPut_i (s.at i hL) hk hno fun w' e hm => h w' (s.upd (T := rM m ks) i hL (T' := rM m (ks ++ [(k, v)])) hm e (by simp [rM]))
end
end Go.Proofs.YtedebapgmfnflaaGreatDoor

/- Sealed sectors: plain laws. What is packed, and when sectors are a record's. -/
namespace Go.Proofs.YtedebapgmfnflaaGreatDoor
open Go
set_option maxRecDepth 100000

/-- A number as so many bytes, the greatest first. -/
def beP : Nat → Nat → Bytes
  | 0, _ => []
  | k + 1, n => UInt8.ofNat (n >>> (8 * k)) :: beP k n
def beN (b : Bytes) : Nat := b.foldl (fun n c => n * 256 + c.toNat) 0
theorem beP_length (k n : Nat) : (beP k n).length = k := by
  induction k with
  | zero => rfl
  | succ k ih => simp [beP, ih]
theorem beF (b : Bytes) (z : Nat) : b.foldl (fun n c => n * 256 + c.toNat) z = z * 256 ^ b.length + beN b := by
  induction b generalizing z with
  | nil => simp [beN]
  | cons c r ih =>
    unfold beN
    rw [List.foldl_cons, List.foldl_cons, ih, ih (0 * 256 + c.toNat), List.length_cons, Nat.pow_succ, Nat.add_mul, Nat.zero_mul, Nat.zero_add, Nat.mul_assoc, Nat.mul_comm 256]
    omega
theorem beN_cons (c : UInt8) (r : Bytes) : beN (c :: r) = c.toNat * 256 ^ r.length + beN r := by
  have := beF r (0 * 256 + c.toNat)
  unfold beN
  rw [List.foldl_cons, this, Nat.zero_mul, Nat.zero_add]
  rfl
theorem beN_snoc (b : Bytes) (c : UInt8) : beN (b ++ [c]) = beN b * 256 + c.toNat := by simp [beN]
theorem beN_lt (b : Bytes) : beN b < 256 ^ b.length := by
  induction b with
  | nil => decide
  | cons c r ih =>
    rw [beN_cons, List.length_cons, Nat.pow_succ]
    have := c.toNat_lt
    have h2 : (c.toNat + 1) * 256 ^ r.length ≤ 256 * 256 ^ r.length := Nat.mul_le_mul_right _ (by omega)
    rw [Nat.add_mul, Nat.one_mul] at h2
    rw [Nat.mul_comm (256 ^ r.length)]
    omega
theorem beN_beP (k n : Nat) : beN (beP k n) = n % 256 ^ k := by
  induction k with
  | zero => simp [beP, beN, Nat.mod_one]
  | succ k ih =>
    rw [beP, beN_cons, beP_length, ih, Nat.pow_succ, Nat.mod_mul, UInt8.toNat_ofNat', Nat.shiftRight_eq_div_pow, Nat.pow_mul, Nat.mul_comm (256 ^ k)]
    exact Nat.add_comm _ _
theorem beN_inj : ∀ {a b : Bytes}, a.length = b.length → beN a = beN b → a = b
  | [], [], _, _ => rfl
  | c :: a, d :: b, hl, h => by
    have hl' : a.length = b.length := by simpa using hl
    rw [beN_cons, beN_cons, ← hl'] at h
    have ha := beN_lt a
    have hb := beN_lt b
    rw [← hl'] at hb
    have hp : 0 < 256 ^ a.length := Nat.pow_pos (by decide)
    generalize 256 ^ a.length = p at *
    have e1 : (c.toNat * p + beN a) / p = c.toNat := by rw [Nat.mul_comm, Nat.mul_add_div hp, Nat.div_eq_of_lt ha, Nat.add_zero]
    have e2 : (d.toNat * p + beN b) / p = d.toNat := by rw [Nat.mul_comm, Nat.mul_add_div hp, Nat.div_eq_of_lt hb, Nat.add_zero]
    have e : c.toNat = d.toNat := by rw [← e1, ← e2, h]
    rw [e] at h
    rw [UInt8.toNat_inj.1 e, beN_inj hl' (by omega)]
  | [], _ :: _, hl, _ => by simp at hl
  | _ :: _, [], hl, _ => by simp at hl
theorem beP_beN {k : Nat} {l : Bytes} (h : l.length = k) : beP k (beN l) = l := by
  refine beN_inj (by rw [beP_length, h]) ?_
  have := beN_lt l
  rw [h] at this
  rw [beN_beP, Nat.mod_eq_of_lt this]
theorem beP_inj {k m n : Nat} (hm : m < 256 ^ k) (hn : n < 256 ^ k) (h : beP k m = beP k n) : m = n := by
  have := congrArg beN h
  rwa [beN_beP, beN_beP, Nat.mod_eq_of_lt hm, Nat.mod_eq_of_lt hn] at this

/-! ### sectors -/
def mkB (g n : Nat) : Bytes := beP 4 g ++ beP 4 n
theorem mkB_length (g n : Nat) : (mkB g n).length = 8 := by simp [mkB, beP_length]
def secB (g n : Nat) (d : Bytes) : Bytes := mkB g n ++ (beP 2 d.length ++ (d ++ (List.replicate (46 - d.length) 0 ++ mkB g n)))
theorem secB_length (g n : Nat) {d : Bytes} (h : d.length ≤ 46) : (secB g n d).length = 64 := by
  simp only [secB, List.length_append, mkB_length, beP_length, List.length_replicate]
  omega
def cntB (b : Bytes) : Nat := beN ((b.drop 8).take 2)
def wholeB (b : Bytes) : Bool := decide (cntB b ≤ 46) && (decide (b.take 8 = b.drop 56) && ((b.take 56).drop (10 + cntB b)).all (· == 0))
def markB (b : Bytes) : Nat × Nat × Bool := if wholeB b then (beN (b.take 4), beN ((b.drop 4).take 4), true) else (0, 0, false)
def dataB (b : Bytes) : Bytes := if wholeB b then (b.drop 10).take (cntB b) else []

theorem sec_cnt (g n : Nat) {d : Bytes} (h : d.length ≤ 46) : cntB (secB g n d) = d.length := by
  have e : (secB g n d).drop 8 = beP 2 d.length ++ (d ++ (List.replicate (46 - d.length) 0 ++ mkB g n)) := by
    unfold secB
    exact List.drop_left' (mkB_length g n)
  unfold cntB
  rw [e, List.take_left' (beP_length 2 _), beN_beP, Nat.mod_eq_of_lt (by omega)]
theorem sec_back (g n : Nat) {d : Bytes} (h : d.length ≤ 46) : (secB g n d).take 8 = mkB g n ∧ (secB g n d).drop 56 = mkB g n ∧ (secB g n d).take 56 = mkB g n ++ (beP 2 d.length ++ (d ++ List.replicate (46 - d.length) 0)) := by
  have e : secB g n d = (mkB g n ++ (beP 2 d.length ++ (d ++ List.replicate (46 - d.length) 0))) ++ mkB g n := by simp [secB]
  have hl : (mkB g n ++ (beP 2 d.length ++ (d ++ List.replicate (46 - d.length) 0))).length = 56 := by
    simp only [List.length_append, mkB_length, beP_length, List.length_replicate]
    omega
  refine ⟨List.take_left' (mkB_length g n), ?_, ?_⟩
  · rw [e]; exact List.drop_left' hl
  · rw [e]; exact List.take_left' hl
theorem sec_whole (g n : Nat) {d : Bytes} (h : d.length ≤ 46) : wholeB (secB g n d) = true := by
  obtain ⟨h1, h2, h3⟩ := sec_back g n h
  unfold wholeB
  rw [sec_cnt g n h, h1, h2, h3]
  have e : (mkB g n ++ (beP 2 d.length ++ (d ++ List.replicate (46 - d.length) 0))).drop (10 + d.length) = List.replicate (46 - d.length) 0 := by
    have e1 : mkB g n ++ (beP 2 d.length ++ (d ++ List.replicate (46 - d.length) 0)) = (mkB g n ++ (beP 2 d.length ++ d)) ++ List.replicate (46 - d.length) 0 := by simp
    rw [e1]
    exact List.drop_left' (by simp only [List.length_append, mkB_length, beP_length]; omega)
  rw [e]
  simp [h]
theorem sec_data (g n : Nat) {d : Bytes} (h : d.length ≤ 46) : dataB (secB g n d) = d := by
  unfold dataB
  rw [sec_whole g n h, sec_cnt g n h, if_pos rfl]
  have e : (secB g n d).drop 10 = d ++ (List.replicate (46 - d.length) 0 ++ mkB g n) := by
    have e1 : secB g n d = (mkB g n ++ beP 2 d.length) ++ (d ++ (List.replicate (46 - d.length) 0 ++ mkB g n)) := by simp [secB]
    rw [e1]
    exact List.drop_left' (by simp only [List.length_append, mkB_length, beP_length])
  rw [e, List.take_left]
theorem sec_mark {g n : Nat} {d : Bytes} (h : d.length ≤ 46) (hg : g < 2 ^ 32) (hn : n < 2 ^ 32) : markB (secB g n d) = (g, n, true) := by
  obtain ⟨h1, h2, h3⟩ := sec_back g n h
  unfold markB
  rw [sec_whole g n h, if_pos rfl]
  have e1 : (secB g n d).take 4 = beP 4 g := by
    have : (secB g n d).take 4 = ((secB g n d).take 8).take 4 := by rw [List.take_take]; rfl
    rw [this, h1]
    exact List.take_left' (beP_length 4 g)
  have e2 : ((secB g n d).drop 4).take 4 = beP 4 n := by
    have : ((secB g n d).drop 4).take 4 = ((secB g n d).take 8).drop 4 := by rw [List.drop_take]
    rw [this, h1]
    exact List.drop_left' (beP_length 4 g)
  rw [e1, e2, beN_beP, beN_beP, Nat.mod_eq_of_lt hg, Nat.mod_eq_of_lt hn]
theorem whole_cnt {b : Bytes} (h : wholeB b = true) : cntB b ≤ 46 := by
  unfold wholeB at h
  rw [Bool.and_eq_true] at h
  exact of_decide_eq_true h.1
theorem data_length {b : Bytes} (hb : b.length = 64) (h : wholeB b = true) : (dataB b).length = cntB b := by
  have := whole_cnt h
  unfold dataB
  rw [if_pos h, List.length_take, List.length_drop]
  omega
theorem data_le {b : Bytes} (hb : b.length = 64) : (dataB b).length ≤ 46 := by
  by_cases h : wholeB b = true
  · rw [data_length hb h]; exact whole_cnt h
  · unfold dataB; rw [if_neg h]; simp
/-- A whole sector is that of its mark and its data. -/
theorem whole_sec {b : Bytes} (hb : b.length = 64) (h : wholeB b = true) : b = secB (markB b).1 (markB b).2.1 (dataB b) := by
  have hdl := data_length hb h
  have h' := h
  unfold wholeB at h'
  rw [Bool.and_eq_true, Bool.and_eq_true] at h'
  obtain ⟨h1, h2, h3⟩ := h'
  have h1 := of_decide_eq_true h1
  have h2 := of_decide_eq_true h2
  have em : mkB (markB b).1 (markB b).2.1 = b.take 8 := by
    unfold markB mkB
    rw [if_pos h, beP_beN (by rw [List.length_take]; omega), beP_beN (by rw [List.length_take, List.length_drop]; omega)]
    rw [show (8 : Nat) = 4 + 4 from rfl, List.take_add]
  have ez : List.replicate (46 - (dataB b).length) (0 : UInt8) = (b.take 56).drop (10 + cntB b) := by
    symm
    rw [List.eq_replicate_iff]
    refine ⟨by rw [List.length_drop, List.length_take]; omega, fun x hx => ?_⟩
    have := List.all_eq_true.1 h3 x hx
    simpa using this
  unfold secB
  rw [em, ez, hdl]
  have ec : beP 2 (cntB b) = (b.drop 8).take 2 := beP_beN (by rw [List.length_take, List.length_drop]; omega)
  have ed : dataB b = (b.drop 10).take (cntB b) := by unfold dataB; rw [if_pos h]
  rw [ec, ed]
  have e56 : (b.take 56).drop (10 + cntB b) ++ b.take 8 = b.drop (10 + cntB b) := by
    rw [h2, List.drop_take]
    have : b.drop 56 = (b.drop (10 + cntB b)).drop (56 - (10 + cntB b)) := by rw [List.drop_drop]; congr 1; omega
    rw [this, List.take_append_drop]
  rw [e56]
  have e10 : (b.drop 10).take (cntB b) ++ b.drop (10 + cntB b) = b.drop 10 := by
    rw [← List.drop_drop, List.take_append_drop]
  rw [e10]
  have e8 : (b.drop 8).take 2 ++ b.drop 10 = b.drop 8 := by
    have : b.drop 10 = (b.drop 8).drop 2 := by rw [List.drop_drop]
    rw [this, List.take_append_drop]
  rw [e8, List.take_append_drop]

/-! ### records -/
def needN (n : Nat) : Nat := if 2000 < n then 0 else (n + 79) / 46
def sealB (r : Bytes) : Bytes := beP 2 r.length ++ r ++ digest (beP 2 r.length ++ r)
theorem sealB_length (r : Bytes) : (sealB r).length = r.length + 34 := by
  have := digest_length (beP 2 r.length ++ r)
  rw [sealB, List.length_append, List.length_append, this, beP_length]
  omega
def partB (b : Bytes) (i : Nat) : Bytes := (b.drop (46 * i)).take 46
def packB (g n : Nat) (r : Bytes) : List Bytes := (List.range (needN r.length)).map fun i => secB g (n + i) (partB (sealB r) i)
theorem packB_length (g n : Nat) (r : Bytes) : (packB g n r).length = needN r.length := by simp [packB]
theorem partB_le (b : Bytes) (i : Nat) : (partB b i).length ≤ 46 := by rw [partB, List.length_take]; omega
theorem parts_join (b : Bytes) : ∀ k : Nat, ((List.range k).map (partB b)).flatten = b.take (46 * k)
  | 0 => by simp
  | k + 1 => by
    rw [List.range_succ, List.map_append, List.flatten_append, parts_join b k, Nat.mul_succ, List.take_add]
    simp [partB]
theorem need_pos {n : Nat} (h : n ≤ 2000) : 0 < needN n ∧ 46 * (needN n - 1) < n + 34 ∧ n + 34 ≤ 46 * needN n := by
  unfold needN
  rw [if_neg (by omega)]
  omega
theorem need_zero {n : Nat} : needN n = 0 ↔ 2000 < n := by
  unfold needN
  split <;> omega
theorem seal_rec (r : Bytes) : ((sealB r).drop 2).take r.length = r := by
  unfold sealB
  rw [List.append_assoc, List.drop_left' (beP_length 2 _), List.take_left]
theorem seal_len {r : Bytes} (h : r.length ≤ 2000) : beN ((sealB r).take 2) = r.length := by
  unfold sealB
  rw [List.append_assoc, List.take_left' (beP_length 2 _), beN_beP, Nat.mod_eq_of_lt (by omega)]

/-- The bytes of sectors of a generation, from a number on, up to the first that is none of these. (All parts but the last are full.) -/
def okAt (g n : Nat) (l : List Bytes) (i : Nat) : Bool :=
  match l[i]? with
  | some b => wholeB b && (decide ((markB b).1 = g) && decide ((markB b).2.1 = n + i))
  | none => false

/-- When sectors are a record's: what the program tells, and what the reference tells. -/
def recAt (l : List Bytes) (g n : Nat) (r : Bytes) : Prop := r.length ≤ 2000 ∧ needN r.length ≤ l.length ∧ l.take (needN r.length) = packB g n r
theorem recAt_first {l : List Bytes} {g n : Nat} {r : Bytes} (h : recAt l g n r) : ∃ b, l[0]? = some b ∧ dataB b = partB (sealB r) 0 ∧ beN ((dataB b).take 2) = r.length ∧ 2 ≤ (dataB b).length := by
  obtain ⟨h1, h2, h3⟩ := h
  obtain ⟨p1, p2, p3⟩ := need_pos h1
  have hg : (l.take (needN r.length))[0]? = some (secB g (n + 0) (partB (sealB r) 0)) := by rw [h3]; simp [packB, p1]
  rw [List.getElem?_take, if_pos p1] at hg
  have hd := sec_data g (n + 0) (partB_le (sealB r) 0)
  refine ⟨_, hg, hd, ?_, ?_⟩
  · rw [hd, partB, Nat.mul_zero, List.drop_zero, List.take_take]
    exact seal_len h1
  · rw [hd, partB, Nat.mul_zero, List.drop_zero, List.length_take, sealB_length]
    omega
theorem recAt_inj {l : List Bytes} {g n : Nat} {r r' : Bytes} (h : recAt l g n r) (h' : recAt l g n r') : r = r' := by
  obtain ⟨b, e1, e2, e3, e4⟩ := recAt_first h
  obtain ⟨b', e1', e2', e3', e4'⟩ := recAt_first h'
  obtain rfl : b = b' := Option.some.inj (e1.symm.trans e1')
  have hl : r.length = r'.length := e3.symm.trans e3'
  have hk := h'.2.2
  rw [← hl, h.2.2] at hk
  have key : ∀ r : Bytes, r.length ≤ 2000 → ((packB g n r).map dataB).flatten = sealB r := by
    intro r hr
    have e : (packB g n r).map dataB = (List.range (needN r.length)).map (partB (sealB r)) := by
      rw [packB, List.map_map]
      refine List.map_congr_left fun i _ => ?_
      exact sec_data g (n + i) (partB_le (sealB r) i)
    rw [e, parts_join, List.take_of_length_le]
    have := need_pos hr
    rw [sealB_length]
    omega
  have hs : sealB r = sealB r' := by rw [← key r h.1, ← key r' h'.1, hk]
  rw [← seal_rec r, hs, hl, seal_rec r']
end Go.Proofs.YtedebapgmfnflaaGreatDoor

/- Records of sectors: plain laws. What Unpack tells, and when. -/
namespace Go.Proofs.YtedebapgmfnflaaGreatDoor
open Go
set_option maxRecDepth 100000

def okS (g n : Nat) (b : Bytes) : Bool := wholeB b && (decide ((markB b).1 = g) && decide ((markB b).2.1 = n))
/-- The bytes of sectors of a generation, from a number on, up to the first that is none of these, or has room left. -/
def gatherB (g n : Nat) : List Bytes → Bytes → Nat → Bytes × Nat
  | [], acc, i => (acc, i)
  | b :: r, acc, i => if okS g (n + i) b then
      if (dataB b).length < 46 ∨ 2034 ≤ (acc ++ dataB b).length then (acc ++ dataB b, i + 1) else gatherB g n r (acc ++ dataB b) (i + 1)
    else (acc, i)
def unpackB (l : List Bytes) (g n : Nat) : Option (Bytes × Nat) :=
  match l with
  | [] => none
  | b :: _ =>
    if (dataB b).length < 2 then none else
    let m := beN ((dataB b).take 2)
    let k := needN m
    if k = 0 ∨ l.length < k then none else
    let p := gatherB g n (l.take k) [] 0
    if p.2 ≠ k ∨ p.1.length ≠ m + 34 ∨ sealB ((p.1.drop 2).take m) ≠ p.1 then none else some ((p.1.drop 2).take m, k)
def refUnpackB (l : List Bytes) (g n : Nat) : Option (Bytes × Nat) :=
  match l with
  | [] => none
  | b :: _ =>
    if (dataB b).length < 2 then none else
    let m := beN ((dataB b).take 2)
    let k := needN m
    if k = 0 ∨ l.length < k then none else
    let a := ((l.take k).map dataB).flatten
    if a.length ≠ m + 34 then none else
    if 2 ^ 32 < n + k ∨ packB g n ((a.drop 2).take m) ≠ l.take k then none else some ((a.drop 2).take m, k)

theorem gather_all {g n : Nat} : ∀ (l : List Bytes) (acc : Bytes) (i : Nat) (out : Bytes), (∀ b ∈ l, b.length = 64) → gatherB g n l acc i = (out, i + l.length) →
    (∀ j (h : j < l.length), l[j] = secB g (n + (i + j)) (dataB l[j]) ∧ n + (i + j) < 2 ^ 32 ∧ (j + 1 < l.length → (dataB l[j]).length = 46)) ∧ out = acc ++ (l.map dataB).flatten
  | [], acc, i, out, _, h => by
    rw [gatherB] at h
    refine ⟨fun j hj => by simp at hj, ?_⟩
    have := (Prod.mk.inj h).1
    simpa using this.symm
  | b :: r, acc, i, out, hl, h => by
    rw [gatherB] at h
    by_cases hok : okS g (n + i) b = true
    · rw [if_pos hok] at h
      have hbl := hl b (by simp)
      unfold okS at hok
      rw [Bool.and_eq_true, Bool.and_eq_true] at hok
      obtain ⟨hw, h1, h2⟩ := hok
      have h1 := of_decide_eq_true h1
      have h2 := of_decide_eq_true h2
      have hs := whole_sec hbl hw
      rw [h1, h2] at hs
      have hnn : n + i < 2 ^ 32 := by
        rw [← h2]
        unfold markB
        rw [if_pos hw]
        have := beN_lt ((b.drop 4).take 4)
        rw [List.length_take, List.length_drop, hbl] at this
        exact this
      have hdl := data_le hbl
      by_cases hst : (dataB b).length < 46 ∨ 2034 ≤ (acc ++ dataB b).length
      · rw [if_pos hst] at h
        obtain ⟨e1, e2⟩ := Prod.mk.inj h
        rw [List.length_cons] at e2
        have hr : r = [] := List.eq_nil_of_length_eq_zero (by omega)
        subst hr
        refine ⟨fun j hj => ?_, ?_⟩
        · obtain rfl : j = 0 := by simpa using hj
          exact ⟨hs, hnn, fun h => by simp at h⟩
        · rw [← e1]; simp
      · rw [if_neg hst] at h
        have hst : ¬ (dataB b).length < 46 := fun h => hst (.inl h)
        have ih := gather_all r (acc ++ dataB b) (i + 1) out (fun x hx => hl x (by simp [hx])) (by rw [h, List.length_cons]; congr 1; omega)
        refine ⟨fun j hj => ?_, ?_⟩
        · cases j with
          | zero => exact ⟨hs, hnn, fun _ => by show (dataB b).length = 46; omega⟩
          | succ j =>
            have hj' : j < r.length := by simpa using hj
            obtain ⟨q1, q2, q3⟩ := ih.1 j hj'
            rw [show i + 1 + j = i + (j + 1) by omega] at q1 q2
            refine ⟨q1, q2, fun h => q3 (by simpa using h)⟩
        · rw [ih.2]; simp
    · rw [if_neg hok] at h
      have := (Prod.mk.inj h).2
      rw [List.length_cons] at this
      omega

theorem gather_sec {g n : Nat} {s : Bytes} {k : Nat} (hg : g < 2 ^ 32) (hn : n + k ≤ 2 ^ 32) (h1 : s.length ≤ 46 * k) (h2 : 46 * (k - 1) < s.length) (h3 : s.length ≤ 2034) : ∀ (m i : Nat), i + m = k →
    gatherB g n ((List.range' i m).map fun j => secB g (n + j) (partB s j)) (s.take (46 * i)) i = (s, k)
  | 0, i, hi => by
    obtain rfl : i = k := by omega
    rw [List.range'_zero, List.map_nil, gatherB, List.take_of_length_le h1]
  | m + 1, i, hi => by
    have hle := partB_le s i
    have hok : okS g (n + i) (secB g (n + i) (partB s i)) = true := by
      unfold okS
      rw [sec_whole g _ hle, sec_mark hle hg (by omega)]
      simp
    have hacc : s.take (46 * i) ++ partB s i = s.take (46 * (i + 1)) := by
      rw [Nat.mul_succ, List.take_add]; rfl
    have hpl : (partB s i).length = min 46 (s.length - 46 * i) := by rw [partB, List.length_take, List.length_drop]
    rw [List.range'_succ, List.map_cons, gatherB, if_pos hok, sec_data g _ hle, hacc, List.length_take, hpl]
    by_cases hst : min 46 (s.length - 46 * i) < 46 ∨ 2034 ≤ min (46 * (i + 1)) s.length
    · rw [if_pos hst]
      have e : i + 1 = k := by omega
      rw [e, List.take_of_length_le h1]
    · rw [if_neg hst]
      exact gather_sec hg hn h1 h2 h3 m (i + 1) (by omega)

/-- When there is a record: its sectors stand there, with numbers that there are. -/
def recOk (l : List Bytes) (g n : Nat) (r : Bytes) : Prop := recAt l g n r ∧ n + needN r.length ≤ 2 ^ 32

theorem flat46 {α : Type} : ∀ (ds : List (List α)), (∀ j (h : j < ds.length), ds[j].length ≤ 46 ∧ (j + 1 < ds.length → ds[j].length = 46)) → ∀ i (h : i < ds.length), (ds.flatten.drop (46 * i)).take 46 = ds[i]
  | [], _, i, h => by simp at h
  | d :: ds, hd, i, h => by
    have hd0 := hd 0 (by simp)
    cases i with
    | zero =>
      rw [Nat.mul_zero, List.drop_zero, List.flatten_cons]
      show _ = d
      have hle : d.length ≤ 46 := hd0.1
      by_cases he : ds = []
      · subst he
        simp only [List.flatten_nil, List.append_nil]
        exact List.take_of_length_le hle
      · have : d.length = 46 := hd0.2 (by have := List.length_pos_iff.2 he; simpa using this)
        exact List.take_left' this
    | succ i =>
      have h' : i < ds.length := by simpa using h
      have h46 : d.length = 46 := hd0.2 (by simp; omega)
      rw [List.flatten_cons, show 46 * (i + 1) = d.length + 46 * i by omega, ← List.drop_drop, List.drop_left]
      refine flat46 ds (fun j hj => ?_) i h'
      obtain ⟨a, b⟩ := hd (j + 1) (by simpa using hj)
      exact ⟨a, fun h => b (by simpa using h)⟩

theorem parts_of {l : List Bytes} {g n : Nat} {s : Bytes} (hs : (l.map dataB).flatten = s) (hl : ∀ b ∈ l, b.length = 64) (h : ∀ j (h : j < l.length), l[j] = secB g (n + j) (dataB l[j]) ∧ (j + 1 < l.length → (dataB l[j]).length = 46)) : l = (List.range l.length).map fun i => secB g (n + i) (partB s i) := by
  apply List.ext_getElem
  · simp
  · intro j h1 h2
    rw [List.getElem_map, List.getElem_range]
    have hp := flat46 (l.map dataB) (fun i hi => by
      have hi' : i < l.length := by simpa using hi
      rw [List.getElem_map]
      refine ⟨data_le (hl _ (List.getElem_mem hi')), fun h' => (h i hi').2 (by simpa using h')⟩) j (by simpa using h1)
    rw [List.getElem_map, hs] at hp
    unfold partB
    rw [hp]
    exact (h j h1).1

theorem unpack_iff {l : List Bytes} {g n : Nat} (hl : ∀ b ∈ l, b.length = 64) (hg : g < 2 ^ 32) (r : Bytes) (k : Nat) : unpackB l g n = some (r, k) ↔ recOk l g n r ∧ k = needN r.length := by
  constructor
  · intro h
    cases l with
    | nil => cases h
    | cons b t =>
      simp only [unpackB] at h
      generalize hm : beN ((dataB b).take 2) = m at *
      generalize hlist : b :: t = l at *
      by_cases c1 : (dataB b).length < 2
      · rw [if_pos c1] at h; cases h
      rw [if_neg c1] at h
      by_cases c2 : needN m = 0 ∨ l.length < needN m
      · rw [if_pos c2] at h; cases h
      rw [if_neg c2] at h
      by_cases c3 : (gatherB g n (l.take (needN m)) [] 0).2 ≠ needN m ∨ (gatherB g n (l.take (needN m)) [] 0).1.length ≠ m + 34 ∨ sealB (((gatherB g n (l.take (needN m)) [] 0).1.drop 2).take m) ≠ (gatherB g n (l.take (needN m)) [] 0).1
      · rw [if_pos c3] at h; cases h
      rw [if_neg c3] at h
      obtain ⟨rfl, rfl⟩ := Prod.mk.inj (Option.some.inj h)
      clear h
      have hkl : needN m ≤ l.length := by omega
      have htl : (l.take (needN m)).length = needN m := by rw [List.length_take]; omega
      generalize hp : gatherB g n (l.take (needN m)) [] 0 = p at *
      obtain ⟨out, used⟩ := p
      simp only [ne_eq, not_or, Decidable.not_not] at c3
      obtain ⟨e1, e2, e3⟩ := c3
      subst e1
      have hl' : ∀ b ∈ l.take (needN m), b.length = 64 := fun x hx => hl x (List.mem_of_mem_take hx)
      obtain ⟨q1, q2⟩ := gather_all _ _ _ _ hl' (by rw [hp, htl, Nat.zero_add])
      rw [List.nil_append] at q2
      have hml : ((out.drop 2).take m).length = m := by rw [List.length_take, List.length_drop]; omega
      have hm2 : m ≤ 2000 := by
        have := c2
        rw [not_or, need_zero] at this
        omega
      obtain ⟨p1, p2, p3⟩ := need_pos hm2
      have hpk := parts_of (g := g) (n := n) (s := sealB ((out.drop 2).take m)) (by rw [e3, q2]) hl' (fun j hj => ⟨by have := (q1 j hj).1; rwa [Nat.zero_add] at this, (q1 j hj).2.2⟩)
      refine ⟨⟨⟨by rw [hml]; exact hm2, by rw [hml]; exact hkl, ?_⟩, ?_⟩, by rw [hml]⟩
      · rw [packB, hml]
        rw [htl] at hpk
        exact hpk
      · rw [hml]
        have := (q1 (needN m - 1) (by omega)).2.1
        omega
  · rintro ⟨⟨hr, hn⟩, rfl⟩
    obtain ⟨b, e1, e2, e3, e4⟩ := recAt_first hr
    obtain ⟨h1, h2, h3⟩ := hr
    obtain ⟨p1, p2, p3⟩ := need_pos h1
    cases l with
    | nil => cases e1
    | cons b' t =>
      obtain rfl : b' = b := by simpa using e1
      have hsl := sealB_length r
      have hga := gather_sec (g := g) (n := n) (s := sealB r) hg hn (by omega) (by omega) (by omega) (needN r.length) 0 (by omega)
      rw [Nat.mul_zero, List.take_zero, ← List.range_eq_range'] at hga
      simp only [unpackB]
      rw [if_neg (by omega), e3, if_neg (by omega), h3]
      unfold packB
      rw [hga, if_neg]
      · rw [seal_rec]
      · simp only [ne_eq, not_true_eq_false, false_or, not_or, Decidable.not_not]
        exact ⟨hsl, by rw [seal_rec]⟩

theorem refUnpack_iff {l : List Bytes} {g n : Nat} (hg : g < 2 ^ 32) (r : Bytes) (k : Nat) : refUnpackB l g n = some (r, k) ↔ recOk l g n r ∧ k = needN r.length := by
  constructor
  · intro h
    cases l with
    | nil => cases h
    | cons b t =>
      simp only [refUnpackB] at h
      generalize hm : beN ((dataB b).take 2) = m at *
      generalize hlist : b :: t = l at *
      by_cases c1 : (dataB b).length < 2
      · rw [if_pos c1] at h; cases h
      rw [if_neg c1] at h
      by_cases c2 : needN m = 0 ∨ l.length < needN m
      · rw [if_pos c2] at h; cases h
      rw [if_neg c2] at h
      generalize (((l.take (needN m)).map dataB)).flatten = a at *
      by_cases c3 : a.length ≠ m + 34
      · rw [if_pos c3] at h; cases h
      rw [if_neg c3] at h
      by_cases c4 : 2 ^ 32 < n + needN m ∨ packB g n ((a.drop 2).take m) ≠ l.take (needN m)
      · rw [if_pos c4] at h; cases h
      rw [if_neg c4] at h
      obtain ⟨rfl, rfl⟩ := Prod.mk.inj (Option.some.inj h)
      simp only [ne_eq, not_or, Decidable.not_not] at c3 c4
      have hml : ((a.drop 2).take m).length = m := by rw [List.length_take, List.length_drop]; omega
      have hm2 : m ≤ 2000 := by
        have := c2
        rw [not_or, need_zero] at this
        omega
      exact ⟨⟨⟨by rw [hml]; exact hm2, by rw [hml]; omega, by rw [hml]; exact c4.2.symm⟩, by rw [hml]; omega⟩, by rw [hml]⟩
  · rintro ⟨⟨hr, hn⟩, rfl⟩
    obtain ⟨b, e1, e2, e3, e4⟩ := recAt_first hr
    obtain ⟨h1, h2, h3⟩ := hr
    obtain ⟨p1, p2, p3⟩ := need_pos h1
    cases l with
    | nil => cases e1
    | cons b' t =>
      obtain rfl : b' = b := by simpa using e1
      have hsl := sealB_length r
      have e : ((packB g n r).map dataB).flatten = sealB r := by
        have e : (packB g n r).map dataB = (List.range (needN r.length)).map (partB (sealB r)) := by
          rw [packB, List.map_map]
          refine List.map_congr_left fun i _ => ?_
          exact sec_data g (n + i) (partB_le (sealB r) i)
        rw [e, parts_join, List.take_of_length_le (by omega)]
      simp only [refUnpackB]
      rw [if_neg (by omega), e3, if_neg (by omega), h3, e, if_neg (by omega), seal_rec, if_neg]
      simp only [ne_eq, not_true_eq_false, or_false]
      omega
theorem unpack_ref {l : List Bytes} {g n : Nat} (hl : ∀ b ∈ l, b.length = 64) (hg : g < 2 ^ 32) : unpackB l g n = refUnpackB l g n := by
  cases h : unpackB l g n with
  | none =>
    cases h' : refUnpackB l g n with
    | none => rfl
    | some p =>
      obtain ⟨r, k⟩ := p
      rw [(unpack_iff hl hg r k).2 ((refUnpack_iff hg r k).1 h')] at h
      cases h
  | some p =>
    obtain ⟨r, k⟩ := p
    rw [(refUnpack_iff hg r k).2 ((unpack_iff hl hg r k).1 h)]
/-- What is packed is unpacked, with sectors behind it. -/
theorem unpack_pack {g n : Nat} {r : Bytes} (h : r.length ≤ 2000) (hg : g < 2 ^ 32) (hn : n + needN r.length ≤ 2 ^ 32) (more : List Bytes) (hm : ∀ b ∈ more, b.length = 64) : unpackB (packB g n r ++ more) g n = some (r, needN r.length) := by
  have hpl := packB_length g n r
  refine (unpack_iff (fun b hb => ?_) hg r _).2 ⟨⟨⟨h, by rw [List.length_append]; omega, ?_⟩, hn⟩, rfl⟩
  · rcases List.mem_append.1 hb with hb | hb
    · obtain ⟨i, _, rfl⟩ := List.mem_map.1 hb
      exact secB_length _ _ (partB_le _ _)
    · exact hm b hb
  · rw [← hpl, List.take_left]
end Go.Proofs.YtedebapgmfnflaaGreatDoor

/- Torn sectors, changed sectors, records one behind the other: plain laws. -/
namespace Go.Proofs.YtedebapgmfnflaaGreatDoor
open Go
set_option maxRecDepth 100000

theorem whole_ends {b : Bytes} (h : wholeB b = true) : b.take 8 = b.drop 56 := by
  unfold wholeB at h
  rw [Bool.and_eq_true, Bool.and_eq_true] at h
  exact of_decide_eq_true h.2.1
theorem mark_gen {b : Bytes} (hb : b.length = 64) (h : wholeB b = true) : b.take 4 = beP 4 (markB b).1 := by
  unfold markB
  rw [if_pos h]
  exact (beP_beN (by rw [List.length_take]; omega)).symm

/-- A sector of which neither end has a generation, over which one of that generation is written and torn, isn't whole with that generation, unless it is as it was to be. -/
theorem torn_whole {old b x : Bytes} (ho : old.length = 64) (hb : b.length = 64) (hw : wholeB b = true) (h1 : old.take 4 ≠ b.take 4) (h2 : (old.drop 56).take 4 ≠ b.take 4) {k : Nat} (hk : k ≤ 64)
    (hx : x = b.take k ++ old.drop k ∨ x = old.take k ++ b.drop k) (hxw : wholeB x = true) (hg : x.take 4 = b.take 4) : x = b := by
  have e8 := whole_ends hw
  have x8 := whole_ends hxw
  have hxl : x.length = 64 := by
    rcases hx with rfl | rfl
    · rw [List.length_append, List.length_take, List.length_drop]; omega
    · rw [List.length_append, List.length_take, List.length_drop]; omega
  have x56 : (x.drop 56).take 4 = b.take 4 := by
    rw [← x8, List.take_take]; exact hg
  rcases hx with hx | hx
  · by_cases hk56 : k ≤ 56
    · have : x.drop 56 = old.drop 56 := by
        rw [hx, List.drop_append, List.drop_of_length_le (by rw [List.length_take]; omega), List.nil_append, List.drop_drop, List.length_take]
        congr 1
        omega
      rw [this] at x56
      exact absurd x56 h2
    · have t : ∀ m, m ≤ 57 → x.take m = b.take m := by
        intro m hm
        rw [hx, List.take_append_of_le_length (by rw [List.length_take]; omega), List.take_take, Nat.min_eq_left (by omega)]
      have d : x.drop 56 = b.drop 56 := by rw [← x8, ← e8, t 8 (by omega)]
      rw [← List.take_append_drop 56 x, t 56 (by omega), d, List.take_append_drop]
  · by_cases hk4 : 4 ≤ k
    · have : x.take 4 = old.take 4 := by
        rw [hx, List.take_append_of_le_length (by rw [List.length_take]; omega), List.take_take, Nat.min_eq_left (by omega)]
      rw [this] at hg
      exact absurd hg h1
    · have d : x.drop 4 = b.drop 4 := by
        rw [hx, List.drop_append, List.drop_of_length_le (by rw [List.length_take]; omega), List.nil_append, List.drop_drop, List.length_take]
        congr 1
        omega
      rw [← List.take_append_drop 4 x, hg, d, List.take_append_drop]

/-- A sector of a record of which one byte is another one makes another record, or none. -/
theorem changed_other {g n : Nat} {r : Bytes} {l : List Bytes} (hl : ∀ b ∈ l, b.length = 64) (hg : g < 2 ^ 32) (hk : l.length = needN r.length) (hne : l ≠ packB g n r) (r' : Bytes) (k : Nat) (h : unpackB l g n = some (r', k)) : r' ≠ r := by
  rintro rfl
  obtain ⟨⟨⟨_, _, h3⟩, _⟩, _⟩ := (unpack_iff hl hg r' k).1 h
  rw [← hk, List.take_length] at h3
  exact hne h3

def rowsB (g : Nat) : Nat → List Bytes → List Bytes
  | _, [] => []
  | n, r :: rs => packB g n r ++ rowsB g (n + needN r.length) rs
theorem rowsB_snoc (g : Nat) : ∀ (n : Nat) (rs : List Bytes) (r : Bytes), rowsB g n (rs ++ [r]) = rowsB g n rs ++ packB g (n + (rowsB g n rs).length) r
  | n, [], r => by simp [rowsB]
  | n, x :: rs, r => by
    rw [List.cons_append, rowsB, rowsB_snoc, rowsB, List.append_assoc, List.length_append, packB_length, Nat.add_assoc]
theorem packB_64 (g n : Nat) (r : Bytes) : ∀ b ∈ packB g n r, b.length = 64 := by
  intro b hb
  obtain ⟨i, _, rfl⟩ := List.mem_map.1 hb
  exact secB_length _ _ (partB_le _ _)
theorem rowsB_64 (g : Nat) : ∀ (n : Nat) (rs : List Bytes), ∀ b ∈ rowsB g n rs, b.length = 64
  | _, [], b, hb => by simp [rowsB] at hb
  | n, r :: rs, b, hb => by
    rw [rowsB, List.mem_append] at hb
    rcases hb with hb | hb
    · exact packB_64 _ _ _ b hb
    · exact rowsB_64 g _ rs b hb
theorem rowsB_take (g : Nat) (n : Nat) (rs : List Bytes) (i : Nat) : rowsB g n rs = rowsB g n (rs.take i) ++ rowsB g (n + (rowsB g n (rs.take i)).length) (rs.drop i) := by
  induction i generalizing n rs with
  | zero => simp [rowsB]
  | succ i ih =>
    cases rs with
    | nil => simp [rowsB]
    | cons r rs =>
      rw [List.take_succ_cons, List.drop_succ_cons, rowsB, rowsB, ih, List.append_assoc, List.length_append, packB_length, Nat.add_assoc]
end Go.Proofs.YtedebapgmfnflaaGreatDoor

/- seal: how many sectors, numbers as bytes: their walks. Conditions: numbers as bytes are not below 0; at most 4 bytes are read as a number. -/
namespace Go.Proofs.YtedebapgmfnflaaGreatDoor
open Go
set_option maxRecDepth 100000

theorem RdSl.lenw {P : Program} {w w' : World} {v : Value} {s : Nat} {ys : List Value} {m : Nat} {ts : Array TypeId} {t : TypeId} {K : VPost} (h : RdSl w v s ys m) : lenW P (some true) ts t #[v] w' K = K (.int .i64 m) w' := by
  obtain ⟨a, c, rfl⟩ := h.len
  exact len_s

def needI (n : Int) : Nat := if n < 0 then 0 else needN n.toNat
theorem needI_nat (n : Nat) : needI n = needN n := by unfold needI; rw [if_neg (by omega), Int.toNat_natCast]

theorem need_c {w : World} {K : VPost} {n : Int} (hK : K (.int .i64 (needI n)) w) : Calls Tryz.prog 55 #[.int .i64 n] w (retK K) := by
  refine c55_calls _ w K ?_
  unfold c55
  rw [ilss]
  unfold needI needN at hK
  by_cases h : n < 0
  · rw [decide_eq_true h]
    repeat with_reducible refine gs_tf ?_
    refine pick_ti ?_
    rw [condW_t]
    rw [if_pos h] at hK
    exact hK
  · rw [decide_eq_false h]
    rw [if_neg h] at hK
    refine gs_f ?_
    refine gs_f ?_
    rw [igtr]
    refine pick_fi ?_
    refine cond_d (fun h2 => ?_) (fun h2 => ?_)
    · rw [if_pos (by omega)] at hK
      exact hK
    · rw [if_neg (by omega)] at hK
      refine iadd (by omega) ?_
      refine iadd (by omega) ?_
      refine isub (by omega) ?_
      rw [show n + 34 + 46 - 1 = ((n.toNat + 79 : Nat) : Int) by omega]
      exact nquo (by decide) (by omega) hK

theorem beN_or (b : Bytes) (c : UInt8) : beN b * 2 ^ 8 ||| c.toNat = beN (b ++ [c]) := by
  rw [beN_snoc, or_byte _ _ c.toNat_lt]

theorem get_c {w : World} {K : VPost} {x : Value} {b : Bytes} (h : RdSl w x 1 (bc b) b.length) (hl : b.length ≤ 4) (hK : K (.int .i64 (beN b)) w) : Calls Tryz.prog 70 #[x] w (retK K) := by
  refine c70_calls _ w K ?_
  unfold c70
  refine bindX_i fun J0 h0 => bindX_i fun J1 h1 => ?_
  rw [h.lenw]
  refine bindX_i fun J2 h2 => ?_
  refine loop_i (fun m fr wr => ∃ i : Nat, m = b.length - i ∧ i ≤ b.length ∧ fr 3 = .int .i64 (beN (b.take i)) ∧ fr 6 = x ∧ fr 7 = .int .i64 b.length ∧ fr 8 = .int .i64 i ∧ wr = w) b.length ?_ ?_
  · exact ⟨0, rfl, by omega, rfl, rfl, rfl, rfl, rfl⟩
  · rintro m fr wr J ⟨i, rfl, hi, f3, f6, f7, f8, rfl⟩ hJ hX
    rw [f8, f7]
    refine nlss (cond_d (fun hlt => ?_) (fun hlt => ?_))
    · rw [f6, f3]
      obtain ⟨b1, o1, i1, l1⟩ := RdSl.elAt (f := bv) 0 h (k := i) hlt .i64
      refine i1 _ ?_
      refine l1 _ ?_
      have hb := beN_lt (b.take i)
      have hlen : (b.take i).length = i := by rw [List.length_take]; omega
      rw [hlen] at hb
      have hp : 256 ^ i ≤ 256 ^ 3 := Nat.pow_le_pow_right (by decide) (by omega)
      have h3 : (256 : Nat) ^ 3 = 16777216 := by decide
      refine nshl (s := 8) (by decide) (by omega) ?_
      have hg : b.getD i 0 = b[i] := by rw [List.getD_eq_getElem?_getD, List.getElem?_eq_getElem hlt]; rfl
      have hc := (b[i]).toNat_lt
      rw [hg, show bv b[i] = .int .u8 b[i].toNat from rfl, convN_i und_u8 und_int, i64_fit (by omega)]
      refine nor (by omega) (by omega) ?_
      rw [beN_or]
      refine nadd (y := 1) (by omega) ?_
      refine hJ (b.length - (i + 1)) _ _ (by omega) ⟨i + 1, rfl, by omega, ?_, f6, f7, rfl, rfl⟩
      show Value.int .i64 _ = _
      rw [List.take_succ_eq_append_getElem hlt]
    · obtain rfl : i = b.length := by omega
      refine hX _ _ _ (by simp) (h2 _ _ _ (h1 _ _ _ ?_))
      show K (fr 3) _
      rw [f3, List.take_length]
      exact hK

theorem beP_step (n k i : Nat) : (List.replicate (k + 1) 0 ++ beP i n).set k (UInt8.ofNat (n >>> (8 * i))) = List.replicate k 0 ++ beP (i + 1) n := by
  rw [List.replicate_succ', List.append_assoc]
  simp [beP, List.set_append]

theorem put_c {w : World} {K : VPost} {n k : Nat} (hn : n < 9223372036854775808) (hk : k ≤ 8) (hK : ∀ v w', OwnAt w' v 5 1 (bc (beP k n)) k → Ext [] w w' → (∀ b ∈ slB v, w.heap.size ≤ b) → K v w') :
    Calls Tryz.prog 78 #[.int .i64 n, .int .i64 k] w (retK K) := by
  refine c78_calls _ _ w K ?_
  unfold c78
  obtain ⟨ui, hui, huz, husz, huby⟩ := tyI_spec ty_u8
  refine makeSlice_i (z0 := .int .u8 0) (n := k) (c := k) und_u8s hui huz (by rw [husz]; rfl) (Nat.le_refl _) (by rw [huby]; omega) (by omega) fun bb w1 hbb e hm _ => ?_
  rw [husz, Nat.mul_one, ← bc_zeros] at hm
  have s := (Sep.nil w).add (T := rO (.slice (some ⟨bb, 0, none⟩) k k) 5 1 (bc (List.replicate k 0)) k) (.inr ⟨bb, 0, k, _, rfl, hm, by rw [bc_length]; simp, by rw [List.drop_zero, List.take_of_length_le (by rw [bc_length]; simp)], by rw [bc_length]; simp, Nat.le_refl _⟩) e (fun c hc => by simp [rO, slB] at hc; omega)
  have hf : ∀ b ∈ slB (.slice (some ⟨bb, 0, none⟩) k k), w.heap.size ≤ b := fun c hc => by simp [slB] at hc; omega
  have hvl : ∀ (w : World) (K : VPost), lenW Tryz.prog (some true) #[36] 3 #[.slice (some ⟨bb, 0, none⟩) k k] w K = K (.int .i64 k) w := fun w K => by rw [len_s]
  generalize (Value.slice (some ⟨bb, 0, none⟩) k k) = v at *
  refine bindX_i fun J0 h0 => bindX_i fun J1 h1 => ?_
  rw [hvl]
  refine bindX_i fun J2 h2 => ?_
  refine loop_i (fun m fr wr => ∃ i : Nat, m = k - i ∧ i ≤ k ∧ fr 0 = .int .i64 n ∧ fr 1 = .int .i64 k ∧ fr 5 = v ∧ fr 10 = .int .i64 k ∧ fr 11 = .int .i64 i ∧ Sep [] w wr [rO v 5 1 (bc (List.replicate (k - i) 0 ++ beP i n)) k] []) k ?_ ?_
  · exact ⟨0, rfl, by omega, rfl, rfl, rfl, rfl, rfl, by simpa [beP] using s⟩
  · rintro m fr wr J ⟨i, rfl, hi, f0, f1, f5, f10, f11, s⟩ hJ hX
    rw [f10, f11]
    refine nlss (cond_d (fun hlt => ?_) (fun hlt => ?_))
    · rw [f0, f1, f5]
      refine nsub (y := 1) (by omega) (by omega) ?_
      refine nsub (by omega) (by omega) ?_
      refine nmul (x := 8) (by omega) ?_
      refine nshr (by show 8 * i ≤ 64; omega) ?_
      have e8 : IntKind.u8.wrap ((n >>> (8 * i) : Nat) : Int) = ((UInt8.ofNat (n >>> (8 * i))).toNat : Int) := wrap_u8n _
      rw [convN_i und_int und_u8, e8]
      obtain ⟨b1, o1, i1, _, s1⟩ := s.byteAt 0 rfl (k := k - 1 - i) (by omega) .i64
      refine i1 _ ?_
      refine s1 _ (UInt8.ofNat (n >>> (8 * i))) _ fun w5 s => ?_
      refine nadd (y := 1) (by omega) ?_
      have e9 : k - i = (k - 1 - i) + 1 := by omega
      have s : Sep [] w w5 [rO v 5 1 (bc ((List.replicate (k - i) 0 ++ beP i n).set (k - 1 - i) (UInt8.ofNat (n >>> (8 * i))))) k] [] := s
      rw [e9, beP_step] at s
      exact hJ (k - (i + 1)) _ _ (by omega) ⟨i + 1, rfl, by omega, f0, f1, f5, f10, rfl, by rw [show k - (i + 1) = k - 1 - i by omega]; exact s⟩
    · obtain rfl : i = k := by omega
      refine hX _ _ _ (by simp) (h2 _ _ _ (h1 _ _ _ ?_))
      show K (fr 5) _
      rw [f5]
      rw [Nat.sub_self] at s
      exact hK v _ (s.at 0 rfl) s.ext hf
theorem rneed_c {w : World} {K : VPost} {n : Int} (hK : K (.int .i64 (needI n)) w) : Calls Tryz.prog 12 #[.int .i64 n] w (retK K) := by
  refine c12_calls _ w K ?_
  unfold c12
  rw [ilss]
  unfold needI needN at hK
  by_cases h : n < 0
  · rw [decide_eq_true h]
    repeat with_reducible refine gs_tf ?_
    refine pick_ti ?_
    rw [condW_t]
    rw [if_pos h] at hK
    exact hK
  · rw [decide_eq_false h]
    rw [if_neg h] at hK
    refine gs_f ?_
    refine gs_f ?_
    rw [igtr]
    refine pick_fi ?_
    refine cond_d (fun h2 => ?_) (fun h2 => ?_)
    · rw [if_pos (by omega)] at hK
      exact hK
    · rw [if_neg (by omega)] at hK
      refine iadd (by omega) ?_
      refine iadd (by omega) ?_
      rw [show n + 34 + 45 = ((n.toNat + 79 : Nat) : Int) by omega]
      exact nquo (by decide) (by omega) hK
end Go.Proofs.YtedebapgmfnflaaGreatDoor

/- slices.Chunk of bytes, 46 at a time: what it hands over to a loop over it. Condition: the bytes are a slice with at most 2^40 of them. -/
namespace Go.Proofs.YtedebapgmfnflaaGreatDoor
open Go
set_option maxRecDepth 100000

theorem yield_i {P : Program} {K : VPost} {l d : Nat} {args : Array Value} {W : World} {R : Ending → World → Prop} (h : YieldAt Fence.wide d P l args W R) (hR : ∀ e W', R e W' → retK K e W') : dynW P (.func (.yield l) #[] #[]) args W K := by
  obtain ⟨fn, tmps, assign, body, hy, hr⟩ := h
  show nextW P K ((Instr.yield l (#[] ++ args)).run P W)
  have e : (#[] : Array Value) ++ args = args := by simp
  rw [e, hy]
  exact roundRF (r := none) (RoundIn.mono hr hR)

theorem retK_i {K : VPost} {v : Value} {w : World} (h : K v w) : retK K (.returned v) w := h
theorem cndT {A B : Prop} (h : A) : condW (.bool true) A B := h
theorem cndF {A B : Prop} (h : B) : condW (.bool false) A B := h
theorem mkfunc_i {P : Program} {K : VPost} {w : World} {f : Fn} {fs cs : Array Value} (h : K (.func f fs cs) w) : insW P (Instr.makeFunc f fs cs) w K := h

/-- A part of a slice, its capacity cut. -/
def cutV (v : Value) (l h : Nat) : Value :=
  match v with
  | .slice a _ _ => .slice (if h = l then a else a.map (·.add (l * 1))) (h - l) (h - l)
  | v => v

theorem cutV_rd {w : World} {v : Value} {ys : List Value} {m l h : Nat} (hr : RdSl w v 1 ys m) (hlh : l ≤ h) (hhm : h ≤ m) : RdSl w (cutV v l h) 1 ((ys.drop l).take (h - l)) (h - l) := by
  obtain ⟨hl, ⟨rfl, a, c, rfl⟩ | ⟨b, o, c, cs, rfl, hb, h1, h2⟩⟩ := hr
  · have hz : m = 0 := by simpa using hl.symm
    exact ⟨by simp; omega, .inl ⟨by simp, _, _, rfl⟩⟩
  · rw [Nat.mul_one] at hl h1 h2
    by_cases e : h = l
    · subst e
      have : cutV (.slice (some ⟨b, o, none⟩) m c) h h = .slice (some ⟨b, o, none⟩) 0 0 := by simp [cutV]
      rw [Nat.sub_self, this]
      exact ⟨by simp, .inl ⟨by simp, _, _, rfl⟩⟩
    · refine ⟨by rw [List.length_take, List.length_drop, hl]; omega, .inr ⟨b, o + l * 1, h - l, cs, ?_, hb, ?_, by omega⟩⟩
      · simp only [cutV, if_neg e, Option.map_some, add_addr]
      · rw [← h1, Nat.mul_one, Nat.mul_one]; exact take_drop_part cs o l (h - l) m (by omega)
theorem cutV_cap {v : Value} {m l h : Nat} (hv : ∃ a c, v = .slice a m c) (hcap : capOk v) (hlh : l ≤ h) (hhm : h ≤ m) : capOk (cutV v l h) := by
  obtain ⟨a, c, rfl⟩ := hv
  cases a with
  | none =>
    have : m = 0 := hcap
    simp only [cutV]
    split <;> (show h - l = 0; omega)
  | some a => simp only [cutV]; split <;> exact Nat.le_refl _
theorem cutV_slB {v : Value} {l h : Nat} : slB (cutV v l h) = slB v := by
  unfold cutV
  split
  · rename_i a n c
    split
    · cases a <;> rfl
    · cases a with
      | none => rfl
      | some a => simp only [Option.map_some, slB, Addr.add]; split <;> rfl
  · rfl

theorem chunk_c {w : World} {K : VPost} {x : Value} (hx : x.cells = #[x]) (hK : ∀ b1 b2 w', Ext [] w w' → Blk w' b1 [x] 36 → Blk w' b2 [.int .i64 46] 3 → w.heap.size ≤ b1 → w.heap.size ≤ b2 → b1 ≠ b2 → K (.func (.func 77) #[] #[.pointer (some ⟨b1, 0, none⟩), .pointer (some ⟨b2, 0, none⟩)]) w') :
    Calls Tryz.prog 71 #[x, .int .i64 46] w (retK K) := by
  refine c71_calls _ _ w K ?_
  unfold c71
  refine (Sep.nil w).box fun b1 w1 s e1 => ?_
  refine s.box fun b2 w2 s e2 => ?_
  have hs := s.ext
  refine bindX_i fun J0 h0 => bindX_i fun J1 h1 => ?_
  refine s.load1 0 rfl (v := .int .i64 46) rfl ?_
  rw [show (Value.int .i64 46) = .int .i64 ((46 : Nat) : Int) from rfl]
  refine nlss (y := 1) ?_
  rw [show decide ((46 : Nat) < 1) = false from rfl, condW_f]
  refine h1 _ _ _ ?_
  show insW Tryz.prog (Instr.makeFunc (.func 77) #[] #[.pointer (some ⟨b1, 0, none⟩), .pointer (some ⟨b2, 0, none⟩)]) w2 _
  refine mkfunc_i ?_
  have f1 : w.heap.size ≤ b1 := by omega
  have f2 : w.heap.size ≤ b2 := s.fresh 0 rfl b2 (by simp [rB])
  have hb1 : Blk w2 b1 [x] 36 := by
    have := s.at 1 rfl
    rw [hx] at this
    exact this
  have hne : b1 ≠ b2 := fun e => (List.pairwise_cons.1 s.dis).1 _ (List.mem_cons_self ..) b2 (by simp [rB]) (by simp [rB, e])
  exact hK b1 b2 w2 hs hb1 (s.at 0 rfl) f1 f2 hne

abbrev chunkN (m : Nat) : Nat := (m + 45) / 46
abbrev ChunkA (m : Nat) : Type := { k : Nat // 46 * k < m }
def chunkV {m : Nat} (x : Value) (k : ChunkA m) : Array Value := #[cutV x (46 * k.1) (min (46 * k.1 + 46) m)]
def chunkK (b1 b2 : Nat) (W W' : World) : Prop := W'.heap[b1]? = W.heap[b1]? ∧ W'.heap[b2]? = W.heap[b2]?

theorem chunk_stops {w : World} {x : Value} {m b1 b2 : Nat} (hx : ∃ a c, x = .slice a m c) (hcap : capOk x) (hm : m < 1099511627776) (h1 : RBlk w b1 [x]) (h2 : RBlk w b2 [.int .i64 46]) :
    SeqStopsK Fence.wide 0 Tryz.prog 77 #[.pointer (some ⟨b1, 0, none⟩), .pointer (some ⟨b2, 0, none⟩)] (chunkV (m := m) x) (chunkK b1 b2) (fun xs => xs.map (·.1) = List.range (chunkN m)) (fun _ => True) (chunkN m) w := by
  intro l J Jx W hB hJ _ hY hj0
  refine (callsIn_wide (n := 0)).2 ?_
  refine Calls.mono (R := retK fun v W' => (∃ xs : List (ChunkA m), xs.map (·.1) = List.range (chunkN m) ∧ J xs W') ∨ (∃ pre, True ∧ Jx pre W')) ?_ (fun e W' he => ?_)
  · refine c77_calls _ _ _ W _ ?_
    unfold c77
    have k1 : RBlk W b1 [x] := by obtain ⟨t, fz, h⟩ := h1; exact ⟨t, fz, (hB.block b1 (Array.getElem?_eq_some_iff.1 h).1).trans h⟩
    have k2 : RBlk W b2 [.int .i64 46] := by obtain ⟨t, fz, h⟩ := h2; exact ⟨t, fz, (hB.block b2 (Array.getElem?_eq_some_iff.1 h).1).trans h⟩
    have hxl : ∀ (w : World) (K : VPost), lenW Tryz.prog (some true) #[36] 3 #[x] w K = K (.int .i64 m) w := fun w K => by obtain ⟨a, c, rfl⟩ := hx; exact len_s
    refine bindX_i fun J0 g0 => bindX_i fun J1 g1 => ?_
    refine loop_i (fun q fr wr => ∃ (k : Nat) (pre : List (ChunkA m)), q = chunkN m - k ∧ k ≤ chunkN m ∧ pre.map (·.1) = List.range k ∧ fr 0 = .func (.yield l) #[] #[] ∧ fr 1 = .pointer (some ⟨b1, 0, none⟩) ∧ fr 2 = .pointer (some ⟨b2, 0, none⟩) ∧ fr 4 = .int .i64 ((46 * k : Nat) : Int) ∧
      J pre wr ∧ RBlk wr b1 [x] ∧ RBlk wr b2 [.int .i64 46]) (chunkN m) ?_ ?_
    · exact ⟨0, [], rfl, by omega, rfl, rfl, rfl, rfl, rfl, hj0, k1, k2⟩
    · rintro q fr wr I ⟨k, pre, rfl, hk, hpre, f0, f1, f2, f4, hj, k1, k2⟩ hI hX
      have hpl : pre.length = k := by have := congrArg List.length hpre; simpa using this
      rw [f1, f4]
      refine load1 k1 (v := x) rfl ?_
      rw [hxl]
      refine nlss (cond_d (fun hlt => ?_) (fun hlt => ?_))
      · have hj : J pre wr.drew := hJ pre wr wr.drew none hj ⟨rfl, rfl, rfl, Nat.le_refl _, fun _ _ _ => rfl⟩ (by simp)
        have k1 : RBlk wr.drew b1 [x] := k1
        have k2 : RBlk wr.drew b2 [.int .i64 46] := k2
        generalize wr.drew = wr at *
        rw [f2, f0]
        obtain ⟨a, c, rfl⟩ := hx
        obtain ⟨a, rfl⟩ : ∃ y, a = some y := by
          cases a with
          | none => have : m = 0 := hcap; omega
          | some y => exact ⟨y, rfl⟩
        have hmc : m ≤ c := hcap
        refine load1 k2 (v := .int .i64 46) rfl ?_
        refine load1 k1 (v := .slice (some a) m c) rfl ?_
        refine cut_ok (l := 46 * k) (h := m) rfl rfl (by omega) hmc ?_
        show lenW Tryz.prog (some true) #[36] 3 #[.slice _ _ _] wr _
        rw [len_s, min_e]
        refine ⟨rfl, ?_⟩
        refine load1 k1 (v := .slice (some a) m c) rfl ?_
        have e1 : min (46 : Int) ((m - 46 * k : Nat) : Int) = ((min 46 (m - 46 * k) : Nat) : Int) := by omega
        rw [e1]
        have hkN : k < chunkN m := by unfold chunkN; omega
        refine nadd (by omega) ?_
        refine nadd (by omega) ?_
        refine ⟨by simp, 46 * k, 46 * k + min 46 (m - 46 * k), 46 * k + min 46 (m - 46 * k), rfl, rfl, rfl, by omega, fun _ => Nat.le_refl _, by omega, ?_⟩
        have hy := hY pre ⟨k, hlt⟩ wr hj (by rw [hpl]; exact hkN)
        have ev : chunkV (m := m) (.slice (some a) m c) ⟨k, hlt⟩ = #[.slice (if 46 * k + min 46 (m - 46 * k) = 46 * k then some a else (some a).map (·.add (46 * k * 1))) (46 * k + min 46 (m - 46 * k) - 46 * k) (46 * k + min 46 (m - 46 * k) - 46 * k)] := by
          have : min (46 * k + 46) m = 46 * k + min 46 (m - 46 * k) := by omega
          simp only [chunkV, cutV, this]
        rw [ev] at hy
        refine yield_i hy fun e W' he => ?_
        rcases he with ⟨rfl, hj', hkp⟩ | ⟨rfl, hjx⟩
        · refine retK_i (not_ti (b := true) ?_)
          refine cndF ?_
          have k1' : RBlk W' b1 [.slice (some a) m c] := by obtain ⟨t, fz, h⟩ := k1; exact ⟨t, fz, hkp.1.trans h⟩
          have k2' : RBlk W' b2 [.int .i64 46] := by obtain ⟨t, fz, h⟩ := k2; exact ⟨t, fz, hkp.2.trans h⟩
          refine load1 k2' (v := .int .i64 46) rfl ?_
          refine nadd (y := 46) (by omega) ?_
          exact hI (chunkN m - (k + 1)) _ _ (by omega) ⟨k + 1, _, rfl, by omega, by rw [List.map_append, hpre, List.range_succ]; rfl, f0, f1, f2, rfl, hj', k1', k2'⟩
        · refine retK_i (not_ti (b := false) ?_)
          refine cndT ?_
          exact hX _ _ _ (by simp) (g1 _ _ _ (g0 _ _ _ (.inr ⟨_, trivial, hjx⟩)))
      · have hkN : k = chunkN m := by unfold chunkN at hk ⊢; omega
        refine hX _ _ _ (by simp) (g1 _ _ _ (g0 _ _ _ (.inl ⟨pre, by rw [hpre, hkN], hj⟩)))
  · cases e with
    | returned v => exact ⟨⟨v, rfl⟩, he⟩
    | _ => exact he.elim
end Go.Proofs.YtedebapgmfnflaaGreatDoor

/- Bytes put one behind the other; a record with its digest; a sector: their walks. Conditions: at most 2^30 bytes; the numbers are not below 0. -/
namespace Go.Proofs.YtedebapgmfnflaaGreatDoor
open Go
set_option maxRecDepth 100000

theorem Sep.putB {S : List Nat} {w0 w : World} {L R : List Res} {K : VPost} (s : Sep S w0 w L R) {n k : Nat} (hn : n < 9223372036854775808) (hk : k ≤ 8) (h : ∀ v w', Sep S w0 w' (rDb v (beP k n) :: L) R → K v w') :
    fnW Tryz.prog 78 #[.int .i64 n, .int .i64 k] w K :=
  fnW_of (by kernel_rfl) (put_c hn hk fun v w' hv e hf => h v w' (s.add (T := rDb v (beP k n)) (by show OwnAt w' v 5 1 (bc (beP k n)) (beP k n).length; rw [beP_length]; exact hv) e hf))

theorem cap_e {P : Program} {t e : TypeId} {ty : TypeId} {a : Option Addr} {n c : Nat} {w : World} {K : VPost} (hu : P.underlying t = some (.slice e)) (h : K (.int .i64 c) w) : insW P (Builtin.cap_ #[t] ty #[.slice a n c]) w K := by
  refine insW_ok (v := .int .i64 c) (w' := w) ?_ h
  unfold Builtin.cap_
  simp [Sem.run_bind, run_und hu, goInt]
theorem len_i {P : Program} {ts : Array TypeId} {t : TypeId} {a : Option Addr} {n c : Nat} {w : World} {K : VPost} (h : K (.int .i64 n) w) : lenW P (some true) ts t #[.slice a n c] w K := h
theorem seqX_n {B : Fr → World → Prop} {K : XPost} {fr : Fr} {w : World} (h : B fr w) : seqX B K .normal fr w := h

theorem grow_c {w : World} {K : VPost} {n : Nat} (hn : n ≤ 1073741824) (hK : ∀ v w', OwnAt w' v 5 1 [] 0 → Ext [] w w' → (∀ b ∈ slB v, w.heap.size ≤ b) → K v w') :
    Calls Tryz.prog 85 #[.slice none 0 0, .int .i64 n] w (retK K) := by
  refine c85_calls _ _ w K ?_
  unfold c85
  refine bindX_i fun J0 h0 => bindX_i fun J1 h1 => ?_
  refine nlss (y := 0) ?_
  rw [show decide (n < 0) = false from decide_eq_false (by omega)]
  refine cndF ?_
  refine h1 _ _ _ (seqX_n ?_)
  refine bindX_i fun J2 h2 => ?_
  refine cap_e und_u8s ?_
  refine len_i ?_
  refine nsub (x := 0) (y := 0) (by omega) (by omega) ?_
  refine nsub (x := n) (y := 0) (by omega) (by omega) ?_
  refine ngtr (y := 0) ?_
  rw [Nat.sub_zero]
  refine cond_d (fun hp => ?_) (fun hp => ?_)
  · refine cap_e und_u8s ?_
    refine cut_ok (l := 0) (h := 0) rfl rfl (Nat.le_refl _) (Nat.le_refl _) ?_
    obtain ⟨ui, hui, huz, husz, huby⟩ := tyI_spec ty_u8
    have s := (Sep.nil w).add (T := rO (.slice none 0 0) 5 ui.size [] 0) (w' := w) (.inl ⟨rfl, rfl, rfl⟩) (Ext.refl _ _) (by simp [rO, slB])
    refine s.appendZ (n := 0) (m := n) 0 rfl und_u8s und_int hui huz (by rw [husz]; rfl) (by rw [huby]; decide) (by intro y hy; rcases List.mem_singleton.1 (show y ∈ [Value.int .u8 0] from hy) with rfl; rfl) (by rw [huby]; omega) fun v w1 s => ?_
    rw [husz] at s
    refine len_i ?_
    have hv := s.at 0 rfl
    refine hv.cutO (l := 0) (h := 0) rfl rfl (Nat.le_refl _) (Nat.zero_le _) fun v' hv' e => ?_
    refine h2 _ _ _ ?_
    show K v' w1
    have hv' : OwnAt w1 v' 5 1 [] 0 := hv'
    exact hK v' w1 hv' s.ext (fun b hb => s.fresh 0 rfl b (by show b ∈ slB v; rw [← e]; exact hb))
  · exact h2 _ _ _ (hK (.slice none 0 0) w (.inl ⟨rfl, rfl, rfl⟩) (Ext.refl _ _) (by simp [slB]))

theorem fltake {α : Type} (ls : List (List α)) {i : Nat} (h : i < ls.length) : (ls.take (i + 1)).flatten = (ls.take i).flatten ++ ls[i] := by
  rw [List.take_succ_eq_append_getElem h, List.flatten_append]
  simp
theorem fltake_le {α : Type} (ls : List (List α)) (i : Nat) : (ls.take i).flatten.length ≤ ls.flatten.length := by
  have : ls.flatten = (ls.take i).flatten ++ (ls.drop i).flatten := by rw [← List.flatten_append, List.take_append_drop]
  rw [this, List.length_append]
  omega

theorem concat_c {w : World} {K : VPost} {v : Value} {hs : List Value} {ls : List Bytes} (hv : RowsR w v hs ls) (hn : ls.flatten.length ≤ 1073741824) (hl : ls.length ≤ 1073741824)
    (hK : ∀ v' w', OwnAt w' v' 5 1 (bc ls.flatten) ls.flatten.length → Ext [] w w' → (∀ b ∈ slB v', w.heap.size ≤ b) → K v' w') : Calls Tryz.prog 80 #[v] w (retK K) := by
  refine c80_calls _ w K ?_
  unfold c80
  have hvl : ∀ (w : World) (K : VPost), lenW Tryz.prog (some true) #[71] 3 #[v] w K = K (.int .i64 ls.length) w := fun w K => by obtain ⟨a, c, rfl⟩ := hv.len; exact len_s
  refine bindX_i fun J0 h0 => bindX_i fun J1 h1 => ?_
  rw [hvl]
  refine bindX_i fun J2 h2 => ?_
  refine loop_i (fun m fr wr => ∃ i : Nat, m = ls.length - i ∧ i ≤ ls.length ∧ fr 0 = v ∧ fr 3 = .int .i64 (ls.take i).flatten.length ∧ fr 9 = v ∧ fr 10 = .int .i64 ls.length ∧ fr 11 = .int .i64 i ∧ w = wr) ls.length ?_ ?_
  · exact ⟨0, rfl, by omega, rfl, rfl, rfl, rfl, rfl, rfl⟩
  · rintro m fr wr J ⟨i, rfl, hi, f0, f3, f9, f10, f11, rfl⟩ hJ hX
    rw [f10, f11]
    refine nlss (cond_d (fun hlt => ?_) (fun hlt => ?_))
    · refine bindX_i fun J3 h3 => bindX_i fun J4 h4 => ?_
      rw [f9]
      obtain ⟨b, o, r, hix, hld, hr, hc, hf⟩ := hv.elem hlt .i64
      refine hix _ ?_
      refine hld _ ?_
      rw [hr.lenw, f3]
      have e1 := fltake ls hlt
      have e2 := fltake_le ls (i + 1)
      rw [e1, List.length_append] at e2
      refine nadd (by omega) ?_
      refine nlss (y := 0) ?_
      rw [show decide ((ls.take i).flatten.length + ls[i].length < 0) = false from decide_eq_false (by omega)]
      refine cndF ?_
      refine h3 _ _ _ ?_
      show binN _ _ _ _ (fr 11) _ _ _
      rw [f11]
      refine nadd (y := 1) (by omega) ?_
      refine hJ (ls.length - (i + 1)) _ _ (by omega) ⟨i + 1, rfl, by omega, f0, ?_, f9, f10, rfl, rfl⟩
      rw [e1, List.length_append]; rfl
    · obtain rfl : i = ls.length := by omega
      refine hX _ _ _ (by simp) (h2 _ _ _ (h1 _ _ _ ?_))
      show fnW _ _ #[_, fr 3] _ _
      rw [f3, List.take_length]
      refine fnW_of (by kernel_rfl) (grow_c hn fun v1 w1 hv1 e1 hf1 => ?_)
      have s := (Sep.zero1 (U := rW v hs ls) hv).add (T := rDb v1 []) hv1 e1 hf1
      refine bindX_i fun J5 h5 => ?_
      show lenW _ _ _ _ #[fr 0] _ _
      rw [f0, hvl]
      refine bindX_i fun J6 h6 => ?_
      refine loop_i (fun m fr wr => ∃ (i : Nat) (v1 : Value), m = ls.length - i ∧ i ≤ ls.length ∧ fr 6 = v1 ∧ fr 25 = v ∧ fr 26 = .int .i64 ls.length ∧ fr 27 = .int .i64 i ∧ Sep [] w wr [rDb v1 (ls.take i).flatten] [rW v hs ls]) ls.length ?_ ?_
      · exact ⟨0, v1, rfl, by omega, rfl, f0, rfl, rfl, s⟩
      · rintro m fr wr I ⟨i, v1, rfl, hi, g6, g25, g26, g27, s⟩ hI hY
        rw [g26, g27]
        refine nlss (cond_d (fun hlt => ?_) (fun hlt => ?_))
        · rw [g25, g6]
          obtain ⟨b, o, r, hix, hld, hr, hc, hf⟩ := RowsR.elem (s.rat 0 rfl) hlt .i64
          refine hix _ ?_
          refine hld _ ?_
          have e1 := fltake ls hlt
          have e2 := fltake_le ls (i + 1)
          rw [e1, List.length_append] at e2
          refine s.apB 0 rfl hr (by omega) fun v2 w2 s => ?_
          refine nadd (y := 1) (by omega) ?_
          refine hI (ls.length - (i + 1)) _ _ (by omega) ⟨i + 1, v2, rfl, by omega, rfl, g25, g26, rfl, ?_⟩
          rw [e1]; exact s
        · obtain rfl : i = ls.length := by omega
          refine hY _ _ _ (by simp) (h6 _ _ _ (h5 _ _ _ ?_))
          show K (fr 6) _
          rw [g6]
          rw [List.take_length] at s
          exact hK v1 _ (s.at 0 rfl) s.ext (s.fresh 0 rfl)

theorem sealed_c {w : World} {K : VPost} {x : Value} {r : Bytes} (h : RdSl w x 1 (bc r) r.length) (hn : r.length ≤ 1073741824) (hK : ∀ v w', OwnAt w' v 5 1 (bc (sealB r)) (sealB r).length → Ext [] w w' → (∀ b ∈ slB v, w.heap.size ≤ b) → K v w') :
    Calls Tryz.prog 72 #[x] w (retK K) := by
  refine c72_calls _ w K ?_
  unfold c72
  rw [h.lenw]
  refine (Sep.zero1 (U := rR x 1 (bc r) r.length) h).putB (k := 2) (by omega) (by decide) fun v1 w1 s => ?_
  refine s.apB 0 rfl (s.rat 0 rfl) (by rw [beP_length]; omega) fun v2 w2 s => ?_
  have s : Sep [] w w2 [rDb v2 (beP 2 r.length ++ r)] [rR x 1 (bc r) r.length] := s
  have hl : (beP 2 r.length ++ r).length = 2 + r.length := by rw [List.length_append, beP_length]
  refine fnW_of (by kernel_rfl) (sum_c (OwnAt.rd (s.at 0 rfl)) (OwnAt.cap (s.at 0 rfl)) (by omega) fun w3 e => ?_)
  have s := s.ext0 e
  have hd := digest_length (beP 2 r.length ++ r)
  refine s.alloc zero_dig cells_dig fun b4 w4 s _ => ?_
  refine s.storeAll 0 rfl (by rw [bc_length, hd]) rfl (bc_one _) fun w5 s _ => ?_
  have s : Sep [] w w5 [rB b4 (bc (digest (beP 2 r.length ++ r))) 34, rDb v2 (beP 2 r.length ++ r)] [rR x 1 (bc r) r.length] := s
  refine slArr0 ?_
  have hr4 : RdSl w5 (.slice (some ⟨b4, 0, none⟩) 32 32) 1 (bc (digest (beP 2 r.length ++ r))) (digest (beP 2 r.length ++ r)).length := by
    have := Blk.rdTo (s.at 0 rfl) hd (k := 32) (Nat.le_refl _)
    rwa [List.take_of_length_le (by omega)] at this
  refine s.apB 1 rfl hr4 (by omega) fun v6 w6 s => ?_
  exact hK v6 w6 (s.at 1 rfl) s.ext (s.fresh 1 rfl)
end Go.Proofs.YtedebapgmfnflaaGreatDoor

/- A sector: its walk. Condition: its bytes are at most 46, its numbers are not below 0. -/
namespace Go.Proofs.YtedebapgmfnflaaGreatDoor
open Go
set_option maxRecDepth 100000

theorem zero_blk : zeroO Tryz.prog 79 = some (.agg (Array.replicate 64 (.int .u8 0))) := by kernel_rfl
theorem cellsK : (Value.agg (Array.replicate 64 (.int .u8 0))).cells.toList = bc (List.replicate 64 0) := rfl

theorem Sep.copyB {S : List Nat} {w0 w : World} {L R : List Res} {K : VPost} {b o n c : Nat} {l y : Bytes} {t : TypeId} {x : Value} (s : Sep S w0 w L R) (i : Nat) (hL : L[i]? = some (rB b (bc l) t)) (hx : RdSl w x 1 (bc y) y.length) (hle : o + n ≤ l.length) (hyn : y.length ≤ n)
    (h : ∀ w', Sep S w0 w' (L.set i (rB b (bc (bspl l o y)) t)) R → K (.int .i64 y.length) w') : insW Tryz.prog (Builtin.copy_ #[36, 36] 3 #[.slice (some ⟨b, o, none⟩) n c, x]) w K := by
  obtain ⟨ui, hui, huz, husz, huby⟩ := tyI_spec ty_u8
  have hb : Blk w b (bc l) t := s.at i hL
  refine copy_i (m := y.length) und_u8s hui hb (by rw [husz]; exact hx) (bc_one _) (by rw [husz, bc_length]; omega) fun w' e hb' _ => ?_
  rw [husz, Nat.mul_one, Nat.min_eq_left hyn, List.take_of_length_le (by rw [bc_length]; exact Nat.le_refl _), ← bc_spl] at hb'
  rw [Nat.min_eq_left hyn]
  exact h w' (s.upd (T := rB b (bc l) t) i hL (T' := rB b (bc (bspl l o y)) t) hb' e (fun x hx => .inl hx))

theorem sector_fill (g n : Nat) {d : Bytes} (h : d.length ≤ 46) : bspl (bspl (List.replicate 64 0) 0 (mkB g n ++ beP 2 d.length ++ d)) 56 (mkB g n) = secB g n d := by
  have hl : (mkB g n ++ beP 2 d.length ++ d).length = 10 + d.length := by simp only [List.length_append, mkB_length, beP_length]
  have e1 : bspl (List.replicate 64 0) 0 (mkB g n ++ beP 2 d.length ++ d) = (mkB g n ++ beP 2 d.length ++ d) ++ List.replicate (54 - d.length) 0 := by
    unfold bspl
    rw [List.take_zero, List.nil_append, hl, List.drop_replicate]
    congr 2
    omega
  have e2 : List.replicate (54 - d.length) (0 : UInt8) = List.replicate (46 - d.length) 0 ++ List.replicate 8 0 := by
    rw [List.replicate_append_replicate]
    congr 1
    omega
  have hl2 : ((mkB g n ++ beP 2 d.length ++ d) ++ List.replicate (46 - d.length) 0).length = 56 := by rw [List.length_append, hl, List.length_replicate]; omega
  rw [e1, e2, ← List.append_assoc]
  unfold bspl
  rw [List.take_left' hl2, mkB_length, List.drop_of_length_le (by rw [List.length_append, hl2]; simp), List.append_nil]
  simp [secB]

theorem sector_c {w : World} {K : VPost} {x : Value} {g n : Nat} {d : Bytes} (hg : g < 9223372036854775808) (hn : n < 9223372036854775808) (h : RdSl w x 1 (bc d) d.length) (hcap : capOk x) (hd : d.length ≤ 46)
    (hK : ∀ w', Ext [] w w' → K (.agg (bc (secB g n d)).toArray) w') : Calls Tryz.prog 73 #[.int .i64 g, .int .i64 n, x] w (retK K) := by
  refine c73_calls _ _ _ w K ?_
  unfold c73
  refine (Sep.zero1 (U := rR x 1 (bc d) d.length) h).alloc zero_blk cellsK fun b6 w1 s _ => ?_
  refine s.alloc zero_blk cellsK fun b7 w2 s _ => ?_
  refine s.putB (k := 4) hg (by decide) fun v1 w3 s => ?_
  refine s.putB (k := 4) hn (by decide) fun v2 w4 s => ?_
  refine s.apB 1 rfl (OwnAt.rd (s.at 0 rfl)) (by rw [beP_length, beP_length]; decide) fun v3 w5 s => ?_
  have s := s.drop 0
  have s : Sep [] w w5 [rDb v3 (mkB g n), rB b7 (bc (List.replicate 64 0)) 79, rB b6 (bc (List.replicate 64 0)) 79] [rR x 1 (bc d) d.length] := s
  have s := s.drew
  generalize w5.drew = w5 at *
  refine slArr0 ?_
  rw [h.lenw]
  refine s.putB (k := 2) (by omega) (by decide) fun v4 w6 s => ?_
  obtain ⟨a3, c3, e3⟩ := (OwnAt.rd (s.at 1 rfl)).len
  obtain ⟨a4, c4, e4⟩ := (OwnAt.rd (s.at 0 rfl)).len
  obtain ⟨ax, cx, ex⟩ := h.len
  obtain ⟨ti, hti, htz, hts, htb⟩ := tyI_spec ty_row
  refine s.lit (vs := [v3, v4, x]) und_rows hti htz rfl (by intro y hy; simp only [List.mem_cons, List.not_mem_nil, or_false] at hy; rcases hy with rfl | rfl | rfl <;> rw [hts] <;> simp only [e3, e4, ex] <;> rfl) (by rw [hts]; simp) fun v5 w7 s _ _ => ?_
  have hfl : flatV [v3, v4, x] = [v3, v4, x] := by rw [e3, e4, ex]; rfl
  rw [hts, hfl] at s
  have hrow : RowsR w7 v5 [v3, v4, x] [mkB g n, beP 2 d.length, d] := ⟨OwnAt.rd (s.at 0 rfl), ⟨OwnAt.rd (s.at 2 rfl), OwnAt.cap (s.at 2 rfl)⟩, ⟨OwnAt.rd (s.at 1 rfl), OwnAt.cap (s.at 1 rfl)⟩, ⟨s.rat 0 rfl, hcap⟩, trivial⟩
  have hlen : ([mkB g n, beP 2 d.length, d] : List Bytes).flatten.length = 10 + d.length := by simp [mkB_length, beP_length]; omega
  refine fnW_of (by kernel_rfl) (concat_c hrow (by rw [hlen]; omega) (by simp) fun v8 w8 hv8 e8 hf8 => ?_)
  have s := s.add (T := rDb v8 ([mkB g n, beP 2 d.length, d] : List Bytes).flatten) hv8 e8 hf8
  have hfl2 : ([mkB g n, beP 2 d.length, d] : List Bytes).flatten = mkB g n ++ beP 2 d.length ++ d := by simp
  rw [hfl2] at s hlen
  have s : Sep [] w w8 [rDb v8 (mkB g n ++ beP 2 d.length ++ d), rO v5 36 1 [v3, v4, x] 3, rDb v4 (beP 2 d.length), rDb v3 (mkB g n), rB b7 (bc (List.replicate 64 0)) 79, rB b6 (bc (List.replicate 64 0)) 79] [rR x 1 (bc d) d.length] := s
  refine s.copyB (o := 0) (n := 64) 4 rfl (OwnAt.rd (s.at 0 rfl)) (by simp) (by omega) fun w9 s => ?_
  have s : Sep [] w w9 [rDb v8 (mkB g n ++ beP 2 d.length ++ d), rO v5 36 1 [v3, v4, x] 3, rDb v4 (beP 2 d.length), rDb v3 (mkB g n), rB b7 (bc (bspl (List.replicate 64 0) 0 (mkB g n ++ beP 2 d.length ++ d))) 79, rB b6 (bc (List.replicate 64 0)) 79] [rR x 1 (bc d) d.length] := s
  refine slA_from (l := 56) (by decide) ?_
  rw [if_neg (by decide : ¬ 64 = 56)]
  have hl1 : (bspl (List.replicate 64 0) 0 (mkB g n ++ beP 2 d.length ++ d)).length = 64 := by rw [bspl_length (by rw [List.length_replicate]; omega), List.length_replicate]
  refine s.copyB (o := 56) (n := 8) 4 rfl (OwnAt.rd (s.at 3 rfl)) (by omega) (by rw [mkB_length]; exact Nat.le_refl _) fun w10 s => ?_
  rw [sector_fill g n hd] at s
  have s : Sep [] w w10 [rDb v8 (mkB g n ++ beP 2 d.length ++ d), rO v5 36 1 [v3, v4, x] 3, rDb v4 (beP 2 d.length), rDb v3 (mkB g n), rB b7 (bc (secB g n d)) 79, rB b6 (bc (List.replicate 64 0)) 79] [rR x 1 (bc d) d.length] := s
  have hsl : (bc (secB g n d)).length = 64 := by rw [bc_length, secB_length g n hd]
  refine s.loadAll 4 rfl hsl ?_
  refine s.storeAll 5 rfl hsl (by rw [bc_length]; rfl) (bc_one _) fun w11 s _ => ?_
  have s : Sep [] w w11 [rDb v8 (mkB g n ++ beP 2 d.length ++ d), rO v5 36 1 [v3, v4, x] 3, rDb v4 (beP 2 d.length), rDb v3 (mkB g n), rB b7 (bc (secB g n d)) 79, rB b6 (bc (secB g n d)) 79] [rR x 1 (bc d) d.length] := s
  refine s.loadAll 5 rfl hsl ?_
  exact hK w11 s.ext
end Go.Proofs.YtedebapgmfnflaaGreatDoor

/- Strings as bytes and back. -/
namespace Go.Proofs.YtedebapgmfnflaaGreatDoor
open Go
set_option maxRecDepth 100000

theorem RBlk.cellAt {w : World} {b j : Nat} {cs : List Value} {v : Value} (h : RBlk w b cs) (hv : cs[j]? = some v) : w.cell? ⟨b, j, none⟩ = some v := by
  obtain ⟨t, fz, h⟩ := h
  simp [World.cell?, h, hv]
theorem Ext.freeze (w : World) (g o n : Nat) : Ext [g] w (w.freeze ⟨g, o, none⟩ n) := by
  unfold World.freeze
  split
  · exact Ext.refl _ _
  · exact ⟨rfl, rfl, rfl, by simp, fun b _ hb => by
      simp only [List.mem_singleton] at hb
      simp only [Array.getElem?_modify]
      rw [if_neg (fun e => hb e.symm)]⟩

theorem Ext.allocD (w : World) (o : Obj) : Ext [] w (w.drew.alloc o) := by
  refine ⟨rfl, rfl, rfl, ?_, fun b hb _ => ?_⟩
  · show w.heap.size ≤ (w.heap.push o).size
    simp
  · show (w.heap.push o)[b]? = w.heap[b]?
    rw [Array.getElem?_push]
    rw [if_neg (by omega)]
theorem conv_sb {P : Program} {w : World} {K : VPost} {src dst e : TypeId} {l : Bytes} (hs : P.underlying src = some .string) (hd : P.underlying dst = some (.slice e)) (he : P.underlying e = some (.int .u8))
    (hK : ∀ v w', RdSl w' v 1 (bc l) l.length → capOk v → Ext [] w w' → (∀ b ∈ slB v, w.heap.size ≤ b) → K v w') : insW P (convert src dst (.string ⟨l.toArray⟩)) w K := by
  have hr := Lib.run_convert_string_bytes (P := P) w src dst e ⟨l.toArray⟩ hs hd he
  have hsz : (ByteArray.mk l.toArray).size = l.length := by show l.toArray.size = _; rw [List.size_toArray]
  have hcells : (Lib.bytesCells w e ⟨l.toArray⟩).toList = bc l ++ List.replicate (grownCap w l.length 0 e - l.length) (.int .u8 0) := by
    unfold Lib.bytesCells
    rw [hsz]
    simp [bc, bv]
  refine insW_ok hr (hK _ _ ?_ ?_ ?_ ?_)
  · rw [hsz]
    refine ⟨by rw [bc_length, Nat.mul_one], .inr ⟨_, _, _, (Lib.bytesCells w e ⟨l.toArray⟩).toList, rfl, ⟨e, ((Lib.bytesCells w e ⟨l.toArray⟩).size, (Lib.bytesCells w e ⟨l.toArray⟩).size + 1), ?_⟩, ?_, ?_⟩⟩
    · rw [Array.toArray_toList]
      exact Lib.bytesWorld_at_new w e ⟨l.toArray⟩
    · rw [hcells, List.drop_zero, Nat.mul_one]
      rw [← bc_length l, List.take_left]
    · rw [hcells]; simp [bc]
  · rw [hsz]
    exact grownCap_ge _ _ _ _
  · have e1 := Ext.allocD w (.cells (Lib.bytesCells w e ⟨l.toArray⟩) e)
    have e2 := Ext.freeze (w.drew.alloc (.cells (Lib.bytesCells w e ⟨l.toArray⟩) e)) w.heap.size (Lib.bytesCells w e ⟨l.toArray⟩).size 1
    refine ⟨e2.os.trans e1.os, e2.tape.trans e1.tape, e2.output.trans e1.output, Nat.le_trans e1.size e2.size, fun b hb h0 => ?_⟩
    refine (e2.same b (Nat.lt_of_lt_of_le hb e1.size) ?_).trans (e1.same b hb h0)
    rw [List.mem_singleton]
    omega
  · intro b hb
    simp [slB] at hb
    omega
theorem conv_bs {P : Program} {w : World} {K : VPost} {src dst e : TypeId} {v : Value} {l : Bytes} (hs : P.underlying src = some (.slice e)) (he : P.underlying e = some (.int .u8)) (hd : P.underlying dst = some .string)
    (hv : RdSl w v 1 (bc l) l.length) (hK : K (.string ⟨l.toArray⟩) w) : insW P (convert src dst v) w K := by
  obtain ⟨hl, ⟨h0, a, c, rfl⟩ | ⟨b, o, c, cs, rfl, hb, ht, hle⟩⟩ := hv
  · have hl : l = [] := by cases l with
      | nil => rfl
      | cons x r => simp [bc] at h0
    subst hl
    refine insW_ok (v := .string ⟨#[]⟩) (w' := w) ?_ hK
    rw [run_convert_bytes_string w src dst e a _ c hs he hd]
    cases a with
    | none => rfl
    | some a => exact run_bytesToString w a 0 c [] (by rfl)
  · refine insW_ok (run_convert_bytes_back w src dst e ⟨b, o, none⟩ c l hs he hd fun j hj => ?_) hK
    rw [add_addr]
    refine hb.cellAt ?_
    have h2 : ((cs.drop o).take (l.length * 1))[j]? = (bc l)[j]? := by rw [ht]
    rw [List.getElem?_take_of_lt (by omega), List.getElem?_drop] at h2
    rw [h2]
    simp [bc, bv, hj]
theorem und_str : Tryz.prog.underlying 9 = some .string := by kernel_rfl
def sv (l : Bytes) : Value := .string ⟨l.toArray⟩

section
variable {P : Program} {w : World} {K : VPost} {t : TypeId} {c : Bool}

theorem bl_list (a : Bytes) : (ByteArray.mk a.toArray).toList = a := by rw [Lib.toList_data]
theorem str_eql {a b : Bytes} (h : K (.bool (decide (a = b))) w) : binW P .eql t c (.string ⟨a.toArray⟩) (.string ⟨b.toArray⟩) w K := by
  have e : (Op.stringOp .eql ⟨a.toArray⟩ ⟨b.toArray⟩).run P w = .ok (.bool (decide (a = b))) w := by
    simp only [Op.stringOp, bl_list, Sem.run_pure]
    congr 2
    by_cases h : a = b <;> simp [h]
  unfold binW insW binE
  rw [Sem.run_bind]
  have hg : (guardE .eql t c (.string ⟨a.toArray⟩) (.string ⟨b.toArray⟩)).run P w = .ok () w := by cases c <;> rfl
  rw [hg, Result.andThen_ok]
  show okW K ((Op.stringOp .eql ⟨a.toArray⟩ ⟨b.toArray⟩).run P w)
  rw [e]
  exact h

end

theorem ixv_s {l : Bytes} {k : IntKind} {i : Nat} {w : World} {K : VPost} (hi : i < l.length) (hK : K (bv l[i]) w) : ixvW .str (.string ⟨l.toArray⟩) (.int k i) w K := by
  refine ⟨by omega, l[i], ?_, hK⟩
  rw [Int.toNat_natCast]
  show (ByteArray.mk l.toArray)[i]? = _
  have hs : (ByteArray.mk l.toArray).size = l.length := by show l.toArray.size = _; rw [List.size_toArray]
  rw [getElem?_pos (ByteArray.mk l.toArray) i (by rw [hs]; exact hi)]
  rfl
end Go.Proofs.YtedebapgmfnflaaGreatDoor

/- Bytes compared and trimmed; a sector's wholeness, marks and data: walks. Condition: sectors have 64 bytes. -/
namespace Go.Proofs.YtedebapgmfnflaaGreatDoor
open Go
set_option maxRecDepth 100000

theorem equal_c {w : World} {K : VPost} {x y : Value} {a b : Bytes} (hx : RdSl w x 1 (bc a) a.length) (hy : RdSl w y 1 (bc b) b.length) (hK : K (.bool (decide (a = b))) w) : Calls Tryz.prog 34 #[x, y] w (retK K) := by
  refine c34_calls _ _ w K ?_
  unfold c34
  refine conv_bs und_u8s und_u8 und_str hx ?_
  refine conv_bs und_u8s und_u8 und_str hy ?_
  exact str_eql hK

/-- The bytes are zeros. -/
abbrev zrB (b : Bytes) : Bool := b.all (· == 0)

theorem zr_drop {b : Bytes} {k : Nat} (h : k < b.length) : zrB (b.drop k) = ((b.getD k 0 == 0) && zrB (b.drop (k + 1))) := by
  unfold zrB
  rw [List.drop_eq_getElem_cons h, List.all_cons]
  congr 2
  rw [List.getD_eq_getElem?_getD, List.getElem?_eq_getElem h]; rfl
theorem zr_take {b : Bytes} {k : Nat} (h : k < b.length) : zrB (b.take (k + 1)) = (zrB (b.take k) && (b.getD k 0 == 0)) := by
  unfold zrB
  rw [List.take_succ_eq_append_getElem h, List.all_append]
  congr 1
  rw [List.getD_eq_getElem?_getD, List.getElem?_eq_getElem h]
  simp

theorem u8_zero (x : UInt8) : decide (x.toNat = 0) = (x == 0) := by
  have : x.toNat = 0 ↔ x = 0 := ⟨fun h => UInt8.toNat_inj.1 h, fun h => by rw [h]; rfl⟩
  by_cases h : x = 0
  · simp [h]
  · rw [decide_eq_false (fun e => h (this.1 e))]; simp [h]

set_option maxHeartbeats 1000000 in
theorem trimR_c {w : World} {K : VPost} {x : Value} {b : Bytes} (hx : RdSl w x 1 (bc b) b.length) (hc : capOk x) (hn : b.length ≤ 1073741824)
    (hK : ∀ v k, k ≤ b.length → RdSl w v 1 (bc (b.take k)) (b.take k).length → capOk v → zrB (b.drop k) = true → (k = 0 ∨ b.getD (k - 1) 0 ≠ 0) → K v w) : Calls Tryz.prog 87 #[x, .int .u8 0] w (retK K) := by
  refine c87_calls _ _ w K ?_
  unfold c87
  refine bindX_i fun J0 h0 => bindX_i fun J1 h1 => bindX_i fun J2 h2 => ?_
  refine loop_i (fun m fr wr => ∃ v, m ≤ b.length ∧ fr 0 = v ∧ fr 1 = .int .u8 0 ∧ RdSl w v 1 (bc (b.take m)) (b.take m).length ∧ capOk v ∧ zrB (b.drop m) = true ∧ w = wr) b.length ?_ ?_
  · refine ⟨x, Nat.le_refl _, rfl, rfl, ?_, hc, ?_, rfl⟩
    · rw [List.take_length]; exact hx
    · rw [List.drop_length]; rfl
  · rintro m fr wr J ⟨v, hm, f0, f1, hv, hcv, hz, rfl⟩ hJ hX
    have hl : (b.take m).length = m := by rw [List.length_take]; omega
    rw [f0, hv.lenw, hl]
    refine ngtr (y := 0) ?_
    by_cases hp : 0 < m
    · rw [decide_eq_true hp]
      refine gs_t ?_
      refine gs_t ?_
      refine gs_t ?_
      rw [hv.lenw, hl]
      refine gs_t ?_
      refine nsub (y := 1) (by omega) (by omega) ?_
      obtain ⟨b1, o1, i1, l1⟩ := RdSl.elAt (f := bv) 0 hv (k := m - 1) (by rw [hl]; omega) .i64
      refine gs_t ?_
      refine i1 _ ?_
      refine gs_t ?_
      refine l1 _ ?_
      refine gs_t ?_
      rw [f1]
      refine gs_t ?_
      have hg : (b.take m).getD (m - 1) 0 = b.getD (m - 1) 0 := by
        rw [List.getD_eq_getElem?_getD, List.getD_eq_getElem?_getD, List.getElem?_take, if_pos (by omega)]
      rw [hg]
      refine neql (y := 0) ?_
      refine pick_ti ?_
      have hzd := zr_drop (b := b) (k := m - 1) (by omega)
      rw [show m - 1 + 1 = m by omega, hz, Bool.and_true] at hzd
      rw [u8_zero]
      cases he : (b.getD (m - 1) 0 == 0) with
      | true =>
        refine cndT ?_
        rw [hv.lenw, hl]
        refine nsub (y := 1) (by omega) (by omega) ?_
        refine hv.cut (l := 0) (h := m - 1) hcv rfl rfl (by omega) (by omega) fun v' hv' hc' _ _ => ?_
        rw [Nat.zero_mul, List.drop_zero, Nat.sub_zero, Nat.mul_one, ← List.drop_zero (l := bc (b.take m)), bc_part, List.drop_zero, List.take_take, Nat.min_eq_left (by omega)] at hv'
        have hl2 : (b.take (m - 1)).length = m - 1 := by rw [List.length_take]; omega
        exact hJ (m - 1) _ _ (by omega) ⟨v', by omega, rfl, f1, by rw [hl2]; exact hv', hc', by rw [hzd, he], rfl⟩
      | false =>
        refine cndF ?_
        refine hX _ _ _ (by simp) (h2 _ _ _ (h1 _ _ _ ?_))
        show K (fr 0) _
        rw [f0]
        exact hK v m hm hv hcv hz (.inr (by simpa using he))
    · rw [decide_eq_false hp]
      repeat with_reducible refine gs_ft ?_
      refine pick_fi ?_
      refine cndF ?_
      refine hX _ _ _ (by simp) (h2 _ _ _ (h1 _ _ _ ?_))
      show K (fr 0) _
      rw [f0]
      exact hK v m hm hv hcv hz (.inl (by omega))

set_option maxHeartbeats 1000000 in
theorem trimL_c {w : World} {K : VPost} {x : Value} {b : Bytes} (hx : RdSl w x 1 (bc b) b.length) (hc : capOk x) (hn : b.length ≤ 1073741824)
    (hK : ∀ v m, (∃ a c, v = .slice a m c) → (m = 0 ↔ zrB b = true) → K v w) : Calls Tryz.prog 86 #[x, .int .u8 0] w (retK K) := by
  refine c86_calls _ _ w K ?_
  unfold c86
  refine bindX_i fun J0 h0 => bindX_i fun J1 h1 => bindX_i fun J2 h2 => ?_
  refine loop_i (fun q fr wr => ∃ (m : Nat) (v : Value), q = b.length - m ∧ m ≤ b.length ∧ fr 0 = v ∧ fr 1 = .int .u8 0 ∧ RdSl w v 1 (bc (b.drop m)) (b.drop m).length ∧ capOk v ∧ zrB (b.take m) = true ∧ w = wr) b.length ?_ ?_
  · exact ⟨0, x, rfl, by omega, rfl, rfl, by rw [List.drop_zero]; exact hx, hc, rfl, rfl⟩
  · rintro q fr wr J ⟨m, v, rfl, hm, f0, f1, hv, hcv, hz, rfl⟩ hJ hX
    have hl : (b.drop m).length = b.length - m := by rw [List.length_drop]
    rw [f0, hv.lenw, hl]
    refine ngtr (y := 0) ?_
    have hend : ∀ (fr' : Fr), fr' 0 = v → (b.length - m = 0 ↔ zrB b = true) → J1 .normal fr' w := by
      intro fr' g0 hiff
      refine h1 _ _ _ (seqX_n ?_)
      show lenW _ _ _ _ #[fr' 0] _ _
      rw [g0, hv.lenw, hl]
      refine neql (y := 0) ?_
      refine cond_d (fun he => ?_) (fun he => ?_)
      · exact hK _ 0 ⟨_, _, rfl⟩ ⟨fun _ => hiff.1 he, fun _ => rfl⟩
      · exact hK v _ hv.len (by rw [hl]; exact hiff)
    by_cases hp : 0 < b.length - m
    · rw [decide_eq_true hp]
      refine gs_t ?_
      refine gs_t ?_
      obtain ⟨b1, o1, i1, l1⟩ := RdSl.elAt (f := bv) 0 hv (k := 0) (by rw [hl]; omega) .i64
      refine i1 _ ?_
      refine gs_t ?_
      refine l1 _ ?_
      refine gs_t ?_
      rw [f1]
      refine gs_t ?_
      have hg : (b.drop m).getD 0 0 = b.getD m 0 := by
        rw [List.getD_eq_getElem?_getD, List.getD_eq_getElem?_getD, List.getElem?_drop, Nat.add_zero]
      rw [hg]
      refine neql (y := 0) ?_
      refine pick_ti ?_
      rw [u8_zero]
      cases he : (b.getD m 0 == 0) with
      | true =>
        refine cndT ?_
        refine hv.cut (l := 1) (h := (b.drop m).length) hcv rfl rfl (by rw [hl]; omega) (Nat.le_refl _) fun v' hv' hc' _ _ => ?_
        rw [Nat.mul_one, Nat.mul_one, bc_part, List.drop_drop] at hv'
        have hl2 : (b.drop (m + 1)).length = (b.drop m).length - 1 := by rw [List.length_drop, List.length_drop]; omega
        rw [← hl2, List.take_length] at hv'
        exact hJ (b.length - (m + 1)) _ _ (by omega) ⟨m + 1, v', rfl, by omega, rfl, f1, hv', hc', by rw [zr_take (by omega), hz, he]; rfl, rfl⟩
      | false =>
        refine cndF ?_
        refine hX _ _ _ (by simp) (h2 _ _ _ (hend _ f0 ⟨fun h => by omega, fun h => ?_⟩))
        exfalso
        have h3 : zrB (b.drop m) = true := by
          rw [List.all_eq_true] at h ⊢
          exact fun y hy => h y (List.mem_of_mem_drop hy)
        rw [zr_drop (by omega), he] at h3
        cases h3
    · rw [decide_eq_false hp]
      repeat with_reducible refine gs_ft ?_
      refine pick_fi ?_
      refine cndF ?_
      refine hX _ _ _ (by simp) (h2 _ _ _ (hend _ f0 ⟨fun _ => ?_, fun _ => by omega⟩))
      rw [List.take_of_length_le (by omega)] at hz
      exact hz

theorem trim_c {w : World} {K : VPost} {x : Value} {b : Bytes} (hx : RdSl w x 1 (bc b) b.length) (hc : capOk x) (hn : b.length ≤ 1073741824)
    (hK : ∀ v m, (∃ a c, v = .slice a m c) → (m = 0 ↔ zrB b = true) → ∀ w', Ext [] w w' → K v w') : Calls Tryz.prog 81 #[x, .string ⟨#[0]⟩] w (retK K) := by
  refine c81_calls _ _ w K ?_
  unfold c81
  rw [hx.lenw]
  refine neql (y := 0) (cond_d (fun h => ?_) (fun h => ?_))
  · have : b = [] := List.length_eq_zero_iff.1 h
    subst this
    exact hK _ 0 ⟨_, _, rfl⟩ ⟨fun _ => rfl, fun _ => rfl⟩ w (Ext.refl _ _)
  · refine str_eql (a := [0]) (b := []) ?_
    refine cndF ?_
    refine neql (x := 1) (y := 1) ?_
    refine gs_t ?_
    refine gs_t ?_
    refine ixv_s (l := [0]) (i := 0) (by decide) ?_
    refine gs_t ?_
    refine nlss (x := 0) (y := 128) ?_
    refine pick_ti ?_
    refine cndT ?_
    have e := Ext.drew [] w
    have hx' := (rR x 1 (bc b) b.length).keep hx e (by simp)
    generalize w.drew = w1 at *
    refine ixv_s (l := [0]) (i := 0) (by decide) ?_
    refine ixv_s (l := [0]) (i := 0) (by decide) ?_
    refine fnW_of (by kernel_rfl) (trimR_c hx' hc hn fun v k hk hv hcv hz hlast => ?_)
    refine fnW_of (by kernel_rfl) (trimL_c hv hcv (by rw [List.length_take]; omega) fun v' m hm hiff => ?_)
    refine hK v' m hm ?_ w1 e
    rw [hiff]
    have hall : zrB b = (zrB (b.take k) && zrB (b.drop k)) := by
      unfold zrB
      rw [← List.all_append, List.take_append_drop]
    rw [hall, hz, Bool.and_true]
end Go.Proofs.YtedebapgmfnflaaGreatDoor

/- A sector's wholeness, marks and data: walks. Condition: the sector has 64 bytes. -/
namespace Go.Proofs.YtedebapgmfnflaaGreatDoor
open Go
set_option maxRecDepth 100000

theorem slA_cut {b o n sz l h : Nat} {w : World} {K : VPost} {k1 k2 : IntKind} (hl : l ≤ h) (hh : h ≤ n) (hn : l < n) (hK : K (.slice (some ⟨b, o + l * sz, none⟩) (h - l) (n - l)) w) : sliceW (.arr n sz) (.pointer (some ⟨b, o, none⟩)) (some (.int k1 l)) (some (.int k2 h)) none w K := by
  refine ⟨by simp, l, h, n, rfl, rfl, rfl, hl, by simpa using hh, Nat.le_refl _, ?_⟩
  show K (.slice (some (if n = l then (⟨b, o, none⟩ : Addr) else Addr.add ⟨b, o, none⟩ (l * sz))) (h - l) (n - l)) w
  rw [if_neg (by omega), add_addr]
  exact hK

theorem Blk.part {w : World} {b l k c : Nat} {B : Bytes} {t : TypeId} (h : Blk w b (bc B) t) (hk : l + k ≤ B.length) (hc : k ≤ c) (hcl : l + c ≤ B.length) : RdSl w (.slice (some ⟨b, l, none⟩) k c) 1 (bc ((B.drop l).take k)) ((B.drop l).take k).length := by
  have e : ((B.drop l).take k).length = k := by rw [List.length_take, List.length_drop]; omega
  rw [e]
  refine ⟨by rw [bc_length, e, Nat.mul_one], .inr ⟨b, l, c, _, rfl, h.r, ?_, by rw [bc_length]; omega⟩⟩
  rw [Nat.mul_one, bc_part]

theorem whole_c {w : World} {K : VPost} {b : Bytes} (hb : b.length = 64) (hK : ∀ w', Ext [] w w' → K (.bool (wholeB b)) w') : Calls Tryz.prog 74 #[.agg (bc b).toArray] w (retK K) := by
  refine c74_calls _ w K ?_
  unfold c74
  refine (Sep.nil w).box fun p w1 s _ => ?_
  have s : Sep [] w w1 [rB p (bc b) 79] [] := by simpa [Value.cells] using s
  have hp : Blk w1 p (bc b) 79 := s.at 0 rfl
  refine slA_cut (l := 8) (h := 10) (by decide) (by decide) (by decide) ?_
  have h8 := hp.part (l := 8) (k := 2) (c := 56) (by omega) (by decide) (by omega)
  have hcl : ((b.drop 8).take 2).length = 2 := by rw [List.length_take, List.length_drop]; omega
  refine fnW_of (by kernel_rfl) (get_c h8 (by omega) ?_)
  have hlt := beN_lt ((b.drop 8).take 2)
  rw [hcl] at hlt
  have h65 : (256 : Nat) ^ 2 = 65536 := by decide
  have s := s.drew
  generalize w1.drew = w2 at *
  have hp : Blk w2 p (bc b) 79 := s.at 0 rfl
  unfold wholeB cntB at hK
  generalize hn : beN ((b.drop 8).take 2) = n at *
  refine nleq (y := 46) ?_
  by_cases h1 : n ≤ 46
  · rw [decide_eq_true h1] at hK ⊢
    rw [Bool.true_and] at hK
    refine gs_t ?_
    refine slA_to (k := 8) (by decide) ?_
    refine gs_t ?_
    refine slA_from (l := 56) (by decide) ?_
    rw [if_neg (by decide : ¬ 64 = 56)]
    refine gs_t ?_
    have h0 := hp.part (l := 0) (k := 8) (c := 64) (by omega) (by decide) (by omega)
    rw [List.drop_zero] at h0
    have h56 := hp.part (l := 56) (k := 8) (c := 8) (by omega) (by decide) (by omega)
    rw [List.take_of_length_le (by rw [List.length_drop]; omega)] at h56
    refine fnW_of (by kernel_rfl) (equal_c h0 h56 ?_)
    refine pick_ti ?_
    by_cases h2 : b.take 8 = b.drop 56
    · rw [decide_eq_true h2] at hK ⊢
      rw [Bool.true_and] at hK
      refine gs_t ?_
      refine gs_t ?_
      refine nadd (x := 10) (by omega) ?_
      refine gs_t ?_
      refine slA_cut (l := 10 + n) (h := 56) (by omega) (by decide) (by omega) ?_
      refine gs_t ?_
      have ht := hp.part (l := 10 + n) (k := 56 - (10 + n)) (c := 64 - (10 + n)) (by omega) (by omega) (by omega)
      have e : (b.drop (10 + n)).take (56 - (10 + n)) = (b.take 56).drop (10 + n) := by rw [List.drop_take]
      rw [e] at ht
      rw [Nat.zero_add, Nat.mul_one]
      refine fnW_of (by kernel_rfl) (trim_c ht (by show 56 - (10 + n) ≤ 64 - (10 + n); omega) (by rw [List.length_drop, List.length_take]; omega) fun v m hm hiff w3 e3 => ?_)
      refine gs_t ?_
      obtain ⟨a, c, rfl⟩ := hm
      rw [len_s]
      refine gs_t ?_
      refine neql (y := 0) ?_
      refine pick_ti ?_
      have e4 : decide (m = 0) = zrB ((b.take 56).drop (10 + n)) := by
        cases hz : zrB ((b.take 56).drop (10 + n)) with
        | true => exact decide_eq_true (hiff.2 hz)
        | false => exact decide_eq_false fun h => by rw [hiff.1 h] at hz; cases hz
      rw [e4]
      exact hK _ (s.ext0 e3).ext
    · rw [decide_eq_false h2] at hK ⊢
      rw [Bool.false_and] at hK
      repeat with_reducible refine gs_ft ?_
      refine pick_fi ?_
      exact hK _ s.ext
  · rw [decide_eq_false h1] at hK ⊢
    rw [Bool.false_and] at hK
    repeat with_reducible refine gs_ft ?_
    refine pick_fi ?_
    repeat with_reducible refine gs_ft ?_
    refine pick_fi ?_
    exact hK _ s.ext

theorem mark_c {w : World} {K : VPost} {b : Bytes} (hb : b.length = 64) (hK : ∀ w', Ext [] w w' → K (.tuple #[.int .i64 (markB b).1, .int .i64 (markB b).2.1, .bool (markB b).2.2]) w') : Calls Tryz.prog 66 #[.agg (bc b).toArray] w (retK K) := by
  refine c66_calls _ w K ?_
  unfold c66
  refine (Sep.nil w).box fun p w1 s _ => ?_
  have s : Sep [] w w1 [rB p (bc b) 79] [] := by simpa [Value.cells] using s
  refine s.loadAll 0 rfl (by rw [bc_length, hb]) ?_
  refine fnW_of (by kernel_rfl) (whole_c hb fun w2 e => ?_)
  have s := s.ext0 e
  unfold markB at hK
  refine not_ti ?_
  cases hw : wholeB b with
  | false =>
    rw [hw] at hK
    refine cndT ?_
    exact hK _ s.ext
  | true =>
    rw [hw] at hK
    refine cndF ?_
    have s := s.drew
    generalize w2.drew = w3 at *
    have hp : Blk w3 p (bc b) 79 := s.at 0 rfl
    refine slA_to (k := 4) (by decide) ?_
    refine slA_cut (l := 4) (h := 8) (by decide) (by decide) (by decide) ?_
    have h0 := hp.part (l := 0) (k := 4) (c := 64) (by omega) (by decide) (by omega)
    rw [List.drop_zero] at h0
    have h4 := hp.part (l := 4) (k := 4) (c := 60) (by omega) (by decide) (by omega)
    refine fnW_of (by kernel_rfl) (get_c h0 (by rw [List.length_take]; omega) ?_)
    refine fnW_of (by kernel_rfl) (get_c h4 (by rw [List.length_take, List.length_drop]; omega) ?_)
    exact hK _ s.ext

theorem data_c {w : World} {K : VPost} {b : Bytes} (hb : b.length = 64) (hK : ∀ v w', OwnAt w' v 5 1 (bc (dataB b)) (dataB b).length → Ext [] w w' → (∀ c ∈ slB v, w.heap.size ≤ c) → K v w') : Calls Tryz.prog 75 #[.agg (bc b).toArray] w (retK K) := by
  refine c75_calls _ w K ?_
  unfold c75
  refine (Sep.nil w).box fun p w1 s _ => ?_
  have s : Sep [] w w1 [rB p (bc b) 79] [] := by simpa [Value.cells] using s
  refine s.loadAll 0 rfl (by rw [bc_length, hb]) ?_
  refine fnW_of (by kernel_rfl) (whole_c hb fun w2 e => ?_)
  have s := s.ext0 e
  unfold dataB at hK
  refine not_ti ?_
  cases hw : wholeB b with
  | false =>
    rw [hw] at hK
    refine cndT ?_
    exact hK _ _ (.inl ⟨rfl, rfl, rfl⟩) s.ext (by simp [slB])
  | true =>
    have hc := whole_cnt hw
    rw [hw, if_pos rfl] at hK
    refine cndF ?_
    have hp : Blk w2 p (bc b) 79 := s.at 0 rfl
    refine slA_cut (l := 8) (h := 10) (by decide) (by decide) (by decide) ?_
    have h8 := hp.part (l := 8) (k := 2) (c := 56) (by omega) (by decide) (by omega)
    refine fnW_of (by kernel_rfl) (get_c h8 (by rw [List.length_take, List.length_drop]; omega) ?_)
    unfold cntB at hK hc
    generalize beN ((b.drop 8).take 2) = n at *
    refine nadd (x := 10) (by omega) ?_
    refine slA_cut (l := 10) (h := 10 + n) (by omega) (by omega) (by decide) ?_
    have h10 := hp.part (l := 10) (k := n) (c := 54) (by omega) (by omega) (by omega)
    rw [show 10 + n - 10 = n by omega]
    refine fnW_of (by kernel_rfl) (bytesClone_c h10 (by rw [List.length_take, List.length_drop]; omega) fun v w3 hv e3 hf => ?_)
    exact hK v w3 hv (s.ext0 e3).ext (fun c hc => Nat.le_trans s.ext.size (hf c hc))
end Go.Proofs.YtedebapgmfnflaaGreatDoor

/- Ranges over functions, with things in hand. -/
namespace Go.Proofs.YtedebapgmfnflaaGreatDoor
open Go

theorem Turn.ext {B : Nat} {W W' : World} (h : Turn B W W') : ∃ rows : List Nat, Ext rows W W' ∧ ∀ r ∈ rows, B ≤ r ∧ ∀ o : Obj, W.heap[r]? = some o → o.isCells = false := by
  induction h with
  | refl => exact ⟨[], Ext.refl _ _, by simp⟩
  | step row h g hr ih =>
    rename_i W1 W2
    obtain ⟨rows, e, hrows⟩ := ih
    refine ⟨row.toList ++ rows, ⟨g.os.trans e.os, g.tape.trans e.tape, g.output.trans e.output, Nat.le_trans e.size g.size, fun b hb hn => ?_⟩, fun r hr' => ?_⟩
    · have h1 : b ∉ rows := fun h => hn (List.mem_append_right _ h)
      rw [← e.same b hb h1]
      refine g.block b (Nat.lt_of_lt_of_le hb e.size) fun hx => hn (List.mem_append_left _ ?_)
      rw [← hx]; simp
    · rcases List.mem_append.1 hr' with h1 | h1
      · have hx : row = some r := by simpa using h1
        obtain ⟨hB, o, ho, hc⟩ := hr r hx
        refine ⟨hB, fun o' ho' => ?_⟩
        by_cases hm : r ∈ rows
        · exact (hrows r hm).2 o' ho'
        · have := e.same r (Array.getElem?_eq_some_iff.1 ho').1 hm
          rw [this, ho'] at ho
          cases ho
          exact hc
      · exact hrows r h1

/-- Its blocks are cells'. -/
def Res.cells (T : Res) : Prop := ∀ w, T.holds w → ∀ b ∈ T.foot, ∃ o : Obj, w.heap[b]? = some o ∧ o.isCells = true
theorem rB_cells {b : Nat} {cs : List Value} {t : TypeId} : (rB b cs t).cells := fun w h x hx => by
  simp [rB] at hx; subst hx; exact ⟨_, h, rfl⟩
theorem rO_cells {v : Value} {e : TypeId} {s : Nat} {xs : List Value} {n : Nat} : (rO v e s xs n).cells := fun w h x hx => by
  have hx : x ∈ slB v := hx
  obtain ⟨rfl, _⟩ | ⟨b, o, c, cs, rfl, hb, _⟩ := h
  · simp [slB] at hx
  · simp [slB] at hx; subst hx; exact ⟨_, hb, rfl⟩

theorem Sep.turn {S : List Nat} {w0 w w' : World} {L R : List Res} {B : Nat} (s : Sep S w0 w L R) (h : Turn B w w') (hB : w0.heap.size ≤ B) (hL : ∀ T ∈ L, T.cells ∨ ∀ b ∈ T.foot, b < B) (hR : ∀ T ∈ R, T.cells ∨ ∀ b ∈ T.foot, b < B) : Sep S w0 w' L R := by
  obtain ⟨rows, e, hrows⟩ := h.ext
  have key : ∀ T : Res, T.holds w → (T.cells ∨ ∀ b ∈ T.foot, b < B) → T.holds w' := fun T hT hc => T.keep hT e fun b hb hm => by
    obtain ⟨h1, h2⟩ := hrows b hm
    rcases hc with hc | hc
    · obtain ⟨o, ho, hoc⟩ := hc w hT b hb
      rw [h2 o ho] at hoc; cases hoc
    · have := hc b hb; omega
  exact ⟨s.ext.step e fun x hx hlt => by have := (hrows x hx).1; omega, fun T hT => key T (s.own T hT) (hL T hT), fun T hT => key T (s.rd T hT) (hR T hT), s.old, s.dis, s.disR⟩

theorem Sep.add2 {S : List Nat} {w0 w w' : World} {L R : List Res} {T U : Res} (s : Sep S w0 w L R) (hT : T.holds w') (hU : U.holds w') (e : Ext [] w w') (hf : ∀ b ∈ T.foot, w.heap.size ≤ b) (hg : ∀ b ∈ U.foot, w.heap.size ≤ b) (hd : ∀ b ∈ T.foot, b ∉ U.foot) : Sep S w0 w' (T :: U :: L) R := by
  have s1 := s.add (T := U) hU e hg
  have s2 := s.add (T := T) hT e hf
  refine ⟨s1.ext, fun V hV => ?_, s1.rd, fun V hV => ?_, .cons (fun V hV => ?_) s1.dis, fun V hV => ?_⟩
  · rcases List.mem_cons.1 hV with rfl | hV
    · exact hT
    · exact s1.own V hV
  · rcases List.mem_cons.1 hV with rfl | hV
    · exact s2.old V (by simp)
    · exact s1.old V hV
  · rcases List.mem_cons.1 hV with rfl | hV
    · exact hd
    · exact (List.pairwise_cons.1 s2.dis).1 V hV
  · rcases List.mem_cons.1 hV with rfl | hV
    · exact s2.disR V (by simp)
    · exact s1.disR V hV

theorem Sep.restart {S : List Nat} {w0 w : World} {L R : List Res} (s : Sep S w0 w L R) : Sep (L.flatMap (·.foot)) w w L R :=
  ⟨Ext.refl _ _, s.own, s.rd, fun T hT b hb => .inl (List.mem_flatMap.2 ⟨T, hT, hb⟩), s.dis, s.disR⟩
theorem Sep.behind {S : List Nat} {w0 w w' : World} {L R L' R' : List Res} (s : Sep S w0 w L R) (t : Sep (L.flatMap (·.foot)) w w' L' R') : Sep S w0 w' L' R' :=
  ⟨s.ext.step t.ext fun x hx hlt => by
      obtain ⟨T, hT, hb⟩ := List.mem_flatMap.1 hx
      rcases s.old T hT x hb with h | h
      · exact h
      · omega,
    t.own, t.rd, fun T hT b hb => by
      rcases t.old T hT b hb with h | h
      · obtain ⟨U, hU, hb⟩ := List.mem_flatMap.1 h
        exact s.old U hU b hb
      · have := s.ext.size
        exact .inr (by omega), t.dis, t.disR⟩
/-- What a round kept. -/
theorem Sep.keepsFrom {w w' : World} {L L' R' : List Res} {B : Nat} (t : Sep (L.flatMap (·.foot)) w w' L' R') (h : ∀ T ∈ L, T.holds w) (hL : ∀ T ∈ L, T.cells ∨ ∀ b ∈ T.foot, b < B) : KeepsFrom B w w' :=
  ⟨t.ext.size, fun k o hB hk ho => (t.ext.same k (Array.getElem?_eq_some_iff.1 hk).1 fun hm => by
    obtain ⟨T, hT, hb⟩ := List.mem_flatMap.1 hm
    rcases hL T hT with hc | hc
    · obtain ⟨o', ho', hoc⟩ := hc w (h T hT) k hb
      rw [hk] at ho'; cases ho'
      rw [ho] at hoc; cases hoc
    · have := hc k hb; omega).trans hk⟩

theorem turn_end {B D : Nat} {w : World} {o o' : Obj} (h : w.heap[D]? = some o) (ho : o.isCells = false) (hB : B ≤ D) : Turn B w (w.putObj D o') :=
  .step (some D) (.refl w) (grownBy_putObj' w D o') fun r e => by cases e; exact ⟨hB, o, h, ho⟩

/-- A range over a function whose body is left at its end alone, and that assigns nothing on its way. -/
theorem rangeH_i {P : Program} {gf : Nat} {lb : Array Value} {np : Nat} {w : World} {done : Nat → World → Prop} {stop : Exit → Nat → World → Prop} {AB : Array Value → World → RoundT → Prop} {α : Type} {encs : α → Array Value} {Kp : World → World → Prop} {S Sp : List α → Prop} {N : Nat}
    (he : entersB P gf = true) (hseq : SeqStopsK Fence.wide 0 P gf lb encs Kp S Sp N w) (hKt : ∀ A B C, Kp A B → Kp B C → Kp A C) (hKr : ∀ W, Kp W W)
    (hKb : ∀ (W : World) (l : Nat) (o' : Obj), w.heap.size ≤ l → Kp W (W.putObj l o')) (hps : ∀ x, (encs x).size = np)
    (I : List α → World → Prop) (hI : ∀ xs W W', I xs W → Turn w.heap.size W W' → I xs W') (h0 : I [] w)
    (round : ∀ x W (T : RoundT), (∀ F : World → XPost → Prop, (∀ pre W2 (J : XPost), I pre W2 → pre.length < N → (∀ fr W', KeepsFrom w.heap.size W2 W' → Kp W2 W' → I (pre ++ [x]) W' → J .normal fr W') → F W2 J) → T W F) → AB (encs x) W T)
    (hd : ∀ D xs W, w.heap.size ≤ D → S xs → I xs W → W.heap[D]? = some (.deferred (some [])) → done D W) :
    rangeH P false (.func (.func gf) #[] lb) np AB w done stop := by
  refine ⟨gf, lb, α, encs, Kp, S, Sp, N, I, fun _ _ _ => False, rfl, fun args w => ?_, hseq, hKt, hKr, fun W l o o' hl _ _ _ => hKb W l o' hl, hps, fun s W W' row hs hg hr => hI s W W' hs (.step row (.refl W) hg hr), fun e s W W' row hs => hs.elim, h0,
    fun pre x W hi => round x W _ fun F hF => ⟨KeepsFrom.refl _ _, hKr W, hi, fun pre W2 _ hi2 hlt => hF pre W2 _ hi2 hlt fun fr W' hk hkp hi' => ⟨hk, hkp, hi'⟩⟩, hd, fun h => (by cases h)⟩
  unfold entersB at he
  unfold callFunc
  cases hf : P.funcs[gf]? with
  | none => simp [hf] at he
  | some fn =>
    simp only [hf, Bool.and_eq_true, bne_iff_ne, ne_eq] at he
    obtain ⟨h1, h2⟩ := he
    have h3 : fn.body.isNone = false := by cases hb : fn.body <;> simp [hb] at h1 ⊢
    simp only [Sem.run_bind, Go.program, Sem.run, Result.andThen_ok, hf, beq_iff_eq, h2, if_false, h3, Bool.false_eq_true, Sem.run_pure]
end Go.Proofs.YtedebapgmfnflaaGreatDoor

/- seal.Pack: its walk. Condition: the record is a slice of at most 2^30 bytes. -/
namespace Go.Proofs.YtedebapgmfnflaaGreatDoor
open Go
set_option maxRecDepth 100000

theorem und_blks : Tryz.prog.underlying 60 = some (.slice 79) := by kernel_rfl
theorem ty_blk : tyI Tryz.prog 79 = some (.agg (Array.replicate 64 (Value.int .u8 0)), 64, 64) := by kernel_rfl
theorem zero_blks : zeroO Tryz.prog 60 = some (.slice none 0 0) := by kernel_rfl

/-- Sectors in hand. -/
abbrev rK (v : Value) (ls : List Bytes) : Res := rO v 79 64 (bc ls.flatten) ls.length

theorem flat64 {ls : List Bytes} (h : ∀ l ∈ ls, l.length = 64) : ls.flatten.length = 64 * ls.length := by
  induction ls with
  | nil => rfl
  | cons x r ih =>
    rw [List.flatten_cons, List.length_append, h x (by simp), ih (fun l hl => h l (by simp [hl])), List.length_cons]
    omega

/-- A sector more. -/
theorem Sep.apK {S : List Nat} {w0 w : World} {L R : List Res} {K : VPost} {v x : Value} {ls : List Bytes} {b : Bytes} (s : Sep S w0 w L R) (i : Nat) (hL : L[i]? = some (rK v ls)) (hx : RdSl w x 64 (bc b) 1) (hn : ls.length ≤ 10000000)
    (h : ∀ v' w', Sep S w0 w' (L.set i (rK v' (ls ++ [b]))) R → K v' w') : insW Tryz.prog (Builtin.append_ #[60, 60] 60 #[v, x]) w K := by
  obtain ⟨ti, hti, htz, hts, htb⟩ := tyI_spec ty_blk
  refine s.appendO (v := v) (n := ls.length) (m := 1) (ys := bc b) (xs := bc ls.flatten) i (by rw [hts]; exact hL) und_blks und_blks hti htz (by rw [hts]; rfl) (by rw [htb]; decide) (by rw [hts]; exact hx) (bc_one _) (by rw [htb]; omega) fun v' w' s => ?_
  have e : ls.length + 1 = (ls ++ [b]).length := by simp
  have e2 : ls.flatten ++ b = (ls ++ [b]).flatten := by simp
  rw [hts, ← bc_append, e, e2] at s
  exact h v' w' s
/-- A literal of one sector. -/
theorem Sep.litK {S : List Nat} {w0 w : World} {L R : List Res} {K : VPost} {b : Bytes} (s : Sep S w0 w L R) (hb : b.length = 64) (h : ∀ v' w', Sep S w0 w' (rO v' 79 64 (bc b) 1 :: L) R → K v' w') : insW Tryz.prog (Instr.buildSlice 60 1 #[(0, .agg (bc b).toArray)]) w K := by
  obtain ⟨ti, hti, htz, hts, htb⟩ := tyI_spec ty_blk
  refine s.lit (vs := [.agg (bc b).toArray]) und_blks hti htz rfl (by intro y hy; rw [List.mem_singleton] at hy; subst hy; rw [hts]; show (bc b).toArray.size = 64; rw [List.size_toArray, bc_length, hb]) (by rw [hts]; simp) fun t w1 s1 _ _ => h t w1 ?_
  have e : flatV [.agg (bc b).toArray] = bc b := by simp [flatV, Value.cells]
  rw [hts, e] at s1
  exact s1

def packOk (g n : Int) (k : Nat) : Prop := k ≠ 0 ∧ 1 ≤ g ∧ g ≤ 4294967295 ∧ 0 ≤ n ∧ n ≤ 4294967296 - k
/-- The sectors of parts in the order in which they came. -/
def outB (g n : Nat) (s : Bytes) (ks : List Nat) : List Bytes := (List.range ks.length).map fun i => secB g (n + i) (partB s (ks.getD i 0))
theorem outB_snoc (g n : Nat) (s : Bytes) (ks : List Nat) (k : Nat) : outB g n s (ks ++ [k]) = outB g n s ks ++ [secB g (n + ks.length) (partB s k)] := by
  unfold outB
  rw [List.length_append, List.length_singleton, List.range_succ, List.map_append]
  congr 1
  · refine List.map_congr_left fun i hi => ?_
    rw [List.mem_range] at hi
    rw [List.getD_eq_getElem?_getD, List.getD_eq_getElem?_getD, List.getElem?_append_left hi]
  · simp
theorem outB_length (g n : Nat) (s : Bytes) (ks : List Nat) : (outB g n s ks).length = ks.length := by simp [outB]
theorem outB_all (g n : Nat) (r : Bytes) : outB g n (sealB r) (List.range (needN r.length)) = packB g n r := by
  unfold outB packB
  rw [List.length_range]
  refine List.map_congr_left fun i hi => ?_
  rw [List.mem_range] at hi
  rw [List.getD_eq_getElem?_getD, List.getElem?_range hi]
  rfl

set_option maxHeartbeats 2000000 in
theorem pack_c {w : World} {K : VPost} {x : Value} {g n : Int} {r : Bytes} (h : RdSl w x 1 (bc r) r.length) (hno : ¬ packOk g n (needN r.length) → ∀ w', Ext [] w w' → K (.tuple #[.slice none 0 0, .bool false]) w')
    (hyes : packOk g n (needN r.length) → ∀ v w', OwnAt w' v 79 64 (bc (packB g.toNat n.toNat r).flatten) (packB g.toNat n.toNat r).length → Ext [] w w' → (∀ b ∈ slB v, w.heap.size ≤ b) → K (.tuple #[v, .bool true]) w') :
    Calls Tryz.prog 63 #[.int .i64 g, .int .i64 n, x] w (retK K) := by
  refine c63_calls _ _ _ w K ?_
  unfold c63
  refine (Sep.zero1 (U := rR x 1 (bc r) r.length) h).box fun b3 w1 s _ => ?_
  refine s.box fun b4 w2 s _ => ?_
  have s : Sep [] w w2 [rB b4 [.int .i64 n] 3, rB b3 [.int .i64 g] 3] [rR x 1 (bc r) r.length] := s
  rw [h.lenw]
  refine fnW_of (by kernel_rfl) (need_c ?_)
  rw [needI_nat]
  refine neql (y := 0) ?_
  by_cases h0 : needN r.length = 0
  · rw [decide_eq_true h0]
    iterate 4 ((repeat with_reducible refine gs_tf ?_); refine pick_ti ?_)
    exact cndT (hno (fun hp => hp.1 h0) _ s.ext)
  rw [decide_eq_false h0]
  refine gs_f ?_
  refine s.load1 1 rfl rfl ?_
  refine gs_f ?_
  rw [ilss]
  refine pick_fi ?_
  by_cases h1 : g < 1
  · rw [decide_eq_true h1]
    iterate 3 ((repeat with_reducible refine gs_tf ?_); refine pick_ti ?_)
    exact cndT (hno (fun hp => by have := hp.2.1; omega) _ s.ext)
  rw [decide_eq_false h1]
  refine gs_f ?_
  refine s.load1 1 rfl rfl ?_
  refine gs_f ?_
  rw [igtr]
  refine pick_fi ?_
  by_cases h2 : 4294967295 < g
  · rw [decide_eq_true h2]
    iterate 2 ((repeat with_reducible refine gs_tf ?_); refine pick_ti ?_)
    exact cndT (hno (fun hp => by have := hp.2.2.1; omega) _ s.ext)
  rw [decide_eq_false h2]
  refine gs_f ?_
  refine s.load1 0 rfl rfl ?_
  refine gs_f ?_
  rw [ilss]
  refine pick_fi ?_
  by_cases h3 : n < 0
  · rw [decide_eq_true h3]
    repeat with_reducible refine gs_tf ?_
    refine pick_ti ?_
    exact cndT (hno (fun hp => by have := hp.2.2.2.1; omega) _ s.ext)
  rw [decide_eq_false h3]
  have hk : needN r.length ≤ 45 ∧ r.length ≤ 2000 := by unfold needN at h0 ⊢; split at h0 <;> first | exact absurd rfl h0 | (split <;> omega)
  refine gs_f ?_
  refine s.load1 0 rfl rfl ?_
  refine gs_f ?_
  refine gs_f ?_
  refine isub (by omega) ?_
  refine gs_f ?_
  rw [igtr]
  refine pick_fi ?_
  by_cases h4 : (4294967296 : Int) - (needN r.length : Nat) < n
  · rw [decide_eq_true h4]
    exact cndT (hno (fun hp => by have := hp.2.2.2.2; omega) _ s.ext)
  rw [decide_eq_false h4]
  refine cndF ?_
  have hyes := hyes ⟨h0, by omega, by omega, by omega, by omega⟩
  clear hno
  obtain ⟨g, rfl⟩ : ∃ k : Nat, g = k := ⟨g.toNat, by omega⟩
  obtain ⟨n, rfl⟩ : ∃ k : Nat, n = k := ⟨n.toNat, by omega⟩
  simp only [Int.toNat_natCast] at hyes
  refine s.alloc zero_blks rfl fun b9 w3 s _ => ?_
  refine fnW_of (by kernel_rfl) (sealed_c (s.rat 0 rfl) (by omega) fun v5 w4 hv5 e5 hf5 => ?_)
  have s := s.add (T := rDb v5 (sealB r)) hv5 e5 hf5
  have hsl := sealB_length r
  have hall := outB_all g n r
  generalize sealB r = sb at *
  obtain ⟨a5, c5, ev5⟩ := hv5.rd.len
  refine fnW_of (by kernel_rfl) (chunk_c (by rw [ev5]; rfl) fun b1 b2 w5 e6 hb1 hb2 hf1 hf2 hne => ?_)
  have s := s.add2 (T := rB b2 [.int .i64 46] 3) (U := rB b1 [v5] 36) hb2 hb1 e6 (fun b hb => by simp [rB] at hb; omega) (fun b hb => by simp [rB] at hb; omega) (fun b hb hm => by simp [rB] at hb hm; omega)
  have s := s.add (T := rK (.slice none 0 0) []) (.inl ⟨rfl, rfl, rfl⟩) (Ext.refl _ _) (by simp [rO, slB])
  have s : Sep [] w w5 [rK (.slice none 0 0) [], rB b2 [.int .i64 46] 3, rB b1 [v5] 36, rDb v5 (sb), rB b9 [.slice none 0 0] 60, rB b4 [.int .i64 n] 3, rB b3 [.int .i64 g] 3] [rR x 1 (bc r) r.length] := s
  have hRlt : ∀ b ∈ (rR x 1 (bc r) r.length).foot, b < w5.heap.size := (rR x 1 (bc r) r.length).lt (s.rat 0 rfl)
  have hw5 := s.ext.size
  have hcl : ∀ (v : Value) (ls : List Bytes), ∀ T ∈ [rK v ls, rB b2 [.int .i64 46] 3, rB b1 [v5] 36, rDb v5 (sb), rB b9 [v] 60, rB b4 [.int .i64 n] 3, rB b3 [.int .i64 g] 3], T.cells ∨ ∀ b ∈ T.foot, b < w5.heap.size := by
    intro v ls T hT
    simp only [List.mem_cons, List.not_mem_nil, or_false] at hT
    rcases hT with rfl | rfl | rfl | rfl | rfl | rfl | rfl <;> first | exact .inl rB_cells | exact .inl rO_cells
  have hcr : ∀ T ∈ [rR x 1 (bc r) r.length], T.cells ∨ ∀ b ∈ T.foot, b < w5.heap.size := by
    intro T hT
    rw [List.mem_singleton] at hT
    subst hT
    exact .inr hRlt
  have hcn : chunkN sb.length = needN r.length := by unfold chunkN needN; rw [hsl, if_neg (by omega)]
  have hb1lt := (s.at 2 rfl : Blk w5 b1 [v5] 36).lt
  have hb2lt := (s.at 1 rfl : Blk w5 b2 [.int .i64 46] 3).lt
  have hseq := chunk_stops (w := w5) (m := sb.length) hv5.rd.len hv5.cap (by omega) (Blk.r (s.at 2 rfl)) (Blk.r (s.at 1 rfl))
  refine rangeH_i ?_ hseq ?_ ?_ ?_ ?_ (fun pre W => ∃ v, Sep [] w W [rK v (outB g n sb (pre.map (·.1))), rB b2 [.int .i64 46] 3, rB b1 [v5] 36, rDb v5 sb, rB b9 [v] 60, rB b4 [.int .i64 n] 3, rB b3 [.int .i64 g] 3] [rR x 1 (bc r) r.length]) ?_ ?_ ?_ ?_
  · kernel_rfl
  · exact fun A B C h k => ⟨k.1.trans h.1, k.2.trans h.2⟩
  · exact fun W => ⟨rfl, rfl⟩
  · exact fun W l o' hl => ⟨World.putObj_heap_other (by omega), World.putObj_heap_other (by omega)⟩
  · exact fun k => rfl
  · exact fun pre W W' ⟨v, s⟩ ht => ⟨v, s.turn ht hw5 (hcl v _) hcr⟩
  · have e0 : outB g n (sb) (([] : List (ChunkA sb.length)).map (·.1)) = [] := rfl
    rw [e0]
    exact ⟨_, s⟩
  · intro k W T hT
    refine hT _ fun pre W J ⟨v, s⟩ hlt hJ => ?_
    clear hT
    have hcl := hcl v (outB g n sb (pre.map (·.1)))
    have hpl : (outB g n sb (pre.map (·.1))).length = pre.length := by rw [outB_length, List.length_map]
    have hsn := outB_snoc g n sb (pre.map (·.1)) k.1
    rw [List.length_map] at hsn
    generalize outB g n sb (pre.map (·.1)) = out at *
    have hh := s.own
    obtain ⟨F, hF⟩ : ∃ F, [rK v out, rB b2 [.int .i64 46] 3, rB b1 [v5] 36, rDb v5 sb, rB b9 [v] 60, rB b4 [.int .i64 n] 3, rB b3 [.int .i64 g] 3].flatMap (·.foot) = F := ⟨_, rfl⟩
    have t : Sep F W W [rK v out, rB b2 [.int .i64 46] 3, rB b1 [v5] 36, rDb v5 sb, rB b9 [v] 60, rB b4 [.int .i64 n] 3, rB b3 [.int .i64 g] 3] [rR x 1 (bc r) r.length] := by rw [← hF]; exact s.restart
    have t := t.drew
    generalize W.drew = W1 at *
    refine t.load1 4 rfl rfl ?_
    refine t.load1 6 rfl rfl ?_
    refine t.load1 5 rfl rfl ?_
    refine t.load1 4 rfl rfl ?_
    rw [(OwnAt.rd (t.at 0 rfl)).lenw]
    refine nadd (by omega) ?_
    have hk := k.2
    have e1 : (sb.drop (46 * k.1)).take (min (46 * k.1 + 46) sb.length - 46 * k.1) = partB sb k.1 := by
      unfold partB
      rw [List.take_eq_take_iff, List.length_drop]
      omega
    have hpart := cutV_rd (OwnAt.rd (t.at 3 rfl)) (l := 46 * k.1) (h := min (46 * k.1 + 46) sb.length) (by omega) (by omega)
    rw [bc_part, e1] at hpart
    have e2 : (partB sb k.1).length = min (46 * k.1 + 46) sb.length - 46 * k.1 := by rw [partB, List.length_take, List.length_drop]; omega
    rw [← e2] at hpart
    have hsec : (secB g (n + out.length) (partB sb k.1)).length = 64 := secB_length _ _ (partB_le _ _)
    refine fnW_of (by kernel_rfl) (sector_c (n := n + out.length) (by omega) (by omega) hpart (cutV_cap hv5.rd.len hv5.cap (by omega) (by omega)) (partB_le _ _) fun W2 e => ?_)
    have t := t.ext0 e
    refine ⟨t.load1 4 rfl rfl ⟨rfl, rfl⟩, ?_⟩
    refine t.litK hsec fun v7 W3 t => ?_
    refine ⟨t.load1 5 rfl rfl ⟨rfl, rfl⟩, ?_⟩
    refine t.apK 1 rfl (OwnAt.rd (t.at 0 rfl)) (by omega) fun v8 W4 t => ?_
    obtain ⟨a8, c8, e8⟩ := (OwnAt.rd (t.at 1 rfl)).len
    refine t.store1 5 rfl (by rw [e8]; rfl) (by simp) (by rw [e8]; rfl) fun W5 t _ => ?_
    have t := t.drop 0
    rw [hpl, ← hsn] at t
    have t : Sep F W W5 [rK v8 (outB g n sb (pre.map (·.1) ++ [k.1])), rB b2 [.int .i64 46] 3, rB b1 [v5] 36, rDb v5 sb, rB b9 [v8] 60, rB b4 [.int .i64 n] 3, rB b3 [.int .i64 g] 3] [rR x 1 (bc r) r.length] := t
    rw [← hF] at t
    refine hJ _ _ (t.keepsFrom hh hcl) ⟨?_, ?_⟩ ⟨v8, ?_⟩
    · have h1 : Blk W5 b1 [v5] 36 := t.at 2 rfl
      have h2 : Blk W b1 [v5] 36 := s.at 2 rfl
      exact h1.trans h2.symm
    · have h1 : Blk W5 b2 [.int .i64 46] 3 := t.at 1 rfl
      have h2 : Blk W b2 [.int .i64 46] 3 := s.at 1 rfl
      exact h1.trans h2.symm
    · rw [List.map_append]
      exact s.behind t
  · rintro D xs W hB hS ⟨v, s⟩ hD
    refine s.load1 4 rfl rfl ?_
    refine ⟨hD, fun W' hW' => ?_⟩
    subst hW'
    have s := s.turn (turn_end (o' := .deferred none) hD rfl hB) hw5 (hcl v _) hcr
    rw [hS, hcn, hall] at s
    exact hyes v _ (s.at 0 rfl) s.ext (s.fresh 0 rfl)
end Go.Proofs.YtedebapgmfnflaaGreatDoor

/- Sectors read one by one: the highest generation, what is gathered: walks. Conditions: sectors have 64 bytes; at most 10^6 of them. -/
namespace Go.Proofs.YtedebapgmfnflaaGreatDoor
open Go
set_option maxRecDepth 100000

theorem flat64_get {ls : List Bytes} (h : ∀ l ∈ ls, l.length = 64) {i : Nat} (hi : i < ls.length) : (ls.flatten.drop (i * 64)).take 64 = ls[i] := by
  have e : ls = ls.take i ++ ls[i] :: ls.drop (i + 1) := by rw [← List.drop_eq_getElem_cons hi, List.take_append_drop]
  have h1 : (ls.take i).flatten.length = i * 64 := by
    rw [flat64 (fun l hl => h l (List.mem_of_mem_take hl)), List.length_take, Nat.min_eq_left (by omega), Nat.mul_comm]
  have h2 : ls.flatten = (ls.take i).flatten ++ (ls[i] ++ (ls.drop (i + 1)).flatten) := by
    rw [← List.flatten_cons, ← List.flatten_append, ← e]
  rw [h2, List.drop_left' h1, List.take_left' (h _ (List.getElem_mem hi))]

/-- Sectors that are read. -/
abbrev rKR (x : Value) (ls : List Bytes) : Res := rR x 64 (bc ls.flatten) ls.length

theorem RdSl.secAt {w : World} {x : Value} {ls : List Bytes} (h : RdSl w x 64 (bc ls.flatten) ls.length) (h64 : ∀ l ∈ ls, l.length = 64) {i : Nat} (hi : i < ls.length) (kk : IntKind) :
    ∃ b o, (∀ K : VPost, K (.pointer (some ⟨b, o, none⟩)) w → idxW (some (none, 64)) x (.int kk i) w K) ∧ (∀ K : VPost, K (.agg (bc ls[i]).toArray) w → loadW (some (true, 64)) (.pointer (some ⟨b, o, none⟩)) w K) := by
  have hfl := flat64 h64
  obtain ⟨hl, ⟨h0, _⟩ | ⟨b, o, c, cs, rfl, hb, h1, h2⟩⟩ := h
  · rw [h0] at hl; simp at hl; omega
  · have hcl := congrArg List.length h1
    rw [bc_length, List.length_take, List.length_drop, hfl] at hcl
    refine ⟨b, o + i * 64, fun K hK => idx_i hi hK, fun K hK => loadN hb (by omega) ?_⟩
    rw [take_drop_part cs o (i * 64) 64 (ls.length * 64) (by omega), h1, bc_part, flat64_get h64 hi]
    exact hK

theorem extr_i {w : World} {K : VPost} {vs : Array Value} {i : Nat} {x : Value} (h : vs[i]? = some x) (hK : K x w) : extrW (.tuple vs) i w K := ⟨x, h, hK⟩

theorem max3_e {P : Program} {ts : Array TypeId} {ty : TypeId} {k : IntKind} {x y z : Int} {w : World} {K : VPost} (h : K (.int k (max (max x y) z)) w) : insW P (Builtin.max_ ts ty #[.int k x, .int k y, .int k z]) w K := by
  unfold insW Builtin.max_
  simp only [List.foldlM_cons, List.foldlM_nil, Builtin.max2, Sem.run_bind, Sem.run_pure, Result.andThen_ok, okW]
  have e1 : (if y > x then y else x) = max x y := by
    rw [Int.max_def]; split <;> split <;> omega
  have e2 : (if z > max x y then z else max x y) = max (max x y) z := by
    rw [Int.max_def (max x y) z]; split <;> split <;> omega
  rw [e1, e2]
  exact h

def highB (ls : List Bytes) : Nat := ls.foldl (fun m b => max (max m (beN (b.take 4))) (beN ((b.drop 56).take 4))) 0
theorem high_snoc (ls : List Bytes) (b : Bytes) : highB (ls ++ [b]) = max (max (highB ls) (beN (b.take 4))) (beN ((b.drop 56).take 4)) := by simp [highB]

set_option maxHeartbeats 1000000 in
theorem highest_c {w : World} {K : VPost} {x : Value} {ls : List Bytes} (hx : RdSl w x 64 (bc ls.flatten) ls.length) (h64 : ∀ l ∈ ls, l.length = 64) (hn : ls.length ≤ 1000000) (hK : ∀ w', Ext [] w w' → K (.int .i64 (highB ls)) w') :
    Calls Tryz.prog 62 #[x] w (retK K) := by
  refine c62_calls _ w K ?_
  unfold c62
  refine bindX_i fun J0 h0 => bindX_i fun J1 h1 => ?_
  rw [hx.lenw]
  refine bindX_i fun J2 h2 => ?_
  refine loop_i (fun m fr wr => ∃ i : Nat, m = ls.length - i ∧ i ≤ ls.length ∧ fr 3 = .int .i64 (highB (ls.take i)) ∧ fr 6 = x ∧ fr 7 = .int .i64 ls.length ∧ fr 8 = .int .i64 i ∧ Sep [] w wr [] [rKR x ls]) ls.length ?_ ?_
  · exact ⟨0, rfl, by omega, rfl, rfl, rfl, rfl, Sep.zero1 (U := rKR x ls) hx⟩
  · rintro m fr wr J ⟨i, rfl, hi, f3, f6, f7, f8, s⟩ hJ hX
    rw [f7, f8]
    refine nlss (cond_d (fun hlt => ?_) (fun hlt => ?_))
    · rw [f6, f3]
      obtain ⟨b, o, hix, hld⟩ := RdSl.secAt (s.rat 0 rfl) h64 hlt .i64
      refine hix _ ?_
      refine hld _ ?_
      have hb := h64 _ (List.getElem_mem hlt)
      refine s.alloc zero_blk cellsK fun p w1 s _ => ?_
      refine s.storeAll 0 rfl (by rw [bc_length, hb]) rfl (bc_one _) fun w2 s _ => ?_
      have s : Sep [] w w2 [rB p (bc ls[i]) 79] [rKR x ls] := s
      have s := s.drew
      generalize w2.drew = w3 at *
      have hp : Blk w3 p (bc ls[i]) 79 := s.at 0 rfl
      refine slA_to (k := 4) (by decide) ?_
      refine slA_cut (l := 56) (h := 60) (by decide) (by decide) (by decide) ?_
      have h0 := hp.part (l := 0) (k := 4) (c := 64) (by omega) (by decide) (by omega)
      rw [List.drop_zero] at h0
      have h4 := hp.part (l := 56) (k := 4) (c := 8) (by omega) (by decide) (by omega)
      refine fnW_of (by kernel_rfl) (get_c h0 (by rw [List.length_take]; omega) ?_)
      refine fnW_of (by kernel_rfl) (get_c h4 (by rw [List.length_take, List.length_drop]; omega) ?_)
      refine max3_e ?_
      refine ⟨rfl, ?_⟩
      refine nadd (y := 1) (by omega) ?_
      have e : max (max ((highB (ls.take i) : Nat) : Int) ((beN (ls[i].take 4) : Nat) : Int)) ((beN ((ls[i].drop 56).take 4) : Nat) : Int) = ((highB (ls.take (i + 1)) : Nat) : Int) := by
        rw [List.take_succ_eq_append_getElem hlt, high_snoc]
        omega
      rw [e]
      exact hJ (ls.length - (i + 1)) _ _ (by omega) ⟨i + 1, rfl, by omega, rfl, f6, f7, rfl, s.drop 0⟩
    · obtain rfl : i = ls.length := by omega
      refine hX _ _ _ (by simp) (h2 _ _ _ (h1 _ _ _ ?_))
      show K (fr 3) _
      rw [f3, List.take_length]
      exact hK _ s.ext

theorem gather_cons (g n : Nat) (b : Bytes) (r : List Bytes) (acc : Bytes) (i : Nat) : gatherB g n (b :: r) acc i = if okS g (n + i) b then (if (dataB b).length < 46 ∨ 2034 ≤ (acc ++ dataB b).length then (acc ++ dataB b, i + 1) else gatherB g n r (acc ++ dataB b) (i + 1)) else (acc, i) := rfl

set_option maxHeartbeats 2000000 in
theorem gather_c {w : World} {K : VPost} {x : Value} {g n : Nat} {ls : List Bytes} (hx : RdSl w x 64 (bc ls.flatten) ls.length) (h64 : ∀ l ∈ ls, l.length = 64) (hln : ls.length ≤ 1000000) (hn : n ≤ 4294967296)
    (hK : ∀ v w', OwnAt w' v 5 1 (bc (gatherB g n ls [] 0).1) (gatherB g n ls [] 0).1.length → Ext [] w w' → (∀ b ∈ slB v, w.heap.size ≤ b) → K (.tuple #[v, .int .i64 (gatherB g n ls [] 0).2]) w') :
    Calls Tryz.prog 76 #[x, .int .i64 g, .int .i64 n] w (retK K) := by
  refine c76_calls _ _ _ w K ?_
  unfold c76
  refine bindX_i fun J0 h0 => bindX_i fun J1 h1 => ?_
  have hlen : ∀ (w : World) (K : VPost), lenW Tryz.prog (some true) #[60] 3 #[x] w K = K (.int .i64 ls.length) w := fun w K => hx.lenw
  rw [hlen]
  refine bindX_i fun J2 h2 => ?_
  have s := (Sep.zero1 (U := rKR x ls) hx).add (T := rDb (.slice none 0 0) []) (w' := w) (.inl ⟨rfl, rfl, rfl⟩) (Ext.refl _ _) (by simp [rDb, rO, slB])
  generalize hr : gatherB g n ls [] 0 = res at *
  refine loop_i (fun m fr wr => ∃ (i : Nat) (v : Value) (acc : Bytes), m = ls.length - i ∧ i ≤ ls.length ∧ acc.length ≤ 46 * i ∧ gatherB g n (ls.drop i) acc i = res ∧ fr 0 = x ∧ fr 1 = .int .i64 g ∧ fr 2 = .int .i64 n ∧ fr 8 = v ∧ fr 15 = x ∧ fr 16 = .int .i64 ls.length ∧ fr 17 = .int .i64 i ∧ Sep [] w wr [rDb v acc] [rKR x ls]) ls.length ?_ ?_
  · exact ⟨0, _, [], rfl, by omega, by simp, by rw [List.drop_zero]; exact hr, rfl, rfl, rfl, rfl, rfl, rfl, rfl, s⟩
  · rintro m fr wr J ⟨i, v, acc, rfl, hi, hal, hg, f0, f1, f2, f8, f15, f16, f17, s⟩ hJ hX
    rw [f16, f17]
    have hret : ∀ (fr : Fr) (wr : World) (v : Value), fr 6 = v → fr 7 = .int .i64 res.2 → Sep [] w wr [rDb v res.1] [rKR x ls] → J .ret fr wr := by
      intro fr wr v g6 g7 s
      refine hX _ _ _ (by simp) (h2 _ _ _ (h1 _ _ _ (h0 _ _ _ ?_)))
      show K (.tuple #[fr 6, fr 7]) wr
      rw [g6, g7]
      exact hK v wr (s.at 0 rfl) s.ext (s.fresh 0 rfl)
    refine nlss (cond_d (fun hlt => ?_) (fun hlt => ?_))
    · rw [f15, f8, f1, f2]
      rw [List.drop_eq_getElem_cons hlt, gather_cons] at hg
      obtain ⟨b, o, hix, hld⟩ := RdSl.secAt (s.rat 0 rfl) h64 hlt .i64
      refine hix _ ?_
      refine hld _ ?_
      have hb := h64 _ (List.getElem_mem hlt)
      generalize ls[i] = sec at *
      refine s.alloc zero_blk cellsK fun p w1 s _ => ?_
      refine s.storeAll 0 rfl (by rw [bc_length, hb]) rfl (bc_one _) fun w2 s _ => ?_
      have s : Sep [] w w2 [rB p (bc sec) 79, rDb v acc] [rKR x ls] := s
      refine s.loadAll 0 rfl (by rw [bc_length, hb]) ?_
      refine fnW_of (by kernel_rfl) (mark_c hb fun w3 e => ?_)
      have s := s.ext0 e
      refine extr_i rfl ?_
      refine extr_i rfl ?_
      refine extr_i rfl ?_
      refine not_ti ?_
      have hm3 : (markB sec).2.2 = wholeB sec := by unfold markB; cases wholeB sec <;> rfl
      rw [hm3]
      unfold okS at hg
      cases hw : wholeB sec with
      | false =>
        rw [hw, Bool.false_and, if_neg (by decide)] at hg
        rw [Bool.not_false]
        iterate 2 ((repeat with_reducible refine gs_tf ?_); refine pick_ti ?_)
        refine cndT ?_
        refine hret _ _ v rfl (by rw [← hg] <;> rfl) ?_
        rw [← hg]
        exact s.drop 0
      | true =>
        rw [hw, Bool.true_and] at hg
        rw [Bool.not_true]
        refine gs_f ?_
        refine gs_f ?_
        refine gs_f ?_
        refine nneq ?_
        refine pick_fi ?_
        by_cases hge : (markB sec).1 = g
        · rw [decide_eq_false (by simpa using hge)]
          rw [decide_eq_true hge, Bool.true_and] at hg
          refine gs_f ?_
          refine gs_f ?_
          refine gs_f ?_
          refine gs_f ?_
          refine nadd (by omega) ?_
          refine gs_f ?_
          refine nneq ?_
          refine pick_fi ?_
          by_cases hne : (markB sec).2.1 = n + i
          · rw [decide_eq_false (by simpa using hne)]
            rw [decide_eq_true hne, if_pos rfl] at hg
            refine cndF ?_
            refine s.loadAll 0 rfl (by rw [bc_length, hb]) ?_
            refine fnW_of (by kernel_rfl) (data_c hb fun vd w4 hvd e4 hfd => ?_)
            have s := s.ext0 e4
            have hdl := data_le hb
            refine s.apB 1 rfl hvd.rd (by omega) fun v5 w5 s => ?_
            have s : Sep [] w w5 [rB p (bc sec) 79, rDb v5 (acc ++ dataB sec)] [rKR x ls] := s
            have s := s.drop 0
            have s : Sep [] w w5 [rDb v5 (acc ++ dataB sec)] [rKR x ls] := s
            rw [hvd.rd.lenw]
            refine nlss (y := 46) ?_
            have hal2 : (acc ++ dataB sec).length ≤ 46 * (i + 1) := by rw [List.length_append]; omega
            by_cases h1 : (dataB sec).length < 46
            · rw [decide_eq_true h1]
              rw [if_pos (.inl h1)] at hg
              repeat with_reducible refine gs_tf ?_
              refine pick_ti ?_
              refine cndT ?_
              refine nadd (y := 1) (by omega) ?_
              refine hret _ _ v5 rfl (by rw [← hg] <;> rfl) ?_
              rw [← hg]
              exact s
            · rw [decide_eq_false h1]
              refine gs_f ?_
              refine gs_f ?_
              rw [(OwnAt.rd (s.at 0 rfl)).lenw]
              refine gs_f ?_
              refine ngeq (y := 2034) ?_
              refine pick_fi ?_
              refine cond_d (fun h2 => ?_) (fun h2 => ?_)
              · rw [if_pos (.inr h2)] at hg
                refine nadd (y := 1) (by omega) ?_
                refine hret _ _ v5 rfl (by rw [← hg] <;> rfl) ?_
                rw [← hg]
                exact s
              · rw [if_neg (by omega)] at hg
                refine nadd (y := 1) (by omega) ?_
                exact hJ (ls.length - (i + 1)) _ _ (by omega) ⟨i + 1, v5, _, rfl, by omega, hal2, hg, f0, f1, f2, rfl, f15, f16, rfl, s⟩
          · rw [decide_eq_true (by simpa using hne)]
            rw [decide_eq_false hne, if_neg (by decide)] at hg
            refine cndT ?_
            refine hret _ _ v rfl (by rw [← hg] <;> rfl) ?_
            rw [← hg]
            exact s.drop 0
        · rw [decide_eq_true (by simpa using hge)]
          rw [decide_eq_false hge, Bool.false_and, if_neg (by decide)] at hg
          repeat with_reducible refine gs_tf ?_
          refine pick_ti ?_
          refine cndT ?_
          refine hret _ _ v rfl (by rw [← hg] <;> rfl) ?_
          rw [← hg]
          exact s.drop 0
    · obtain rfl : i = ls.length := by omega
      rw [List.drop_length] at hg
      have hg : (acc, ls.length) = res := hg
      refine hX _ _ _ (by simp) (h2 _ _ _ (h1 _ _ _ (seqX_n ?_)))
      show lenW _ _ _ _ #[fr 0] _ _
      rw [f0, hlen]
      show K (.tuple #[fr 8, _]) _
      rw [f8]
      have := hK v wr (by rw [← hg]; exact s.at 0 rfl) s.ext (s.fresh 0 rfl)
      rw [← hg] at this
      exact this
end Go.Proofs.YtedebapgmfnflaaGreatDoor
