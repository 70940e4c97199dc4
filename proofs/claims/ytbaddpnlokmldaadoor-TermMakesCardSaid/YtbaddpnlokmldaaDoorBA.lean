/- Bytes as cells; arrays of numbers compared and built; elements of slices. -/
import Derived.Test.YtbaddpnlokmldaaDoorGB
import Derived.ChangeKeysEq
import Derived.KernelRfl
namespace Go.Proofs.YtbaddpnlokmldaaDoor
open Go
set_option maxRecDepth 100000

abbrev Bytes := List UInt8
def bv (b : UInt8) : Value := .int .u8 b.toNat
def bc (l : Bytes) : List Value := l.map bv
theorem bc_length (l : Bytes) : (bc l).length = l.length := by simp [bc]
theorem bc_one (l : Bytes) : ∀ x ∈ bc l, x.oneCell' = true := by
  intro x hx
  obtain ⟨b, _, rfl⟩ := List.mem_map.1 hx
  rfl
theorem bv_inj {a b : UInt8} (h : bv a = bv b) : a = b := by
  unfold bv at h
  simp only [Value.int.injEq, true_and] at h
  exact UInt8.toNat_inj.1 (by omega)
theorem bc_inj {a b : Bytes} (h : bc a = bc b) : a = b := by
  induction a generalizing b with
  | nil => cases b with
    | nil => rfl
    | cons y r => simp [bc] at h
  | cons x r ih =>
    cases b with
    | nil => simp [bc] at h
    | cons y s =>
      simp only [bc, List.map_cons, List.cons.injEq] at h
      rw [bv_inj h.1, ih (by simpa [bc] using h.2)]
/-- Bytes with others in the place of some of them. -/
def bspl (l : Bytes) (o : Nat) (b : Bytes) : Bytes := l.take o ++ b ++ l.drop (o + b.length)
theorem bc_spl (l : Bytes) (o : Nat) (b : Bytes) : bc (bspl l o b) = lspl (bc l) o (bc b) := by
  simp [bc, bspl, lspl, List.map_take, List.map_drop]
theorem bspl_length {l : Bytes} {o : Nat} {b : Bytes} (h : o + b.length ≤ l.length) : (bspl l o b).length = l.length := by
  simp [bspl]; omega
theorem bc_part (l : Bytes) (o n : Nat) : ((bc l).drop o).take n = bc ((l.drop o).take n) := by
  simp [bc, List.map_take, List.map_drop]
theorem bc_append (a b : Bytes) : bc (a ++ b) = bc a ++ bc b := by simp [bc]
/-- What owns some blocks has gone on: the named blocks alone may have changed; it has of them, and new ones. -/
structure Mv (F : List Nat) (w : World) (F' : List Nat) (w' : World) : Prop where
  ext : Ext F w w'
  own : ∀ b ∈ F', b ∈ F ∨ w.heap.size ≤ b
theorem Mv.refl (F : List Nat) (w : World) : Mv F w F w := ⟨Ext.refl F w, fun b hb => .inl hb⟩
theorem Mv.trans {F F1 F2 : List Nat} {w w1 w2 : World} (h : Mv F w F1 w1) (k : Mv F1 w1 F2 w2) : Mv F w F2 w2 :=
  ⟨h.ext.step k.ext (fun x hx hlt => by rcases h.own x hx with h1 | h1 <;> first | exact h1 | omega),
   fun b hb => by
    rcases k.own b hb with h1 | h1
    · exact h.own b h1
    · exact .inr (Nat.le_trans h.ext.size h1)⟩
theorem Ext.undrew {S : List Nat} {w w' : World} (h : Ext S w.drew w') : Ext S w w' := ⟨h.os, h.tape, h.output, h.size, h.same⟩
/-- A block that begins with these cells. -/
def PB (w : World) (b : Nat) (cs : List Value) (t : TypeId) : Prop := ∃ rest, Blk w b (cs ++ rest) t
theorem Blk.pb {w : World} {b : Nat} {cs : List Value} {t : TypeId} (h : Blk w b cs t) : PB w b cs t := ⟨[], by rwa [List.append_nil]⟩
theorem PB.keep {w w' : World} {b : Nat} {cs : List Value} {t : TypeId} {S : List Nat} (h : PB w b cs t) (e : Ext S w w') (hn : b ∉ S) : PB w' b cs t := by
  obtain ⟨r, h⟩ := h; exact ⟨r, h.keep e hn⟩
theorem PB.lt {w : World} {b : Nat} {cs : List Value} {t : TypeId} (h : PB w b cs t) : b < w.heap.size := by obtain ⟨r, h⟩ := h; exact h.lt
theorem lspl_app {cs vs rest : List Value} {o : Nat} (h : o + vs.length ≤ cs.length) : lspl (cs ++ rest) o vs = lspl cs o vs ++ rest := by
  unfold lspl
  rw [List.take_append_of_le_length (by omega), List.drop_append_of_le_length (by omega), List.append_assoc, List.append_assoc, List.append_assoc]
theorem PB.loadN {w : World} {K : VPost} {n b o : Nat} {cs : List Value} {t : TypeId} (hb : PB w b cs t) (hn : o + n ≤ cs.length) (h : K (.agg ((cs.drop o).take n).toArray) w) : loadW (some (true, n)) (.pointer (some ⟨b, o, none⟩)) w K := by
  obtain ⟨r, hb⟩ := hb
  refine Go.Proofs.YtbaddpnlokmldaaDoor.loadN hb.r (by rw [List.length_append]; omega) ?_
  rw [List.drop_append_of_le_length (by omega), List.take_append_of_le_length (by rw [List.length_drop]; omega)]
  exact h
theorem PB.store {g : Bool} {n b o : Nat} {w : World} {cs vs : List Value} {t : TypeId} {v : Value} {K : World → Prop} (hb : PB w b cs t) (hv : v.cells = vs.toArray) (hn : vs.length = n) (hle : o + n ≤ cs.length)
    (h1 : ∀ x ∈ vs, x.oneCell' = true) (h : ∀ w', Ext [b] w w' → PB w' b (lspl cs o vs) t → w'.heap.size = w.heap.size → K w') : storeW (some (g, n)) (.pointer (some ⟨b, o, none⟩)) v w K := by
  obtain ⟨r, hb⟩ := hb
  refine storeW_i hb hv hn (by rw [List.length_append]; omega) h1 fun w' e hb' hs => h w' e ⟨r, ?_⟩ hs
  rwa [lspl_app (by omega)] at hb'
theorem PB.rd {w : World} {b m s c : Nat} {cs : List Value} {t : TypeId} (hb : PB w b cs t) (hc : cs.length = m * s) : RdSl w (.slice (some ⟨b, 0, none⟩) m c) s cs m := by
  obtain ⟨r, hb⟩ := hb
  exact ⟨hc, .inr ⟨b, 0, c, _, rfl, hb.r, by rw [List.drop_zero, ← hc, List.take_left], by rw [List.length_append]; omega⟩⟩
theorem PB.copy {P : Program} {w : World} {K : VPost} {T T' ty e : TypeId} {i : TypeInfo} {x : Value} {ys cs : List Value} {n m c b o : Nat} {te : TypeId}
    (hu : P.underlying T = some (.slice e)) (hi : P.info? e = some i) (hb : PB w b cs te) (hx : RdSl w x i.size ys m) (h1 : ∀ y ∈ ys, y.oneCell' = true) (hle : o + n * i.size ≤ cs.length)
    (h : ∀ w', Ext [b] w w' → PB w' b (lspl cs o (ys.take (min m n * i.size))) te → w'.heap.size = w.heap.size → K (.int .i64 (min m n : Nat)) w') :
    insW P (Builtin.copy_ #[T, T'] ty #[.slice (some ⟨b, o, none⟩) n c, x]) w K := by
  obtain ⟨r, hb⟩ := hb
  have hmn2 : min m n * i.size ≤ n * i.size := Nat.mul_le_mul_right _ (Nat.min_le_right _ _)
  refine copy_i hu hi hb hx h1 (by rw [List.length_append]; omega) fun w' e hb' hs => h w' e ⟨r, ?_⟩ hs
  rwa [lspl_app (by rw [List.length_take]; omega)] at hb'
/-- A type's zero value, cells and bytes. -/
def tyI (P : Program) (t : TypeId) : Option (Value × Nat × Nat) :=
  match P.info? t with
  | some i => match i.zero with | some z => some (z, i.size, i.bytes) | none => none
  | none => none
theorem tyI_spec {P : Program} {t : TypeId} {z : Value} {s b : Nat} (h : tyI P t = some (z, s, b)) : ∃ i, P.info? t = some i ∧ i.zero = some z ∧ i.size = s ∧ i.bytes = b := by
  unfold tyI at h
  split at h
  · rename_i i hi
    split at h
    · rename_i z' hz
      simp only [Option.some.injEq, Prod.mk.injEq] at h
      obtain ⟨rfl, rfl, rfl⟩ := h
      exact ⟨i, hi, hz, rfl, rfl⟩
    · cases h
  · cases h
theorem ty_u8 : tyI Tryd.prog 5 = some (.int .u8 0, 1, 1) := by kernel_rfl
theorem OwnSl.shape {w : World} {v : Value} {e : TypeId} {s : Nat} {xs : List Value} {n : Nat} (h : OwnSl w v e s xs n) : ∃ a c, v = .slice a n c := h.rd.len
theorem seq_n {B : Fr → World → Prop} {K J : XPost} (h : ∀ e fr w, seqX B K e fr w → J e fr w) {fr : Fr} {w : World} (hb : B fr w) : J .normal fr w := h _ _ _ hb
theorem i64_self {n : Int} (h : -9223372036854775808 ≤ n ∧ n ≤ 9223372036854775807) : IntKind.i64.wrap n = n := by rw [IntKind.wrap_i64]; omega
theorem lspl_two (Z : List Value) (x : Value) (l : List Value) (h : Z.length = 1 + l.length) : lspl (lspl Z 0 [x]) 1 l = x :: l := by
  have := lspl_lspl Z 0 [x] l (by simp; omega)
  simp only [List.length_singleton, Nat.zero_add] at this
  rw [this]
  unfold lspl
  rw [List.drop_of_length_le (by simp; omega)]
  simp

theorem blk_x {K : XPost} {id : Nat} {fr : Fr} {w : World} (h : K .normal fr w) : blkX id K (.exit id) fr w := by
  unfold blkX; simp only [Nat.beq_refl]; exact h
theorem bc_zeros (n : Nat) : bc (List.replicate n 0) = List.replicate n (.int .u8 0) := by simp [bc, bv]
theorem lspl_all {cs vs : List Value} (h : cs.length = vs.length) : lspl cs 0 vs = vs := by
  unfold lspl
  rw [List.drop_of_length_le (by omega)]
  simp
theorem bspl_all {cs vs : Bytes} (h : cs.length = vs.length) : bspl cs 0 vs = vs := by
  unfold bspl
  rw [List.drop_of_length_le (by omega)]
  simp
theorem max_e {P : Program} {ts : Array TypeId} {ty : TypeId} {k : IntKind} {x y : Int} {w : World} {K : VPost} : insW P (Builtin.max_ ts ty #[.int k x, .int k y]) w K = K (.int k (max x y)) w := by
  unfold insW Builtin.max_
  simp only [List.foldlM_cons, List.foldlM_nil, Builtin.max2, Sem.run_bind, Sem.run_pure, Result.andThen_ok, okW]
  have : (if y > x then y else x) = max x y := by
    rw [Int.max_def]; split <;> split <;> omega
  rw [this]
theorem min_e {P : Program} {ts : Array TypeId} {ty : TypeId} {k : IntKind} {x y : Int} {w : World} {K : VPost} : insW P (Builtin.min_ ts ty #[.int k x, .int k y]) w K = K (.int k (min x y)) w := by
  unfold insW Builtin.min_
  simp only [List.foldlM_cons, List.foldlM_nil, Builtin.min2, Sem.run_bind, Sem.run_pure, Result.andThen_ok, okW]
  have : (if y < x then y else x) = min x y := by
    rw [Int.min_def]; split <;> split <;> omega
  rw [this]

theorem slArr_i {b n sz : Nat} {w : World} {K : VPost} (h : K (.slice (some ⟨b, 0, none⟩) n n) w) : sliceW (.arr n sz) (.pointer (some ⟨b, 0, none⟩)) none none none w K := by
  refine ⟨by simp, 0, n, n, rfl, rfl, rfl, Nat.zero_le _, by simp, Nat.le_refl _, ?_⟩
  have : (if n = 0 then (⟨b, 0, none⟩ : Addr) else Addr.add ⟨b, 0, none⟩ (0 * sz)) = ⟨b, 0, none⟩ := by
    rw [add_addr]; simp
  show K (.slice (some (if n = 0 then (⟨b, 0, none⟩ : Addr) else Addr.add ⟨b, 0, none⟩ (0 * sz))) (n - 0) (n - 0)) w
  rw [this]; simpa using h

theorem conv_int {P : Program} {s t : TypeId} {d : TypeDesc} {k k' : IntKind} {x : Int} {w : World} {K : VPost} (hu : P.underlying s = some d) (hu' : P.underlying t = some (.int k)) :
    insW P (convert s t (.int k' x)) w K = K (.int k (k.wrap x)) w := by
  unfold insW convert
  simp only [Sem.run_bind, run_und hu, run_und hu', Result.andThen_ok]
  rfl
theorem slA_to {b o n sz k : Nat} {w : World} {K : VPost} {kk : IntKind} (hk : k ≤ n) (h : K (.slice (some ⟨b, o, none⟩) k n) w) : sliceW (.arr n sz) (.pointer (some ⟨b, o, none⟩)) none (some (.int kk k)) none w K := by
  refine ⟨by simp, 0, k, n, rfl, rfl, rfl, Nat.zero_le _, by simpa using hk, Nat.le_refl _, ?_⟩
  show K (.slice (some (if n = 0 then (⟨b, o, none⟩ : Addr) else Addr.add ⟨b, o, none⟩ (0 * sz))) (k - 0) (n - 0)) w
  rw [add_addr]; simpa using h
theorem slA_from {b o n sz l : Nat} {w : World} {K : VPost} {kk : IntKind} (hl : l ≤ n) (h : K (.slice (some (if n = l then ⟨b, o, none⟩ else ⟨b, o + l * sz, none⟩)) (n - l) (n - l)) w) :
    sliceW (.arr n sz) (.pointer (some ⟨b, o, none⟩)) (some (.int kk l)) none none w K := by
  refine ⟨by simp, l, n, n, rfl, rfl, rfl, hl, by simp, Nat.le_refl _, ?_⟩
  show K (.slice (some (if n = l then (⟨b, o, none⟩ : Addr) else Addr.add ⟨b, o, none⟩ (l * sz))) (n - l) (n - l)) w
  rw [add_addr]; exact h
theorem lspl_nil (cs : List Value) (o : Nat) : lspl cs o [] = cs := by simp [lspl]

theorem getD_lt {l : Bytes} {i : Nat} (h : i < l.length) : (bc l)[i]? = some (bv (l.getD i 0)) := by
  simp [bc, List.getElem?_map, h]
/-- An element of a slice that may be read. -/
theorem RdSl.at1 {w : World} {v : Value} {l : Bytes} {i : Nat} {m : Nat} (h : RdSl w v 1 (bc l) m) (hi : i < l.length) (k : IntKind) :
    ∃ b o, (∀ K : VPost, K (.pointer (some ⟨b, o, none⟩)) w → idxW (some (none, 1)) v (.int k i) w K) ∧ (∀ K : VPost, K (bv (l.getD i 0)) w → loadW (some (false, 1)) (.pointer (some ⟨b, o, none⟩)) w K) := by
  obtain ⟨hl, ⟨h0, _⟩ | ⟨b, o, c, cs, rfl, hb, h1, h2⟩⟩ := h
  · have := congrArg List.length h0
    rw [bc_length, List.length_nil] at this
    omega
  · rw [bc_length] at hl
    refine ⟨b, o + i * 1, fun K hK => idx_i (by omega) hK, fun K hK => load1 hb ?_ hK⟩
    have := getD_lt hi
    rw [← h1, List.getElem?_take, if_pos (by omega), List.getElem?_drop] at this
    rw [Nat.mul_one]; exact this

section
variable {P : Program} {w : World} {K : VPost}
theorem eqItems_ints {e : TypeId} {k : IntKind} (he : P.underlying e = some (.int k)) (hp : P.plainKey e = true) (d : Nat) (xs ys : List Int) : ∀ (is : List Nat), (∀ i ∈ is, i < xs.length ∧ i < ys.length) →
    (Op.eqItems (d + 1) e 1 (xs.map (Value.int k)).toArray (ys.map (Value.int k)).toArray is).run P w = .ok (decide (∀ i ∈ is, xs[i]? = ys[i]?)) w := by
  intro is
  induction is with
  | nil => intro _; simp [Op.eqItems]
  | cons i is ih =>
    intro h
    have h0 := h i List.mem_cons_self
    have hx : (xs.map (Value.int k)).toArray[i * 1]? = some (.int k xs[i]) := by simp [h0.1]
    have hy : (ys.map (Value.int k)).toArray[i * 1]? = some (.int k ys[i]) := by simp [h0.2]
    have he' : (Op.equalIn (d + 1) e (.int k xs[i]) (.int k ys[i])).run P w = .ok (xs[i] == ys[i]) w := by
      unfold Op.equalIn
      rw [Sem.run_bind, run_und he]
      simp
    simp only [Op.eqItems, Sem.run_bind, run_part_plain w hp hx, run_part_plain w hp hy, he', Result.andThen_ok]
    have ih := ih (fun j hj => h j (List.mem_cons_of_mem _ hj))
    by_cases hq : xs[i] = ys[i]
    · simp only [hq, beq_self_eq_true, Bool.not_true, Bool.false_eq_true, if_false, ih, List.mem_cons, forall_eq_or_imp, h0.1, h0.2, List.getElem?_eq_getElem, true_and]
    · have : (xs[i] == ys[i]) = false := by simpa using hq
      simp only [this, Bool.not_false, if_true, Sem.run_pure, List.mem_cons, forall_eq_or_imp, h0.1, h0.2, List.getElem?_eq_getElem, Option.some.injEq, hq, false_and, decide_false]
theorem equal_ints {t e : TypeId} {n : Nat} {i : TypeInfo} {k : IntKind} (hu : P.underlying t = some (.array n e)) (hi : P.info? e = some i) (he : P.underlying e = some (.int k)) (hp : P.plainKey e = true) (hc : P.cellsOf e = 1)
    (xs ys : List Int) (hx : xs.length = n) (hy : ys.length = n) : (Op.equal t (.agg (xs.map (Value.int k)).toArray) (.agg (ys.map (Value.int k)).toArray)).run P w = .ok (decide (xs = ys)) w := by
  show (Op.equalIn (9999 + 1) t _ _).run P w = _
  rw [run_equalIn_array w _ _ _ hu hi, hc, eqItems_ints he hp 9998 xs ys _ (by intro j hj; have := List.mem_range.1 hj; omega)]
  congr 2
  rw [eq_iff_iff]
  constructor
  · intro h
    apply List.ext_getElem?
    intro j
    by_cases hj : j < n
    · exact h j (List.mem_range.2 hj)
    · rw [List.getElem?_eq_none (by omega), List.getElem?_eq_none (by omega)]
  · intro h; subst h; intro _ _; rfl
theorem guard_agg {op : BinOp} {t : TypeId} {c : Bool} {xs ys : Array Value} (hg : P.eqGuardType P.depth t = false) (w : World) : (guardE op t c (.agg xs) (.agg ys)).run P w = .ok () w := by
  unfold guardE eqGuard
  cases op <;> simp [Sem.run_bind, Go.program, Sem.run, hg, Result.andThen]
theorem bin_ints_eql {t e : TypeId} {n : Nat} {c : Bool} {i : TypeInfo} {k : IntKind} (hu : P.underlying t = some (.array n e)) (hi : P.info? e = some i) (he : P.underlying e = some (.int k)) (hp : P.plainKey e = true) (hc : P.cellsOf e = 1) (hg : P.eqGuardType P.depth t = false)
    (xs ys : List Int) (hx : xs.length = n) (hy : ys.length = n) : binW P .eql t c (.agg (xs.map (Value.int k)).toArray) (.agg (ys.map (Value.int k)).toArray) w K = K (.bool (decide (xs = ys))) w :=
  bin_equal (guard_agg hg) rfl (equal_ints hu hi he hp hc xs ys hx hy)
theorem bin_ints_neq {t e : TypeId} {n : Nat} {c : Bool} {i : TypeInfo} {k : IntKind} (hu : P.underlying t = some (.array n e)) (hi : P.info? e = some i) (he : P.underlying e = some (.int k)) (hp : P.plainKey e = true) (hc : P.cellsOf e = 1) (hg : P.eqGuardType P.depth t = false)
    (xs ys : List Int) (hx : xs.length = n) (hy : ys.length = n) : binW P .neq t c (.agg (xs.map (Value.int k)).toArray) (.agg (ys.map (Value.int k)).toArray) w K = K (.bool (!decide (xs = ys))) w :=
  bin_nequal (guard_agg hg) rfl (equal_ints hu hi he hp hc xs ys hx hy)
theorem slice_eql_nil {t e : TypeId} {c : Bool} {a : Option Addr} {n m : Nat} (hu : P.underlying t = some (.slice e)) : binW P .eql t c (.slice a n m) (.slice none 0 0) w K = K (.bool a.isNone) w := by
  refine bin_equal (fun _ => by cases c <;> rfl) rfl ?_
  show (Op.equalIn (9999 + 1) t _ _).run P w = _
  unfold Op.equalIn
  rw [Sem.run_bind, run_und hu]
  cases a <;> rfl
end

theorem bc_ints (l : Bytes) : bc l = (l.map fun b => (b.toNat : Int)).map (Value.int .u8) := by simp [bc, bv]
theorem ints_inj (a b : Bytes) : (a.map fun b => (b.toNat : Int)) = (b.map fun b => (b.toNat : Int)) ↔ a = b := by
  constructor
  · intro h
    exact bc_inj (by rw [bc_ints, bc_ints, h])
  · intro h; rw [h]

def fillA (s : Nat) : List Value → List (Nat × Value) → Option (List Value)
  | cs, [] => some cs
  | cs, (i, v) :: r => if v.cells.size = s ∧ i * s + s ≤ cs.length then fillA s (lspl cs (i * s) v.cells.toList) r else none
theorem fill_A {s : Nat} : ∀ {parts : List (Nat × Value)} {cs out : List Value}, fillA s cs parts = some out → Instr.fill (fun i => some (i * s, s)) cs.toArray parts = some out.toArray := by
  intro parts
  induction parts with
  | nil => intro cs out h; simp only [fillA, Option.some.injEq] at h; subst h; rfl
  | cons p r ih =>
    intro cs out h
    obtain ⟨i, v⟩ := p
    unfold fillA at h
    split at h
    · rename_i hc
      obtain ⟨h1, h2⟩ := hc
      subst h1
      rw [fill_cons rfl h2]
      exact ih h
    · cases h
theorem buildA_i {P : Program} {w : World} {K : VPost} {t e : TypeId} {n : Nat} {ti ei : TypeInfo} {z : Value} {parts : List (Nat × Value)} {out : List Value} (hu : P.underlying t = some (.array n e)) (hi : P.info? t = some ti) (hz : ti.zero = some z) (he : P.info? e = some ei)
    (hf : fillA ei.size z.cells.toList parts = some out) (h : K (.agg out.toArray) w) : insW P (Instr.build t parts.toArray) w K := by
  refine insW_ok ?_ h
  unfold Instr.build
  have hzr : (zeroValue t).run P w = .ok z w := by
    unfold zeroValue; simp only [Sem.run_bind, run_info hi, Result.andThen_ok, hz, Sem.run_pure]
  simp only [Sem.run_bind, hzr, Result.andThen_ok, run_und hu, run_size he]
  have := fill_A hf
  rw [Array.toArray_toList] at this
  simp only [this, Sem.run_pure]

section
variable {P : Program} {w : World} {K : VPost}
theorem bin_and {t : TypeId} {c : Bool} {k : IntKind} {x y : Int} : binW P .and t c (.int k x) (.int k y) w K = K (.int k (k.wrap (BitVec.ofInt k.bits x &&& BitVec.ofInt k.bits y).toNat)) w := by
  simp [binW, binE, guardE, eqGuard, binOp, Op.intBits, insW, okW, Sem.run_bind]
theorem and_mask (x : Int) (n : Nat) (hn : n < 63) : IntKind.i64.wrap (BitVec.ofInt IntKind.i64.bits x &&& BitVec.ofInt IntKind.i64.bits (2 ^ n - 1)).toNat = x % 2 ^ n := by
  have hb : IntKind.i64.bits = 64 := rfl
  have hp : (2 : Nat) ^ n < 2 ^ 63 := Nat.pow_lt_pow_right (by decide) hn
  have hp0 : 0 < (2 : Nat) ^ n := Nat.two_pow_pos n
  have hm : (BitVec.ofInt IntKind.i64.bits (2 ^ n - 1)).toNat = 2 ^ n - 1 := by
    rw [BitVec.toNat_ofInt, hb]
    have : ((2 : Int) ^ n - 1) = ((2 ^ n - 1 : Nat) : Int) := by
      rw [Int.ofNat_sub hp0]; simp
    rw [this]
    omega
  rw [BitVec.toNat_and, hm, Nat.and_two_pow_sub_one_eq_mod, BitVec.toNat_ofInt, hb]
  have hd : (2 ^ n : Int) ∣ ((2 ^ 64 : Nat) : Int) := ⟨2 ^ (64 - n), by
    rw [← Int.pow_add, show n + (64 - n) = 64 by omega]; rfl⟩
  have e1 : (((x % ((2 ^ 64 : Nat) : Int)).toNat % 2 ^ n : Nat) : Int) = x % 2 ^ n := by
    rw [Int.natCast_emod, Int.toNat_of_nonneg (Int.emod_nonneg _ (by decide))]
    simp only [Int.natCast_pow, Int.cast_ofNat_Int] at hd ⊢
    exact Int.emod_emod_of_dvd x hd
  rw [e1]
  have h2 : (0 : Int) < 2 ^ n := by exact_mod_cast hp0
  have h3 : ((2 : Int) ^ n) < 2 ^ 63 := by exact_mod_cast hp
  have h4 := Int.emod_nonneg x (show (2 : Int) ^ n ≠ 0 by omega)
  have h5 := Int.emod_lt_of_pos x h2
  rw [IntKind.wrap_i64]
  omega
end

theorem RdSl.ltb {w : World} {v : Value} {s m : Nat} {ys : List Value} (h : RdSl w v s ys m) (h0 : 0 < ys.length) : ∀ b ∈ slB v, b < w.heap.size := by
  obtain ⟨_, ⟨rfl, _⟩ | ⟨b, o, c, cs, rfl, hb, _⟩⟩ := h
  · exact absurd h0 (Nat.lt_irrefl _)
  · intro x hx
    simp [slB] at hx; subst hx
    exact hb.lt
theorem flat_get {α : Type} (f : α → List Value) (s : Nat) : ∀ (l : List α), (∀ x ∈ l, (f x).length = s) → ∀ (i : Nat) (h : i < l.length), ((l.flatMap f).drop (i * s)).take s = f l[i] := by
  intro l
  induction l with
  | nil => intro _ i h; exact absurd h (Nat.not_lt_zero _)
  | cons x r ih =>
    intro hl i h
    have h0 := hl x List.mem_cons_self
    rw [List.flatMap_cons]
    cases i with
    | zero =>
      rw [Nat.zero_mul, List.drop_zero, List.take_append_of_le_length (by omega), List.take_of_length_le (by omega)]
      rfl
    | succ i =>
      rw [Nat.add_mul, Nat.one_mul, Nat.add_comm (i * s) s, ← List.drop_drop, List.drop_append_of_le_length (by omega), List.drop_of_length_le (l := f x) (by omega), List.nil_append]
      exact ih (fun y hy => hl y (List.mem_cons_of_mem _ hy)) i (by simpa using h)
theorem flat_len {α : Type} (f : α → List Value) (s : Nat) : ∀ (l : List α), (∀ x ∈ l, (f x).length = s) → (l.flatMap f).length = l.length * s := by
  intro l
  induction l with
  | nil => intro _; simp
  | cons x r ih =>
    intro h
    rw [List.flatMap_cons, List.length_append, h x List.mem_cons_self, ih (fun y hy => h y (List.mem_cons_of_mem _ hy)), List.length_cons, Nat.add_mul]
    omega
/-- An element of a slice that may be read, by its cells. -/
theorem RdSl.elem {w : World} {v : Value} {s m i : Nat} {ys : List Value} (h : RdSl w v s ys m) (hi : i < m) (hs : 0 < s) (k : IntKind) :
    ∃ b o cs, (∀ K : VPost, K (.pointer (some ⟨b, o, none⟩)) w → idxW (some (none, s)) v (.int k i) w K) ∧ RBlk w b cs ∧ o + s ≤ cs.length ∧ (cs.drop o).take s = (ys.drop (i * s)).take s := by
  obtain ⟨hl, ⟨rfl, _⟩ | ⟨b, o, c, cs, rfl, hb, h1, h2⟩⟩ := h
  · have : 0 < m * s := Nat.mul_pos (by omega) hs
    rw [List.length_nil] at hl
    omega
  · have hi2 : i * s + s ≤ m * s := by
      have := Nat.mul_le_mul_right s (show i + 1 ≤ m from hi)
      rw [Nat.add_mul, Nat.one_mul] at this; exact this
    refine ⟨b, o + i * s, cs, fun K hK => idx_i hi hK, hb, by omega, ?_⟩
    rw [← h1, List.drop_take, List.take_take, List.drop_drop, Nat.min_eq_left (by omega)]
theorem at_get {cs ys : List Value} {o s j : Nat} (h : (cs.drop o).take s = ys) (hj : j < s) : cs[o + j]? = ys[j]? := by
  rw [← h, List.getElem?_take, if_pos hj, List.getElem?_drop]
theorem at_part {cs ys : List Value} {o s j n : Nat} (h : (cs.drop o).take s = ys) (hj : j + n ≤ s) : (cs.drop (o + j)).take n = (ys.drop j).take n := by
  rw [← h, List.drop_take, List.take_take, List.drop_drop, Nat.min_eq_left (by omega)]
def i64ok (x : Int) : Prop := -9223372036854775808 ≤ x ∧ x ≤ 9223372036854775807
theorem wf_i64 {n : Int} (h : (Lit.int .i64 n).wf = true) : i64ok n := by
  simp [Lit.wf] at h
  have k1 : IntKind.i64.min = -9223372036854775808 := by decide
  have k2 : IntKind.i64.max = 9223372036854775807 := by decide
  have k3 : n ≤ IntKind.i64.max := by have := h.2; omega
  exact ⟨by omega, by omega⟩
end Go.Proofs.YtbaddpnlokmldaaDoor
