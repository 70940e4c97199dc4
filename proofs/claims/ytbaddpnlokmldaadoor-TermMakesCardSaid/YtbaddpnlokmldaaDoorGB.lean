/- Memory by whole blocks, what is made, slices, numbers, things in hand. Condition of append: what stands behind takes at most 2^40 bytes. -/
import Derived.Test.YtbaddpnlokmldaaDoorRows
import Derived.Test.YtbaddpnlokmldaaDoorGA
import Derived.Below
namespace Go.Proofs.YtbaddpnlokmldaaDoor
open Go
set_option maxRecDepth 100000

theorem mixedG : Tryd.prog.follows .mixedOrders = true := by kernel_rfl

/-- A call enters the function. -/
def entersB (P : Program) (f : FuncId) : Bool :=
  match P.funcs[f]? with
  | some fn => fn.body.isSome && fn.name != "runtime.NumGoroutine"
  | none => false

theorem fnW_of {P : Program} {f : FuncId} {args : Array Value} {w : World} {K : VPost} (he : entersB P f = true) (h : Calls P f args w (retK K)) : fnW P f args w K := by
  unfold entersB at he
  unfold fnW callFunc
  cases hf : P.funcs[f]? with
  | none => simp [hf] at he
  | some fn =>
    simp only [hf, Bool.and_eq_true, bne_iff_ne, ne_eq] at he
    obtain ⟨h1, h2⟩ := he
    have h3 : fn.body.isNone = false := by cases hb : fn.body <;> simp [hb] at h1 ⊢
    simp only [Sem.run_bind, Go.program, Sem.run, Result.andThen_ok, hf, beq_iff_eq, h2, if_false, h3, Bool.false_eq_true, Sem.run_pure]
    exact h

/-- A block of cells that may be written. -/
def Blk (w : World) (b : Nat) (cs : List Value) (t : TypeId) : Prop := w.heap[b]? = some (.cells cs.toArray t (0, 0))
/-- A block of cells that may be read. -/
def RBlk (w : World) (b : Nat) (cs : List Value) : Prop := ∃ t fz, w.heap[b]? = some (.cells cs.toArray t fz)

/-- From the one world to the other the named blocks alone may have changed; new ones may have come. -/
structure Ext (S : List Nat) (w w' : World) : Prop where
  os : w'.os = w.os
  tape : w'.tape = w.tape
  output : w'.output = w.output
  size : w.heap.size ≤ w'.heap.size
  same : ∀ b, b < w.heap.size → b ∉ S → w'.heap[b]? = w.heap[b]?

theorem Ext.refl (S : List Nat) (w : World) : Ext S w w := ⟨rfl, rfl, rfl, Nat.le_refl _, fun _ _ _ => rfl⟩
theorem Ext.drew (S : List Nat) (w : World) : Ext S w w.drew := ⟨rfl, rfl, rfl, Nat.le_refl _, fun _ _ _ => rfl⟩
theorem Ext.step {S T : List Nat} {a b c : World} (h : Ext S a b) (k : Ext T b c) (hT : ∀ x ∈ T, x < a.heap.size → x ∈ S) : Ext S a c :=
  ⟨k.os.trans h.os, k.tape.trans h.tape, k.output.trans h.output, Nat.le_trans h.size k.size, fun x hx hn =>
    (k.same x (Nat.lt_of_lt_of_le hx h.size) (fun hm => hn (hT x hm hx))).trans (h.same x hx hn)⟩
/-- A step that touches nothing old. -/
theorem Ext.new {S : List Nat} {a b c : World} (h : Ext S a b) (k : Ext [] b c) : Ext S a c := h.step k (fun x hx => by cases hx)
theorem Ext.mono {S T : List Nat} {a b : World} (h : Ext S a b) (hs : ∀ x ∈ S, x < a.heap.size → x ∈ T) : Ext T a b :=
  ⟨h.os, h.tape, h.output, h.size, fun x hx hn => h.same x hx (fun hm => hn (hs x hm hx))⟩
theorem Ext.below {w w' : World} (h : Ext [] w w') : RowKit.Below w.heap.size w w' := ⟨h.os, h.tape, h.output, h.size, fun k hk => h.same k hk (by simp)⟩

theorem Blk.lt {w : World} {b : Nat} {cs : List Value} {t : TypeId} (h : Blk w b cs t) : b < w.heap.size := (Array.getElem?_eq_some_iff.1 h).1
theorem RBlk.lt {w : World} {b : Nat} {cs : List Value} (h : RBlk w b cs) : b < w.heap.size := by obtain ⟨t, fz, h⟩ := h; exact (Array.getElem?_eq_some_iff.1 h).1
theorem Blk.r {w : World} {b : Nat} {cs : List Value} {t : TypeId} (h : Blk w b cs t) : RBlk w b cs := ⟨t, _, h⟩
theorem Blk.keep {w w' : World} {b : Nat} {cs : List Value} {t : TypeId} {S : List Nat} (h : Blk w b cs t) (e : Ext S w w') (hn : b ∉ S) : Blk w' b cs t := (e.same b h.lt hn).trans h
theorem RBlk.keep {w w' : World} {b : Nat} {cs : List Value} {S : List Nat} (h : RBlk w b cs) (e : Ext S w w') (hn : b ∉ S) : RBlk w' b cs := by
  obtain ⟨t, fz, h'⟩ := h
  exact ⟨t, fz, (e.same b (Array.getElem?_eq_some_iff.1 h').1 hn).trans h'⟩
theorem Blk.inj {w : World} {b : Nat} {cs cs' : List Value} {t t' : TypeId} (h : Blk w b cs t) (h' : Blk w b cs' t') : cs = cs' := by
  unfold Blk at h h'
  rw [h] at h'
  simp only [Option.some.injEq, Obj.cells.injEq] at h'
  exact List.toArray_inj h'.1

section
variable {P : Program} {w : World} {K : VPost}

theorem size_al (w : World) (o : Obj) : (w.alloc o).heap.size = w.heap.size + 1 := by
  show (w.heap.push o).size = _
  simp

theorem ext_alloc (w : World) (o : Obj) : Ext [] w (w.alloc o) :=
  ⟨rfl, rfl, rfl, by rw [size_al]; omega, fun b hb _ => by
    show (w.heap.push o)[b]? = _
    rw [Array.getElem?_push, if_neg (by omega)]⟩

theorem alloc_new (w : World) (o : Obj) : (w.alloc o).heap[w.heap.size]? = some o := by
  show (w.heap.push o)[w.heap.size]? = _
  simp

theorem boxW_i {e : TypeId} {v : Value} (h : ∀ b w', w.heap.size = b → Ext [] w w' → Blk w' b v.cells.toList e → w'.heap.size = b + 1 → K (.pointer (some ⟨b, 0, none⟩)) w') : boxW e v w K := by
  unfold boxW
  refine h _ _ rfl (ext_alloc w _) ?_ (size_al w _)
  unfold Blk
  rw [alloc_new, Array.toArray_toList]

theorem allocW_i {e : TypeId} {z : Option Value} {v : Value} (hz : z = some v) (h : ∀ b w', w.heap.size = b → Ext [] w w' → Blk w' b v.cells.toList e → w'.heap.size = b + 1 → K (.pointer (some ⟨b, 0, none⟩)) w') : allocW z e w K := by
  subst hz
  exact boxW_i h

theorem load1 {n : Nat} {b o : Nat} {cs : List Value} {v : Value} (hb : RBlk w b cs) (hv : cs[o]? = some v) (h : K v w) : loadW (some (false, n)) (.pointer (some ⟨b, o, none⟩)) w K := by
  obtain ⟨t, fz, hb⟩ := hb
  exact ⟨_, t, fz, v, hb, rfl, by simpa using hv, h⟩

theorem extract_list (cs : List Value) (o n : Nat) : cs.toArray.extract o (o + n) = ((cs.drop o).take n).toArray := by
  apply Array.ext'
  simp [List.extract_eq_take_drop]

theorem loadN {n : Nat} {b o : Nat} {cs : List Value} (hb : RBlk w b cs) (hn : o + n ≤ cs.length) (h : K (.agg ((cs.drop o).take n).toArray) w) : loadW (some (true, n)) (.pointer (some ⟨b, o, none⟩)) w K := by
  obtain ⟨t, fz, hb⟩ := hb
  refine ⟨_, t, fz, hb, rfl, by simpa using hn, ?_⟩
  show K (.agg (cs.toArray.extract o (o + n))) w
  rw [extract_list]; exact h

theorem loadAll {n : Nat} {b : Nat} {cs : List Value} (hb : RBlk w b cs) (hn : cs.length = n) (h : K (.agg cs.toArray) w) : loadW (some (true, n)) (.pointer (some ⟨b, 0, none⟩)) w K :=
  loadN hb (by omega) (by rw [List.drop_zero, List.take_of_length_le (by omega)]; exact h)

/-- Cells with others in the place of some of them. -/
def lspl (cs : List Value) (o : Nat) (vs : List Value) : List Value := cs.take o ++ vs ++ cs.drop (o + vs.length)
theorem lspl_length {cs : List Value} {o : Nat} {vs : List Value} (h : o + vs.length ≤ cs.length) : (lspl cs o vs).length = cs.length := by
  simp [lspl]; omega

theorem ext_setB (w : World) (b : Nat) (o : Obj) : Ext [b] w (setB w b o) :=
  ⟨rfl, rfl, rfl, by simp [setB], fun x hx hn => by
    show (w.heap.setIfInBounds b o)[x]? = _
    rw [Array.getElem?_setIfInBounds, if_neg (by simp at hn; omega)]⟩

theorem storeW_i {g : Bool} {n : Nat} {b o : Nat} {cs vs : List Value} {t : TypeId} {v : Value} {K : World → Prop} (hb : Blk w b cs t) (hv : v.cells = vs.toArray) (hn : vs.length = n) (hle : o + n ≤ cs.length)
    (h1 : ∀ x ∈ vs, x.oneCell' = true) (h : ∀ w', Ext [b] w w' → Blk w' b (lspl cs o vs) t → w'.heap.size = w.heap.size → K w') : storeW (some (g, n)) (.pointer (some ⟨b, o, none⟩)) v w K := by
  refine ⟨_, t, hb, rfl, by rw [hv]; simpa using hn, by simpa using hle, by rw [hv]; exact Array.all_eq_true_iff_forall_mem.2 (fun x hx => h1 x (by simpa using hx)), ?_⟩
  refine h _ (ext_setB w b _) ?_ (by simp [setB])
  unfold Blk
  show (w.heap.setIfInBounds b _)[b]? = _
  rw [Array.getElem?_setIfInBounds]
  have : b < w.heap.size := hb.lt
  simp only [if_true, this]
  congr 2
  rw [hv]
  simp [spl, lspl]

theorem store1 {g : Bool} {b o : Nat} {cs : List Value} {t : TypeId} {v : Value} {K : World → Prop} (hb : Blk w b cs t) (hv : v.cells = #[v]) (hle : o < cs.length)
    (h1 : v.oneCell' = true) (h : ∀ w', Ext [b] w w' → Blk w' b (cs.set o v) t → w'.heap.size = w.heap.size → K w') : storeW (some (g, 1)) (.pointer (some ⟨b, o, none⟩)) v w K := by
  refine storeW_i (vs := [v]) hb hv rfl (by omega) (by simpa using h1) fun w' e hb' hs => h w' e ?_ hs
  have : lspl cs o [v] = cs.set o v := by
    unfold lspl
    rw [List.set_eq_take_append_cons_drop, if_pos hle]
    simp
  rw [← this]; exact hb'

theorem storeAll {n : Nat} {b : Nat} {cs vs : List Value} {t : TypeId} {K : World → Prop} (hb : Blk w b cs t) (hn : vs.length = n) (hc : cs.length = n)
    (h1 : ∀ x ∈ vs, x.oneCell' = true) (h : ∀ w', Ext [b] w w' → Blk w' b vs t → w'.heap.size = w.heap.size → K w') : storeW (some (true, n)) (.pointer (some ⟨b, 0, none⟩)) (.agg vs.toArray) w K := by
  refine storeW_i (vs := vs) hb rfl hn (by omega) h1 fun w' e hb' hs => h w' e ?_ hs
  have : lspl cs 0 vs = vs := by unfold lspl; simp; omega
  rwa [this] at hb'

theorem nil_i {a : Addr} (h : K (.pointer (some a)) w) : nilW (.pointer (some a)) w K := h
theorem off_i {b o k : Nat} (h : K (.pointer (some ⟨b, o + k, none⟩)) w) : offW (some k) (.pointer (some ⟨b, o, none⟩)) w K := by
  show K (.pointer (some (Addr.add ⟨b, o, none⟩ k))) w
  have : Addr.add ⟨b, o, none⟩ k = ⟨b, o + k, none⟩ := by unfold Addr.add; split <;> simp_all
  rw [this]; exact h
theorem add_addr (b o k : Nat) : Addr.add ⟨b, o, none⟩ k = ⟨b, o + k, none⟩ := by unfold Addr.add; split <;> simp_all

theorem idx_i {b o len cap sz : Nat} {k : IntKind} {i : Nat} (hi : i < len) (h : K (.pointer (some ⟨b, o + i * sz, none⟩)) w) :
    idxW (some (none, sz)) (.slice (some ⟨b, o, none⟩) len cap) (.int k i) w K := by
  refine ⟨by omega, by omega, ?_⟩
  rw [add_addr]; simpa using h
theorem idxA_i {b o n sz : Nat} {k : IntKind} {i : Nat} (hi : i < n) (h : K (.pointer (some ⟨b, o + i * sz, none⟩)) w) :
    idxW (some (some n, sz)) (.pointer (some ⟨b, o, none⟩)) (.int k i) w K := by
  refine ⟨by omega, by omega, ?_⟩
  rw [add_addr]; simpa using h

theorem gs_t {A : VPost → Prop} (h : A K) : gstep (.bool true) true w A K := h
theorem gs_f {A : VPost → Prop} (h : A K) : gstep (.bool false) false w A K := h
theorem gs_tf {A : VPost → Prop} (h : K undef w) : gstep (.bool true) false w A K := h
theorem gs_ft {A : VPost → Prop} (h : K undef w) : gstep (.bool false) true w A K := h

theorem cond_t {A B : Prop} (h : A) : condW (.bool true) A B := h
theorem cond_f {A B : Prop} (h : B) : condW (.bool false) A B := h
theorem cond_d {p : Prop} [Decidable p] {A B : Prop} (ht : p → A) (hf : ¬p → B) : condW (.bool (decide p)) A B := by
  by_cases h : p
  · simp only [h, decide_true]; exact ht h
  · simp only [h, decide_false]; exact hf h
theorem cond_b {b : Bool} {A B : Prop} (ht : b = true → A) (hf : b = false → B) : condW (.bool b) A B := by
  cases b
  · exact hf rfl
  · exact ht rfl

/-! ### Equations: operations on numbers and truths -/
theorem nilW_e {a : Addr} : nilW (.pointer (some a)) w K = K (.pointer (some a)) w := rfl
theorem condW_t {A B : Prop} : condW (.bool true) A B = A := rfl
theorem condW_f {A B : Prop} : condW (.bool false) A B = B := rfl
theorem gstep_t {A : VPost → Prop} : gstep (.bool true) true w A K = A K := rfl
theorem gstep_f {A : VPost → Prop} : gstep (.bool false) false w A K = A K := rfl
theorem gstep_tf {A : VPost → Prop} : gstep (.bool true) false w A K = K undef w := rfl
theorem gstep_ft {A : VPost → Prop} : gstep (.bool false) true w A K = K undef w := rfl
theorem gstep_u {b : Bool} {A : VPost → Prop} : gstep undef b w A K = K undef w := rfl
theorem pickW_t {a b : Value} : pickW (.bool true) a b w K = K a w := rfl
theorem pickW_f {a b : Value} : pickW (.bool false) a b w K = K b w := rfl
theorem extrW_e {vs : List Value} {i : Nat} {x : Value} (h : vs[i]? = some x) (hK : K x w) : extrW (.tuple vs.toArray) i w K := ⟨x, by simpa using h, hK⟩
theorem extr0 {a b : Value} : extrW (.tuple #[a, b]) 0 w K = K a w := by simp [extrW]
theorem extr1 {a b : Value} : extrW (.tuple #[a, b]) 1 w K = K b w := by simp [extrW]
theorem len_s {ts : Array TypeId} {t : TypeId} {a : Option Addr} {n c : Nat} : lenW P (some true) ts t #[.slice a n c] w K = K (.int .i64 n) w := rfl
theorem len_str {ts : Array TypeId} {t : TypeId} {s : ByteArray} : lenW P (some false) ts t #[.string s] w K = K (.int .i64 s.size) w := rfl
theorem not_e {b : Bool} : insW P (Op.unary .not (.bool b)) w K = K (.bool !b) w := rfl

section ints
variable {t : TypeId} {c : Bool} {k : IntKind} {x y : Int}
theorem bin_add : binW P .add t c (.int k x) (.int k y) w K = K (.int k (k.wrap (x + y))) w := by
  simp [binW, binE, guardE, eqGuard, binOp, Op.intArith, insW, okW, Sem.run_bind]
theorem bin_sub : binW P .sub t c (.int k x) (.int k y) w K = K (.int k (k.wrap (x - y))) w := by
  simp [binW, binE, guardE, eqGuard, binOp, Op.intArith, insW, okW, Sem.run_bind]
theorem bin_mul : binW P .mul t c (.int k x) (.int k y) w K = K (.int k (k.wrap (x * y))) w := by
  simp [binW, binE, guardE, eqGuard, binOp, Op.intArith, insW, okW, Sem.run_bind]
theorem bin_eql : binW P .eql t c (.int k x) (.int k y) w K = K (.bool (x == y)) w := by
  simp [binW, binE, guardE, eqGuard, binOp, Op.intCmp, insW, okW, Sem.run_bind]
theorem bin_neq : binW P .neq t c (.int k x) (.int k y) w K = K (.bool (x != y)) w := by
  simp [binW, binE, guardE, eqGuard, binOp, Op.intCmp, insW, okW, Sem.run_bind]
theorem bin_lss : binW P .lss t c (.int k x) (.int k y) w K = K (.bool (decide (x < y))) w := by
  simp [binW, binE, guardE, eqGuard, binOp, Op.intCmp, insW, okW, Sem.run_bind]
theorem bin_leq : binW P .leq t c (.int k x) (.int k y) w K = K (.bool (decide (x ≤ y))) w := by
  simp [binW, binE, guardE, eqGuard, binOp, Op.intCmp, insW, okW, Sem.run_bind]
theorem bin_gtr : binW P .gtr t c (.int k x) (.int k y) w K = K (.bool (decide (y < x))) w := by
  simp [binW, binE, guardE, eqGuard, binOp, Op.intCmp, insW, okW, Sem.run_bind]
theorem bin_geq : binW P .geq t c (.int k x) (.int k y) w K = K (.bool (decide (y ≤ x))) w := by
  simp [binW, binE, guardE, eqGuard, binOp, Op.intCmp, insW, okW, Sem.run_bind]
theorem bin_quo (h : y ≠ 0) : binW P .quo t c (.int k x) (.int k y) w K = K (.int k (k.wrap (x.tdiv y))) w := by
  simp [binW, binE, guardE, eqGuard, binOp, Op.intDiv, insW, okW, Sem.run_bind, h]
theorem bin_rem (h : y ≠ 0) : binW P .rem t c (.int k x) (.int k y) w K = K (.int k (x.tmod y)) w := by
  simp [binW, binE, guardE, eqGuard, binOp, Op.intDiv, insW, okW, Sem.run_bind, h]
theorem bin_shl {k' : IntKind} {y : Int} (h : 0 ≤ y) : binW P .shl t c (.int k x) (.int k' y) w K = K (.int k (k.wrap (x * 2 ^ (min y.toNat k.bits)))) w := by
  have : ¬ y < 0 := by omega
  simp [binW, binE, guardE, eqGuard, binOp, Op.shift, insW, okW, Sem.run_bind, this]
theorem bin_shr {k' : IntKind} {y : Int} (h : 0 ≤ y) : binW P .shr t c (.int k x) (.int k' y) w K = K (.int k (x.fdiv (2 ^ (min y.toNat k.bits)))) w := by
  have : ¬ y < 0 := by omega
  simp [binW, binE, guardE, eqGuard, binOp, Op.shift, insW, okW, Sem.run_bind, this]
end ints

theorem bin_equal {t : TypeId} {c r : Bool} {a b : Value} (hg : ∀ w, (guardE .eql t c a b).run P w = .ok () w) (hb : binOp .eql t a b = do pure (.bool (← Op.equal t a b))) (he : (Op.equal t a b).run P w = .ok r w) :
    binW P .eql t c a b w K = K (.bool r) w := by
  unfold binW insW binE
  rw [Sem.run_bind, hg, Result.andThen_ok, hb, Sem.run_bind, he]
  rfl
theorem bin_nequal {t : TypeId} {c r : Bool} {a b : Value} (hg : ∀ w, (guardE .neq t c a b).run P w = .ok () w) (hb : binOp .neq t a b = do pure (.bool (!(← Op.equal t a b)))) (he : (Op.equal t a b).run P w = .ok r w) :
    binW P .neq t c a b w K = K (.bool (!r)) w := by
  unfold binW insW binE
  rw [Sem.run_bind, hg, Result.andThen_ok, hb, Sem.run_bind, he]
  rfl
theorem equalIn_ptr_nil {t : TypeId} {a : Addr} {e : TypeId} (hu : P.underlying t = some (.pointer e)) (d : Nat) : (Op.equalIn (d + 1) t (.pointer (some a)) (.pointer none)).run P w = .ok false w := by
  unfold Op.equalIn
  rw [Sem.run_bind, run_und hu]
  rfl
theorem equalIn_nil_nil {t : TypeId} {e : TypeId} (hu : P.underlying t = some (.pointer e)) (d : Nat) : (Op.equalIn (d + 1) t (.pointer none) (.pointer none)).run P w = .ok true w := by
  unfold Op.equalIn
  rw [Sem.run_bind, run_und hu]
  rfl
theorem equal_ptr_nil {t : TypeId} {a : Addr} {e : TypeId} (hu : P.underlying t = some (.pointer e)) : (Op.equal t (.pointer (some a)) (.pointer none)).run P w = .ok false w := equalIn_ptr_nil hu 9999
theorem equal_nil_nil {t : TypeId} {e : TypeId} (hu : P.underlying t = some (.pointer e)) : (Op.equal t (.pointer none) (.pointer none)).run P w = .ok true w := equalIn_nil_nil hu 9999
theorem ptr_eql_nil {t : TypeId} {c : Bool} {a : Addr} {e : TypeId} (hu : P.underlying t = some (.pointer e)) : binW P .eql t c (.pointer (some a)) (.pointer none) w K = K (.bool false) w :=
  bin_equal (fun _ => by cases c <;> rfl) rfl (equal_ptr_nil hu)
theorem nil_eql_nil {t : TypeId} {c : Bool} {e : TypeId} (hu : P.underlying t = some (.pointer e)) : binW P .eql t c (.pointer none) (.pointer none) w K = K (.bool true) w :=
  bin_equal (fun _ => by cases c <;> rfl) rfl (equal_nil_nil hu)
theorem ptr_neq_nil {t : TypeId} {c : Bool} {a : Addr} {e : TypeId} (hu : P.underlying t = some (.pointer e)) : binW P .neq t c (.pointer (some a)) (.pointer none) w K = K (.bool true) w :=
  bin_nequal (fun _ => by cases c <;> rfl) rfl (equal_ptr_nil hu)

/-- Where ways part and meet again: what is to follow stands under a name. -/
theorem bindX_i {k : XPost} {F : XPost → Prop} (h : ∀ J : XPost, (∀ e fr w, k e fr w → J e fr w) → F J) : bindX k F := h k fun _ _ _ h => h

theorem loop_i {B : Fr → World → XPost → Prop} {fr : Fr} {w : World} {K : XPost} (I : Nat → Fr → World → Prop) (m : Nat) (h0 : I m fr w)
    (hr : ∀ m fr w (J : XPost), I m fr w → (∀ k fr w, k < m → I k fr w → J .normal fr w) → (∀ e fr w, e ≠ .normal → K e fr w → J e fr w) → B fr w J) : loopW B fr w K := by
  refine ⟨I, ⟨m, h0⟩, fun m fr w hI => hr m fr w _ hI (fun k fr w hk hI => ⟨k, hk, hI⟩) (fun e fr w he hK => ?_)⟩
  cases e <;> first
    | exact absurd rfl he
    | exact hK
end

section
variable {P : Program} {w : World} {K : VPost}

theorem insW_ok {s : Sem Value} {v : Value} {w' : World} (hr : s.run P w = .ok v w') (h : K v w') : insW P s w K := by
  unfold insW; rw [hr]; exact h

/-! ### Filling -/
theorem foldl_zip_set (vs : List Value) : ∀ (cs : Array Value) (o k : Nat), o + k + vs.length ≤ cs.size →
    (vs.zipIdx k).foldl (fun cs (p : Value × Nat) => cs.setIfInBounds (o + p.2) p.1) cs = (lspl cs.toList (o + k) vs).toArray := by
  induction vs with
  | nil => intro cs o k _; simp [lspl]
  | cons v r ih =>
    intro cs o k h
    simp only [List.length_cons] at h
    rw [List.zipIdx_cons, List.foldl_cons, ih _ _ _ (by simp; omega)]
    apply congrArg
    unfold lspl
    simp only [Array.toList_setIfInBounds, List.length_cons]
    have e := list_seg_step cs.toList (o + k) v r (by simp; omega)
    simpa [Nat.add_assoc, Nat.add_comm, Nat.add_left_comm] using e

theorem fill_cons {place : Nat → Option (Nat × Nat)} {cs : List Value} {i off : Nat} {v : Value} {rest : List (Nat × Value)} (hp : place i = some (off, v.cells.size)) (hle : off + v.cells.size ≤ cs.length) :
    Instr.fill place cs.toArray ((i, v) :: rest) = Instr.fill place (lspl cs off v.cells.toList).toArray rest := by
  rw [Instr.fill, hp]
  simp only [ne_eq, not_true_eq_false, List.size_toArray, decide_false, Bool.false_or, decide_eq_true_eq]
  rw [if_neg (by omega)]
  congr 1
  have := foldl_zip_set v.cells.toList cs.toArray off 0 (by simpa using hle)
  rw [Nat.add_zero] at this
  rw [← this, ← Array.foldl_toList, Array.toList_zipIdx]

theorem lspl_lspl (cs : List Value) (o : Nat) (a b : List Value) (h : o + a.length + b.length ≤ cs.length) : lspl (lspl cs o a) (o + a.length) b = lspl cs o (a ++ b) := by
  unfold lspl
  have hT : (cs.take o ++ a).length = o + a.length := by simp; omega
  rw [List.take_left' hT, List.drop_append, List.drop_of_length_le (by rw [hT]; omega), hT, List.nil_append, List.drop_drop, List.append_assoc (cs.take o), List.length_append]
  congr 2
  omega

def enumV : Nat → List Value → List (Nat × Value)
  | _, [] => []
  | k, v :: r => (k, v) :: enumV (k + 1) r

def flatV (vs : List Value) : List Value := vs.flatMap fun v => v.cells.toList

theorem flatV_length {vs : List Value} {s : Nat} (h : ∀ v ∈ vs, v.cells.size = s) : (flatV vs).length = vs.length * s := by
  induction vs with
  | nil => simp [flatV]
  | cons v r ih =>
    have := ih (fun x hx => h x (List.mem_cons_of_mem _ hx))
    have h0 := h v List.mem_cons_self
    simp only [flatV, List.flatMap_cons, List.length_append, Array.length_toList, h0, List.length_cons, Nat.add_mul, Nat.one_mul] at this ⊢
    omega

theorem fill_enum {s : Nat} (vs : List Value) : ∀ (k : Nat) (cs : List Value), (∀ v ∈ vs, v.cells.size = s) → (k + vs.length) * s ≤ cs.length →
    Instr.fill (fun i => some (i * s, s)) cs.toArray (enumV k vs) = some (lspl cs (k * s) (flatV vs)).toArray := by
  induction vs with
  | nil => intro k cs _ _; simp [enumV, Instr.fill, lspl, flatV]
  | cons v r ih =>
    intro k cs h hle
    have h0 := h v List.mem_cons_self
    have hr := fun x hx => h x (List.mem_cons_of_mem v hx)
    simp only [List.length_cons] at hle
    have hmul : (k + (r.length + 1)) * s = k * s + s + r.length * s := by rw [Nat.add_mul, Nat.add_mul, Nat.one_mul]; omega
    rw [hmul] at hle
    unfold enumV
    rw [fill_cons (by rw [h0]) (by rw [h0]; omega)]
    have hl : (lspl cs (k * s) v.cells.toList).length = cs.length := lspl_length (by simp only [Array.length_toList, h0]; omega)
    rw [ih (k + 1) _ hr (by rw [hl, Nat.add_mul, Nat.add_mul, Nat.one_mul]; omega)]
    have hf := flatV_length hr
    have e1 : (k + 1) * s = k * s + s := by rw [Nat.add_mul, Nat.one_mul]
    have e2 : flatV (v :: r) = v.cells.toList ++ flatV r := by simp [flatV]
    have hv : v.cells.toList.length = s := by simp [h0]
    rw [e1, e2]
    have := lspl_lspl cs (k * s) v.cells.toList (flatV r) (by omega)
    rw [hv] at this
    rw [this]

theorem buildSlice_i {t e : TypeId} {i : TypeInfo} {z : Value} {vs : List Value} {parts : List (Nat × Value)} (hu : P.underlying t = some (.slice e)) (hi : P.info? e = some i) (hz : i.zero = some z)
    (hp : parts = enumV 0 vs) (hs : ∀ v ∈ vs, v.cells.size = i.size) (hsm : vs.length * i.size ≤ 2 ^ 24)
    (h : ∀ b w', w.heap.size = b → Ext [] w w' → Blk w' b (flatV vs) e → w'.heap.size = b + 1 → K (.slice (some ⟨b, 0, none⟩) vs.length vs.length) w') :
    insW P (Instr.buildSlice t vs.length parts.toArray) w K := by
  have hz' : zeroO P e = some z := by simp [zeroO, hi, hz]
  refine insW_ok (v := .slice (some ⟨w.heap.size, 0, none⟩) vs.length vs.length) (w' := w.alloc (.cells (flatV vs).toArray e)) ?_ (h _ _ rfl (ext_alloc w _) (alloc_new w _) (size_al w _))
  unfold Instr.buildSlice
  have key : ∀ (zs : Array Value), Instr.fill (fun j => some (j * i.size, i.size)) ((Array.range (vs.length * i.size)).map (zs[· % zs.size]!)) (enumV 0 vs) = some (flatV vs).toArray := by
    intro zs
    have := fill_enum (s := i.size) vs 0 ((Array.range (vs.length * i.size)).map (zs[· % zs.size]!)).toList hs (by simp)
    rw [Array.toArray_toList] at this
    rw [this]
    have hf := flatV_length hs
    congr 2
    unfold lspl
    simp only [Nat.zero_mul, List.take_zero, List.nil_append, Nat.zero_add]
    rw [List.drop_of_length_le (by simp; omega), List.append_nil]
  simp only [Sem.run_bind, run_und hu, Result.andThen_ok, run_size hi]
  rw [if_neg (by omega)]
  have hfin : ∀ zs : Array Value, (do
      let some cells := Instr.fill (fun j => some (j * i.size, i.size)) ((Array.range (vs.length * i.size)).map (zs[· % zs.size]!)) parts.toArray.toList
        | stuck "buildSlice: a part of the wrong size"
      pure (.slice (some (← newRow e cells)) vs.length vs.length) : Sem Value).run P w = .ok (.slice (some ⟨w.heap.size, 0, none⟩) vs.length vs.length) (w.alloc (.cells (flatV vs).toArray e)) := by
    intro zs
    rw [show parts.toArray.toList = enumV 0 vs from hp, key zs]
    rfl
  by_cases h0 : vs.length * i.size = 0
  · rw [if_pos h0]
    simp only [Sem.run_bind, Sem.run_pure, Result.andThen_ok]
    exact hfin #[]
  · rw [if_neg h0]
    have hzr : (zeroValue e).run P w = .ok z w := by
      unfold zeroValue; simp only [Sem.run_bind, run_info hi, Result.andThen_ok, hz, Sem.run_pure]
    simp only [Sem.run_bind, hzr, Result.andThen_ok, Sem.run_pure]
    exact hfin z.cells

/-- make of a slice of elements whose zero value's cells are all one value. -/
theorem makeSlice_i {t e : TypeId} {i : TypeInfo} {z : Value} {z0 : Value} {n c : Nat} {kl kc : IntKind} (hu : P.underlying t = some (.slice e)) (hi : P.info? e = some i) (hz : i.zero = some z)
    (hzc : z.cells = Array.replicate i.size z0) (hnc : n ≤ c) (hsm : i.bytes * c ≤ 2 ^ 48) (hc : c < 2 ^ 63)
    (h : ∀ b w', w.heap.size = b → Ext [] w w' → Blk w' b (List.replicate (c * i.size) z0) e → w'.heap.size = b + 1 → K (.slice (some ⟨b, 0, none⟩) n c) w') :
    insW P (Instr.makeSlice t (.int kl n) (.int kc c)) w K := by
  refine insW_ok (v := .slice (some ⟨w.heap.size, 0, none⟩) n c) (w' := w.alloc (.cells (List.replicate (c * i.size) z0).toArray e)) ?_ (h _ _ rfl (ext_alloc w _) (alloc_new w _) (size_al w _))
  unfold Instr.makeSlice
  have hwr : ∀ m : Nat, m < 2 ^ 63 → IntKind.i64.wrap (m : Int) = m := by
    intro m hm
    rw [IntKind.wrap_i64]
    omega
  have hn : n < 2 ^ 63 := by omega
  have hb : ((i.bytes : Int) * (c : Int)) ≤ 2 ^ 48 := by
    have : ((i.bytes * c : Nat) : Int) ≤ ((2 ^ 48 : Nat) : Int) := Int.ofNat_le.2 hsm
    simpa using this
  have hroom : ∀ (m : Nat) (w : World), (askRoom m).run P w = .ok () w := by
    intro m w
    unfold askRoom
    split <;> rfl
  simp only [Sem.run_bind, run_und hu, Result.andThen_ok, asInt, asIntOf, Sem.run_pure, run_info hi, hwr n hn, hwr c hc]
  rw [if_neg (by simp; omega)]
  simp only [Sem.run_bind, hroom, Result.andThen_ok, run_size hi, Int.toNat_natCast]
  have hcells : ∀ zs : Array Value, (c * i.size ≠ 0 → zs = z.cells) → (Array.range (c * i.size)).map (zs[· % zs.size]!) = (List.replicate (c * i.size) z0).toArray := by
    intro zs hzs
    apply Array.ext
    · simp
    · intro j h1 h2
      simp at h1
      have h0 : c * i.size ≠ 0 := by omega
      have hp : 0 < i.size := by
        rcases Nat.eq_zero_or_pos i.size with e | e
        · rw [e] at h0; simp at h0
        · exact e
      have hzz := (hzs h0).trans hzc
      have := Nat.mod_lt j hp
      subst hzz
      simp [this]
  by_cases h0 : c * i.size = 0
  · rw [if_pos h0]
    simp only [Sem.run_pure, Sem.run_bind, Result.andThen_ok]
    rw [hcells #[] (fun h => absurd h0 h)]
    rfl
  · rw [if_neg h0]
    have hzr : (zeroValue e).run P w = .ok z w := by
      unfold zeroValue; simp only [Sem.run_bind, run_info hi, Result.andThen_ok, hz, Sem.run_pure]
    simp only [Sem.run_bind, hzr, Result.andThen_ok, Sem.run_pure]
    rw [hcells z.cells (fun _ => rfl)]
    rfl

/-- A struct out of its parts. -/
def fillL (pl : List (Nat × Nat)) : List Value → List (Nat × Value) → Option (List Value)
  | cs, [] => some cs
  | cs, (i, v) :: r =>
    match pl[i]? with
    | some (off, size) => if v.cells.size = size ∧ off + size ≤ cs.length then fillL pl (lspl cs off v.cells.toList) r else none
    | none => none

theorem fill_L {pl : List (Nat × Nat)} : ∀ {parts : List (Nat × Value)} {cs out : List Value}, fillL pl cs parts = some out → Instr.fill (pl[·]?) cs.toArray parts = some out.toArray := by
  intro parts
  induction parts with
  | nil => intro cs out h; simp only [fillL, Option.some.injEq] at h; subst h; rfl
  | cons p r ih =>
    intro cs out h
    obtain ⟨i, v⟩ := p
    unfold fillL at h
    split at h
    · rename_i off size hp
      split at h
      · rename_i hc
        obtain ⟨h1, h2⟩ := hc
        subst h1
        rw [fill_cons hp h2]
        exact ih h
      · cases h
    · cases h

def placesO (P : Program) : List Field → Option (List (Nat × Nat))
  | [] => some []
  | f :: r => match P.info? f.type, placesO P r with
    | some i, some l => some ((f.offset, i.size) :: l)
    | _, _ => none

theorem places_run : ∀ {fs : List Field} {l : List (Nat × Nat)}, placesO P fs = some l → (fs.mapM fun (f : Field) => (do pure (f.offset, ← sizeOf f.type) : Sem (Nat × Nat))).run P w = .ok l w := by
  intro fs
  induction fs with
  | nil => intro l h; simp only [placesO, Option.some.injEq] at h; subst h; rfl
  | cons f r ih =>
    intro l h
    unfold placesO at h
    split at h
    · rename_i i l' hi hl
      simp only [Option.some.injEq] at h
      subst h
      simp only [List.mapM_cons, Sem.run_bind, run_size hi, Result.andThen_ok, Sem.run_pure, ih hl]
    · cases h

/-- A struct type's places, and its zero value's cells. -/
def strI (P : Program) (t : TypeId) : Option (List (Nat × Nat) × List Value) :=
  match P.underlying t, (P.info? t).bind (·.zero) with
  | some (.struct fs), some z => (placesO P fs.toList).map fun l => (l, z.cells.toList)
  | _, _ => none

theorem build_i {t : TypeId} {parts : List (Nat × Value)} {pl : List (Nat × Nat)} {zc out : List Value} (hs : strI P t = some (pl, zc)) (hf : fillL pl zc parts = some out) (h : K (.agg out.toArray) w) :
    insW P (Instr.build t parts.toArray) w K := by
  unfold strI at hs
  split at hs
  · rename_i fs z hu hz
    rw [Option.map_eq_some_iff] at hs
    obtain ⟨l, hl, he⟩ := hs
    simp only [Prod.mk.injEq] at he
    obtain ⟨rfl, rfl⟩ := he
    rw [Option.bind_eq_some_iff] at hz
    obtain ⟨i, hi, hz⟩ := hz
    refine insW_ok ?_ h
    unfold Instr.build
    have hzr : (zeroValue t).run P w = .ok z w := by
      unfold zeroValue; simp only [Sem.run_bind, run_info hi, Result.andThen_ok, hz, Sem.run_pure]
    have hpl : (fs.mapM fun (f : Field) => (do pure (f.offset, ← sizeOf f.type) : Sem (Nat × Nat))).run P w = .ok l.toArray w := by
      rw [Array.mapM_eq_mapM_toList, map_eq_pure_bind, Sem.run_bind, places_run hl]
      rfl
    simp only [Sem.run_bind, hzr, Result.andThen_ok, run_und hu, hpl]
    have := fill_L hf
    rw [Array.toArray_toList] at this
    simp only [List.getElem?_toArray, this, Sem.run_pure]
  · cases hs
end

/-- A slice that is nil, or has a block of its own. -/
def OwnSl (w : World) (v : Value) (e : TypeId) (s : Nat) (xs : List Value) (n : Nat) : Prop :=
  (v = .slice none 0 0 ∧ n = 0 ∧ xs = []) ∨ ∃ b c rest, v = .slice (some ⟨b, 0, none⟩) n c ∧ Blk w b (xs ++ rest) e ∧ xs.length = n * s ∧ (xs ++ rest).length = c * s ∧ n ≤ c

/-- A slice that may be read. -/
def RdSl (w : World) (v : Value) (s : Nat) (ys : List Value) (m : Nat) : Prop :=
  ys.length = m * s ∧ ((ys = [] ∧ ∃ a c, v = .slice a m c) ∨ ∃ b o c cs, v = .slice (some ⟨b, o, none⟩) m c ∧ RBlk w b cs ∧ (cs.drop o).take (m * s) = ys ∧ o + m * s ≤ cs.length)

def slB : Value → List Nat
  | .slice (some a) _ _ => [a.block]
  | _ => []

theorem OwnSl.rd {w : World} {v : Value} {e : TypeId} {s : Nat} {xs : List Value} {n : Nat} (h : OwnSl w v e s xs n) : RdSl w v s xs n := by
  rcases h with ⟨rfl, rfl, rfl⟩ | ⟨b, c, rest, rfl, hb, hl, hc, hn⟩
  · exact ⟨by simp, .inl ⟨rfl, _, _, rfl⟩⟩
  · refine ⟨hl, .inr ⟨b, 0, c, _, rfl, hb.r, ?_, ?_⟩⟩
    · rw [List.drop_zero, ← hl, List.take_left]
    · simp only [List.length_append]; omega

theorem OwnSl.keep {w w' : World} {v : Value} {e : TypeId} {s : Nat} {xs : List Value} {n : Nat} {S : List Nat} (h : OwnSl w v e s xs n) (k : Ext S w w') (hd : ∀ b ∈ slB v, b ∉ S) : OwnSl w' v e s xs n := by
  rcases h with ⟨rfl, rfl, rfl⟩ | ⟨b, c, rest, rfl, hb, hl, hc, hn⟩
  · exact .inl ⟨rfl, rfl, rfl⟩
  · exact .inr ⟨b, c, rest, rfl, hb.keep k (hd b (by simp [slB])), hl, hc, hn⟩

theorem RdSl.keep {w w' : World} {v : Value} {s : Nat} {ys : List Value} {m : Nat} {S : List Nat} (h : RdSl w v s ys m) (k : Ext S w w') (hd : ∀ b ∈ slB v, b ∉ S) : RdSl w' v s ys m := by
  obtain ⟨hl, h⟩ := h
  refine ⟨hl, ?_⟩
  rcases h with h | ⟨b, o, c, cs, rfl, hb, h1, h2⟩
  · exact .inl h
  · exact .inr ⟨b, o, c, cs, rfl, hb.keep k (hd b (by simp [slB])), h1, h2⟩

theorem OwnSl.lt {w : World} {v : Value} {e : TypeId} {s : Nat} {xs : List Value} {n : Nat} (h : OwnSl w v e s xs n) : ∀ b ∈ slB v, b < w.heap.size := by
  intro x hx
  rcases h with ⟨rfl, _, _⟩ | ⟨b, c, rest, rfl, hb, _⟩
  · simp [slB] at hx
  · simp [slB] at hx; subst hx; exact hb.lt

theorem RdSl.len {w : World} {v : Value} {s : Nat} {ys : List Value} {m : Nat} (h : RdSl w v s ys m) : ∃ a c, v = .slice a m c := by
  rcases h.2 with ⟨_, a, c, rfl⟩ | ⟨b, o, c, cs, rfl, _⟩ <;> exact ⟨_, _, rfl⟩

section
variable {P : Program} {w : World} {K : VPost}

theorem run_loads {b o n : Nat} {cs : List Value} {t : TypeId} {fz : Nat × Nat} (hb : w.heap[b]? = some (.cells cs.toArray t fz)) (hn : o + n ≤ cs.length) :
    (loadCells ⟨b, o, none⟩ n).run P w = .ok ((cs.drop o).take n).toArray w := by
  have hl := run_loadCells_list (P := P) w ⟨b, o, none⟩ ((cs.drop o).take n) (fun j v hv => by
    rw [add_addr, cell_blk hb]
    rw [List.getElem?_take] at hv
    split at hv
    · simpa using hv
    · cases hv)
  have : ((cs.drop o).take n).length = n := by simp; omega
  rwa [this] at hl

theorem RdSl.first {v : Value} {s : Nat} {ys : List Value} {m : Nat} (h : RdSl w v s ys m) : (Builtin.firstCells s m v).run P w = .ok ys.toArray w := by
  obtain ⟨hl, ⟨rfl, a, c, rfl⟩ | ⟨b, o, c, cs, rfl, hb, h1, h2⟩⟩ := h
  · have h0 : m * s = 0 := by simpa using hl.symm
    cases a with
    | none => rfl
    | some a =>
      show (loadCells a (m * s)).run P w = _
      rw [h0]; rfl
  · obtain ⟨t, fz, hb⟩ := hb
    show (loadCells ⟨b, o, none⟩ (m * s)).run P w = _
    rw [run_loads hb h2, h1]

theorem next_le (need cap : Nat) (h : cap < need) : Builtin.nextslicecap need cap ≤ 2 * need + 600 := by
  have grow : ∀ (r c : Nat), c ≤ 2 * need + 600 → Builtin.growBy need r c ≤ 2 * need + 600 := by
    intro r
    induction r with
    | zero => intro c hc; exact hc
    | succ r ih =>
      intro c hc
      unfold Builtin.growBy
      split
      · exact hc
      · exact ih _ (by omega)
  unfold Builtin.nextslicecap
  split
  · omega
  · split
    · omega
    · exact grow 4 cap (by omega)

theorem zeroCells_size (z : Array Value) (n : Nat) : (Builtin.zeroCells z n).size = n * z.size := by simp [Builtin.zeroCells]

theorem run_askRoom (m : Nat) (w : World) : (askRoom m).run P w = .ok () w := by
  unfold askRoom; split <;> rfl

/-- append, within the capacity. -/
theorem run_append_in {T T' ty e e' : TypeId} {i : TypeInfo} {x : Value} {ys : List Value} {n m cap : Nat} {base : Option Addr}
    (hu : P.underlying T = some (.slice e)) (hu' : P.underlying T' = some (.slice e')) (hi : P.info? e = some i) (hx : RdSl w x i.size ys m) (hc : n + m ≤ cap) :
    (Builtin.append_ #[T, T'] ty #[.slice base n cap, x]).run P w = ((match base with | some a => storeCells (a.add (n * i.size)) ys | none => pure ()).run P w).andThen fun _ w' => .ok (.slice base (n + m) cap) w' := by
  have hlx : (Builtin.lenOf x).run P w = .ok m w := by obtain ⟨a, c, rfl⟩ := hx.len; rfl
  have hfx := hx.first (P := P)
  unfold Builtin.append_
  simp only [List.getElem?_toArray, List.getElem?_cons_zero, List.getElem?_cons_succ, Sem.run_bind, run_und hu, run_und hu', Result.andThen_ok, run_size hi, Sem.run_pure, Bool.false_eq_true, if_false, Bool.not_false, if_true, hlx, hc, hfx]
  cases base with
  | none => rfl
  | some a => simp only [Sem.run_bind, Sem.run_pure]

/-- append, beyond it. -/
theorem run_append_out {T T' ty e e' : TypeId} {i : TypeInfo} {z x : Value} {xs ys : List Value} {n m cap : Nat} {base : Option Addr}
    (hu : P.underlying T = some (.slice e)) (hu' : P.underlying T' = some (.slice e')) (hi : P.info? e = some i) (hz : i.zero = some z) (hbp : 0 < i.bytes)
    (hv : RdSl w (.slice base n cap) i.size xs n) (hx : RdSl w x i.size ys m) (hc : cap < n + m) (hsm : (n + m) * i.bytes + 600 * i.bytes ≤ 2 ^ 40) :
    ∃ c', n + m ≤ c' ∧ (Builtin.append_ #[T, T'] ty #[.slice base n cap, x]).run P w =
      .ok (.slice (some ⟨w.heap.size, 0, none⟩) (n + m) c') (w.drew.alloc (.cells (xs.toArray ++ ys.toArray ++ Builtin.zeroCells z.cells (c' - (n + m))) e)) := by
  have hlx : (Builtin.lenOf x).run P w = .ok m w := by obtain ⟨a, c, rfl⟩ := hx.len; rfl
  have hfx : (Builtin.firstCells i.size m x).run P w.drew = .ok ys.toArray w.drew := RdSl.first (w := w.drew) (hx.keep (Ext.drew [] w) (by simp))
  have hfv : (Builtin.firstCells i.size n (.slice base n cap)).run P w.drew = .ok xs.toArray w.drew := RdSl.first (w := w.drew) (hv.keep (Ext.drew [] w) (by simp))
  have hnl := next_le (n + m) cap hc
  have hb : Builtin.nextslicecap (n + m) cap * i.bytes ≤ 2 ^ 48 := by
    have h2 := Nat.mul_le_mul_right i.bytes hnl
    have h3 : (2 * (n + m) + 600) * i.bytes = 2 * ((n + m) * i.bytes) + 600 * i.bytes := by rw [Nat.add_mul, Nat.mul_assoc]
    omega
  have hzr : ∀ w, (zeroValue e).run P w = .ok z w := fun w => by
    unfold zeroValue; simp only [Sem.run_bind, run_info hi, Result.andThen_ok, hz, Sem.run_pure]
  have h0 : ¬ i.bytes = 0 := by omega
  have hc' : ¬ n + m ≤ cap := by omega
  have hch : (choose (.appendCap (n + m) cap e)).run P w = .ok (n + m + w.tape w.drawn (.appendCap (n + m) cap e) % (2 ^ 63 - (n + m))) w.drew := rfl
  refine ⟨_, Nat.le_add_right _ (w.tape w.drawn (.appendCap (n + m) cap e) % (2 ^ 63 - (n + m))), ?_⟩
  unfold Builtin.append_
  simp only [List.getElem?_toArray, List.getElem?_cons_zero, List.getElem?_cons_succ, Sem.run_bind, run_und hu, run_und hu', Result.andThen_ok, run_size hi, Sem.run_pure, Bool.false_eq_true, if_false, Bool.not_false, if_true, hlx, hc', run_info hi, h0, or_self, and_false]
  rw [if_neg (by omega)]
  simp only [Sem.run_bind, hch, Result.andThen_ok, run_info hi, run_askRoom, hfv, hfx, hzr, Sem.run_pure]
  rfl

/-- append onto a slice of the call's own. -/
theorem append_i {T T' ty e e' : TypeId} {i : TypeInfo} {z : Value} {v x : Value} {xs ys : List Value} {n m : Nat}
    (hu : P.underlying T = some (.slice e)) (hu' : P.underlying T' = some (.slice e')) (hi : P.info? e = some i) (hz : i.zero = some z) (hzs : z.cells.size = i.size) (hbp : 0 < i.bytes)
    (hv : OwnSl w v e i.size xs n) (hx : RdSl w x i.size ys m) (h1 : ∀ y ∈ ys, y.oneCell' = true) (hsm : (n + m) * i.bytes + 600 * i.bytes ≤ 2 ^ 40)
    (h : ∀ v' w', OwnSl w' v' e i.size (xs ++ ys) (n + m) → Ext (slB v) w w' → (slB v' = slB v ∨ ∃ b', slB v' = [b'] ∧ w.heap.size ≤ b') → K v' w') :
    insW P (Builtin.append_ #[T, T'] ty #[v, x]) w K := by
  have out : ∀ base cap, v = .slice base n cap → cap < n + m → xs.length = n * i.size → insW P (Builtin.append_ #[T, T'] ty #[v, x]) w K := by
    intro base cap hb hc hl
    have hrd := hv.rd
    subst hb
    obtain ⟨c', hc', hr⟩ := run_append_out (ty := ty) hu hu' hi hz hbp hrd hx hc hsm
    refine insW_ok hr (h _ _ (.inr ⟨w.heap.size, c', (Builtin.zeroCells z.cells (c' - (n + m))).toList, rfl, ?_, ?_, ?_, hc'⟩) ?_ (.inr ⟨w.heap.size, rfl, Nat.le_refl _⟩))
    · show (w.drew.alloc _).heap[w.drew.heap.size]? = _
      rw [alloc_new]
      simp
    · rw [List.length_append, hl, hx.1, Nat.add_mul]
    · simp only [List.length_append, Array.length_toList, zeroCells_size, hzs, hl, hx.1]
      have := Nat.sub_add_cancel hc'
      generalize c' - (n + m) = q at *
      subst this
      rw [Nat.add_mul, Nat.add_mul]; omega
    · exact (Ext.drew _ w).new (ext_alloc w.drew _)
  rcases hv with ⟨rfl, rfl, rfl⟩ | ⟨b, c, rest, rfl, hb, hl, hc, hn⟩
  · by_cases hm : m = 0
    · subst hm
      have hy : ys = [] := by have := hx.1; simpa using this
      subst hy
      have hr := run_append_in (ty := ty) (base := none) (n := 0) (cap := 0) hu hu' hi hx (Nat.le_refl _)
      exact insW_ok hr (h _ _ (.inl ⟨rfl, rfl, rfl⟩) (Ext.refl _ _) (.inl rfl))
    · exact out none 0 rfl (by omega) (by simp)
  · by_cases hcap : n + m ≤ c
    · have hr := run_append_in (ty := ty) (base := some ⟨b, 0, none⟩) hu hu' hi hx hcap
      have hlen : n * i.size + ys.length ≤ (xs ++ rest).length := by
        rw [hc, hx.1, ← Nat.add_mul]; exact Nat.mul_le_mul_right _ hcap
      have hst := run_storeCells_at P b (n * i.size) e ys 0 (xs ++ rest).toArray w hb (by simpa using hlen) h1
      simp only [add_addr, Nat.zero_add] at hr
      simp only [hst, Result.andThen_ok, setRow_setB hb] at hr
      have hsp : ((xs ++ rest).toArray.toList.take (n * i.size + 0) ++ ys ++ (xs ++ rest).toArray.toList.drop (n * i.size + 0 + ys.length)) = (xs ++ ys) ++ rest.drop ys.length := by
        simp only [Nat.add_zero, ← hl]
        rw [List.take_left, List.drop_append, List.drop_of_length_le (by omega)]
        simp
      rw [hsp] at hr
      refine insW_ok hr (h _ _ (.inr ⟨b, c, rest.drop ys.length, rfl, ?_, ?_, ?_, hcap⟩) (ext_setB w b _) (.inl rfl))
      · unfold Blk
        show (w.heap.setIfInBounds b _)[b]? = _
        rw [Array.getElem?_setIfInBounds]
        have : b < w.heap.size := hb.lt
        simp only [if_true, this]
      · rw [List.length_append, hl, hx.1, Nat.add_mul]
      · simp only [List.length_append, List.length_drop] at hc hlen ⊢
        omega
    · exact out _ c rfl (by omega) hl

/-- copy out of what may be read into a block of the call's own. -/
theorem copy_i {T T' ty e : TypeId} {i : TypeInfo} {x : Value} {ys cs : List Value} {n m c b o : Nat} {te : TypeId}
    (hu : P.underlying T = some (.slice e)) (hi : P.info? e = some i) (hb : Blk w b cs te) (hx : RdSl w x i.size ys m) (h1 : ∀ y ∈ ys, y.oneCell' = true) (hle : o + n * i.size ≤ cs.length)
    (h : ∀ w', Ext [b] w w' → Blk w' b (lspl cs o (ys.take (min m n * i.size))) te → w'.heap.size = w.heap.size → K (.int .i64 (min m n : Nat)) w') :
    insW P (Builtin.copy_ #[T, T'] ty #[.slice (some ⟨b, o, none⟩) n c, x]) w K := by
  have hlx : (Builtin.lenOf x).run P w = .ok m w := by obtain ⟨a, c, rfl⟩ := hx.len; rfl
  have hmn : min m n * i.size ≤ m * i.size := Nat.mul_le_mul_right _ (Nat.min_le_left _ _)
  have hmn2 : min m n * i.size ≤ n * i.size := Nat.mul_le_mul_right _ (Nat.min_le_right _ _)
  have hfx : (Builtin.firstCells i.size (min m n) x).run P w = .ok (ys.take (min m n * i.size)).toArray w := by
    obtain ⟨hl, ⟨rfl, a, c, rfl⟩ | ⟨b, o, c, cs, rfl, hb, h1, h2⟩⟩ := hx
    · have h0 : m * i.size = 0 := by simpa using hl.symm
      have h0' : min m n * i.size = 0 := by omega
      cases a with
      | none => simp; rfl
      | some a =>
        show (loadCells a (min m n * i.size)).run P w = _
        rw [h0']; rfl
    · obtain ⟨t, fz, hb⟩ := hb
      show (loadCells ⟨b, o, none⟩ (min m n * i.size)).run P w = _
      rw [run_loads hb (by omega), ← h1, List.take_take, Nat.min_eq_left hmn]
  have hyl : (ys.take (min m n * i.size)).length = min m n * i.size := by rw [List.length_take, hx.1]; omega
  have hst := run_storeCells_at P b o te (ys.take (min m n * i.size)) 0 cs.toArray w hb (by rw [hyl]; simp; omega) (fun y hy => h1 y (List.mem_of_mem_take hy))
  rw [Nat.add_zero, setRow_setB hb] at hst
  refine insW_ok (v := .int .i64 (min m n : Nat)) (w' := setB w b (.cells (lspl cs o (ys.take (min m n * i.size))).toArray te)) ?_ (h _ (ext_setB w b _) ?_ (by simp [setB]))
  · unfold Builtin.copy_
    simp only [List.getElem?_toArray, List.getElem?_cons_zero, List.getElem?_cons_succ, Sem.run_bind, run_und hu, Result.andThen_ok, hlx, run_size hi]
    have hmin : Nat.min m n = min m n := rfl
    rw [hmin]
    simp only [hfx, Result.andThen_ok, Sem.run_bind, hst, Sem.run_pure]
    rfl
  · unfold Blk
    show (w.heap.setIfInBounds b _)[b]? = _
    rw [Array.getElem?_setIfInBounds]
    have : b < w.heap.size := hb.lt
    simp only [if_true, this]
end

section
variable {P : Program} {w : World} {K : VPost} {t : TypeId} {c : Bool}
theorem i64_fit {n : Int} (h : -9223372036854775808 ≤ n ∧ n ≤ 9223372036854775807) : IntKind.i64.wrap n = n := by rw [IntKind.wrap_i64]; omega

theorem binN_e {op : BinOp} {k k' : IntKind} {x y : Int} : binN P op t c (.int k x) (.int k' y) w K = binW P op t c (.int k x) (.int k' y) w K := rfl
theorem unN_i {op : UnOp} {k : IntKind} {x : Int} : unN P op (.int k x) w K = insW P (Op.unary op (.int k x)) w K := rfl
theorem unN_b {op : UnOp} {x : Bool} : unN P op (.bool x) w K = insW P (Op.unary op (.bool x)) w K := rfl
theorem convN_e {s d : TypeId} {k : IntKind} {x : Int} : convN P s d (.int k x) w K = insW P (convert s d (.int k x)) w K := rfl
theorem notN {b : Bool} : unN P .not (.bool b) w K = K (.bool !b) w := rfl
theorem negN {k : IntKind} {x : Int} : unN P .neg (.int k x) w K = K (.int k (k.wrap (-x))) w := by
  show K (.int k (k.wrap (0 - x))) w = _
  rw [Int.zero_sub]
theorem convN_i {s d : TypeId} {td : TypeDesc} {k k' : IntKind} {x : Int} (hu : P.underlying s = some td) (hu' : P.underlying d = some (.int k)) : convN P s d (.int k' x) w K = K (.int k (k.wrap x)) w := by
  show insW P (convert s d (.int k' x)) w K = _
  unfold insW convert
  simp only [Sem.run_bind, run_und hu, run_und hu', Result.andThen_ok]
  rfl

/-! Whole numbers of 64 bits -/
theorem iadd {x y : Int} (h : -9223372036854775808 ≤ x + y ∧ x + y ≤ 9223372036854775807) (hK : K (.int .i64 (x + y)) w) : binN P .add t c (.int .i64 x) (.int .i64 y) w K := by
  rw [binN_e, bin_add, i64_fit h]; exact hK
theorem isub {x y : Int} (h : -9223372036854775808 ≤ x - y ∧ x - y ≤ 9223372036854775807) (hK : K (.int .i64 (x - y)) w) : binN P .sub t c (.int .i64 x) (.int .i64 y) w K := by
  rw [binN_e, bin_sub, i64_fit h]; exact hK
theorem imul {x y : Int} (h : -9223372036854775808 ≤ x * y ∧ x * y ≤ 9223372036854775807) (hK : K (.int .i64 (x * y)) w) : binN P .mul t c (.int .i64 x) (.int .i64 y) w K := by
  rw [binN_e, bin_mul, i64_fit h]; exact hK
theorem ilss {k : IntKind} {x y : Int} : binN P .lss t c (.int k x) (.int k y) w K = K (.bool (decide (x < y))) w := by rw [binN_e, bin_lss]
theorem ileq {k : IntKind} {x y : Int} : binN P .leq t c (.int k x) (.int k y) w K = K (.bool (decide (x ≤ y))) w := by rw [binN_e, bin_leq]
theorem igtr {k : IntKind} {x y : Int} : binN P .gtr t c (.int k x) (.int k y) w K = K (.bool (decide (y < x))) w := by rw [binN_e, bin_gtr]
theorem igeq {k : IntKind} {x y : Int} : binN P .geq t c (.int k x) (.int k y) w K = K (.bool (decide (y ≤ x))) w := by rw [binN_e, bin_geq]
theorem ieql {k : IntKind} {x y : Int} : binN P .eql t c (.int k x) (.int k y) w K = K (.bool (decide (x = y))) w := by
  rw [binN_e, bin_eql]; congr 2
theorem ineq {k : IntKind} {x y : Int} : binN P .neq t c (.int k x) (.int k y) w K = K (.bool (decide (x ≠ y))) w := by
  rw [binN_e, bin_neq]; congr 2
  by_cases h : x = y
  · subst h; simp
  · simp [h]
theorem iquo {k : IntKind} {x y : Int} (h : y ≠ 0) : binN P .quo t c (.int k x) (.int k y) w K = K (.int k (k.wrap (x.tdiv y))) w := by rw [binN_e, bin_quo h]
theorem irem {k : IntKind} {x y : Int} (h : y ≠ 0) : binN P .rem t c (.int k x) (.int k y) w K = K (.int k (x.tmod y)) w := by rw [binN_e, bin_rem h]
theorem ishl {k k' : IntKind} {x y : Int} (h : 0 ≤ y) : binN P .shl t c (.int k x) (.int k' y) w K = K (.int k (k.wrap (x * 2 ^ (min y.toNat k.bits)))) w := by rw [binN_e, bin_shl h]
theorem ishr {k k' : IntKind} {x y : Int} (h : 0 ≤ y) : binN P .shr t c (.int k x) (.int k' y) w K = K (.int k (x.fdiv (2 ^ (min y.toNat k.bits)))) w := by rw [binN_e, bin_shr h]

/-! Of these, such as are not below nought -/
theorem nadd {x y : Nat} (h : x + y < 9223372036854775808) (hK : K (.int .i64 ((x + y : Nat) : Int)) w) : binN P .add t c (.int .i64 x) (.int .i64 y) w K :=
  iadd (by omega) (by rw [← Int.natCast_add]; exact hK)
theorem nmul {x y : Nat} (h : x * y < 9223372036854775808) (hK : K (.int .i64 ((x * y : Nat) : Int)) w) : binN P .mul t c (.int .i64 x) (.int .i64 y) w K :=
  imul (by rw [← Int.natCast_mul]; omega) (by rw [← Int.natCast_mul]; exact hK)
theorem nsub {x y : Nat} (h : y ≤ x) (hx : x < 9223372036854775808) (hK : K (.int .i64 ((x - y : Nat) : Int)) w) : binN P .sub t c (.int .i64 x) (.int .i64 y) w K :=
  isub (by omega) (by rw [← Int.natCast_sub h]; exact hK)
theorem nlss {k : IntKind} {x y : Nat} (hK : K (.bool (decide (x < y))) w) : binN P .lss t c (.int k x) (.int k y) w K := by
  rw [ilss]; simpa only [Int.ofNat_lt] using hK
theorem nleq {k : IntKind} {x y : Nat} (hK : K (.bool (decide (x ≤ y))) w) : binN P .leq t c (.int k x) (.int k y) w K := by
  rw [ileq]; simpa only [Int.ofNat_le] using hK
theorem ngtr {k : IntKind} {x y : Nat} (hK : K (.bool (decide (y < x))) w) : binN P .gtr t c (.int k x) (.int k y) w K := by
  rw [igtr]; simpa only [Int.ofNat_lt] using hK
theorem ngeq {k : IntKind} {x y : Nat} (hK : K (.bool (decide (y ≤ x))) w) : binN P .geq t c (.int k x) (.int k y) w K := by
  rw [igeq]; simpa only [Int.ofNat_le] using hK
theorem neql {k : IntKind} {x y : Nat} (hK : K (.bool (decide (x = y))) w) : binN P .eql t c (.int k x) (.int k y) w K := by
  rw [ieql]; simpa only [Int.natCast_inj] using hK
theorem nneq {k : IntKind} {x y : Nat} (hK : K (.bool (decide (x ≠ y))) w) : binN P .neq t c (.int k x) (.int k y) w K := by
  rw [ineq]; simpa only [ne_eq, Int.natCast_inj] using hK
theorem nquo {x y : Nat} (hy : y ≠ 0) (hx : x < 9223372036854775808) (hK : K (.int .i64 ((x / y : Nat) : Int)) w) : binN P .quo t c (.int .i64 x) (.int .i64 y) w K := by
  rw [iquo (by omega)]
  have h1 : (x : Int).tdiv (y : Int) = ((x / y : Nat) : Int) := rfl
  have h2 : x / y ≤ x := Nat.div_le_self _ _
  rw [h1]
  generalize x / y = q at *
  rw [i64_fit (by omega)]; exact hK
theorem nrem {x y : Nat} (hy : y ≠ 0) (hK : K (.int .i64 ((x % y : Nat) : Int)) w) : binN P .rem t c (.int .i64 x) (.int .i64 y) w K := by
  rw [irem (by omega)]
  exact hK
theorem nshr {k k' : IntKind} {x s : Nat} (hs : s ≤ k.bits) (hK : K (.int k ((x >>> s : Nat) : Int)) w) : binN P .shr t c (.int k x) (.int k' s) w K := by
  rw [ishr (by omega)]
  have h1 : min ((s : Int).toNat) k.bits = s := by omega
  have h2 : (2 : Int) ^ s = ((2 ^ s : Nat) : Int) := by rw [Int.natCast_pow]; rfl
  rw [h1, h2, ← Int.ofNat_fdiv]
  rw [Nat.shiftRight_eq_div_pow] at hK
  exact hK
end

section
variable {P : Program} {w : World} {K : VPost} {t : TypeId} {c : Bool}
theorem ofInt_nat (x : Nat) : BitVec.ofInt 64 (x : Int) = BitVec.ofNat 64 x := by
  apply BitVec.eq_of_toNat_eq
  rw [BitVec.toNat_ofInt, BitVec.toNat_ofNat]
  omega
theorem nor {x y : Nat} (hx : x < 9223372036854775808) (hy : y < 9223372036854775808) (hK : K (.int .i64 ((x ||| y : Nat) : Int)) w) : binN P .or t c (.int .i64 x) (.int .i64 y) w K := by
  have h : x ||| y < 9223372036854775808 := Nat.or_lt_two_pow (n := 63) hx hy
  show K (.int .i64 (IntKind.i64.wrap ((BitVec.ofInt 64 (x : Int) ||| BitVec.ofInt 64 (y : Int) : BitVec 64).toNat : Nat))) w
  have e : (BitVec.ofInt 64 (x : Int) ||| BitVec.ofInt 64 (y : Int) : BitVec 64).toNat = x ||| y := by
    rw [ofInt_nat, ofInt_nat, BitVec.toNat_or, BitVec.toNat_ofNat, BitVec.toNat_ofNat, Nat.mod_eq_of_lt (by omega), Nat.mod_eq_of_lt (by omega)]
  rw [e]
  generalize x ||| y = z at *
  rw [i64_fit (by omega)]
  exact hK
theorem nand {x y : Nat} (hx : x < 9223372036854775808) (hy : y < 9223372036854775808) (hK : K (.int .i64 ((x &&& y : Nat) : Int)) w) : binN P .and t c (.int .i64 x) (.int .i64 y) w K := by
  have h : x &&& y < 9223372036854775808 := Nat.lt_of_le_of_lt Nat.and_le_left hx
  show K (.int .i64 (IntKind.i64.wrap ((BitVec.ofInt 64 (x : Int) &&& BitVec.ofInt 64 (y : Int) : BitVec 64).toNat : Nat))) w
  have e : (BitVec.ofInt 64 (x : Int) &&& BitVec.ofInt 64 (y : Int) : BitVec 64).toNat = x &&& y := by
    rw [ofInt_nat, ofInt_nat, BitVec.toNat_and, BitVec.toNat_ofNat, BitVec.toNat_ofNat, Nat.mod_eq_of_lt (by omega), Nat.mod_eq_of_lt (by omega)]
  rw [e]
  generalize x &&& y = z at *
  rw [i64_fit (by omega)]
  exact hK
theorem nshl {k' : IntKind} {x s : Nat} (hs : s ≤ 64) (hx : x * 2 ^ s < 9223372036854775808) (hK : K (.int .i64 ((x * 2 ^ s : Nat) : Int)) w) : binN P .shl t c (.int .i64 x) (.int k' s) w K := by
  rw [ishl (by omega)]
  have h1 : min ((s : Int).toNat) IntKind.i64.bits = s := by
    show min ((s : Int).toNat) 64 = s
    omega
  have h2 : (2 : Int) ^ s = ((2 ^ s : Nat) : Int) := by rw [Int.natCast_pow]; rfl
  rw [h1, h2, ← Int.natCast_mul]
  generalize x * 2 ^ s = z at *
  rw [i64_fit (by omega)]
  exact hK
/-- A byte behind a number. -/
theorem or_byte (x b : Nat) (h : b < 256) : x * 2 ^ 8 ||| b = x * 256 + b := by
  have := Nat.two_pow_add_eq_or_of_lt (i := 8) h x
  rw [Nat.mul_comm] at this
  rw [← this]
end

/-- A thing in memory: the blocks that it takes, and what is so of them. -/
structure Res where
  foot : List Nat
  holds : World → Prop
  lt : ∀ {w : World}, holds w → ∀ b ∈ foot, b < w.heap.size
  keep : ∀ {S : List Nat} {w w' : World}, holds w → Ext S w w' → (∀ b ∈ foot, b ∉ S) → holds w'

/-- A block. -/
def rB (b : Nat) (cs : List Value) (t : TypeId) : Res :=
  ⟨[b], fun w => Blk w b cs t, fun h x hx => by simp at hx; subst hx; exact h.lt, fun h e hd => h.keep e (hd b (by simp))⟩
/-- A slice of the call's own. -/
def rS (v : Value) (e : TypeId) (s : Nat) (xs : List Value) (n : Nat) : Res :=
  ⟨slB v, fun w => OwnSl w v e s xs n, fun h => h.lt, fun h e hd => h.keep e hd⟩
def rdB (v : Value) (ys : List Value) : List Nat :=
  match ys with
  | [] => []
  | _ => slB v
/-- A slice that is read. -/
def rR (v : Value) (s : Nat) (ys : List Value) (m : Nat) : Res :=
  ⟨rdB v ys, fun w => RdSl w v s ys m, fun {w} h x hx => by
    obtain ⟨_, ⟨rfl, _⟩ | ⟨b, o, c, cs, rfl, hb, _, _⟩⟩ := h
    · simp [rdB] at hx
    · cases ys with
      | nil => simp [rdB] at hx
      | cons y ys => simp [rdB, slB] at hx; subst hx; exact hb.lt,
   fun {S w w'} h e hd => by
    obtain ⟨hl, ⟨rfl, h⟩ | ⟨b, o, c, cs, rfl, hb, h1, h2⟩⟩ := h
    · exact ⟨hl, .inl ⟨rfl, h⟩⟩
    · cases ys with
      | nil => exact ⟨hl, .inl ⟨rfl, _, _, rfl⟩⟩
      | cons y ys => exact ⟨hl, .inr ⟨b, o, c, cs, rfl, hb.keep e (hd b (by simp [rdB, slB])), h1, h2⟩⟩⟩

structure Sep (S : List Nat) (w0 w : World) (L R : List Res) : Prop where
  ext : Ext S w0 w
  own : ∀ T ∈ L, T.holds w
  rd : ∀ T ∈ R, T.holds w
  old : ∀ T ∈ L, ∀ b ∈ T.foot, b ∈ S ∨ w0.heap.size ≤ b
  dis : L.Pairwise fun T T' => ∀ b ∈ T.foot, b ∉ T'.foot
  disR : ∀ T ∈ L, ∀ T' ∈ R, ∀ b ∈ T.foot, b ∉ T'.foot

section
variable {S : List Nat} {w0 w w' : World} {L R : List Res}

theorem Sep.nil (w : World) : Sep [] w w [] [] := ⟨Ext.refl _ _, by simp, by simp, by simp, .nil, by simp⟩
theorem Sep.one {T : Res} (h : T.holds w) : Sep T.foot w w [T] [] :=
  ⟨Ext.refl _ _, by simpa using h, by simp, fun T' h' b hb => by simp at h'; subst h'; exact .inl hb, by simp, by simp⟩

theorem Sep.ext0 (s : Sep S w0 w L R) (e : Ext [] w w') : Sep S w0 w' L R :=
  ⟨s.ext.new e, fun T hT => T.keep (s.own T hT) e (by simp), fun T hT => T.keep (s.rd T hT) e (by simp), s.old, s.dis, s.disR⟩
theorem Sep.drew (s : Sep S w0 w L R) : Sep S w0 w.drew L R := s.ext0 (Ext.drew [] w)

theorem Sep.at (s : Sep S w0 w L R) (i : Nat) {T : Res} (h : L[i]? = some T) : T.holds w := s.own T (List.mem_of_getElem? h)
theorem Sep.rat (s : Sep S w0 w L R) (i : Nat) {T : Res} (h : R[i]? = some T) : T.holds w := s.rd T (List.mem_of_getElem? h)

/-- A new thing. -/
theorem Sep.add {T : Res} (s : Sep S w0 w L R) (hT : T.holds w') (e : Ext [] w w') (hf : ∀ b ∈ T.foot, w.heap.size ≤ b) : Sep S w0 w' (T :: L) R := by
  have s' := s.ext0 e
  refine ⟨s'.ext, fun T' h' => ?_, s'.rd, fun T' h' b hb => ?_, ?_, fun T' h' U hU b hb hm => ?_⟩
  · rcases List.mem_cons.1 h' with rfl | h'
    · exact hT
    · exact s'.own T' h'
  · rcases List.mem_cons.1 h' with rfl | h'
    · exact .inr (Nat.le_trans s.ext.size (hf b hb))
    · exact s'.old T' h' b hb
  · refine List.pairwise_cons.2 ⟨fun U hU b hb hm => ?_, s'.dis⟩
    have := U.lt (s.own U hU) b hm
    have := hf b hb
    omega
  · rcases List.mem_cons.1 h' with rfl | h'
    · have := U.lt (s.rd U hU) b hm
      have := hf b hb
      omega
    · exact s'.disR T' h' U hU b hb hm

/-- A thing that is read, apart from what may change. -/
theorem Sep.addR {T : Res} (s : Sep S w0 w L R) (hT : T.holds w) (hd : ∀ U ∈ L, ∀ b ∈ U.foot, b ∉ T.foot) : Sep S w0 w L (T :: R) :=
  ⟨s.ext, s.own, fun U hU => by
    rcases List.mem_cons.1 hU with rfl | hU
    · exact hT
    · exact s.rd U hU, s.old, s.dis, fun U hU V hV b hb hm => by
    rcases List.mem_cons.1 hV with rfl | hV
    · exact hd U hU b hb hm
    · exact s.disR U hU V hV b hb hm⟩
/-- A thing that is read and is new. -/
theorem Sep.addN {T : Res} (s : Sep S w0 w L R) (hT : T.holds w') (e : Ext [] w w') (hf : ∀ b ∈ T.foot, w.heap.size ≤ b) : Sep S w0 w' L (T :: R) :=
  (s.ext0 e).addR hT fun U hU b hb hm => by
    have := U.lt (s.own U hU) b hb
    have := hf b hm
    omega
/-- What takes blocks of a thing that is read is read. -/
theorem Sep.part {T U : Res} (s : Sep S w0 w L R) (hU : U ∈ R) (hT : T.holds w) (hf : ∀ b ∈ T.foot, b ∈ U.foot) : Sep S w0 w L (T :: R) :=
  s.addR hT fun V hV b hb hm => s.disR V hV U hU b hb (hf b hm)

/-- A thing of one's own has gone on. -/
theorem Sep.upd {T T' : Res} (s : Sep S w0 w L R) (i : Nat) (h : L[i]? = some T) (hT : T'.holds w') (e : Ext T.foot w w') (hf : ∀ b ∈ T'.foot, b ∈ T.foot ∨ w.heap.size ≤ b) : Sep S w0 w' (L.set i T') R := by
  have hTL := List.mem_of_getElem? h
  have hp := List.pairwise_iff_getElem.1 s.dis
  have hi : i < L.length := (List.getElem?_eq_some_iff.1 h).1
  have hTi : L[i] = T := (List.getElem?_eq_some_iff.1 h).2
  have hne : ∀ (j : Nat) (hj : j < L.length), j ≠ i → ∀ b ∈ (L[j]).foot, b ∉ T.foot := by
    intro j hj hji b hb hm
    rcases Nat.lt_or_gt_of_ne hji with hl | hl
    · exact hp j i hj hi hl b hb (hTi ▸ hm)
    · exact hp i j hi hj hl b (hTi ▸ hm) hb
  have hkeep : ∀ (j : Nat) (hj : j < L.length), j ≠ i → (L[j]).holds w' := fun j hj hji => (L[j]).keep (s.own _ (List.getElem_mem hj)) e (hne j hj hji)
  have hsep : ∀ (j : Nat) (hj : j < L.length), j ≠ i → ∀ b ∈ T'.foot, b ∉ (L[j]).foot := by
    intro j hj hji b hb hm
    rcases hf b hb with h1 | h1
    · exact hne j hj hji b hm h1
    · have := (L[j]).lt (s.own _ (List.getElem_mem hj)) b hm
      omega
  refine ⟨s.ext.step e (fun x hx hlt => by rcases s.old T hTL x hx with h1 | h1 <;> first | exact h1 | omega), fun U hU => ?_, fun U hU => U.keep (s.rd U hU) e (fun b hb hm => s.disR T hTL U hU b hm hb), fun U hU b hb => ?_, ?_, fun U hU V hV b hb hm => ?_⟩
  · obtain ⟨j, hj, rfl⟩ := List.mem_iff_getElem.1 hU
    rw [List.length_set] at hj
    by_cases hji : i = j
    · subst hji; rw [List.getElem_set_self]; exact hT
    · rw [List.getElem_set_ne hji]; exact hkeep j hj (Ne.symm hji)
  · obtain ⟨j, hj, rfl⟩ := List.mem_iff_getElem.1 hU
    rw [List.length_set] at hj
    by_cases hji : i = j
    · subst hji
      rw [List.getElem_set_self] at hb
      rcases hf b hb with h1 | h1
      · exact s.old T hTL b h1
      · exact .inr (Nat.le_trans s.ext.size h1)
    · rw [List.getElem_set_ne hji] at hb; exact s.old _ (List.getElem_mem hj) b hb
  · refine List.pairwise_iff_getElem.2 fun a c ha hc hac b hb hm => ?_
    rw [List.length_set] at ha hc
    by_cases hia : i = a
    · subst hia
      rw [List.getElem_set_self] at hb
      rw [List.getElem_set_ne (by omega)] at hm
      exact hsep c hc (by omega) b hb hm
    · rw [List.getElem_set_ne hia] at hb
      by_cases hic : i = c
      · subst hic
        rw [List.getElem_set_self] at hm
        exact hsep a ha (Ne.symm hia) b hm hb
      · rw [List.getElem_set_ne hic] at hm
        exact hp a c ha hc hac b hb hm
  · obtain ⟨j, hj, rfl⟩ := List.mem_iff_getElem.1 hU
    rw [List.length_set] at hj
    by_cases hji : i = j
    · subst hji
      rw [List.getElem_set_self] at hb
      rcases hf b hb with h1 | h1
      · exact s.disR T hTL V hV b h1 hm
      · have := V.lt (s.rd V hV) b hm
        omega
    · rw [List.getElem_set_ne hji] at hb
      exact s.disR _ (List.getElem_mem hj) V hV b hb hm

/-- Things are let go. -/
theorem Sep.sub {L' R' : List Res} (s : Sep S w0 w L R) (h : L'.Sublist L) (hR : ∀ T ∈ R', T ∈ R) : Sep S w0 w L' R' :=
  ⟨s.ext, fun T hT => s.own T (h.subset hT), fun T hT => s.rd T (hR T hT), fun T hT => s.old T (h.subset hT), s.dis.sublist h, fun T hT U hU => s.disR T (h.subset hT) U (hR U hU)⟩
theorem Sep.drop (s : Sep S w0 w L R) (i : Nat) : Sep S w0 w (L.eraseIdx i) R := s.sub (List.eraseIdx_sublist L i) (fun _ h => h)

/-- A thing of one's own that won't change any more is read. -/
theorem Sep.freeze {T T' : Res} (s : Sep S w0 w L R) (i : Nat) (h : L[i]? = some T) (hT : T'.holds w) (hf : ∀ b ∈ T'.foot, b ∈ T.foot) : Sep S w0 w (L.eraseIdx i) (T' :: R) := by
  refine (s.drop i).addR hT fun U hU b hb hm => ?_
  have hm := hf b hm
  have hi : i < L.length := (List.getElem?_eq_some_iff.1 h).1
  have hTi : L[i] = T := (List.getElem?_eq_some_iff.1 h).2
  have hp := List.pairwise_iff_getElem.1 s.dis
  obtain ⟨j, hj, rfl⟩ := List.mem_iff_getElem.1 hU
  rw [List.getElem_eraseIdx] at hb
  have hjl : j < (L.eraseIdx i).length := hj
  rw [List.length_eraseIdx_of_lt hi] at hjl
  split at hb
  · exact hp j i (by omega) hi (by omega) b hb (hTi ▸ hm)
  · exact hp i (j + 1) hi (by omega) (by omega) b (hTi ▸ hm) hb

/-- The one thing that a call was handed, behind it. -/
theorem Sep.out (s : Sep S w0 w L R) (i : Nat) {T : Res} (h : L[i]? = some T) : T.holds w ∧ Ext S w0 w ∧ ∀ b ∈ T.foot, b ∈ S ∨ w0.heap.size ≤ b :=
  ⟨s.at i h, s.ext, s.old T (List.mem_of_getElem? h)⟩
theorem Sep.fresh (s : Sep [] w0 w L R) (i : Nat) {T : Res} (h : L[i]? = some T) : ∀ b ∈ T.foot, w0.heap.size ≤ b := fun b hb => by
  rcases s.old T (List.mem_of_getElem? h) b hb with h | h
  · cases h
  · exact h
/-- What a call begins with. -/
theorem Sep.start (hL : ∀ T ∈ L, T.holds w) (hR : ∀ T ∈ R, T.holds w) (hS : ∀ T ∈ L, ∀ b ∈ T.foot, b ∈ S) (hd : L.Pairwise fun T T' => ∀ b ∈ T.foot, b ∉ T'.foot) (hdR : ∀ T ∈ L, ∀ T' ∈ R, ∀ b ∈ T.foot, b ∉ T'.foot) : Sep S w w L R :=
  ⟨Ext.refl _ _, hL, hR, fun T hT b hb => .inl (hS T hT b hb), hd, hdR⟩
theorem Sep.one1 {T U : Res} (h : T.holds w) (k : U.holds w) (hd : ∀ b ∈ T.foot, b ∉ U.foot) : Sep T.foot w w [T] [U] :=
  Sep.start (by intro V hV; rw [List.mem_singleton] at hV; subst hV; exact h) (by intro V hV; rw [List.mem_singleton] at hV; subst hV; exact k) (by intro V hV b hb; rw [List.mem_singleton] at hV; subst hV; exact hb) (by simp)
    (by intro V hV V' hV' b hb; rw [List.mem_singleton] at hV hV'; subst hV; subst hV'; exact hd b hb)
theorem Sep.zero1 {U : Res} (k : U.holds w) : Sep [] w w [] [U] := (Sep.nil w).addR k (by simp)
/-- Inside a call, with more that is read. -/
theorem Sep.into {T : Res} (s : Sep S w0 w L R) (i : Nat) (h : L[i]? = some T) : Sep T.foot w w [T] R :=
  ⟨Ext.refl _ _, by simpa using s.at i h, s.rd, fun U hU b hb => by simp at hU; subst hU; exact .inl hb, by simp, fun U hU V hV b hb hm => by
    simp at hU; subst hU; exact s.disR U (List.mem_of_getElem? h) V hV b hb hm⟩
end

section
variable {P : Program} {S : List Nat} {w0 w : World} {L R : List Res} {K : VPost}

theorem Sep.box {e : TypeId} {v : Value} (s : Sep S w0 w L R) (h : ∀ b w', Sep S w0 w' (rB b v.cells.toList e :: L) R → w.heap.size = b → K (.pointer (some ⟨b, 0, none⟩)) w') : boxW e v w K :=
  boxW_i fun b w' hb e hk _ => h b w' (s.add (T := rB b v.cells.toList _) hk e (by simp [rB]; omega)) hb

theorem Sep.alloc {e : TypeId} {z : Option Value} {v : Value} {cs : List Value} (s : Sep S w0 w L R) (hz : z = some v) (hc : v.cells.toList = cs) (h : ∀ b w', Sep S w0 w' (rB b cs e :: L) R → w.heap.size = b → K (.pointer (some ⟨b, 0, none⟩)) w') : allocW z e w K := by
  subst hz hc
  exact s.box h

theorem Sep.load1 {n : Nat} {b o : Nat} {cs : List Value} {t : TypeId} {v : Value} (s : Sep S w0 w L R) (i : Nat) (hL : L[i]? = some (rB b cs t)) (hv : cs[o]? = some v) (h : K v w) : loadW (some (false, n)) (.pointer (some ⟨b, o, none⟩)) w K :=
  Go.Proofs.YtbaddpnlokmldaaDoor.load1 (Blk.r (s.at i hL)) hv h
theorem Sep.loadN {n : Nat} {b o : Nat} {cs : List Value} {t : TypeId} (s : Sep S w0 w L R) (i : Nat) (hL : L[i]? = some (rB b cs t)) (hn : o + n ≤ cs.length) (h : K (.agg ((cs.drop o).take n).toArray) w) : loadW (some (true, n)) (.pointer (some ⟨b, o, none⟩)) w K :=
  Go.Proofs.YtbaddpnlokmldaaDoor.loadN (Blk.r (s.at i hL)) hn h
theorem Sep.loadAll {n : Nat} {b : Nat} {cs : List Value} {t : TypeId} (s : Sep S w0 w L R) (i : Nat) (hL : L[i]? = some (rB b cs t)) (hn : cs.length = n) (h : K (.agg cs.toArray) w) : loadW (some (true, n)) (.pointer (some ⟨b, 0, none⟩)) w K :=
  Go.Proofs.YtbaddpnlokmldaaDoor.loadAll (Blk.r (s.at i hL)) hn h

theorem Sep.store1 {g : Bool} {b o : Nat} {cs : List Value} {t : TypeId} {v : Value} {K : World → Prop} (s : Sep S w0 w L R) (i : Nat) (hL : L[i]? = some (rB b cs t)) (hv : v.cells = #[v]) (hle : o < cs.length) (h1 : v.oneCell' = true)
    (h : ∀ w', Sep S w0 w' (L.set i (rB b (cs.set o v) t)) R → w'.heap.size = w.heap.size → K w') : storeW (some (g, 1)) (.pointer (some ⟨b, o, none⟩)) v w K :=
  Go.Proofs.YtbaddpnlokmldaaDoor.store1 (s.at i hL) hv hle h1 fun w' e hk hs => h w' (s.upd i hL (T' := rB b (cs.set o v) t) hk e (by simp [rB])) hs
theorem Sep.storeN {g : Bool} {n : Nat} {b o : Nat} {cs vs : List Value} {t : TypeId} {v : Value} {K : World → Prop} (s : Sep S w0 w L R) (i : Nat) (hL : L[i]? = some (rB b cs t)) (hv : v.cells = vs.toArray) (hn : vs.length = n) (hle : o + n ≤ cs.length)
    (h1 : ∀ x ∈ vs, x.oneCell' = true) (h : ∀ w', Sep S w0 w' (L.set i (rB b (lspl cs o vs) t)) R → w'.heap.size = w.heap.size → K w') : storeW (some (g, n)) (.pointer (some ⟨b, o, none⟩)) v w K :=
  storeW_i (s.at i hL) hv hn hle h1 fun w' e hk hs => h w' (s.upd i hL (T' := rB b (lspl cs o vs) t) hk e (by simp [rB])) hs
theorem Sep.storeAll {n : Nat} {b : Nat} {cs vs : List Value} {t : TypeId} {K : World → Prop} (s : Sep S w0 w L R) (i : Nat) (hL : L[i]? = some (rB b cs t)) (hn : vs.length = n) (hc : cs.length = n)
    (h1 : ∀ x ∈ vs, x.oneCell' = true) (h : ∀ w', Sep S w0 w' (L.set i (rB b vs t)) R → w'.heap.size = w.heap.size → K w') : storeW (some (true, n)) (.pointer (some ⟨b, 0, none⟩)) (.agg vs.toArray) w K :=
  Go.Proofs.YtbaddpnlokmldaaDoor.storeAll (s.at i hL) hn hc h1 fun w' e hk hs => h w' (s.upd i hL (T' := rB b vs t) hk e (by simp [rB])) hs

/-- append onto a slice of one's own. -/
theorem Sep.append {T T' ty e e' : TypeId} {ti : TypeInfo} {z : Value} {v x : Value} {xs ys : List Value} {n m : Nat} (s : Sep S w0 w L R) (i : Nat) (hL : L[i]? = some (rS v e ti.size xs n))
    (hu : P.underlying T = some (.slice e)) (hu' : P.underlying T' = some (.slice e')) (hi : P.info? e = some ti) (hz : ti.zero = some z) (hzs : z.cells.size = ti.size) (hbp : 0 < ti.bytes)
    (hx : RdSl w x ti.size ys m) (h1 : ∀ y ∈ ys, y.oneCell' = true) (hsm : (n + m) * ti.bytes + 600 * ti.bytes ≤ 2 ^ 40)
    (h : ∀ v' w', Sep S w0 w' (L.set i (rS v' e ti.size (xs ++ ys) (n + m))) R → K v' w') :
    insW P (Builtin.append_ #[T, T'] ty #[v, x]) w K :=
  append_i hu hu' hi hz hzs hbp (s.at i hL) hx h1 hsm fun v' w' hv e hb => h v' w' (s.upd i hL (T' := rS v' _ ti.size (xs ++ ys) (n + m)) hv e (by
    intro b hb'
    show b ∈ slB v ∨ _
    rcases hb with h2 | ⟨b', h2, h3⟩
    · exact .inl (h2 ▸ hb')
    · have hb' : b ∈ slB v' := hb'
      rw [h2] at hb'; simp at hb'; subst hb'; exact .inr h3))
end

/-- A slice that is nil, or has a block of its own, from a place on. -/
def OwnAt (w : World) (v : Value) (e : TypeId) (s : Nat) (xs : List Value) (n : Nat) : Prop :=
  (v = .slice none 0 0 ∧ n = 0 ∧ xs = []) ∨ ∃ b o c cs, v = .slice (some ⟨b, o, none⟩) n c ∧ Blk w b cs e ∧ xs.length = n * s ∧ (cs.drop o).take (n * s) = xs ∧ o + c * s ≤ cs.length ∧ n ≤ c

theorem OwnSl.at {w : World} {v : Value} {e : TypeId} {s : Nat} {xs : List Value} {n : Nat} (h : OwnSl w v e s xs n) : OwnAt w v e s xs n := by
  rcases h with h | ⟨b, c, rest, rfl, hb, hl, hc, hn⟩
  · exact .inl h
  · exact .inr ⟨b, 0, c, _, rfl, hb, hl, by rw [List.drop_zero, ← hl, List.take_left], by omega, hn⟩
theorem OwnAt.rd {w : World} {v : Value} {e : TypeId} {s : Nat} {xs : List Value} {n : Nat} (h : OwnAt w v e s xs n) : RdSl w v s xs n := by
  rcases h with ⟨rfl, rfl, rfl⟩ | ⟨b, o, c, cs, rfl, hb, hl, ht, hc, hn⟩
  · exact ⟨by simp, .inl ⟨rfl, _, _, rfl⟩⟩
  · exact ⟨hl, .inr ⟨b, o, c, _, rfl, hb.r, ht, by have := Nat.mul_le_mul_right s hn; omega⟩⟩
theorem OwnAt.keep {w w' : World} {v : Value} {e : TypeId} {s : Nat} {xs : List Value} {n : Nat} {S : List Nat} (h : OwnAt w v e s xs n) (k : Ext S w w') (hd : ∀ b ∈ slB v, b ∉ S) : OwnAt w' v e s xs n := by
  rcases h with h | ⟨b, o, c, cs, rfl, hb, h⟩
  · exact .inl h
  · exact .inr ⟨b, o, c, cs, rfl, hb.keep k (hd b (by simp [slB])), h⟩
theorem OwnAt.lt {w : World} {v : Value} {e : TypeId} {s : Nat} {xs : List Value} {n : Nat} (h : OwnAt w v e s xs n) : ∀ b ∈ slB v, b < w.heap.size := by
  intro x hx
  rcases h with ⟨rfl, _, _⟩ | ⟨b, o, c, cs, rfl, hb, _⟩
  · simp [slB] at hx
  · simp [slB] at hx; subst hx; exact hb.lt
def rO (v : Value) (e : TypeId) (s : Nat) (xs : List Value) (n : Nat) : Res :=
  ⟨slB v, fun w => OwnAt w v e s xs n, fun h => h.lt, fun h e hd => h.keep e hd⟩

/-- A slice's capacity is not below its length. -/
def capOk : Value → Prop
  | .slice none n _ => n = 0
  | .slice (some _) n c => n ≤ c
  | _ => False
theorem OwnAt.cap {w : World} {v : Value} {e : TypeId} {s : Nat} {xs : List Value} {n : Nat} (h : OwnAt w v e s xs n) : capOk v := by
  rcases h with ⟨rfl, _, _⟩ | ⟨b, o, c, cs, rfl, hb, hl, ht, hc, hn⟩
  · rfl
  · exact hn
theorem OwnSl.cap {w : World} {v : Value} {e : TypeId} {s : Nat} {xs : List Value} {n : Nat} (h : OwnSl w v e s xs n) : capOk v := h.at.cap

section
variable {P : Program} {w : World} {K : VPost}

/-- append onto a slice of the call's own, that begins anywhere. -/
theorem appendO_i {T T' ty e e' : TypeId} {i : TypeInfo} {z : Value} {v x : Value} {xs ys : List Value} {n m : Nat}
    (hu : P.underlying T = some (.slice e)) (hu' : P.underlying T' = some (.slice e')) (hi : P.info? e = some i) (hz : i.zero = some z) (hzs : z.cells.size = i.size) (hbp : 0 < i.bytes)
    (hv : OwnAt w v e i.size xs n) (hx : RdSl w x i.size ys m) (h1 : ∀ y ∈ ys, y.oneCell' = true) (hsm : (n + m) * i.bytes + 600 * i.bytes ≤ 2 ^ 40)
    (h : ∀ v' w', OwnAt w' v' e i.size (xs ++ ys) (n + m) → Ext (slB v) w w' → (slB v' = slB v ∨ ∃ b', slB v' = [b'] ∧ w.heap.size ≤ b') → K v' w') :
    insW P (Builtin.append_ #[T, T'] ty #[v, x]) w K := by
  have out : ∀ base cap, v = .slice base n cap → cap < n + m → xs.length = n * i.size → insW P (Builtin.append_ #[T, T'] ty #[v, x]) w K := by
    intro base cap hb hc hl
    have hrd := hv.rd
    subst hb
    obtain ⟨c', hc', hr⟩ := run_append_out (ty := ty) hu hu' hi hz hbp hrd hx hc hsm
    have hown : OwnSl (w.drew.alloc (.cells (xs.toArray ++ ys.toArray ++ Builtin.zeroCells z.cells (c' - (n + m))) e)) (.slice (some ⟨w.heap.size, 0, none⟩) (n + m) c') e i.size (xs ++ ys) (n + m) := by
      refine .inr ⟨w.heap.size, c', (Builtin.zeroCells z.cells (c' - (n + m))).toList, rfl, ?_, ?_, ?_, hc'⟩
      · show (w.drew.alloc _).heap[w.drew.heap.size]? = _
        rw [alloc_new]
        simp
      · rw [List.length_append, hl, hx.1, Nat.add_mul]
      · simp only [List.length_append, Array.length_toList, zeroCells_size, hzs, hl, hx.1]
        have := Nat.sub_add_cancel hc'
        generalize c' - (n + m) = q at *
        subst this
        rw [Nat.add_mul, Nat.add_mul]; omega
    exact insW_ok hr (h _ _ hown.at ((Ext.drew _ w).new (ext_alloc w.drew _)) (.inr ⟨w.heap.size, rfl, Nat.le_refl _⟩))
  rcases hv with ⟨rfl, rfl, rfl⟩ | ⟨b, o, c, cs, rfl, hb, hl, ht, hc, hn⟩
  · by_cases hm : m = 0
    · subst hm
      have hy : ys = [] := by have := hx.1; simpa using this
      subst hy
      have hr := run_append_in (ty := ty) (base := none) (n := 0) (cap := 0) hu hu' hi hx (Nat.le_refl _)
      exact insW_ok hr (h _ _ (.inl ⟨rfl, rfl, rfl⟩) (Ext.refl _ _) (.inl rfl))
    · exact out none 0 rfl (by omega) (by simp)
  · by_cases hcap : n + m ≤ c
    · have hr := run_append_in (ty := ty) (base := some ⟨b, o, none⟩) hu hu' hi hx hcap
      have hlen : o + n * i.size + ys.length ≤ cs.length := by
        have := Nat.mul_le_mul_right i.size hcap
        rw [Nat.add_mul] at this
        rw [hx.1]; omega
      have hst := run_storeCells_at P b (o + n * i.size) e ys 0 cs.toArray w hb (by simpa using hlen) h1
      simp only [add_addr] at hr
      simp only [hst, Result.andThen_ok, setRow_setB hb, Nat.add_zero] at hr
      refine insW_ok hr (h _ _ (.inr ⟨b, o, c, lspl cs (o + n * i.size) ys, rfl, ?_, ?_, ?_, ?_, hcap⟩) (ext_setB w b _) (.inl rfl))
      · unfold Blk
        show (w.heap.setIfInBounds b _)[b]? = _
        rw [Array.getElem?_setIfInBounds]
        have : b < w.heap.size := hb.lt
        simp only [if_true, this]
        rfl
      · rw [List.length_append, hl, hx.1, Nat.add_mul]
      · rw [Nat.add_mul, ← hx.1, ← hl] at *
        unfold lspl
        rw [List.append_assoc, List.drop_append_of_le_length (by rw [List.length_take]; omega), List.drop_take, show o + xs.length - o = xs.length by omega, ht, ← List.append_assoc, ← List.length_append, List.take_left]
      · rw [lspl_length hlen]; exact hc
    · exact out _ c rfl (by omega) hl

theorem cut_ok {len cap l h : Nat} {lo hi : Option Value} {F : Nat → Nat → Nat → Prop} (hlo : bndIs lo 0 l) (hhi : bndIs hi len h) (hlh : l ≤ h) (hhm : h ≤ cap) (hF : F l h cap) : cutW len cap lo hi none F :=
  ⟨by simp, l, h, cap, rfl, hhi, hlo, hlh, fun _ => hhm, Nat.le_refl _, hF⟩

theorem take_drop_part (cs : List Value) (o l k m : Nat) (h : l + k ≤ m) : ((cs.drop (o + l)).take k) = (((cs.drop o).take m).drop l).take k := by
  rw [List.drop_take, List.take_take, List.drop_drop, Nat.min_eq_left (by omega)]

/-- A part of a slice. -/
theorem RdSl.cut {v : Value} {s : Nat} {ys : List Value} {m l h : Nat} {lo hi : Option Value} (hr : RdSl w v s ys m) (hcap : capOk v) (hlo : bndIs lo 0 l) (hhi : bndIs hi m h) (hlh : l ≤ h) (hhm : h ≤ m)
    (hK : ∀ v', RdSl w v' s ((ys.drop (l * s)).take ((h - l) * s)) (h - l) → capOk v' → slB v' = slB v → (∀ b ∈ rdB v' ((ys.drop (l * s)).take ((h - l) * s)), b ∈ rdB v ys) → K v' w) : sliceW (.sl s) v lo hi none w K := by
  have hml : h * s ≤ m * s := Nat.mul_le_mul_right _ hhm
  have hls : l * s ≤ h * s := Nat.mul_le_mul_right _ hlh
  have hsub : (h - l) * s = h * s - l * s := Nat.sub_mul _ _ _
  have hfoot : ∀ v', slB v' = slB v → ∀ b ∈ rdB v' ((ys.drop (l * s)).take ((h - l) * s)), b ∈ rdB v ys := by
    intro v' e b hb
    cases ys with
    | nil => simp [rdB] at hb
    | cons y ys =>
      unfold rdB at hb
      split at hb
      · cases hb
      · rw [e] at hb; exact hb
  obtain ⟨hl, ⟨rfl, a, c, rfl⟩ | ⟨b, o, c, cs, rfl, hb, h1, h2⟩⟩ := hr
  · have hz : m * s = 0 := by simpa using hl.symm
    have hcc : m ≤ c ∨ (a = none ∧ m = 0) := by
      cases a with
      | none => exact .inr ⟨rfl, hcap⟩
      | some a => exact .inl hcap
    have hm : h ≤ c ∨ h ≤ 0 := by rcases hcc with h1 | ⟨_, h1⟩ <;> omega
    refine cut_ok hlo hhi hlh (by omega) ?_
    refine hK _ ⟨by simp; omega, .inl ⟨by simp, _, _, rfl⟩⟩ ?_ ?_ (hfoot _ ?_)
    · cases a with
      | none => split <;> (simp [capOk]; have : m = 0 := hcap; omega)
      | some a => have : m ≤ c := hcap; split <;> (simp [capOk]; omega)
    all_goals
      cases a with
      | none => split <;> rfl
      | some a => split <;> first | rfl | (simp only [Option.map_some, slB, Addr.add]; split <;> rfl)
  · have hmc : m ≤ c := hcap
    refine cut_ok hlo hhi hlh (by omega) ?_
    by_cases hcl : c = l
    · have h0 : h - l = 0 := by omega
      rw [if_pos hcl]
      refine hK _ ⟨by rw [h0]; simp, .inl ⟨by rw [h0]; simp, _, _, rfl⟩⟩ (by simp [capOk]; omega) rfl (hfoot _ rfl)
    · rw [if_neg hcl]
      simp only [Option.map_some, add_addr]
      refine hK _ ⟨?_, .inr ⟨b, o + l * s, c - l, cs, rfl, hb, ?_, by omega⟩⟩ (by simp [capOk]; omega) rfl (hfoot _ rfl)
      · rw [List.length_take, List.length_drop, hl]; omega
      · rw [← h1]; exact take_drop_part cs o (l * s) ((h - l) * s) (m * s) (by omega)

/-- What is left of a slice of one's own. -/
theorem OwnAt.cutO {v : Value} {e : TypeId} {s : Nat} {xs : List Value} {n l h : Nat} {lo hi : Option Value} (hr : OwnAt w v e s xs n) (hlo : bndIs lo 0 l) (hhi : bndIs hi n h) (hlh : l ≤ h) (hhm : h ≤ n)
    (hK : ∀ v', OwnAt w v' e s ((xs.drop (l * s)).take ((h - l) * s)) (h - l) → slB v' = slB v → K v' w) : sliceW (.sl s) v lo hi none w K := by
  have hml : h * s ≤ n * s := Nat.mul_le_mul_right _ hhm
  have hls : l * s ≤ h * s := Nat.mul_le_mul_right _ hlh
  have hsub : (h - l) * s = h * s - l * s := Nat.sub_mul _ _ _
  rcases hr with ⟨rfl, rfl, rfl⟩ | ⟨b, o, c, cs, rfl, hb, hl, ht, hc, hn⟩
  · obtain rfl : h = 0 := by omega
    obtain rfl : l = 0 := by omega
    refine cut_ok hlo hhi (Nat.le_refl _) (Nat.le_refl _) ?_
    exact hK _ (.inl ⟨rfl, rfl, by simp⟩) rfl
  · refine cut_ok hlo hhi hlh (by omega) ?_
    have hcs : l * s ≤ c * s := Nat.mul_le_mul_right _ (by omega)
    have hsc : (c - l) * s = c * s - l * s := Nat.sub_mul _ _ _
    by_cases hcl : c = l
    · have h0 : h - l = 0 := by omega
      rw [if_pos hcl]
      exact hK _ (.inr ⟨b, o, c - l, cs, rfl, hb, by rw [h0]; simp, by rw [h0]; simp, by omega, by omega⟩) rfl
    · rw [if_neg hcl]
      simp only [Option.map_some, add_addr]
      refine hK _ (.inr ⟨b, o + l * s, c - l, cs, rfl, hb, ?_, ?_, by omega, by omega⟩) rfl
      · rw [List.length_take, List.length_drop, hl]; omega
      · rw [← ht]; exact take_drop_part cs o (l * s) ((h - l) * s) (n * s) (by omega)
end

section
variable {P : Program} {S : List Nat} {w0 w : World} {L R : List Res} {K : VPost}
theorem Sep.appendO {T T' ty e e' : TypeId} {ti : TypeInfo} {z : Value} {v x : Value} {xs ys : List Value} {n m : Nat} (s : Sep S w0 w L R) (i : Nat) (hL : L[i]? = some (rO v e ti.size xs n))
    (hu : P.underlying T = some (.slice e)) (hu' : P.underlying T' = some (.slice e')) (hi : P.info? e = some ti) (hz : ti.zero = some z) (hzs : z.cells.size = ti.size) (hbp : 0 < ti.bytes)
    (hx : RdSl w x ti.size ys m) (h1 : ∀ y ∈ ys, y.oneCell' = true) (hsm : (n + m) * ti.bytes + 600 * ti.bytes ≤ 2 ^ 40)
    (h : ∀ v' w', Sep S w0 w' (L.set i (rO v' e ti.size (xs ++ ys) (n + m))) R → K v' w') :
    insW P (Builtin.append_ #[T, T'] ty #[v, x]) w K :=
  appendO_i hu hu' hi hz hzs hbp (s.at i hL) hx h1 hsm fun v' w' hv e hb => h v' w' (s.upd i hL (T' := rO v' _ ti.size (xs ++ ys) (n + m)) hv e (by
    intro b hb'
    show b ∈ slB v ∨ _
    rcases hb with h2 | ⟨b', h2, h3⟩
    · exact .inl (h2 ▸ hb')
    · have hb' : b ∈ slB v' := hb'
      rw [h2] at hb'; simp at hb'; subst hb'; exact .inr h3))
end

section
variable {P : Program} {w : World} {K : VPost}

theorem zeroC (z : Array Value) (m : Nat) (s : Nat) (hz : z.size = s) : (Builtin.zeroCells z m).toList.length = m * s := by
  rw [Array.length_toList, zeroCells_size, hz]

/-- append of what is made, within the capacity. -/
theorem run_appendZ_in {T T' ty e : TypeId} {k : IntKind} {i : TypeInfo} {z : Value} {n m cap : Nat} {base : Option Addr}
    (hu : P.underlying T = some (.slice e)) (hu' : P.underlying T' = some (.int k)) (hi : P.info? e = some i) (hz : i.zero = some z) (hzs : z.cells.size = i.size) (hm : m * i.bytes ≤ 2 ^ 40) (hm2 : m ≤ 2 ^ 40) (hc : n + m ≤ cap) :
    (Builtin.append_ #[T, T'] ty #[.slice base n cap, .int .i64 m]).run P w = ((match base with | some a => storeCells (a.add (n * i.size)) (Builtin.zeroCells z.cells m).toList | none => pure ()).run P w).andThen fun _ w' => .ok (.slice base (n + m) cap) w' := by
  have hzr : ∀ w, (zeroValue e).run P w = .ok z w := fun w => by
    unfold zeroValue; simp only [Sem.run_bind, run_info hi, Result.andThen_ok, hz, Sem.run_pure]
  have hw : IntKind.i64.wrap ((m : Nat) : Int) = m := i64_fit (by omega)
  have hneg : ¬ ((m : Nat) : Int) < 0 := by omega
  have hbig : ¬ ((m : Nat) : Int) * (i.bytes : Int) > 2 ^ 48 := by
    rw [← Int.natCast_mul]; omega
  unfold Builtin.append_
  simp only [List.getElem?_toArray, List.getElem?_cons_zero, List.getElem?_cons_succ, Sem.run_bind, run_und hu, run_und hu', Result.andThen_ok, run_size hi, run_info hi, Sem.run_pure, if_true, asInt, asIntOf, hw, hneg, hbig, if_false, Int.toNat_natCast, hc, Bool.not_true, Bool.false_eq_true]
  by_cases h0 : m * i.size = 0
  · have hzc : (Builtin.zeroCells z.cells m).toList = [] := List.length_eq_zero_iff.1 (by rw [zeroC _ _ _ hzs]; exact h0)
    simp only [h0, if_true, Sem.run_pure, Result.andThen_ok, hzc]
    cases base with
    | none => rfl
    | some a => simp only [Sem.run_bind, Sem.run_pure]
  · simp only [h0, if_false, Sem.run_bind, hzr, Result.andThen_ok, Sem.run_pure]
    cases base with
    | none => rfl
    | some a => simp only [Sem.run_bind, Sem.run_pure]

/-- .. beyond it. -/
theorem run_appendZ_out {T T' ty e : TypeId} {k : IntKind} {i : TypeInfo} {z : Value} {xs : List Value} {n m cap : Nat} {base : Option Addr}
    (hu : P.underlying T = some (.slice e)) (hu' : P.underlying T' = some (.int k)) (hi : P.info? e = some i) (hz : i.zero = some z) (hzs : z.cells.size = i.size) (hbp : 0 < i.bytes)
    (hv : RdSl w (.slice base n cap) i.size xs n) (hc : cap < n + m) (hsm : (n + m) * i.bytes + 600 * i.bytes ≤ 2 ^ 40) :
    ∃ c', n + m ≤ c' ∧ (Builtin.append_ #[T, T'] ty #[.slice base n cap, .int .i64 m]).run P w =
      .ok (.slice (some ⟨w.heap.size, 0, none⟩) (n + m) c') (w.drew.alloc (.cells (xs.toArray ++ Builtin.zeroCells z.cells m ++ Builtin.zeroCells z.cells (c' - (n + m))) e)) := by
  have hfv : (Builtin.firstCells i.size n (.slice base n cap)).run P w.drew = .ok xs.toArray w.drew := RdSl.first (w := w.drew) (hv.keep (Ext.drew [] w) (by simp))
  have hnl := next_le (n + m) cap hc
  have hb : Builtin.nextslicecap (n + m) cap * i.bytes ≤ 2 ^ 48 := by
    have h2 := Nat.mul_le_mul_right i.bytes hnl
    have h3 : (2 * (n + m) + 600) * i.bytes = 2 * ((n + m) * i.bytes) + 600 * i.bytes := by rw [Nat.add_mul, Nat.mul_assoc]
    omega
  have hmb : m * i.bytes ≤ (n + m) * i.bytes := Nat.mul_le_mul_right _ (by omega)
  have hm2 : m ≤ m * i.bytes := Nat.le_mul_of_pos_right _ hbp
  have hzr : ∀ w, (zeroValue e).run P w = .ok z w := fun w => by
    unfold zeroValue; simp only [Sem.run_bind, run_info hi, Result.andThen_ok, hz, Sem.run_pure]
  have h0 : ¬ i.bytes = 0 := by omega
  have hc' : ¬ n + m ≤ cap := by omega
  have hw : IntKind.i64.wrap ((m : Nat) : Int) = m := i64_fit (by omega)
  have hneg : ¬ ((m : Nat) : Int) < 0 := by omega
  have hbig : ¬ ((m : Nat) : Int) * (i.bytes : Int) > 2 ^ 48 := by
    rw [← Int.natCast_mul]; omega
  have hnm : n + m ≤ (n + m) * i.bytes := Nat.le_mul_of_pos_right _ hbp
  have hmax : IntKind.i64.max = 9223372036854775807 := by decide
  have hneed : ¬ (((n + m : Nat) : Int) > IntKind.i64.max) := by rw [hmax]; omega
  have hch : (choose (.appendCap (n + m) cap e)).run P w = .ok (n + m + w.tape w.drawn (.appendCap (n + m) cap e) % (2 ^ 63 - (n + m))) w.drew := rfl
  refine ⟨_, Nat.le_add_right _ (w.tape w.drawn (.appendCap (n + m) cap e) % (2 ^ 63 - (n + m))), ?_⟩
  unfold Builtin.append_
  simp only [List.getElem?_toArray, List.getElem?_cons_zero, List.getElem?_cons_succ, Sem.run_bind, run_und hu, run_und hu', Result.andThen_ok, run_size hi, run_info hi, Sem.run_pure, if_true, asInt, asIntOf, hw, hneg, hbig, if_false, Int.toNat_natCast, hc', Bool.not_true, Bool.false_eq_true, hneed, false_and]
  rw [if_neg (by omega)]
  have hap : ∀ w, ((if m * i.size = 0 then pure #[] else do pure (Builtin.zeroCells (← zeroValue e).cells m) : Sem (Array Value))).run P w = .ok (Builtin.zeroCells z.cells m) w := by
    intro w
    by_cases h : m * i.size = 0
    · have hzc : Builtin.zeroCells z.cells m = #[] := by
        apply Array.ext'
        exact List.length_eq_zero_iff.1 (by rw [zeroC _ _ _ hzs]; exact h)
      rw [if_pos h, hzc]; rfl
    · rw [if_neg h, Sem.run_bind, hzr]; rfl
  simp only [Sem.run_bind, hch, Result.andThen_ok, run_info hi, run_askRoom, hfv, hap, hzr, Sem.run_pure]
  rfl

/-- append of noughts onto a slice of the call's own. -/
theorem appendZ_i {T T' ty e : TypeId} {k : IntKind} {i : TypeInfo} {z : Value} {v : Value} {xs : List Value} {n m : Nat}
    (hu : P.underlying T = some (.slice e)) (hu' : P.underlying T' = some (.int k)) (hi : P.info? e = some i) (hz : i.zero = some z) (hzs : z.cells.size = i.size) (hbp : 0 < i.bytes)
    (hv : OwnAt w v e i.size xs n) (h1 : ∀ y ∈ z.cells.toList, y.oneCell' = true) (hsm : (n + m) * i.bytes + 600 * i.bytes ≤ 2 ^ 40)
    (h : ∀ v' w', OwnAt w' v' e i.size (xs ++ (Builtin.zeroCells z.cells m).toList) (n + m) → Ext (slB v) w w' → (slB v' = slB v ∨ ∃ b', slB v' = [b'] ∧ w.heap.size ≤ b') → K v' w') :
    insW P (Builtin.append_ #[T, T'] ty #[v, .int .i64 m]) w K := by
  have hzl := zeroC z.cells m i.size hzs
  have hone : ∀ y ∈ (Builtin.zeroCells z.cells m).toList, y.oneCell' = true := by
    intro y hy
    unfold Builtin.zeroCells at hy
    simp only [Array.toList_map, Array.toList_range, List.mem_map, List.mem_range] at hy
    obtain ⟨j, hj, rfl⟩ := hy
    have hp : 0 < z.cells.size := by
      rcases Nat.eq_zero_or_pos z.cells.size with h0 | h0
      · rw [h0] at hj; simp at hj
      · exact h0
    have hlt := Nat.mod_lt j hp
    rw [getElem!_pos z.cells (j % z.cells.size) hlt]
    exact h1 _ (by simp)
  have hmb : m * i.bytes ≤ (n + m) * i.bytes := Nat.mul_le_mul_right _ (by omega)
  have hm2 : m ≤ m * i.bytes := Nat.le_mul_of_pos_right _ hbp
  have out : ∀ base cap, v = .slice base n cap → cap < n + m → xs.length = n * i.size → insW P (Builtin.append_ #[T, T'] ty #[v, .int .i64 m]) w K := by
    intro base cap hb hc hl
    have hrd := hv.rd
    subst hb
    obtain ⟨c', hc', hr⟩ := run_appendZ_out (ty := ty) hu hu' hi hz hzs hbp hrd hc hsm
    have hown : OwnSl (w.drew.alloc (.cells (xs.toArray ++ Builtin.zeroCells z.cells m ++ Builtin.zeroCells z.cells (c' - (n + m))) e)) (.slice (some ⟨w.heap.size, 0, none⟩) (n + m) c') e i.size (xs ++ (Builtin.zeroCells z.cells m).toList) (n + m) := by
      refine .inr ⟨w.heap.size, c', (Builtin.zeroCells z.cells (c' - (n + m))).toList, rfl, ?_, ?_, ?_, hc'⟩
      · show (w.drew.alloc _).heap[w.drew.heap.size]? = _
        rw [alloc_new]
        simp
      · rw [List.length_append, hl, hzl, Nat.add_mul]
      · rw [List.length_append, List.length_append, hl, hzl, zeroC _ _ _ hzs]
        have := Nat.sub_add_cancel hc'
        generalize c' - (n + m) = q at *
        subst this
        rw [Nat.add_mul, Nat.add_mul]; omega
    exact insW_ok hr (h _ _ hown.at ((Ext.drew _ w).new (ext_alloc w.drew _)) (.inr ⟨w.heap.size, rfl, Nat.le_refl _⟩))
  rcases hv with ⟨rfl, rfl, rfl⟩ | ⟨b, o, c, cs, rfl, hb, hl, ht, hc, hn⟩
  · by_cases hm : m = 0
    · subst hm
      have hr := run_appendZ_in (w := w) (ty := ty) (base := none) (n := 0) (m := 0) (cap := 0) hu hu' hi hz hzs (by simp) (by simp) (Nat.le_refl _)
      have hy : (Builtin.zeroCells z.cells 0).toList = [] := List.length_eq_zero_iff.1 (by rw [hzl]; simp)
      exact insW_ok hr (h _ _ (.inl ⟨rfl, rfl, by rw [hy]; rfl⟩) (Ext.refl _ _) (.inl rfl))
    · exact out none 0 rfl (by omega) (by simp)
  · by_cases hcap : n + m ≤ c
    · have hr := run_appendZ_in (w := w) (ty := ty) (base := some ⟨b, o, none⟩) hu hu' hi hz hzs (by omega) (by omega) hcap
      have hlen : o + n * i.size + (Builtin.zeroCells z.cells m).toList.length ≤ cs.length := by
        have := Nat.mul_le_mul_right i.size hcap
        rw [Nat.add_mul] at this
        rw [hzl]; omega
      have hst := run_storeCells_at P b (o + n * i.size) e (Builtin.zeroCells z.cells m).toList 0 cs.toArray w hb (by simpa using hlen) hone
      simp only [add_addr] at hr
      simp only [hst, Result.andThen_ok, setRow_setB hb, Nat.add_zero] at hr
      refine insW_ok hr (h _ _ (.inr ⟨b, o, c, lspl cs (o + n * i.size) (Builtin.zeroCells z.cells m).toList, rfl, ?_, ?_, ?_, ?_, hcap⟩) (ext_setB w b _) (.inl rfl))
      · unfold Blk
        show (w.heap.setIfInBounds b _)[b]? = _
        rw [Array.getElem?_setIfInBounds]
        have : b < w.heap.size := hb.lt
        simp only [if_true, this]
        rfl
      · rw [List.length_append, hl, hzl, Nat.add_mul]
      · rw [Nat.add_mul, ← hzl, ← hl] at *
        unfold lspl
        rw [List.append_assoc, List.drop_append_of_le_length (by rw [List.length_take]; omega), List.drop_take, show o + xs.length - o = xs.length by omega, ht, ← List.append_assoc, ← List.length_append, List.take_left]
      · rw [lspl_length hlen]; exact hc
    · exact out _ c rfl (by omega) hl

/-- An array's value, read by a place. -/
theorem ixv1 {n k : Nat} {kk : IntKind} {cs : Array Value} {v : Value} (hk : k < n) (hv : cs[k]? = some v) (h : K v w) : ixvW (.arr n false 1) (.agg cs) (.int kk k) w K := by
  refine ⟨by omega, by omega, v, ?_, h⟩
  simpa using hv
end

section
variable {P : Program} {S : List Nat} {w0 w : World} {L R : List Res} {K : VPost}
theorem Sep.appendZ {T T' ty e : TypeId} {k : IntKind} {ti : TypeInfo} {z : Value} {v : Value} {xs : List Value} {n m : Nat} (s : Sep S w0 w L R) (i : Nat) (hL : L[i]? = some (rO v e ti.size xs n))
    (hu : P.underlying T = some (.slice e)) (hu' : P.underlying T' = some (.int k)) (hi : P.info? e = some ti) (hz : ti.zero = some z) (hzs : z.cells.size = ti.size) (hbp : 0 < ti.bytes)
    (h1 : ∀ y ∈ z.cells.toList, y.oneCell' = true) (hsm : (n + m) * ti.bytes + 600 * ti.bytes ≤ 2 ^ 40)
    (h : ∀ v' w', Sep S w0 w' (L.set i (rO v' e ti.size (xs ++ (Builtin.zeroCells z.cells m).toList) (n + m))) R → K v' w') :
    insW P (Builtin.append_ #[T, T'] ty #[v, .int .i64 m]) w K :=
  appendZ_i hu hu' hi hz hzs hbp (s.at i hL) h1 hsm fun v' w' hv e hb => h v' w' (s.upd i hL (T' := rO v' _ ti.size (xs ++ (Builtin.zeroCells z.cells m).toList) (n + m)) hv e (by
    intro b hb'
    show b ∈ slB v ∨ _
    rcases hb with h2 | ⟨b', h2, h3⟩
    · exact .inl (h2 ▸ hb')
    · have hb' : b ∈ slB v' := hb'
      rw [h2] at hb'; simp at hb'; subst hb'; exact .inr h3))
/-- A literal slice. -/
theorem Sep.lit {t e : TypeId} {ti : TypeInfo} {z : Value} {vs : List Value} {parts : List (Nat × Value)} (s : Sep S w0 w L R) (hu : P.underlying t = some (.slice e)) (hi : P.info? e = some ti) (hz : ti.zero = some z)
    (hp : parts = enumV 0 vs) (hv : ∀ v ∈ vs, v.cells.size = ti.size) (hsm : vs.length * ti.size ≤ 2 ^ 24) (h : ∀ v' w', Sep S w0 w' (rO v' e ti.size (flatV vs) vs.length :: L) R → slB v' = [w.heap.size] → Ext [] w w' → K v' w') :
    insW P (Instr.buildSlice t vs.length parts.toArray) w K :=
  buildSlice_i hu hi hz hp hv hsm fun b w' hb e hk _ => h _ w' (s.add (T := rO (.slice (some ⟨b, 0, none⟩) vs.length vs.length) _ ti.size (flatV vs) vs.length)
    (.inr ⟨b, 0, vs.length, _, rfl, hk, flatV_length hv, by rw [List.drop_zero, List.take_of_length_le (by rw [flatV_length hv]; exact Nat.le_refl _)], by rw [flatV_length hv]; omega, Nat.le_refl _⟩) e (by
      intro x hx; simp [rO, slB] at hx; omega)) (by simp [slB]; omega) e
end
end Go.Proofs.YtbaddpnlokmldaaDoor
