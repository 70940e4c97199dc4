/- Memory by whole blocks; what each transformer asks and gives, in the form in which contracts are proved. -/
import Derived.Test.YtedebapgmfnflaaG7
import Derived.Below
namespace Go.Proofs.Ytedebapgmfnflaa
open Go

/-- A block of cells that may be written. -/
def Blk (w : World) (b : Nat) (cs : List Value) (t : TypeId) : Prop := w.heap[b]? = some (.cells cs.toArray t (0, 0))
/-- A block of cells that may be read. -/
def RBlk (w : World) (b : Nat) (cs : List Value) : Prop := ∃ t fz, w.heap[b]? = some (.cells cs.toArray t fz)

/-- From the one world to the other the named blocks alone may have changed; new ones may have come. -/
structure Ext (S : List Nat) (w w' : World) : Prop where
  os : w'.os = w.os
  tape : w'.tape = w.tape
  output : w'.output = w.output
  size : w.heap.size ≤ w'.heap.size
  same : ∀ b, b < w.heap.size → b ∉ S → w'.heap[b]? = w.heap[b]?

theorem Ext.refl (S : List Nat) (w : World) : Ext S w w := ⟨rfl, rfl, rfl, Nat.le_refl _, fun _ _ _ => rfl⟩
theorem Ext.drew (S : List Nat) (w : World) : Ext S w w.drew := ⟨rfl, rfl, rfl, Nat.le_refl _, fun _ _ _ => rfl⟩
theorem Ext.step {S T : List Nat} {a b c : World} (h : Ext S a b) (k : Ext T b c) (hT : ∀ x ∈ T, x < a.heap.size → x ∈ S) : Ext S a c :=
  ⟨k.os.trans h.os, k.tape.trans h.tape, k.output.trans h.output, Nat.le_trans h.size k.size, fun x hx hn =>
    (k.same x (Nat.lt_of_lt_of_le hx h.size) (fun hm => hn (hT x hm hx))).trans (h.same x hx hn)⟩
/-- A step that touches nothing old. -/
theorem Ext.new {S : List Nat} {a b c : World} (h : Ext S a b) (k : Ext [] b c) : Ext S a c := h.step k (fun x hx => by cases hx)
theorem Ext.mono {S T : List Nat} {a b : World} (h : Ext S a b) (hs : ∀ x ∈ S, x < a.heap.size → x ∈ T) : Ext T a b :=
  ⟨h.os, h.tape, h.output, h.size, fun x hx hn => h.same x hx (fun hm => hn (hs x hm hx))⟩
theorem Ext.below {w w' : World} (h : Ext [] w w') : RowKit.Below w.heap.size w w' := ⟨h.os, h.tape, h.output, h.size, fun k hk => h.same k hk (by simp)⟩

theorem Blk.lt {w : World} {b : Nat} {cs : List Value} {t : TypeId} (h : Blk w b cs t) : b < w.heap.size := (Array.getElem?_eq_some_iff.1 h).1
theorem RBlk.lt {w : World} {b : Nat} {cs : List Value} (h : RBlk w b cs) : b < w.heap.size := by obtain ⟨t, fz, h⟩ := h; exact (Array.getElem?_eq_some_iff.1 h).1
theorem Blk.r {w : World} {b : Nat} {cs : List Value} {t : TypeId} (h : Blk w b cs t) : RBlk w b cs := ⟨t, _, h⟩
theorem Blk.keep {w w' : World} {b : Nat} {cs : List Value} {t : TypeId} {S : List Nat} (h : Blk w b cs t) (e : Ext S w w') (hn : b ∉ S) : Blk w' b cs t := (e.same b h.lt hn).trans h
theorem RBlk.keep {w w' : World} {b : Nat} {cs : List Value} {S : List Nat} (h : RBlk w b cs) (e : Ext S w w') (hn : b ∉ S) : RBlk w' b cs := by
  obtain ⟨t, fz, h'⟩ := h
  exact ⟨t, fz, (e.same b (Array.getElem?_eq_some_iff.1 h').1 hn).trans h'⟩
theorem Blk.inj {w : World} {b : Nat} {cs cs' : List Value} {t t' : TypeId} (h : Blk w b cs t) (h' : Blk w b cs' t') : cs = cs' := by
  unfold Blk at h h'
  rw [h] at h'
  simp only [Option.some.injEq, Obj.cells.injEq] at h'
  exact List.toArray_inj h'.1

section
variable {P : Program} {w : World} {K : VPost}

theorem size_al (w : World) (o : Obj) : (w.alloc o).heap.size = w.heap.size + 1 := by
  show (w.heap.push o).size = _
  simp

theorem ext_alloc (w : World) (o : Obj) : Ext [] w (w.alloc o) :=
  ⟨rfl, rfl, rfl, by rw [size_al]; omega, fun b hb _ => by
    show (w.heap.push o)[b]? = _
    rw [Array.getElem?_push, if_neg (by omega)]⟩

theorem alloc_new (w : World) (o : Obj) : (w.alloc o).heap[w.heap.size]? = some o := by
  show (w.heap.push o)[w.heap.size]? = _
  simp

theorem boxW_i {e : TypeId} {v : Value} (h : ∀ b w', w.heap.size = b → Ext [] w w' → Blk w' b v.cells.toList e → w'.heap.size = b + 1 → K (.pointer (some ⟨b, 0, none⟩)) w') : boxW e v w K := by
  unfold boxW
  refine h _ _ rfl (ext_alloc w _) ?_ (size_al w _)
  unfold Blk
  rw [alloc_new, Array.toArray_toList]

theorem allocW_i {e : TypeId} {z : Option Value} {v : Value} (hz : z = some v) (h : ∀ b w', w.heap.size = b → Ext [] w w' → Blk w' b v.cells.toList e → w'.heap.size = b + 1 → K (.pointer (some ⟨b, 0, none⟩)) w') : allocW z e w K := by
  subst hz
  exact boxW_i h

theorem load1 {n : Nat} {b o : Nat} {cs : List Value} {v : Value} (hb : RBlk w b cs) (hv : cs[o]? = some v) (h : K v w) : loadW (some (false, n)) (.pointer (some ⟨b, o, none⟩)) w K := by
  obtain ⟨t, fz, hb⟩ := hb
  exact ⟨_, t, fz, v, hb, rfl, by simpa using hv, h⟩

theorem extract_list (cs : List Value) (o n : Nat) : cs.toArray.extract o (o + n) = ((cs.drop o).take n).toArray := by
  apply Array.ext'
  simp [List.extract_eq_take_drop]

theorem loadN {n : Nat} {b o : Nat} {cs : List Value} (hb : RBlk w b cs) (hn : o + n ≤ cs.length) (h : K (.agg ((cs.drop o).take n).toArray) w) : loadW (some (true, n)) (.pointer (some ⟨b, o, none⟩)) w K := by
  obtain ⟨t, fz, hb⟩ := hb
  refine ⟨_, t, fz, hb, rfl, by simpa using hn, ?_⟩
  show K (.agg (cs.toArray.extract o (o + n))) w
  rw [extract_list]; exact h

theorem loadAll {n : Nat} {b : Nat} {cs : List Value} (hb : RBlk w b cs) (hn : cs.length = n) (h : K (.agg cs.toArray) w) : loadW (some (true, n)) (.pointer (some ⟨b, 0, none⟩)) w K :=
  loadN hb (by omega) (by rw [List.drop_zero, List.take_of_length_le (by omega)]; exact h)

/-- Cells with others in the place of some of them. -/
def lspl (cs : List Value) (o : Nat) (vs : List Value) : List Value := cs.take o ++ vs ++ cs.drop (o + vs.length)
theorem lspl_length {cs : List Value} {o : Nat} {vs : List Value} (h : o + vs.length ≤ cs.length) : (lspl cs o vs).length = cs.length := by
  simp [lspl]; omega

theorem ext_setB (w : World) (b : Nat) (o : Obj) : Ext [b] w (setB w b o) :=
  ⟨rfl, rfl, rfl, by simp [setB], fun x hx hn => by
    show (w.heap.setIfInBounds b o)[x]? = _
    rw [Array.getElem?_setIfInBounds, if_neg (by simp at hn; omega)]⟩

theorem storeW_i {g : Bool} {n : Nat} {b o : Nat} {cs vs : List Value} {t : TypeId} {v : Value} {K : World → Prop} (hb : Blk w b cs t) (hv : v.cells = vs.toArray) (hn : vs.length = n) (hle : o + n ≤ cs.length)
    (h1 : ∀ x ∈ vs, x.oneCell' = true) (h : ∀ w', Ext [b] w w' → Blk w' b (lspl cs o vs) t → w'.heap.size = w.heap.size → K w') : storeW (some (g, n)) (.pointer (some ⟨b, o, none⟩)) v w K := by
  refine ⟨_, t, hb, rfl, by rw [hv]; simpa using hn, by simpa using hle, by rw [hv]; exact Array.all_eq_true_iff_forall_mem.2 (fun x hx => h1 x (by simpa using hx)), ?_⟩
  refine h _ (ext_setB w b _) ?_ (by simp [setB])
  unfold Blk
  show (w.heap.setIfInBounds b _)[b]? = _
  rw [Array.getElem?_setIfInBounds]
  have : b < w.heap.size := hb.lt
  simp only [if_true, this]
  congr 2
  rw [hv]
  simp [spl, lspl]

theorem store1 {g : Bool} {b o : Nat} {cs : List Value} {t : TypeId} {v : Value} {K : World → Prop} (hb : Blk w b cs t) (hv : v.cells = #[v]) (hle : o < cs.length)
    (h1 : v.oneCell' = true) (h : ∀ w', Ext [b] w w' → Blk w' b (cs.set o v) t → w'.heap.size = w.heap.size → K w') : storeW (some (g, 1)) (.pointer (some ⟨b, o, none⟩)) v w K := by
  refine storeW_i (vs := [v]) hb hv rfl (by omega) (by simpa using h1) fun w' e hb' hs => h w' e ?_ hs
  have : lspl cs o [v] = cs.set o v := by
    unfold lspl
    rw [List.set_eq_take_append_cons_drop, if_pos hle]
    simp
  rw [← this]; exact hb'

theorem storeAll {n : Nat} {b : Nat} {cs vs : List Value} {t : TypeId} {K : World → Prop} (hb : Blk w b cs t) (hn : vs.length = n) (hc : cs.length = n)
    (h1 : ∀ x ∈ vs, x.oneCell' = true) (h : ∀ w', Ext [b] w w' → Blk w' b vs t → w'.heap.size = w.heap.size → K w') : storeW (some (true, n)) (.pointer (some ⟨b, 0, none⟩)) (.agg vs.toArray) w K := by
  refine storeW_i (vs := vs) hb rfl hn (by omega) h1 fun w' e hb' hs => h w' e ?_ hs
  have : lspl cs 0 vs = vs := by unfold lspl; simp; omega
  rwa [this] at hb'

theorem nil_i {a : Addr} (h : K (.pointer (some a)) w) : nilW (.pointer (some a)) w K := h
theorem off_i {b o k : Nat} (h : K (.pointer (some ⟨b, o + k, none⟩)) w) : offW (some k) (.pointer (some ⟨b, o, none⟩)) w K := by
  show K (.pointer (some (Addr.add ⟨b, o, none⟩ k))) w
  have : Addr.add ⟨b, o, none⟩ k = ⟨b, o + k, none⟩ := by unfold Addr.add; split <;> simp_all
  rw [this]; exact h
theorem add_addr (b o k : Nat) : Addr.add ⟨b, o, none⟩ k = ⟨b, o + k, none⟩ := by unfold Addr.add; split <;> simp_all

theorem idx_i {b o len cap sz : Nat} {k : IntKind} {i : Nat} (hi : i < len) (h : K (.pointer (some ⟨b, o + i * sz, none⟩)) w) :
    idxW (some (none, sz)) (.slice (some ⟨b, o, none⟩) len cap) (.int k i) w K := by
  refine ⟨by omega, by omega, ?_⟩
  rw [add_addr]; simpa using h
theorem idxA_i {b o n sz : Nat} {k : IntKind} {i : Nat} (hi : i < n) (h : K (.pointer (some ⟨b, o + i * sz, none⟩)) w) :
    idxW (some (some n, sz)) (.pointer (some ⟨b, o, none⟩)) (.int k i) w K := by
  refine ⟨by omega, by omega, ?_⟩
  rw [add_addr]; simpa using h

theorem gs_t {A : VPost → Prop} (h : A K) : gstep (.bool true) true w A K := h
theorem gs_f {A : VPost → Prop} (h : A K) : gstep (.bool false) false w A K := h
theorem gs_tf {A : VPost → Prop} (h : K undef w) : gstep (.bool true) false w A K := h
theorem gs_ft {A : VPost → Prop} (h : K undef w) : gstep (.bool false) true w A K := h

theorem cond_t {A B : Prop} (h : A) : condW (.bool true) A B := h
theorem cond_f {A B : Prop} (h : B) : condW (.bool false) A B := h
theorem cond_d {p : Prop} [Decidable p] {A B : Prop} (ht : p → A) (hf : ¬p → B) : condW (.bool (decide p)) A B := by
  by_cases h : p
  · simp only [h, decide_true]; exact ht h
  · simp only [h, decide_false]; exact hf h
theorem cond_b {b : Bool} {A B : Prop} (ht : b = true → A) (hf : b = false → B) : condW (.bool b) A B := by
  cases b
  · exact hf rfl
  · exact ht rfl

/-! ### Equations: operations on numbers and truths -/
theorem nilW_e {a : Addr} : nilW (.pointer (some a)) w K = K (.pointer (some a)) w := rfl
theorem condW_t {A B : Prop} : condW (.bool true) A B = A := rfl
theorem condW_f {A B : Prop} : condW (.bool false) A B = B := rfl
theorem gstep_t {A : VPost → Prop} : gstep (.bool true) true w A K = A K := rfl
theorem gstep_f {A : VPost → Prop} : gstep (.bool false) false w A K = A K := rfl
theorem gstep_tf {A : VPost → Prop} : gstep (.bool true) false w A K = K undef w := rfl
theorem gstep_ft {A : VPost → Prop} : gstep (.bool false) true w A K = K undef w := rfl
theorem gstep_u {b : Bool} {A : VPost → Prop} : gstep undef b w A K = K undef w := rfl
theorem pickW_t {a b : Value} : pickW (.bool true) a b w K = K a w := rfl
theorem pickW_f {a b : Value} : pickW (.bool false) a b w K = K b w := rfl
theorem extrW_e {vs : List Value} {i : Nat} {x : Value} (h : vs[i]? = some x) (hK : K x w) : extrW (.tuple vs.toArray) i w K := ⟨x, by simpa using h, hK⟩
theorem extr0 {a b : Value} : extrW (.tuple #[a, b]) 0 w K = K a w := by simp [extrW]
theorem extr1 {a b : Value} : extrW (.tuple #[a, b]) 1 w K = K b w := by simp [extrW]
theorem len_s {ts : Array TypeId} {t : TypeId} {a : Option Addr} {n c : Nat} : lenW P (some true) ts t #[.slice a n c] w K = K (.int .i64 n) w := rfl
theorem len_str {ts : Array TypeId} {t : TypeId} {s : ByteArray} : lenW P (some false) ts t #[.string s] w K = K (.int .i64 s.size) w := rfl
theorem not_e {b : Bool} : insW P (Op.unary .not (.bool b)) w K = K (.bool !b) w := rfl

section ints
variable {t : TypeId} {c : Bool} {k : IntKind} {x y : Int}
theorem bin_add : binW P .add t c (.int k x) (.int k y) w K = K (.int k (k.wrap (x + y))) w := by
  simp [binW, binE, guardE, eqGuard, binOp, Op.intArith, insW, okW, Sem.run_bind]
theorem bin_sub : binW P .sub t c (.int k x) (.int k y) w K = K (.int k (k.wrap (x - y))) w := by
  simp [binW, binE, guardE, eqGuard, binOp, Op.intArith, insW, okW, Sem.run_bind]
theorem bin_mul : binW P .mul t c (.int k x) (.int k y) w K = K (.int k (k.wrap (x * y))) w := by
  simp [binW, binE, guardE, eqGuard, binOp, Op.intArith, insW, okW, Sem.run_bind]
theorem bin_eql : binW P .eql t c (.int k x) (.int k y) w K = K (.bool (x == y)) w := by
  simp [binW, binE, guardE, eqGuard, binOp, Op.intCmp, insW, okW, Sem.run_bind]
theorem bin_neq : binW P .neq t c (.int k x) (.int k y) w K = K (.bool (x != y)) w := by
  simp [binW, binE, guardE, eqGuard, binOp, Op.intCmp, insW, okW, Sem.run_bind]
theorem bin_lss : binW P .lss t c (.int k x) (.int k y) w K = K (.bool (decide (x < y))) w := by
  simp [binW, binE, guardE, eqGuard, binOp, Op.intCmp, insW, okW, Sem.run_bind]
theorem bin_leq : binW P .leq t c (.int k x) (.int k y) w K = K (.bool (decide (x ≤ y))) w := by
  simp [binW, binE, guardE, eqGuard, binOp, Op.intCmp, insW, okW, Sem.run_bind]
theorem bin_gtr : binW P .gtr t c (.int k x) (.int k y) w K = K (.bool (decide (y < x))) w := by
  simp [binW, binE, guardE, eqGuard, binOp, Op.intCmp, insW, okW, Sem.run_bind]
theorem bin_geq : binW P .geq t c (.int k x) (.int k y) w K = K (.bool (decide (y ≤ x))) w := by
  simp [binW, binE, guardE, eqGuard, binOp, Op.intCmp, insW, okW, Sem.run_bind]
theorem bin_quo (h : y ≠ 0) : binW P .quo t c (.int k x) (.int k y) w K = K (.int k (k.wrap (x.tdiv y))) w := by
  simp [binW, binE, guardE, eqGuard, binOp, Op.intDiv, insW, okW, Sem.run_bind, h]
theorem bin_rem (h : y ≠ 0) : binW P .rem t c (.int k x) (.int k y) w K = K (.int k (x.tmod y)) w := by
  simp [binW, binE, guardE, eqGuard, binOp, Op.intDiv, insW, okW, Sem.run_bind, h]
theorem bin_shl {k' : IntKind} {y : Int} (h : 0 ≤ y) : binW P .shl t c (.int k x) (.int k' y) w K = K (.int k (k.wrap (x * 2 ^ (min y.toNat k.bits)))) w := by
  have : ¬ y < 0 := by omega
  simp [binW, binE, guardE, eqGuard, binOp, Op.shift, insW, okW, Sem.run_bind, this]
theorem bin_shr {k' : IntKind} {y : Int} (h : 0 ≤ y) : binW P .shr t c (.int k x) (.int k' y) w K = K (.int k (x.fdiv (2 ^ (min y.toNat k.bits)))) w := by
  have : ¬ y < 0 := by omega
  simp [binW, binE, guardE, eqGuard, binOp, Op.shift, insW, okW, Sem.run_bind, this]
end ints

theorem bin_equal {t : TypeId} {c r : Bool} {a b : Value} (hg : ∀ w, (guardE .eql t c a b).run P w = .ok () w) (hb : binOp .eql t a b = do pure (.bool (← Op.equal t a b))) (he : (Op.equal t a b).run P w = .ok r w) :
    binW P .eql t c a b w K = K (.bool r) w := by
  unfold binW insW binE
  rw [Sem.run_bind, hg, Result.andThen_ok, hb, Sem.run_bind, he]
  rfl
theorem bin_nequal {t : TypeId} {c r : Bool} {a b : Value} (hg : ∀ w, (guardE .neq t c a b).run P w = .ok () w) (hb : binOp .neq t a b = do pure (.bool (!(← Op.equal t a b)))) (he : (Op.equal t a b).run P w = .ok r w) :
    binW P .neq t c a b w K = K (.bool (!r)) w := by
  unfold binW insW binE
  rw [Sem.run_bind, hg, Result.andThen_ok, hb, Sem.run_bind, he]
  rfl
theorem equalIn_ptr_nil {t : TypeId} {a : Addr} {e : TypeId} (hu : P.underlying t = some (.pointer e)) (d : Nat) : (Op.equalIn (d + 1) t (.pointer (some a)) (.pointer none)).run P w = .ok false w := by
  unfold Op.equalIn
  rw [Sem.run_bind, run_und hu]
  rfl
theorem equalIn_nil_nil {t : TypeId} {e : TypeId} (hu : P.underlying t = some (.pointer e)) (d : Nat) : (Op.equalIn (d + 1) t (.pointer none) (.pointer none)).run P w = .ok true w := by
  unfold Op.equalIn
  rw [Sem.run_bind, run_und hu]
  rfl
theorem equal_ptr_nil {t : TypeId} {a : Addr} {e : TypeId} (hu : P.underlying t = some (.pointer e)) : (Op.equal t (.pointer (some a)) (.pointer none)).run P w = .ok false w := equalIn_ptr_nil hu 9999
theorem equal_nil_nil {t : TypeId} {e : TypeId} (hu : P.underlying t = some (.pointer e)) : (Op.equal t (.pointer none) (.pointer none)).run P w = .ok true w := equalIn_nil_nil hu 9999
theorem ptr_eql_nil {t : TypeId} {c : Bool} {a : Addr} {e : TypeId} (hu : P.underlying t = some (.pointer e)) : binW P .eql t c (.pointer (some a)) (.pointer none) w K = K (.bool false) w :=
  bin_equal (fun _ => by cases c <;> rfl) rfl (equal_ptr_nil hu)
theorem nil_eql_nil {t : TypeId} {c : Bool} {e : TypeId} (hu : P.underlying t = some (.pointer e)) : binW P .eql t c (.pointer none) (.pointer none) w K = K (.bool true) w :=
  bin_equal (fun _ => by cases c <;> rfl) rfl (equal_nil_nil hu)
theorem ptr_neq_nil {t : TypeId} {c : Bool} {a : Addr} {e : TypeId} (hu : P.underlying t = some (.pointer e)) : binW P .neq t c (.pointer (some a)) (.pointer none) w K = K (.bool true) w :=
  bin_nequal (fun _ => by cases c <;> rfl) rfl (equal_ptr_nil hu)

/-- Where ways part and meet again: what is to follow stands under a name. -/
theorem bindX_i {k : XPost} {F : XPost → Prop} (h : ∀ J : XPost, (∀ e fr w, k e fr w → J e fr w) → F J) : bindX k F := h k fun _ _ _ h => h

theorem loop_i {B : Fr → World → XPost → Prop} {fr : Fr} {w : World} {K : XPost} (I : Nat → Fr → World → Prop) (m : Nat) (h0 : I m fr w)
    (hr : ∀ m fr w (J : XPost), I m fr w → (∀ k fr w, k < m → I k fr w → J .normal fr w) → (∀ e fr w, e ≠ .normal → K e fr w → J e fr w) → B fr w J) : loopW B fr w K := by
  refine ⟨I, ⟨m, h0⟩, fun m fr w hI => hr m fr w _ hI (fun k fr w hk hI => ⟨k, hk, hI⟩) (fun e fr w he hK => ?_)⟩
  cases e <;> first
    | exact absurd rfl he
    | exact hK
end
end Go.Proofs.Ytedebapgmfnflaa
