/- Every order of a region comes to what its one run comes to. Condition: 'okB' of the region. -/
import Derived.Test.YtedebapgmfnflaaG3
namespace Go.Proofs.Ytedebapgmfnflaa
open Go

section
variable {md : Bool} {P : Program} {ops : Array Oper}

theorem looks_op {o : Oper} {t : Nat} (h : Operand.tmp t ∈ o.op.operands) : t ∈ o.looksAt ops := by
  unfold Oper.looksAt
  refine List.mem_append_left _ (List.mem_filterMap.2 ⟨.tmp t, by simpa using h, rfl⟩)

theorem looks_guard {o : Oper} {g : Nat × Bool} {d : Nat} (hg : o.guard = some g) (hd : dstOf ops g.1 = some d) : d ∈ o.looksAt ops := by
  unfold Oper.looksAt
  refine List.mem_append_right _ ?_
  obtain ⟨j, b⟩ := g
  simp only [hg]
  unfold dstOf at hd
  simp only at hd
  simp [hd]

theorem ev_congr {o : Oper} {fr fr' : Fr} (h : ∀ t ∈ o.looksAt ops, fr t = fr' t) : ∀ x ∈ o.op.operands, evF fr x = evF fr' x := by
  intro x hx
  cases x with
  | tmp t => exact h t (looks_op hx)
  | _ => rfl

theorem gval_congr {o : Oper} {fr fr' : Fr} {g : Nat × Bool} (hg : o.guard = some g) (h : ∀ t ∈ o.looksAt ops, fr t = fr' t) : gval ops fr g.1 = gval ops fr' g.1 := by
  unfold gval
  cases hd : dstOf ops g.1 with
  | none => rfl
  | some d => exact h d (looks_guard hg hd)

theorem guardW_mono {v : Value} {b : Bool} {A B A' B' : Prop} (h : guardW v b A B) (ha : A → A') (hb : B → B') : guardW v b A' B' := by
  unfold guardW at *
  cases v with
  | bool c =>
    simp only at h ⊢
    cases hc : (c == b)
    · rw [hc] at h; exact hb h
    · rw [hc] at h; exact ha h
  | _ => exact hb h

theorem stepV_congr {o : Oper} {fr fr' : Fr} {w : World} {K : VPost} (h : ∀ t ∈ o.looksAt ops, fr t = fr' t) (hh : stepV md P ops o fr w K) : stepV md P ops o fr' w K := by
  unfold stepV at *
  cases hg : o.guard with
  | none => simp only [hg] at hh ⊢; exact opW_congr (ev_congr h) hh
  | some g =>
    simp only [hg] at hh ⊢
    rw [← gval_congr hg h]
    exact guardW_mono hh (opW_congr (ev_congr h)) id

theorem okW_det {s : Sem Value} {w : World} {K : VPost} (h : insW P s w K) : ∃ v w', K v w' ∧ ∀ K' : VPost, K' v w' → insW P s w K' := by
  unfold insW at *
  cases hr : s.run P w with
  | ok v w' => rw [hr] at h; exact ⟨v, w', h, fun K' hK => hK⟩
  | halt x w' => rw [hr] at h; exact h.elim

theorem nilW_det {v : Value} {w : World} {K : VPost} (h : nilW v w K) : ∃ u, K u w ∧ ∀ w' (K' : VPost), K' u w' → nilW v w' K' := by
  unfold nilW at *
  split at h
  · exact ⟨_, h, fun _ _ hk => hk⟩
  · exact ⟨_, h, fun _ _ hk => hk⟩
  · exact h.elim

/-! ### Operations on numbers -/
theorem WL.det {s : Sem Value} (hs : WL P s) {w : World} {K : VPost} (h : insW P s w K) : ∃ u, K u w ∧ ∀ w' (K' : VPost), K' u w' → insW P s w' K' := by
  unfold insW at *
  cases hr : s.run P w with
  | ok v w' =>
    rw [hr] at h
    obtain ⟨rfl, h2⟩ := hs w v w' hr
    exact ⟨v, h, fun w' K' hK => by rw [h2 w']; exact hK⟩
  | halt x w' => rw [hr] at h; exact h.elim

theorem WL.ite {α : Type} {c : Prop} [Decidable c] {a b : Sem α} (ha : WL P a) (hb : WL P b) : WL P (if c then a else b) := by
  by_cases h : c
  · rw [if_pos h]; exact ha
  · rw [if_neg h]; exact hb

theorem WL.panicE {α : Type} (x : String) : WL P (runtimePanic (.error x) : Sem α) := by
  unfold runtimePanic
  exact WL.bind WL.prog fun p => WL.halt _

theorem WL.bin_int {op : BinOp} {t : TypeId} {c : Bool} {k k' : IntKind} {x y : Int} : WL P (binE op t c (.int k x) (.int k' y)) := by
  unfold binE
  refine WL.bind ?_ fun _ => ?_
  · unfold guardE eqGuard
    cases op <;> exact WL.pure' ()
  · unfold binOp
    cases op <;> simp only <;> first
      | (unfold Op.shift; exact WL.ite (WL.panicE _) (WL.pure' _))
      | (refine WL.ite (WL.stuck _) ?_; first
          | exact WL.pure' _
          | (unfold Op.intDiv; exact WL.ite (WL.panicE _) (WL.pure' _)))
theorem binN_det {op : BinOp} {t : TypeId} {c : Bool} {a b : Value} {w : World} {K : VPost} (h : binN P op t c a b w K) : ∃ u, K u w ∧ ∀ w' (K' : VPost), K' u w' → binN P op t c a b w' K' := by
  unfold binN at *
  split at h
  · exact WL.det WL.bin_int h
  · exact h.elim
theorem WL.un_int {op : UnOp} {k : IntKind} {x : Int} : WL P (Op.unary op (.int k x)) := by
  unfold Op.unary
  cases op <;> first | exact WL.pure' _ | exact WL.stuck _
theorem WL.un_bool {op : UnOp} {x : Bool} : WL P (Op.unary op (.bool x)) := by
  unfold Op.unary
  cases op <;> first | exact WL.pure' _ | exact WL.stuck _
theorem unN_det {op : UnOp} {a : Value} {w : World} {K : VPost} (h : unN P op a w K) : ∃ u, K u w ∧ ∀ w' (K' : VPost), K' u w' → unN P op a w' K' := by
  unfold unN at *
  split at h
  · exact WL.det WL.un_int h
  · exact WL.det WL.un_bool h
  · exact h.elim
theorem WL.und {t : TypeId} : WL P (underlying t) := by
  unfold underlying
  refine WL.bind WL.prog fun p => ?_
  cases p.underlying t <;> first | exact WL.pure' _ | exact WL.stuck _
theorem WL.info {t : TypeId} : WL P (typeInfo t) := by
  unfold typeInfo
  refine WL.bind WL.prog fun p => ?_
  cases p.info? t <;> first | exact WL.pure' _ | exact WL.stuck _
theorem WL.zero {t : TypeId} : WL P (zeroValue t) := by
  unfold zeroValue
  refine WL.bind WL.info fun i => ?_
  cases i.zero <;> first | exact WL.pure' _ | exact WL.unsupported _
theorem WL.size {t : TypeId} : WL P (sizeOf t) := by
  unfold sizeOf
  exact WL.bind WL.info fun i => WL.pure' _
theorem WL.mapM {α β : Type} {f : α → Sem β} (hf : ∀ a, WL P (f a)) : ∀ l : List α, WL P (l.mapM f) := by
  intro l
  induction l with
  | nil => exact WL.pure' _
  | cons a l ih =>
    rw [List.mapM_cons]
    exact WL.bind (hf a) fun b => WL.bind ih fun bs => WL.pure' _
theorem WL.build {t : TypeId} {parts : Array (Nat × Value)} : WL P (Instr.build t parts) := by
  unfold Instr.build
  refine WL.bind WL.zero fun z => WL.bind WL.und fun d => ?_
  cases d <;> first
    | exact WL.stuck _
    | (rename_i fs
       refine WL.bind ?_ fun places => ?_
       · rw [Array.mapM_eq_mapM_toList, map_eq_pure_bind]
         exact WL.bind (WL.mapM (fun f => WL.bind WL.size fun n => WL.pure' _) _) fun x => WL.pure' _
       · split <;> first | exact WL.pure' _ | exact WL.stuck _)
    | (refine WL.bind WL.size fun n => ?_
       split <;> first | exact WL.pure' _ | exact WL.stuck _)
theorem numT_spec {t : TypeId} (h : numT P t = true) : ∃ k, P.underlying t = some (.int k) := by
  unfold numT at h
  split at h
  · exact ⟨_, by assumption⟩
  · cases h
theorem convN_det {s d : TypeId} {a : Value} {w : World} {K : VPost} (hn : (numT P s && numT P d) = true) (h : convN P s d a w K) : ∃ u, K u w ∧ ∀ w' (K' : VPost), K' u w' → convN P s d a w' K' := by
  rw [Bool.and_eq_true] at hn
  obtain ⟨k1, h1⟩ := numT_spec hn.1
  obtain ⟨k2, h2⟩ := numT_spec hn.2
  unfold convN at *
  split at h
  · rename_i k n
    have key : ∀ (w : World) (K : VPost), insW P (convert s d (.int k n)) w K = K (.int k2 (k2.wrap n)) w := by
      intro w K
      unfold insW convert
      simp only [Sem.run_bind, run_und h1, run_und h2, Result.andThen_ok]
      rfl
    rw [key] at h
    exact ⟨_, h, fun w' K' hK => by rw [key]; exact hK⟩
  · exact h.elim
theorem binM_det {g : Bool} {op : BinOp} {t : TypeId} {c : Bool} {a b : Value} {w : World} {K : VPost} (hk : (match (generalizing := false) g with | true => 0 | false => 2) = 0) (h : match (generalizing := false) g with | true => binN P op t c a b w K | false => binW P op t c a b w K) :
    ∃ u, K u w ∧ ∀ w' (K' : VPost), K' u w' → (match (generalizing := false) g with | true => binN P op t c a b w' K' | false => binW P op t c a b w' K') := by
  cases g
  · cases hk
  · exact binN_det h
theorem unM_det {g : Bool} {op : UnOp} {a : Value} {w : World} {K : VPost} (hk : (match (generalizing := false) g with | true => 0 | false => 2) = 0) (h : match (generalizing := false) g with | true => unN P op a w K | false => insW P (Op.unary op a) w K) :
    ∃ u, K u w ∧ ∀ w' (K' : VPost), K' u w' → (match (generalizing := false) g with | true => unN P op a w' K' | false => insW P (Op.unary op a) w' K') := by
  cases g
  · cases hk
  · exact unN_det h
theorem convM_det {m : Bool} {s d : TypeId} {a : Value} {w : World} {K : VPost} (hk : (match (generalizing := false) m && (numT P s && numT P d) with | true => 0 | false => 3) = 0) (h : match (generalizing := false) m && (numT P s && numT P d) with | true => convN P s d a w K | false => insW P (convert s d a) w K) :
    ∃ u, K u w ∧ ∀ w' (K' : VPost), K' u w' → (match (generalizing := false) m && (numT P s && numT P d) with | true => convN P s d a w' K' | false => insW P (convert s d a) w' K') := by
  cases hg : m && (numT P s && numT P d) with
  | false => rw [hg] at hk; cases hk
  | true =>
    rw [hg] at h
    rw [Bool.and_eq_true] at hg
    exact convN_det hg.2 h
theorem mkM_det {g : Bool} {s t : Sem Value} {X : World → VPost → Prop} {w : World} {K : VPost} (hs : WL P s) (hk : (match (generalizing := false) g with | true => 0 | false => 3) = 0) (h : match (generalizing := false) g with | true => insW P s w K | false => X w K) :
    ∃ u, K u w ∧ ∀ w' (K' : VPost), K' u w' → (match (generalizing := false) g with | true => insW P s w' K' | false => X w' K') := by
  cases g
  · cases hk
  · exact WL.det hs h
theorem lenM_det {ts : Array TypeId} {t : TypeId} {args : Array Value} {w : World} {K : VPost} (hi : (lenI P ts).isSome = true) (h : lenW P (lenI P ts) ts t args w K) : ∃ u, K u w ∧ ∀ w' (K' : VPost), K' u w' → lenW P (lenI P ts) ts t args w' K' := by
  unfold lenW at *
  split at h
  · exact ⟨_, h, fun _ _ hk => hk⟩
  · exact ⟨_, h, fun _ _ hk => hk⟩
  · exact h.elim
  · rename_i hn; rw [hn] at hi; cases hi

theorem pickW_det {c a b : Value} {w : World} {K : VPost} (h : pickW c a b w K) : ∃ u, K u w ∧ ∀ w' (K' : VPost), K' u w' → pickW c a b w' K' := by
  unfold pickW at *
  split at h
  · exact ⟨_, h, fun _ _ hk => hk⟩
  · exact h.elim

theorem offW_det {i : Option Nat} {p : Value} {w : World} {K : VPost} (h : offW i p w K) : ∃ u, K u w ∧ ∀ w' (K' : VPost), K' u w' → offW i p w' K' := by
  unfold offW at *
  split at h
  · exact ⟨_, h, fun _ _ hk => hk⟩
  · exact h.elim

theorem idxW_det {i : Option (Option Nat × Nat)} {x y : Value} {w : World} {K : VPost} (h : idxW i x y w K) : ∃ u, K u w ∧ ∀ w' (K' : VPost), K' u w' → idxW i x y w' K' := by
  unfold idxW at *
  split at h
  · exact ⟨_, h.2.2, fun _ _ hk => ⟨h.1, h.2.1, hk⟩⟩
  · exact ⟨_, h.2.2, fun _ _ hk => ⟨h.1, h.2.1, hk⟩⟩
  · exact h.elim

theorem cutW_det {len cap : Nat} {lo hi mx : Option Value} {F : Nat → Nat → Nat → Prop} (h : cutW len cap lo hi mx F) :
    ∃ l h' m, F l h' m ∧ ∀ F' : Nat → Nat → Nat → Prop, F' l h' m → cutW len cap lo hi mx F' := by
  obtain ⟨h1, l, h', m, h2, h3, h4, h5, h6, h7, hF⟩ := h
  exact ⟨l, h', m, hF, fun F' hF' => ⟨h1, l, h', m, h2, h3, h4, h5, h6, h7, hF'⟩⟩

theorem sliceW_det {i : SlI} {x : Value} {lo hi mx : Option Value} {w : World} {K : VPost} (h : sliceW i x lo hi mx w K) : ∃ u, K u w ∧ ∀ w' (K' : VPost), K' u w' → sliceW i x lo hi mx w' K' := by
  unfold sliceW at *
  split at h
  · obtain ⟨l, h', m, hK, hr⟩ := cutW_det h; exact ⟨_, hK, fun _ _ hk => hr _ hk⟩
  · obtain ⟨l, h', m, hK, hr⟩ := cutW_det h; exact ⟨_, hK, fun _ _ hk => hr _ hk⟩
  · obtain ⟨l, h', m, hK, hr⟩ := cutW_det h.2; exact ⟨_, hK, fun _ _ hk => ⟨h.1, hr _ hk⟩⟩
  · exact h.elim

theorem ixvW_det {i : IxI} {x y : Value} {w : World} {K : VPost} (h : ixvW i x y w K) : ∃ u, K u w ∧ ∀ w' (K' : VPost), K' u w' → ixvW i x y w' K' := by
  unfold ixvW at *
  split at h
  · exact ⟨_, h.2.2, fun _ _ hk => ⟨h.1, h.2.1, hk⟩⟩
  · obtain ⟨h0, h1, v, hv, hK⟩ := h; exact ⟨_, hK, fun _ _ hk => ⟨h0, h1, v, hv, hk⟩⟩
  · obtain ⟨h0, v, hv, hK⟩ := h; exact ⟨_, hK, fun _ _ hk => ⟨h0, v, hv, hk⟩⟩
  · exact h.elim

theorem fldW_det {i : Option (Bool × Nat × Nat)} {x : Value} {w : World} {K : VPost} (h : fldW i x w K) : ∃ u, K u w ∧ ∀ w' (K' : VPost), K' u w' → fldW i x w' K' := by
  unfold fldW at *
  split at h
  · exact ⟨_, h, fun _ _ hk => hk⟩
  · obtain ⟨v, hv, hK⟩ := h; exact ⟨_, hK, fun _ _ hk => ⟨v, hv, hk⟩⟩
  · exact h.elim

theorem extrW_det {x : Value} {i : Nat} {w : World} {K : VPost} (h : extrW x i w K) : ∃ u, K u w ∧ ∀ w' (K' : VPost), K' u w' → extrW x i w' K' := by
  unfold extrW at *
  split at h
  · obtain ⟨v, hv, hK⟩ := h; exact ⟨_, hK, fun _ _ hk => ⟨v, hv, hk⟩⟩
  · exact h.elim

theorem loadW_det {i : Option (Bool × Nat)} {p : Value} {w : World} {K : VPost} (h : loadW i p w K) : ∃ u, K u w ∧ ∀ K' : VPost, K' u w → loadW i p w K' := by
  unfold loadW at *
  split at h
  · obtain ⟨cs, t, fz, h1, h2, h3, hK⟩ := h; exact ⟨_, hK, fun _ hk => ⟨cs, t, fz, h1, h2, h3, hk⟩⟩
  · obtain ⟨cs, t, fz, v, h1, h2, h3, hK⟩ := h; exact ⟨_, hK, fun _ hk => ⟨cs, t, fz, v, h1, h2, h3, hk⟩⟩
  · exact h.elim

theorem lenW_det {i : Option Bool} {ts : Array TypeId} {t : TypeId} {args : Array Value} {w : World} {K : VPost} (h : lenW P i ts t args w K) :
    ∃ v w', K v w' ∧ ∀ K' : VPost, K' v w' → lenW P i ts t args w K' := by
  unfold lenW at *
  split at h
  · exact ⟨_, _, h, fun _ hk => hk⟩
  · exact ⟨_, _, h, fun _ hk => hk⟩
  · exact h.elim
  · exact okW_det h

theorem opW_pure {o : Oper} {fr : Fr} {w : World} {K : VPost} (hk : kindO md P o = 0) (h : opW md P o fr w K) : ∃ v, K v w ∧ ∀ w' (K' : VPost), K' v w' → opW md P o fr w' K' := by
  unfold opW at *
  cases ho : o.op <;> simp only [ho] at h ⊢ <;> simp only [kindO, ho] at hk
  case call c =>
    cases hc : c.callee with
    | builtin b =>
      simp only [hc] at hk h ⊢
      cases b <;> simp only at hk h ⊢ <;> first
        | exact absurd hk (by decide)
        | (have hi : (lenI P c.argTypes).isSome = true := by
            cases hg : (lenI P c.argTypes).isSome with
            | true => rfl
            | false => rw [hg, Bool.and_false] at hk; cases hk
           exact lenM_det hi h)
    | value x => simp only [hc] at hk; exact absurd hk (by decide)
    | invoke r n => simp only [hc] at hk; exact absurd hk (by decide)
  case binOp => exact binM_det hk h
  case unOp => exact unM_det hk h
  case convert => exact convM_det hk h
  case makeFunc => exact mkM_det (s := _) (t := Pure.pure undef) (X := fun w K => genW P (execOp (evF fr) o) w K) (WL.pure' _) hk h
  case build => exact WL.det WL.build h
  all_goals first
      | exact absurd hk (by decide)
      | exact ⟨_, h, fun _ _ hk => hk⟩
      | exact pickW_det h
      | exact nilW_det h
      | exact offW_det h
      | exact idxW_det h
      | exact sliceW_det h
      | exact ixvW_det h
      | exact fldW_det h
      | exact extrW_det h

theorem opW_load {o : Oper} {fr : Fr} {w : World} {K : VPost} (hk : kindO md P o = 1) (h : opW md P o fr w K) : ∃ v, K v w ∧ ∀ K' : VPost, K' v w → opW md P o fr w K' := by
  unfold opW at *
  cases ho : o.op <;> simp only [ho] at h ⊢ <;> simp only [kindO, ho] at hk
  case load => exact loadW_det h
  case call c =>
    exfalso; revert hk
    cases c.callee with
    | builtin b => cases b <;> simp only <;> (try split) <;> decide
    | value x => simp
    | invoke r n => simp
  all_goals first
    | exact absurd hk (by decide)
    | (exfalso; revert hk; split <;> decide)

theorem opW_read {o : Oper} {fr : Fr} {w : World} {K : VPost} (hk : kindO md P o < 3) (h : opW md P o fr w K) : ∃ v w', K v w' ∧ ∀ K' : VPost, K' v w' → opW md P o fr w K' := by
  rcases (by omega : kindO md P o = 0 ∨ kindO md P o = 1 ∨ kindO md P o = 2) with h0 | h0 | h0
  · obtain ⟨v, h1, h2⟩ := opW_pure h0 h; exact ⟨v, w, h1, fun K' => h2 w K'⟩
  · obtain ⟨v, h1, h2⟩ := opW_load h0 h; exact ⟨v, w, h1, h2⟩
  · unfold opW at *
    cases ho : o.op <;> simp only [ho] at h ⊢ <;> simp only [kindO, ho] at h0
    case binOp op t x y z =>
      cases hg : md && numT P t with
      | true => rw [hg] at h0; cases h0
      | false => rw [hg] at h; exact okW_det h
    case unOp op t x =>
      cases md
      · exact okW_det h
      · cases h0
    case convert s d x => exfalso; revert h0; split <;> decide
    case makeFunc => exfalso; revert h0; split <;> decide
    case build => exact okW_det h
    case call c =>
      cases hc : c.callee with
      | value f => exfalso; simp [hc] at h0
      | invoke f n => exfalso; simp [hc] at h0
      | builtin b =>
        simp only [hc] at h h0 ⊢
        cases b <;> simp only at h0 <;> first
          | exact absurd h0 (by decide)
          | exact okW_det h
          | exact lenW_det h
    all_goals first
        | exact absurd h0 (by decide)
        | exact okW_det h

theorem guardW_cases {v : Value} {b : Bool} {A B : Prop} (h : guardW v b A B) : (v = .bool b ∧ A) ∨ (v ≠ .bool b ∧ B) := by
  unfold guardW at h
  cases v with
  | bool c => cases c <;> cases b <;> simp_all
  | _ => exact .inr ⟨by simp, h⟩

theorem guardW_t {b : Bool} {A B : Prop} (h : A) : guardW (.bool b) b A B := by cases b <;> exact h
theorem guardW_f {v : Value} {b : Bool} {A B : Prop} (hc : v ≠ .bool b) (h : B) : guardW v b A B := by
  cases v with
  | bool c => cases c <;> cases b <;> first | exact absurd rfl hc | exact h
  | _ => exact h

theorem stepV_pure {o : Oper} {fr : Fr} {w : World} {K : VPost} (hk : kindO md P o = 0) (h : stepV md P ops o fr w K) : ∃ v, K v w ∧ ∀ w' (K' : VPost), K' v w' → stepV md P ops o fr w' K' := by
  unfold stepV at *
  cases hg : o.guard with
  | none => simp only [hg] at h ⊢; exact opW_pure hk h
  | some g =>
    simp only [hg] at h ⊢
    obtain ⟨hv, hA⟩ | ⟨hc, hB⟩ := guardW_cases h
    · obtain ⟨v, h1, h2⟩ := opW_pure hk hA
      rw [hv]
      exact ⟨v, h1, fun w' K' hK => guardW_t (h2 w' K' hK)⟩
    · exact ⟨undef, hB, fun w' K' hK => guardW_f hc hK⟩

theorem stepV_read {o : Oper} {fr : Fr} {w : World} {K : VPost} (hk : kindO md P o < 3) (h : stepV md P ops o fr w K) : ∃ v w', K v w' ∧ ∀ K' : VPost, K' v w' → stepV md P ops o fr w K' := by
  unfold stepV at *
  cases hg : o.guard with
  | none => simp only [hg] at h ⊢; exact opW_read hk h
  | some g =>
    simp only [hg] at h ⊢
    obtain ⟨hv, hA⟩ | ⟨hc, hB⟩ := guardW_cases h
    · obtain ⟨v, w', h1, h2⟩ := opW_read hk hA
      rw [hv]
      exact ⟨v, w', h1, fun K' hK => guardW_t (h2 K' hK)⟩
    · exact ⟨undef, w, hB, fun K' hK => guardW_f hc hK⟩

theorem stepV_load {o : Oper} {fr : Fr} {w : World} {K : VPost} (hk : kindO md P o < 2) (h : stepV md P ops o fr w K) : ∃ v, K v w ∧ ∀ K' : VPost, K' v w → stepV md P ops o fr w K' := by
  unfold stepV at *
  have key : ∀ K : VPost, opW md P o fr w K → ∃ v, K v w ∧ ∀ K' : VPost, K' v w → opW md P o fr w K' := fun K h => by
    rcases (by omega : kindO md P o = 0 ∨ kindO md P o = 1) with h0 | h0
    · obtain ⟨v, h1, h2⟩ := opW_pure h0 h; exact ⟨v, h1, h2 w⟩
    · exact opW_load h0 h
  cases hg : o.guard with
  | none => simp only [hg] at h ⊢; exact key _ h
  | some g =>
    simp only [hg] at h ⊢
    obtain ⟨hv, hA⟩ | ⟨hc, hB⟩ := guardW_cases h
    · obtain ⟨v, h1, h2⟩ := key _ hA
      rw [hv]
      exact ⟨v, h1, fun K' hK => guardW_t (h2 K' hK)⟩
    · exact ⟨undef, hB, fun K' hK => guardW_f hc hK⟩

theorem wpOp_of_stepV {i : Nat} {o : Oper} {fr : Fr} {a : Act} {w : World} {K : VPost} {next : Act → World → Prop} {Q : Exit → Act → World → Prop}
    (ho : ops[i]? = some o) (h : stepV md P ops o fr w K) (hl : ∀ t ∈ o.looksAt ops, a.tmps.getD t undef = fr t)
    (hK : ∀ v w', K v w' → next (a.put o.dst v) w') : wpOp P ops Q i next a w := by
  have he : ∀ x ∈ o.op.operands, a.eval x = evF fr x := by
    intro x hx
    cases x with
    | tmp t => exact hl t (looks_op hx)
    | _ => rfl
  unfold wpOp
  simp only [ho]
  unfold stepV at h
  cases hg : o.guard with
  | none =>
    simp only [hg] at h
    have hw : Region.wanted o (yielded ops a.tmps) = true := by simp [Region.wanted, hg]
    rw [if_pos hw]
    exact .inl (wp_of_opW h he hK)
  | some g =>
    simp only [hg] at h
    have hy : ∀ c, yielded ops a.tmps g.1 = some c ↔ gval ops fr g.1 = .bool c := by
      intro c
      unfold gval yielded
      unfold dstOf
      cases hd : (ops[g.1]?).bind (·.dst) with
      | none => simp [undef]
      | some d =>
        have h1 := hl d (looks_guard hg (by unfold dstOf; exact hd))
        simp only [Option.bind_some]
        rw [← h1]
        cases h3 : a.tmps[d]? with
        | none => simp [Array.getD_eq_getD_getElem?, h3, undef]
        | some x =>
          simp only [Array.getD_eq_getD_getElem?, h3, Option.getD_some]
          cases x <;> simp
    obtain ⟨j, b⟩ := g
    rcases guardW_cases h with ⟨hv, hA⟩ | ⟨hv, hB⟩
    · have hw : Region.wanted o (yielded ops a.tmps) = true := by
        simp [Region.wanted, hg, (hy b).2 hv]
      rw [if_pos hw]
      exact .inl (wp_of_opW hA he hK)
    · have hw : ¬ Region.wanted o (yielded ops a.tmps) = true := by
        intro hw
        simp only [Region.wanted, hg, beq_iff_eq] at hw
        exact hv ((hy b).1 hw)
      rw [if_neg hw]
      exact hK _ _ hB
end
end Go.Proofs.Ytedebapgmfnflaa
