/- Every order of a region comes to what its one run comes to. Condition: 'okB' of the region. -/
import Derived.Test.YtedebapgmfnflaaG3
namespace Go.Proofs.Ytedebapgmfnflaa
open Go

section
variable {P : Program} {ops : Array Oper}

theorem looks_op {o : Oper} {t : Nat} (h : Operand.tmp t ∈ o.op.operands) : t ∈ o.looksAt ops := by
  unfold Oper.looksAt
  refine List.mem_append_left _ (List.mem_filterMap.2 ⟨.tmp t, by simpa using h, rfl⟩)

theorem looks_guard {o : Oper} {g : Nat × Bool} {d : Nat} (hg : o.guard = some g) (hd : dstOf ops g.1 = some d) : d ∈ o.looksAt ops := by
  unfold Oper.looksAt
  refine List.mem_append_right _ ?_
  obtain ⟨j, b⟩ := g
  simp only [hg]
  unfold dstOf at hd
  simp only at hd
  simp [hd]

theorem ev_congr {o : Oper} {fr fr' : Fr} (h : ∀ t ∈ o.looksAt ops, fr t = fr' t) : ∀ x ∈ o.op.operands, evF fr x = evF fr' x := by
  intro x hx
  cases x with
  | tmp t => exact h t (looks_op hx)
  | _ => rfl

theorem gval_congr {o : Oper} {fr fr' : Fr} {g : Nat × Bool} (hg : o.guard = some g) (h : ∀ t ∈ o.looksAt ops, fr t = fr' t) : gval ops fr g.1 = gval ops fr' g.1 := by
  unfold gval
  cases hd : dstOf ops g.1 with
  | none => rfl
  | some d => exact h d (looks_guard hg hd)

theorem guardW_mono {v : Value} {b : Bool} {A B A' B' : Prop} (h : guardW v b A B) (ha : A → A') (hb : B → B') : guardW v b A' B' := by
  unfold guardW at *
  cases v with
  | bool c =>
    simp only at h ⊢
    cases hc : (c == b)
    · rw [hc] at h; exact hb h
    · rw [hc] at h; exact ha h
  | _ => exact hb h

theorem stepV_congr {o : Oper} {fr fr' : Fr} {w : World} {K : VPost} (h : ∀ t ∈ o.looksAt ops, fr t = fr' t) (hh : stepV P ops o fr w K) : stepV P ops o fr' w K := by
  unfold stepV at *
  cases hg : o.guard with
  | none => simp only [hg] at hh ⊢; exact opW_congr (ev_congr h) hh
  | some g =>
    simp only [hg] at hh ⊢
    rw [← gval_congr hg h]
    exact guardW_mono hh (opW_congr (ev_congr h)) id

theorem okW_det {s : Sem Value} {w : World} {K : VPost} (h : insW P s w K) : ∃ v w', K v w' ∧ ∀ K' : VPost, K' v w' → insW P s w K' := by
  unfold insW at *
  cases hr : s.run P w with
  | ok v w' => rw [hr] at h; exact ⟨v, w', h, fun K' hK => hK⟩
  | halt x w' => rw [hr] at h; exact h.elim

theorem nilW_det {v : Value} {w : World} {K : VPost} (h : nilW v w K) : ∃ u, K u w ∧ ∀ w' (K' : VPost), K' u w' → nilW v w' K' := by
  unfold nilW at *
  split at h
  · exact ⟨_, h, fun _ _ hk => hk⟩
  · exact h.elim

theorem pickW_det {c a b : Value} {w : World} {K : VPost} (h : pickW c a b w K) : ∃ u, K u w ∧ ∀ w' (K' : VPost), K' u w' → pickW c a b w' K' := by
  unfold pickW at *
  split at h
  · exact ⟨_, h, fun _ _ hk => hk⟩
  · exact h.elim

theorem offW_det {i : Option Nat} {p : Value} {w : World} {K : VPost} (h : offW i p w K) : ∃ u, K u w ∧ ∀ w' (K' : VPost), K' u w' → offW i p w' K' := by
  unfold offW at *
  split at h
  · exact ⟨_, h, fun _ _ hk => hk⟩
  · exact h.elim

theorem idxW_det {i : Option (Option Nat × Nat)} {x y : Value} {w : World} {K : VPost} (h : idxW i x y w K) : ∃ u, K u w ∧ ∀ w' (K' : VPost), K' u w' → idxW i x y w' K' := by
  unfold idxW at *
  split at h
  · exact ⟨_, h.2.2, fun _ _ hk => ⟨h.1, h.2.1, hk⟩⟩
  · exact ⟨_, h.2.2, fun _ _ hk => ⟨h.1, h.2.1, hk⟩⟩
  · exact h.elim

theorem cutW_det {len cap : Nat} {lo hi mx : Option Value} {F : Nat → Nat → Nat → Prop} (h : cutW len cap lo hi mx F) :
    ∃ l h' m, F l h' m ∧ ∀ F' : Nat → Nat → Nat → Prop, F' l h' m → cutW len cap lo hi mx F' := by
  obtain ⟨h1, l, h', m, h2, h3, h4, h5, h6, h7, hF⟩ := h
  exact ⟨l, h', m, hF, fun F' hF' => ⟨h1, l, h', m, h2, h3, h4, h5, h6, h7, hF'⟩⟩

theorem sliceW_det {i : SlI} {x : Value} {lo hi mx : Option Value} {w : World} {K : VPost} (h : sliceW i x lo hi mx w K) : ∃ u, K u w ∧ ∀ w' (K' : VPost), K' u w' → sliceW i x lo hi mx w' K' := by
  unfold sliceW at *
  split at h
  · obtain ⟨l, h', m, hK, hr⟩ := cutW_det h; exact ⟨_, hK, fun _ _ hk => hr _ hk⟩
  · obtain ⟨l, h', m, hK, hr⟩ := cutW_det h; exact ⟨_, hK, fun _ _ hk => hr _ hk⟩
  · obtain ⟨l, h', m, hK, hr⟩ := cutW_det h.2; exact ⟨_, hK, fun _ _ hk => ⟨h.1, hr _ hk⟩⟩
  · exact h.elim

theorem ixvW_det {i : IxI} {x y : Value} {w : World} {K : VPost} (h : ixvW i x y w K) : ∃ u, K u w ∧ ∀ w' (K' : VPost), K' u w' → ixvW i x y w' K' := by
  unfold ixvW at *
  split at h
  · exact ⟨_, h.2.2, fun _ _ hk => ⟨h.1, h.2.1, hk⟩⟩
  · obtain ⟨h0, h1, v, hv, hK⟩ := h; exact ⟨_, hK, fun _ _ hk => ⟨h0, h1, v, hv, hk⟩⟩
  · obtain ⟨h0, v, hv, hK⟩ := h; exact ⟨_, hK, fun _ _ hk => ⟨h0, v, hv, hk⟩⟩
  · exact h.elim

theorem fldW_det {i : Option (Bool × Nat × Nat)} {x : Value} {w : World} {K : VPost} (h : fldW i x w K) : ∃ u, K u w ∧ ∀ w' (K' : VPost), K' u w' → fldW i x w' K' := by
  unfold fldW at *
  split at h
  · exact ⟨_, h, fun _ _ hk => hk⟩
  · obtain ⟨v, hv, hK⟩ := h; exact ⟨_, hK, fun _ _ hk => ⟨v, hv, hk⟩⟩
  · exact h.elim

theorem extrW_det {x : Value} {i : Nat} {w : World} {K : VPost} (h : extrW x i w K) : ∃ u, K u w ∧ ∀ w' (K' : VPost), K' u w' → extrW x i w' K' := by
  unfold extrW at *
  split at h
  · obtain ⟨v, hv, hK⟩ := h; exact ⟨_, hK, fun _ _ hk => ⟨v, hv, hk⟩⟩
  · exact h.elim

theorem loadW_det {i : Option (Bool × Nat)} {p : Value} {w : World} {K : VPost} (h : loadW i p w K) : ∃ u, K u w ∧ ∀ K' : VPost, K' u w → loadW i p w K' := by
  unfold loadW at *
  split at h
  · obtain ⟨cs, t, fz, h1, h2, h3, hK⟩ := h; exact ⟨_, hK, fun _ hk => ⟨cs, t, fz, h1, h2, h3, hk⟩⟩
  · obtain ⟨cs, t, fz, v, h1, h2, h3, hK⟩ := h; exact ⟨_, hK, fun _ hk => ⟨cs, t, fz, v, h1, h2, h3, hk⟩⟩
  · exact h.elim

theorem lenW_det {i : Option Bool} {ts : Array TypeId} {t : TypeId} {args : Array Value} {w : World} {K : VPost} (h : lenW P i ts t args w K) :
    ∃ v w', K v w' ∧ ∀ K' : VPost, K' v w' → lenW P i ts t args w K' := by
  unfold lenW at *
  split at h
  · exact ⟨_, _, h, fun _ hk => hk⟩
  · exact ⟨_, _, h, fun _ hk => hk⟩
  · exact h.elim
  · exact okW_det h

theorem opW_pure {o : Oper} {fr : Fr} {w : World} {K : VPost} (hk : kindO o = 0) (h : opW P o fr w K) : ∃ v, K v w ∧ ∀ w' (K' : VPost), K' v w' → opW P o fr w' K' := by
  unfold opW at *
  cases ho : o.op <;> simp only [ho] at h ⊢ <;> simp only [kindO, ho] at hk <;>
    first
      | exact absurd hk (by decide)
      | exact ⟨_, h, fun _ _ hk => hk⟩
      | exact pickW_det h
      | exact nilW_det h
      | exact offW_det h
      | exact idxW_det h
      | exact sliceW_det h
      | exact ixvW_det h
      | exact fldW_det h
      | exact extrW_det h
      | (rename_i c; exfalso; revert hk; cases c.callee with
          | builtin b => cases b <;> simp
          | _ => simp)

theorem opW_load {o : Oper} {fr : Fr} {w : World} {K : VPost} (hk : kindO o = 1) (h : opW P o fr w K) : ∃ v, K v w ∧ ∀ K' : VPost, K' v w → opW P o fr w K' := by
  unfold opW at *
  cases ho : o.op <;> simp only [ho] at h ⊢ <;> simp only [kindO, ho] at hk <;>
    first
      | exact absurd hk (by decide)
      | exact loadW_det h
      | (rename_i c; exfalso; revert hk; cases c.callee with
          | builtin b => cases b <;> simp
          | _ => simp)

theorem opW_read {o : Oper} {fr : Fr} {w : World} {K : VPost} (hk : kindO o < 3) (h : opW P o fr w K) : ∃ v w', K v w' ∧ ∀ K' : VPost, K' v w' → opW P o fr w K' := by
  rcases (by omega : kindO o = 0 ∨ kindO o = 1 ∨ kindO o = 2) with h0 | h0 | h0
  · obtain ⟨v, h1, h2⟩ := opW_pure h0 h; exact ⟨v, w, h1, fun K' => h2 w K'⟩
  · obtain ⟨v, h1, h2⟩ := opW_load h0 h; exact ⟨v, w, h1, h2⟩
  · unfold opW at *
    cases ho : o.op <;> simp only [ho] at h ⊢ <;> simp only [kindO, ho] at h0 <;>
      first
        | exact absurd h0 (by decide)
        | exact okW_det h
        | (rename_i c
           cases hc : c.callee with
           | value f => exfalso; simp [hc] at h0
           | invoke f m => exfalso; simp [hc] at h0
           | builtin b =>
             simp only [hc] at h h0 ⊢
             cases b <;> simp only at h0 <;> first
               | exact absurd h0 (by decide)
               | exact okW_det h
               | exact lenW_det h)

theorem guardW_cases {v : Value} {b : Bool} {A B : Prop} (h : guardW v b A B) : (v = .bool b ∧ A) ∨ (v ≠ .bool b ∧ B) := by
  unfold guardW at h
  cases v with
  | bool c => cases c <;> cases b <;> simp_all
  | _ => exact .inr ⟨by simp, h⟩

theorem guardW_t {b : Bool} {A B : Prop} (h : A) : guardW (.bool b) b A B := by cases b <;> exact h
theorem guardW_f {v : Value} {b : Bool} {A B : Prop} (hc : v ≠ .bool b) (h : B) : guardW v b A B := by
  cases v with
  | bool c => cases c <;> cases b <;> first | exact absurd rfl hc | exact h
  | _ => exact h

theorem stepV_pure {o : Oper} {fr : Fr} {w : World} {K : VPost} (hk : kindO o = 0) (h : stepV P ops o fr w K) : ∃ v, K v w ∧ ∀ w' (K' : VPost), K' v w' → stepV P ops o fr w' K' := by
  unfold stepV at *
  cases hg : o.guard with
  | none => simp only [hg] at h ⊢; exact opW_pure hk h
  | some g =>
    simp only [hg] at h ⊢
    obtain ⟨hv, hA⟩ | ⟨hc, hB⟩ := guardW_cases h
    · obtain ⟨v, h1, h2⟩ := opW_pure hk hA
      rw [hv]
      exact ⟨v, h1, fun w' K' hK => guardW_t (h2 w' K' hK)⟩
    · exact ⟨undef, hB, fun w' K' hK => guardW_f hc hK⟩

theorem stepV_read {o : Oper} {fr : Fr} {w : World} {K : VPost} (hk : kindO o < 3) (h : stepV P ops o fr w K) : ∃ v w', K v w' ∧ ∀ K' : VPost, K' v w' → stepV P ops o fr w K' := by
  unfold stepV at *
  cases hg : o.guard with
  | none => simp only [hg] at h ⊢; exact opW_read hk h
  | some g =>
    simp only [hg] at h ⊢
    obtain ⟨hv, hA⟩ | ⟨hc, hB⟩ := guardW_cases h
    · obtain ⟨v, w', h1, h2⟩ := opW_read hk hA
      rw [hv]
      exact ⟨v, w', h1, fun K' hK => guardW_t (h2 K' hK)⟩
    · exact ⟨undef, w, hB, fun K' hK => guardW_f hc hK⟩

theorem stepV_load {o : Oper} {fr : Fr} {w : World} {K : VPost} (hk : kindO o < 2) (h : stepV P ops o fr w K) : ∃ v, K v w ∧ ∀ K' : VPost, K' v w → stepV P ops o fr w K' := by
  unfold stepV at *
  have key : ∀ K : VPost, opW P o fr w K → ∃ v, K v w ∧ ∀ K' : VPost, K' v w → opW P o fr w K' := fun K h => by
    rcases (by omega : kindO o = 0 ∨ kindO o = 1) with h0 | h0
    · obtain ⟨v, h1, h2⟩ := opW_pure h0 h; exact ⟨v, h1, h2 w⟩
    · exact opW_load h0 h
  cases hg : o.guard with
  | none => simp only [hg] at h ⊢; exact key _ h
  | some g =>
    simp only [hg] at h ⊢
    obtain ⟨hv, hA⟩ | ⟨hc, hB⟩ := guardW_cases h
    · obtain ⟨v, h1, h2⟩ := key _ hA
      rw [hv]
      exact ⟨v, h1, fun K' hK => guardW_t (h2 K' hK)⟩
    · exact ⟨undef, hB, fun K' hK => guardW_f hc hK⟩

theorem wpOp_of_stepV {i : Nat} {o : Oper} {fr : Fr} {a : Act} {w : World} {K : VPost} {next : Act → World → Prop} {Q : Exit → Act → World → Prop}
    (ho : ops[i]? = some o) (h : stepV P ops o fr w K) (hl : ∀ t ∈ o.looksAt ops, a.tmps.getD t undef = fr t)
    (hK : ∀ v w', K v w' → next (a.put o.dst v) w') : wpOp P ops Q i next a w := by
  have he : ∀ x ∈ o.op.operands, a.eval x = evF fr x := by
    intro x hx
    cases x with
    | tmp t => exact hl t (looks_op hx)
    | _ => rfl
  unfold wpOp
  simp only [ho]
  unfold stepV at h
  cases hg : o.guard with
  | none =>
    simp only [hg] at h
    have hw : Region.wanted o (yielded ops a.tmps) = true := by simp [Region.wanted, hg]
    rw [if_pos hw]
    exact .inl (wp_of_opW h he hK)
  | some g =>
    simp only [hg] at h
    have hy : ∀ c, yielded ops a.tmps g.1 = some c ↔ gval ops fr g.1 = .bool c := by
      intro c
      unfold gval yielded
      unfold dstOf
      cases hd : (ops[g.1]?).bind (·.dst) with
      | none => simp [undef]
      | some d =>
        have h1 := hl d (looks_guard hg (by unfold dstOf; exact hd))
        simp only [Option.bind_some]
        rw [← h1]
        cases h3 : a.tmps[d]? with
        | none => simp [Array.getD_eq_getD_getElem?, h3, undef]
        | some x =>
          simp only [Array.getD_eq_getD_getElem?, h3, Option.getD_some]
          cases x <;> simp
    obtain ⟨j, b⟩ := g
    rcases guardW_cases h with ⟨hv, hA⟩ | ⟨hv, hB⟩
    · have hw : Region.wanted o (yielded ops a.tmps) = true := by
        simp [Region.wanted, hg, (hy b).2 hv]
      rw [if_pos hw]
      exact .inl (wp_of_opW hA he hK)
    · have hw : ¬ Region.wanted o (yielded ops a.tmps) = true := by
        intro hw
        simp only [Region.wanted, hg, beq_iff_eq] at hw
        exact hv ((hy b).1 hw)
      rw [if_neg hw]
      exact hK _ _ hB
end
end Go.Proofs.Ytedebapgmfnflaa
