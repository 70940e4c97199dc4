/- A region that draws its order, run in one order: what is read early is read again behind each effect that might come ahead of it. 'wpAny_of_runT' shows that every order then comes to the same end. Condition: the checks of 'okB' hold of the region. -/
import Derived.Test.YtedebapgmfnflaaG1
namespace Go.Proofs.Ytedebapgmfnflaa
open Go

/-! ### What an operation does hangs on its operands alone -/

theorem evs_congr {fr fr' : Fr} {xs : Array Operand} (h : ∀ x ∈ xs, evF fr x = evF fr' x) : evs fr xs = evs fr' xs := by
  unfold evs; congr 1; exact List.map_congr_left (fun x hx => h x (by simpa using hx))

theorem evp_congr {fr fr' : Fr} {xs : Array (Nat × Operand)} (h : ∀ p ∈ xs, evF fr p.2 = evF fr' p.2) : evp fr xs = evp fr' xs := by
  unfold evp; congr 1; exact List.map_congr_left (fun x hx => by rw [h x (by simpa using hx)])

theorem opW_congr {md : Bool} {P : Program} {o : Oper} {fr fr' : Fr} {w : World} {K : VPost} (h : ∀ x ∈ o.op.operands, evF fr x = evF fr' x) (hh : opW md P o fr w K) : opW md P o fr' w K := by
  have hsel := not_sel_of_opW hh
  unfold opW at *
  cases ho : o.op <;> simp only [ho, Op.operands] at h hh ⊢
  case call c =>
    cases hc : c.callee with
    | value x =>
      simp only [hc] at hh ⊢
      have ha : evs fr c.args = evs fr' c.args := evs_congr (fun x hx => h x (by simp [Call.operands, hx]))
      cases x with
      | func f => simp only at hh ⊢; rw [← ha]; exact hh
      | _ =>
        simp only at hh ⊢
        cases md
        · simp only at hh ⊢; rw [← execOp_congr o hsel (fun x hx => h x (by simpa only [ho, Op.operands] using hx))]; exact hh
        · simp only at hh ⊢; rw [← ha, ← h _ (by simp [Call.operands, hc])]; exact hh
    | builtin b =>
      simp only [hc] at hh ⊢
      have ha : evs fr c.args = evs fr' c.args := evs_congr (fun x hx => h x (by simp [Call.operands, hx]))
      rw [← ha]; exact hh
    | invoke r m =>
      simp only [hc] at hh ⊢
      rw [← execOp_congr o hsel (fun x hx => h x (by simpa only [ho, Op.operands] using hx))]; exact hh
  case build t ps => rw [← evp_congr (fun p hp => h p.2 (by simpa using ⟨p.1, by simpa using hp⟩))]; exact hh
  case buildSlice t n ps => rw [← evp_congr (fun p hp => h p.2 (by simpa using ⟨p.1, by simpa using hp⟩))]; exact hh
  case makeFunc f fs cs =>
    have h1 : evs fr fs = evs fr' fs := evs_congr (fun x hx => h x (by simp [hx]))
    have h2 : evs fr cs = evs fr' cs := evs_congr (fun x hx => h x (by simp [hx]))
    cases md
    · simp only at hh ⊢; rw [← execOp_congr o hsel (fun x hx => h x (by simpa only [ho, Op.operands] using hx))]; exact hh
    · simp only at hh ⊢; rw [← h1, ← h2]; exact hh
  case makeMap t r =>
    cases r with
    | none => exact hh
    | some x => have e := h x (by simp); simp only [Option.map_some, e] at hh ⊢; exact hh
  case slice t x lo hi mx =>
    have e0 := h x (by simp)
    have e1 : lo.map (evF fr) = lo.map (evF fr') := by cases lo with | none => rfl | some y => simp [h y (by simp)]
    have e2 : hi.map (evF fr) = hi.map (evF fr') := by cases hi with | none => rfl | some y => simp [h y (by simp)]
    have e3 : mx.map (evF fr) = mx.map (evF fr') := by cases mx with | none => rfl | some y => simp [h y (by simp)]
    rw [← e0, ← e1, ← e2, ← e3]; exact hh
  all_goals first
    | exact hh
    | (simp only [List.mem_toArray, List.mem_cons, List.not_mem_nil, or_false, forall_eq_or_imp, forall_eq] at h
       first
         | (rw [← h]; exact hh)
         | (rw [← h.1, ← h.2]; exact hh)
         | (rw [← h.1, ← h.2.1, ← h.2.2]; exact hh))
    | (rw [← execOp_congr o hsel (fun x hx => h x (by simpa only [ho, Op.operands] using hx))]; exact hh)

/-! ### Operations that hang on no world; operations that leave the world alone -/

/-- What succeeds in one world succeeds in each, with the same value, and leaves it. -/
def WL {α : Type} (P : Program) (s : Sem α) : Prop := ∀ w v w1, s.run P w = .ok v w1 → w1 = w ∧ ∀ w', s.run P w' = .ok v w'
/-- What succeeds leaves the world as it was. -/
def RO {α : Type} (P : Program) (s : Sem α) : Prop := ∀ w v w1, s.run P w = .ok v w1 → w1 = w

section
variable {α β : Type} {P : Program}
theorem WL.pure (a : α) : WL P (Sem.pure a) := fun w v w1 h => by
  simp only [Sem.run, Result.ok.injEq] at h; obtain ⟨rfl, rfl⟩ := h; exact ⟨rfl, fun _ => rfl⟩
theorem WL.pure' (a : α) : WL P (Pure.pure a : Sem α) := WL.pure a
theorem WL.halt (x : Halt) : WL P (Sem.halt x : Sem α) := fun w v w1 h => by simp [Sem.run] at h
theorem WL.stuck (x : String) : WL P (stuck x : Sem α) := WL.halt _
theorem WL.unsupported (x : Unsupported) : WL P (unsupported x : Sem α) := WL.halt _
theorem WL.bind {s : Sem α} {f : α → Sem β} (hs : WL P s) (hf : ∀ a, WL P (f a)) : WL P (s >>= f) := fun w v w1 h => by
  rw [Sem.run_bind] at h
  cases hr : s.run P w with
  | halt x w' => rw [hr] at h; cases h
  | ok a w' =>
    rw [hr] at h
    obtain ⟨rfl, h2⟩ := hs w a w' hr
    obtain ⟨rfl, h4⟩ := hf a w' v w1 h
    exact ⟨rfl, fun w' => by rw [Sem.run_bind, h2 w']; exact h4 w'⟩
theorem WL.program {f : Program → Sem α} (hf : ∀ p, WL P (f p)) : WL P (Sem.program f) := fun w v w1 h => by
  simp only [Sem.run] at h
  obtain ⟨rfl, h2⟩ := hf P w v w1 h
  exact ⟨rfl, fun w' => h2 w'⟩
theorem WL.prog : WL P Go.program := WL.program (fun p => WL.pure p)
/-- Whatever halts on every way. -/
theorem WL.never {s : Sem α} (h : ∀ w v w1, s.run P w ≠ .ok v w1) : WL P s := fun w v w1 e => absurd e (h w v w1)
theorem RO.of_WL {s : Sem α} (h : WL P s) : RO P s := fun w v w1 e => (h w v w1 e).1
theorem RO.bind {s : Sem α} {f : α → Sem β} (hs : RO P s) (hf : ∀ a, RO P (f a)) : RO P (s >>= f) := fun w v w1 h => by
  rw [Sem.run_bind] at h
  cases hr : s.run P w with
  | halt x w' => rw [hr] at h; cases h
  | ok a w' =>
    rw [hr] at h
    obtain rfl := hs w a w' hr
    exact hf a w' v w1 h
theorem RO.load (m : Mode) (a : Addr) : RO P (load a m) := fun w v w1 h => by
  simp only [Go.load, Sem.run] at h
  split at h
  · simp only [Result.ok.injEq] at h; exact h.2.symm
  · split at h
    · simp only [Result.ok.injEq] at h; exact h.2.symm
    · cases h

end
end Go.Proofs.Ytedebapgmfnflaa
