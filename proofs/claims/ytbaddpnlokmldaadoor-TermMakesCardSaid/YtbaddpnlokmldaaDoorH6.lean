/- Ranges over functions, with things in hand. -/
import Derived.Test.YtbaddpnlokmldaaDoorNA
namespace Go.Proofs.YtbaddpnlokmldaaDoor
open Go

theorem Turn.ext {B : Nat} {W W' : World} (h : Turn B W W') : ∃ rows : List Nat, Ext rows W W' ∧ ∀ r ∈ rows, B ≤ r ∧ ∀ o : Obj, W.heap[r]? = some o → o.isCells = false := by
  induction h with
  | refl => exact ⟨[], Ext.refl _ _, by simp⟩
  | step row h g hr ih =>
    rename_i W1 W2
    obtain ⟨rows, e, hrows⟩ := ih
    refine ⟨row.toList ++ rows, ⟨g.os.trans e.os, g.tape.trans e.tape, g.output.trans e.output, Nat.le_trans e.size g.size, fun b hb hn => ?_⟩, fun r hr' => ?_⟩
    · have h1 : b ∉ rows := fun h => hn (List.mem_append_right _ h)
      rw [← e.same b hb h1]
      refine g.block b (Nat.lt_of_lt_of_le hb e.size) fun hx => hn (List.mem_append_left _ ?_)
      rw [← hx]; simp
    · rcases List.mem_append.1 hr' with h1 | h1
      · have hx : row = some r := by simpa using h1
        obtain ⟨hB, o, ho, hc⟩ := hr r hx
        refine ⟨hB, fun o' ho' => ?_⟩
        by_cases hm : r ∈ rows
        · exact (hrows r hm).2 o' ho'
        · have := e.same r (Array.getElem?_eq_some_iff.1 ho').1 hm
          rw [this, ho'] at ho
          cases ho
          exact hc
      · exact hrows r h1

/-- Its blocks are cells'. -/
def Res.cells (T : Res) : Prop := ∀ w, T.holds w → ∀ b ∈ T.foot, ∃ o : Obj, w.heap[b]? = some o ∧ o.isCells = true
theorem rB_cells {b : Nat} {cs : List Value} {t : TypeId} : (rB b cs t).cells := fun w h x hx => by
  simp [rB] at hx; subst hx; exact ⟨_, h, rfl⟩
theorem rO_cells {v : Value} {e : TypeId} {s : Nat} {xs : List Value} {n : Nat} : (rO v e s xs n).cells := fun w h x hx => by
  have hx : x ∈ slB v := hx
  obtain ⟨rfl, _⟩ | ⟨b, o, c, cs, rfl, hb, _⟩ := h
  · simp [slB] at hx
  · simp [slB] at hx; subst hx; exact ⟨_, hb, rfl⟩

theorem Sep.turn {S : List Nat} {w0 w w' : World} {L R : List Res} {B : Nat} (s : Sep S w0 w L R) (h : Turn B w w') (hB : w0.heap.size ≤ B) (hL : ∀ T ∈ L, T.cells ∨ ∀ b ∈ T.foot, b < B) (hR : ∀ T ∈ R, T.cells ∨ ∀ b ∈ T.foot, b < B) : Sep S w0 w' L R := by
  obtain ⟨rows, e, hrows⟩ := h.ext
  have key : ∀ T : Res, T.holds w → (T.cells ∨ ∀ b ∈ T.foot, b < B) → T.holds w' := fun T hT hc => T.keep hT e fun b hb hm => by
    obtain ⟨h1, h2⟩ := hrows b hm
    rcases hc with hc | hc
    · obtain ⟨o, ho, hoc⟩ := hc w hT b hb
      rw [h2 o ho] at hoc; cases hoc
    · have := hc b hb; omega
  exact ⟨s.ext.step e fun x hx hlt => by have := (hrows x hx).1; omega, fun T hT => key T (s.own T hT) (hL T hT), fun T hT => key T (s.rd T hT) (hR T hT), s.old, s.dis, s.disR⟩

theorem Sep.add2 {S : List Nat} {w0 w w' : World} {L R : List Res} {T U : Res} (s : Sep S w0 w L R) (hT : T.holds w') (hU : U.holds w') (e : Ext [] w w') (hf : ∀ b ∈ T.foot, w.heap.size ≤ b) (hg : ∀ b ∈ U.foot, w.heap.size ≤ b) (hd : ∀ b ∈ T.foot, b ∉ U.foot) : Sep S w0 w' (T :: U :: L) R := by
  have s1 := s.add (T := U) hU e hg
  have s2 := s.add (T := T) hT e hf
  refine ⟨s1.ext, fun V hV => ?_, s1.rd, fun V hV => ?_, .cons (fun V hV => ?_) s1.dis, fun V hV => ?_⟩
  · rcases List.mem_cons.1 hV with rfl | hV
    · exact hT
    · exact s1.own V hV
  · rcases List.mem_cons.1 hV with rfl | hV
    · exact s2.old V (by simp)
    · exact s1.old V hV
  · rcases List.mem_cons.1 hV with rfl | hV
    · exact hd
    · exact (List.pairwise_cons.1 s2.dis).1 V hV
  · rcases List.mem_cons.1 hV with rfl | hV
    · exact s2.disR V (by simp)
    · exact s1.disR V hV

theorem Sep.restart {S : List Nat} {w0 w : World} {L R : List Res} (s : Sep S w0 w L R) : Sep (L.flatMap (·.foot)) w w L R :=
  ⟨Ext.refl _ _, s.own, s.rd, fun T hT b hb => .inl (List.mem_flatMap.2 ⟨T, hT, hb⟩), s.dis, s.disR⟩
theorem Sep.behind {S : List Nat} {w0 w w' : World} {L R L' R' : List Res} (s : Sep S w0 w L R) (t : Sep (L.flatMap (·.foot)) w w' L' R') : Sep S w0 w' L' R' :=
  ⟨s.ext.step t.ext fun x hx hlt => by
      obtain ⟨T, hT, hb⟩ := List.mem_flatMap.1 hx
      rcases s.old T hT x hb with h | h
      · exact h
      · omega,
    t.own, t.rd, fun T hT b hb => by
      rcases t.old T hT b hb with h | h
      · obtain ⟨U, hU, hb⟩ := List.mem_flatMap.1 h
        exact s.old U hU b hb
      · have := s.ext.size
        exact .inr (by omega), t.dis, t.disR⟩
/-- What a round kept. -/
theorem Sep.keepsFrom {w w' : World} {L L' R' : List Res} {B : Nat} (t : Sep (L.flatMap (·.foot)) w w' L' R') (h : ∀ T ∈ L, T.holds w) (hL : ∀ T ∈ L, T.cells ∨ ∀ b ∈ T.foot, b < B) : KeepsFrom B w w' :=
  ⟨t.ext.size, fun k o hB hk ho => (t.ext.same k (Array.getElem?_eq_some_iff.1 hk).1 fun hm => by
    obtain ⟨T, hT, hb⟩ := List.mem_flatMap.1 hm
    rcases hL T hT with hc | hc
    · obtain ⟨o', ho', hoc⟩ := hc w (h T hT) k hb
      rw [hk] at ho'; cases ho'
      rw [ho] at hoc; cases hoc
    · have := hc k hb; omega).trans hk⟩

theorem turn_end {B D : Nat} {w : World} {o o' : Obj} (h : w.heap[D]? = some o) (ho : o.isCells = false) (hB : B ≤ D) : Turn B w (w.putObj D o') :=
  .step (some D) (.refl w) (grownBy_putObj' w D o') fun r e => by cases e; exact ⟨hB, o, h, ho⟩

/-- A range over a function whose body is left at its end alone, and that assigns nothing on its way. -/
theorem rangeH_i {P : Program} {gf : Nat} {lb : Array Value} {np : Nat} {w : World} {done : Nat → World → Prop} {stop : Exit → Nat → World → Prop} {AB : Array Value → World → RoundT → Prop} {α : Type} {encs : α → Array Value} {Kp : World → World → Prop} {S Sp : List α → Prop} {N : Nat}
    (he : entersB P gf = true) (hseq : SeqStopsK Fence.wide 0 P gf lb encs Kp S Sp N w) (hKt : ∀ A B C, Kp A B → Kp B C → Kp A C) (hKr : ∀ W, Kp W W)
    (hKb : ∀ (W : World) (l : Nat) (o' : Obj), w.heap.size ≤ l → Kp W (W.putObj l o')) (hps : ∀ x, (encs x).size = np)
    (I : List α → World → Prop) (hI : ∀ xs W W', I xs W → Turn w.heap.size W W' → I xs W') (h0 : I [] w)
    (round : ∀ x W (T : RoundT), (∀ F : World → XPost → Prop, (∀ pre W2 (J : XPost), I pre W2 → pre.length < N → (∀ fr W', KeepsFrom w.heap.size W2 W' → Kp W2 W' → I (pre ++ [x]) W' → J .normal fr W') → F W2 J) → T W F) → AB (encs x) W T)
    (hd : ∀ D xs W, w.heap.size ≤ D → S xs → I xs W → W.heap[D]? = some (.deferred (some [])) → done D W) :
    rangeH P false (.func (.func gf) #[] lb) np AB w done stop := by
  refine .inl ⟨gf, lb, α, encs, Kp, S, Sp, N, I, fun _ _ _ => False, rfl, fun args w => ?_, hseq, hKt, hKr, fun W l o o' hl _ _ _ => hKb W l o' hl, hps, fun s W W' row hs hg hr => hI s W W' hs (.step row (.refl W) hg hr), fun e s W W' row hs => hs.elim, h0,
    fun pre x W hi => round x W _ fun F hF => ⟨KeepsFrom.refl _ _, hKr W, hi, fun pre W2 _ hi2 hlt => hF pre W2 _ hi2 hlt fun fr W' hk hkp hi' => ⟨hk, hkp, hi'⟩⟩, hd, fun h => (by cases h)⟩
  unfold entersB at he
  unfold callFunc
  cases hf : P.funcs[gf]? with
  | none => simp [hf] at he
  | some fn =>
    simp only [hf, Bool.and_eq_true, bne_iff_ne, ne_eq] at he
    obtain ⟨h1, h2⟩ := he
    have h3 : fn.body.isNone = false := by cases hb : fn.body <;> simp [hb] at h1 ⊢
    simp only [Sem.run_bind, Go.program, Sem.run, Result.andThen_ok, hf, beq_iff_eq, h2, if_false, h3, Bool.false_eq_true, Sem.run_pure]
end Go.Proofs.YtbaddpnlokmldaaDoor
