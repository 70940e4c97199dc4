/- The clean form of a function's whole body, and that it serves: 'calls_of_G'. Conditions: the program follows mixed orders; the function has a body; its arguments fit its frame. -/
import Derived.Test.YtedebapgmfnflaaG5
namespace Go.Proofs.Ytedebapgmfnflaa
open Go

/-- The transitive 'waits for' of each operation, as bits. -/
abbrev depMs : List Oper → List Nat → List Nat
  | [], acc => acc
  | o :: r, acc => depMs r (acc ++ [o.after.toList.foldl (fun s e => bif bnd e then Nat.lor (addB s e.on) (acc.getD e.on 0) else s) 0])

/-- Effects: by kind; or what writes a slot that others name who need not come behind. -/
abbrev effM (md : Bool) (P : Program) (ops : Array Oper) (D : List Nat) : Nat → List Oper → Nat
  | _, [] => 0
  | i, o :: r =>
    let m := effM md P ops D (i + 1) r
    bif !(Nat.blt (kindO md P o) 3) || (match o.dst with
      | some d => !(allIx (fun j oj => (Nat.beq i j && !mem d (oj.looksAt ops)) || (!(Nat.beq i j) && (!mem d (namesO ops oj) || tb (D.getD j 0) i))) 0 ops.toList)
      | none => false) then addB m i else m

/-- For each region that draws: its effects, what each operation waits for, at once and in the end. -/
abbrev Cert := List (Nat × Nat × List Nat × List Nat)

abbrev findC : Cert → Nat → Option (Nat × List Nat × List Nat)
  | [], _ => none
  | (i, x) :: r, id => bif Nat.beq i id then some x else findC r id

abbrev drawW (md : Bool) (P : Program) (n : Nat) (C : Cert) (id : Nat) (ops : Array Oper) (fr : Fr) (w : World) (K : Fr → World → Prop) : Prop :=
  match findC C id with
  | some (E, DD, D) => (match okB md P ops E DD D n with | true => runT md P ops E DD D n (ops.size + 1) 0 fr w.drew K | false => False)
  | none => False

abbrev runL (md : Bool) (P : Program) (n : Nat) (ops : Array Oper) : List Oper → Fr → World → (Fr → World → Prop) → Prop
  | [], fr, w, K => K fr w
  | o :: r, fr, w, K => stepV md P ops o fr w fun v w' => runL md P n ops r (putF n fr o.dst v) w' K

abbrev XPost := Exit → Fr → World → Prop

/-- A loop: what holds at each round's head, with a bound on the rounds that are left. -/
def loopW (B : Fr → World → XPost → Prop) (fr : Fr) (w : World) (K : XPost) : Prop :=
  ∃ I : Nat → Fr → World → Prop, (∃ m, I m fr w) ∧ ∀ m fr w, I m fr w → B fr w fun e fr' w' => match e with
    | .normal => ∃ k, k < m ∧ I k fr' w'
    | e => K e fr' w'

def condW (v : Value) (A B : Prop) : Prop :=
  match v with
  | .bool true => A
  | .bool false => B
  | _ => False

/-- What follows where a part ends as it should; else what is beyond. -/
def seqX (B : Fr → World → Prop) (K : XPost) : XPost := fun e fr w => match e with
  | .normal => B fr w
  | e => K e fr w

def blkX (id : Nat) (K : XPost) : XPost := fun e fr w => match e with
  | .exit i => match Nat.beq i id with | true => K .normal fr w | false => K (.exit i) fr w
  | e => K e fr w

def bindX (k : XPost) (F : XPost → Prop) : Prop := F k
abbrev pf (n : Nat) (fr : Fr) (d : Nat) (v : Value) : Fr := putF n fr (some d) v

abbrev wpG (md : Bool) (P : Program) (n : Nat) (C : Cert) : Code → Fr → World → XPost → Prop
  | .skip, fr, w, K => K .normal fr w
  | .region id ops true, fr, w, K => drawW md P n C id ops fr w (K .normal)
  | .region _ ops false, fr, w, K => runL md P n ops ops.toList fr w (K .normal)
  | .seq a b, fr, w, K => wpG md P n C a fr w (seqX (fun fr w => wpG md P n C b fr w K) K)
  | .cond c a b, fr, w, K => condW (evF fr c) (wpG md P n C a fr w K) (wpG md P n C b fr w K)
  | .block id b, fr, w, K => wpG md P n C b fr w (blkX id K)
  | .loop b, fr, w, K => loopW (fun fr w K' => wpG md P n C b fr w K') fr w K
  | .exit id, fr, w, K => K (.exit id) fr w
  | .ret, fr, w, K => K .ret fr w
  | _, _, _, _ => False

/-- What a function hands back. -/
abbrev resW (P : Program) : List ResultVar → Fr → World → List Value → VPost → Prop
  | [], _, w, acc, K => K (match acc with | [v] => v | vs => .tuple vs.toArray) w
  | .tmp t :: r, fr, w, acc, K => resW P r fr w (acc ++ [fr t]) K
  | .cell a t :: r, fr, w, acc, K => loadW (szI P t) (fr a) w fun v _ => resW P r fr w (acc ++ [v]) K

abbrev endW (P : Program) (rs : List ResultVar) (K : VPost) : XPost := fun e fr w => match e with
  | .normal => resW P rs fr w [] K
  | .ret => resW P rs fr w [] K
  | _ => False

section
variable {md : Bool} {P : Program} {n : Nat} {C : Cert}

def postG (n : Nat) (K : XPost) : Exit → Act → World → Prop := fun e a w => ∃ fr, Agr n fr a ∧ K e fr w

theorem wpList_of_runL {ops : Array Oper} {K : Fr → World → Prop} {Q : Exit → Act → World → Prop} (hQ : ∀ fr w a, Agr n fr a → K fr w → Q .normal a w) :
    ∀ (l : List Oper) (fr : Fr) (w : World) (a : Act), Agr n fr a → runL md P n ops l fr w K → wpList P ops Q l a w := by
  intro l
  induction l with
  | nil => intro fr w a ha h; exact hQ fr w a ha h
  | cons o r ih =>
    intro fr w a ha h
    have he : ∀ x ∈ o.op.operands, a.eval x = evF fr x := fun x _ => ha.eval x
    have h : stepV md P ops o fr w fun v w' => runL md P n ops r (putF n fr o.dst v) w' K := h
    have hK : ∀ v w', runL md P n ops r (putF n fr o.dst v) w' K → wpList P ops Q r (a.put o.dst v) w' := fun v w' h' => ih _ w' _ (ha.put o.dst v) h'
    unfold stepV at h
    cases hg : o.guard with
    | none =>
      simp only [hg] at h
      exact wpList_plain hg fun K' hK' => (wp_of_opW h he fun v w' h' => hK' _ _ (hK v w' h'))
    | some g =>
      simp only [hg] at h
      have hy : ∀ c, yielded ops a.tmps g.1 = some c ↔ gval ops fr g.1 = .bool c := by
        intro c
        unfold gval yielded
        unfold dstOf
        cases hd : (ops[g.1]?).bind (·.dst) with
        | none => simp [undef]
        | some d =>
          have h1 := ha.get d
          simp only [Option.bind_some]
          rw [← h1]
          cases h3 : a.tmps[d]? with
          | none => simp [Array.getD_eq_getD_getElem?, h3, undef]
          | some x =>
            simp only [Array.getD_eq_getD_getElem?, h3, Option.getD_some]
            cases x <;> simp
      obtain ⟨j, b⟩ := g
      rcases guardW_cases h with ⟨hv, hA⟩ | ⟨hv, hB⟩
      · have hw : Region.wanted o (yielded ops a.tmps) = true := by simp [Region.wanted, hg, (hy b).2 hv]
        refine wpList_step fun K' hK' => ?_
        rw [if_pos hw]
        exact wp_of_opW hA he fun v w' h' => hK' _ _ (hK v w' h')
      · have hw : ¬ Region.wanted o (yielded ops a.tmps) = true := by
          intro hw
          simp only [Region.wanted, hg, beq_iff_eq] at hw
          exact hv ((hy b).1 hw)
        refine wpList_step fun K' hK' => ?_
        rw [if_neg hw]
        exact hK' _ _ (hK _ _ hB)

theorem wp_of_drawW (hm : P.follows .mixedOrders = true) {id : Nat} {ops : Array Oper} {fr : Fr} {w : World} {a : Act} {K : Fr → World → Prop} {Q : Exit → Act → World → Prop}
    (hQ : ∀ fr w a, Agr n fr a → K fr w → Q .normal a w) (ha : Agr n fr a) (h : drawW md P n C id ops fr w K) : (Code.region id ops true).wp P Q a w := by
  unfold drawW at h
  cases hf : findC C id with
  | none => rw [hf] at h; exact h.elim
  | some x =>
  obtain ⟨E, DD, D⟩ := x
  rw [hf] at h
  simp only at h
  cases hok : okB md P ops E DD D n with
  | false => simp only [hok] at h
  | true =>
  simp only [hok] at h
  have hrun := h
  refine wp_region_any hm ?_
  have hrep : ∀ i, (Array.replicate ops.size false).getD i false = false := fun i => by
    rcases Nat.lt_or_ge i ops.size with h | h
    · simp [h]
    · simp [h]
  have htb : ∀ i, tb 0 i = false := fun i => by rw [tb_eq]; simp
  refine wpAny_of_runT (okR_of hok) hQ ops.size _ 0 fr _ _ _ ⟨by simp, ha.size, ha.defers, fun i hi => ?_, fun i o _ _ hi => ?_, fun i o _ hi => ?_, fun i o _ hi => ?_, fun t _ => ha.get t, fun j o _ hj => ?_⟩ ?_ hrun
  · rw [hrep] at hi; cases hi
  · rw [htb] at hi; cases hi
  · rw [hrep] at hi; cases hi
  · rw [htb] at hi; cases hi
  · rw [htb] at hj; cases hj
  · have : ∀ l : List Nat, cntU (Array.replicate ops.size false) l ≤ l.length := by
      intro l
      induction l with
      | nil => exact Nat.le_refl _
      | cons i r ih => unfold cntU; rw [hrep]; simp only [cond_false, List.length_cons]; omega
    simpa using this (List.range ops.size)

theorem condW_cases {v : Value} {A B : Prop} (h : condW v A B) : ∃ b, v = .bool b ∧ (if b then A else B) := by
  unfold condW at h
  split at h
  · exact ⟨true, rfl, h⟩
  · exact ⟨false, rfl, h⟩
  · exact h.elim

theorem wpG_sound (hm : P.follows .mixedOrders = true) : ∀ (c : Code) (fr : Fr) (w : World) (K : XPost) (a : Act), Agr n fr a → wpG md P n C c fr w K → c.wp P (postG n K) a w := by
  intro c
  induction c with
  | skip => intro fr w K a ha h; exact wp_skip ⟨fr, ha, h⟩
  | region id ops draw =>
    intro fr w K a ha h
    cases draw with
    | true => exact wp_of_drawW hm (fun fr w a ha h => ⟨fr, ha, h⟩) ha h
    | false => exact wp_region_list (wpList_of_runL (fun fr w a ha h => ⟨fr, ha, h⟩) _ fr w a ha h)
  | seq x y ihx ihy =>
    intro fr w K a ha h
    refine wp_seq (Code.wp_mono (fun e a w he => ?_) (ihx fr w _ a ha h))
    obtain ⟨fr', ha', h'⟩ := he
    cases e <;> first
      | exact ihy fr' w K a ha' h'
      | exact ⟨fr', ha', h'⟩
  | cond c x y ihx ihy =>
    intro fr w K a ha h
    obtain ⟨b, hb, h'⟩ := condW_cases h
    refine wp_cond (t := b) (by rw [ha.eval]; exact hb) ?_
    cases b
    · exact ihy fr w K a ha h'
    · exact ihx fr w K a ha h'
  | block id b ih =>
    intro fr w K a ha h
    refine wp_block (Code.wp_mono (fun e a w he => ?_) (ih fr w _ a ha h))
    obtain ⟨fr', ha', h'⟩ := he
    cases e with
    | exit i =>
      simp only [Exit.inBlock]
      by_cases e : i = id
      · subst e
        simp only [blkX, Nat.beq_refl] at h'
        rw [if_pos rfl]
        exact ⟨fr', ha', h'⟩
      · rw [if_neg e]
        simp only [blkX, beq_ne (fun x => e x.symm)] at h'
        exact ⟨fr', ha', h'⟩
    | _ => exact ⟨fr', ha', h'⟩
  | loop b ih =>
    intro fr w K a ha h
    obtain ⟨I, ⟨m, hI⟩, hround⟩ := h
    intro bb k cs
    have key : ∀ (m : Nat) (fr : Fr) (w : World) (a : Act), Agr n fr a → I m fr w →
        ∃ e a' w', postG n K e a' w' ∧ Arrives P (lone (bb.at a (.code b :: .inLoop b :: k)) cs w) bb k cs e a' w' := by
      intro m
      induction m using Nat.strongRecOn with
      | _ m ihm =>
        intro fr w a ha hI
        obtain ⟨e, a₁, w₁, hq, harr⟩ := ih fr w _ a ha (hround m fr w hI) bb (.inLoop b :: k) cs
        obtain ⟨fr₁, ha₁, hq⟩ := hq
        cases e with
        | normal =>
          obtain ⟨j, hj, hI₁⟩ := hq
          obtain ⟨e₂, a₂, w₂, hq₂, harr₂⟩ := ihm j hj fr₁ w₁ a₁ ha₁ hI₁
          exact ⟨e₂, a₂, w₂, hq₂, .of_steps (Steps.trans harr (.one step_inLoop)) harr₂⟩
        | exit id => exact ⟨_, a₁, w₁, ⟨fr₁, ha₁, hq⟩, .pass (x := .inLoop b) rfl (fun _ _ => .inl (by simp)) harr⟩
        | goto l => exact ⟨_, a₁, w₁, ⟨fr₁, ha₁, hq⟩, .pass (x := .inLoop b) rfl (fun _ _ => .inl (by simp)) harr⟩
        | ret => exact ⟨_, a₁, w₁, ⟨fr₁, ha₁, hq⟩, .pass (x := .inLoop b) rfl (fun _ _ => .inl (by simp)) harr⟩
        | panic ch => exact ⟨_, a₁, w₁, ⟨fr₁, ha₁, hq⟩, .pass (x := .inLoop b) rfl (fun _ _ => .inl (by simp)) harr⟩
        | outgrown => exact ⟨_, a₁, w₁, ⟨fr₁, ha₁, hq⟩, .pass (x := .inLoop b) rfl (fun _ _ => .inl (by simp)) harr⟩
    obtain ⟨e, a', w', hq, harr⟩ := key m fr w a ha hI
    exact ⟨e, a', w', hq, .of_steps (.one step_loop) harr⟩
  | exit id => intro fr w K a ha h; exact wp_exit ⟨fr, ha, h⟩
  | ret => intro fr w K a ha h; exact wp_ret ⟨fr, ha, h⟩
  | _ => intros; rename_i h; exact h.elim

def resM (tmps : Array Value) : ResultVar → Sem Value
  | .tmp t => pure (tmps.getD t undef)
  | .cell ad t => do loadVar t (← asAddr (tmps.getD ad undef))

theorem resW_results {fn : Func} {a : Act} {fr : Fr} {w : World} {K : VPost} (ha : Agr n fr a) (h : resW P fn.results.toList fr w [] K) :
    ∃ v, (results fn a.tmps).run P w = .ok v w ∧ K v w := by
  have key : ∀ (rs : List ResultVar) (acc : List Value), resW P rs fr w acc K → ∃ vs : List Value, (rs.mapM (resM a.tmps)).run P w = .ok vs w ∧ K (match acc ++ vs with | [v] => v | vs => .tuple vs.toArray) w := by
    intro rs
    induction rs with
    | nil => intro acc h; exact ⟨[], rfl, by simpa [resW] using h⟩
    | cons r rs ih =>
      intro acc h
      cases r with
      | tmp t =>
        obtain ⟨vs, h1, h2⟩ := ih _ h
        refine ⟨fr t :: vs, ?_, by simpa using h2⟩
        simp only [List.mapM_cons, resM, Sem.run_bind, Sem.run_pure, Result.andThen_ok, h1, ha.get]
      | cell ad t =>
        have h : loadW (szI P t) (fr ad) w fun v _ => resW P rs fr w (acc ++ [v]) K := h
        obtain ⟨v, hv, hdet⟩ := loadW_det h
        obtain ⟨vs, h1, h2⟩ := ih _ hv
        refine ⟨v :: vs, ?_, by simpa using h2⟩
        have hl := loadW_next (P := P) (hdet (fun u w' => u = v ∧ w' = w) ⟨rfl, rfl⟩)
        have hp : ∃ x, fr ad = .pointer (some x) := by
          unfold loadW at h
          split at h
          · rename_i hx; exact ⟨_, hx⟩
          · rename_i hx; exact ⟨_, hx⟩
          · exact h.elim
        obtain ⟨x, hx⟩ := hp
        rw [hx] at hl
        have hlv : (loadVar t x).run P w = .ok v w := by
          simp only [Instr.loadAt, Instr.sureAddr, Sem.run_bind, Sem.run_pure, Result.andThen_ok] at hl
          cases hr : (loadVar t x).run P w with
          | ok u w' => rw [hr] at hl; obtain ⟨rfl, rfl⟩ := hl; rfl
          | halt y w' => rw [hr] at hl; exact hl.elim
        simp only [List.mapM_cons, resM, Sem.run_bind, ha.get, hx, asAddr, Sem.run_pure, Result.andThen_ok, hlv, h1]
  obtain ⟨vs, h1, h2⟩ := key _ [] h
  refine ⟨_, ?_, h2⟩
  have e : (fn.results.mapM (resM a.tmps)).run P w = .ok vs.toArray w := by
    rw [Array.mapM_eq_mapM_toList, map_eq_pure_bind, Sem.run_bind, h1]
    rfl
  have e2 : results fn a.tmps = (do let vs ← fn.results.mapM (resM a.tmps); pure (if h : vs.size = 1 then vs[0] else .tuple vs)) := by
    unfold results
    congr 1
  rw [e2, Sem.run_bind, e]
  simp only [Result.andThen_ok, Sem.run_pure, List.nil_append]
  congr 1
  match vs with
  | [] => rfl
  | [v] => rfl
  | x :: y :: r => simp

abbrev bodyOf (fn : Func) : Code := fn.body.getD .skip

theorem calls_of_G (hm : P.follows .mixedOrders = true) {f : FuncId} {fn : Func} {c : Code} {args : Array Value} {w : World} {K : VPost}
    {rs : List ResultVar} (hf : P.funcs[f]? = some fn) (hb : fn.body = some c) (hn' : fn.ntmps = n) (hr : fn.results.toList = rs) (hn : args.size ≤ n)
    (h : wpG md P n C c (argF args.toList) w (endW P rs K)) : Calls P f args w (retK K) := by
  subst hn' hr
  refine calls_of_wp hf hb ?_
  refine Code.wp_mono (fun e a w he => ?_) (wpG_sound hm c _ w _ _ (n := fn.ntmps) ⟨by simp; omega, fun i => ?_, rfl⟩ h)
  · obtain ⟨fr, ha, h'⟩ := he
    cases e <;> first
      | exact h'.elim
      | (obtain ⟨v, h1, h2⟩ := resW_results ha h'
         exact ⟨ha.defers, v, h1, h2⟩)
  · unfold argF
    simp only [Array.getD_eq_getD_getElem?, List.getD_eq_getElem?_getD, Array.getElem?_toList]
    rw [Array.getElem?_append]
    by_cases hi : i < args.size
    · rw [if_pos hi]
    · rw [if_neg hi]
      have : args[i]? = none := by simp; omega
      rw [this, Array.getElem?_replicate]
      split <;> rfl

def WP (md : Bool) (P : Program) (n : Nat) (C : Cert) (c : Code) (fr : Fr) (w : World) (rs : List ResultVar) (K : VPost) : Prop := wpG md P n C c fr w (endW P rs K)

theorem calls_of_WP {X : Prop} {f : FuncId} {fn : Func} {l : List Value} {w : World} {K : VPost} {rs : List ResultVar} (hX : X = WP md P n C (bodyOf fn) (argF l) w rs K) (hm : P.follows .mixedOrders = true)
    (hf : P.funcs[f]? = some fn) (hb : fn.body.isSome = true) (hn' : fn.ntmps = n) (hr : fn.results.toList = rs) (hn : Nat.ble l.length n = true) (h : X) : Calls P f l.toArray w (retK K) := by
  have hb' : fn.body = some (bodyOf fn) := by
    unfold bodyOf
    cases hc : fn.body with
    | none => rw [hc] at hb; cases hb
    | some c => rfl
  rw [hX] at h
  unfold WP at h
  exact calls_of_G hm hf hb' hn' hr (Nat.le_of_ble_eq_true hn) h
end
end Go.Proofs.Ytedebapgmfnflaa
