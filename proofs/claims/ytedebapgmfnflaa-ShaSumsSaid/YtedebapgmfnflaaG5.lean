/- Every order of a region comes to what its one run comes to: the theorem. Condition: 'okB' of the region. -/
import Derived.Test.YtedebapgmfnflaaG4
namespace Go.Proofs.Ytedebapgmfnflaa
open Go

structure InvR (md : Bool) (P : Program) (ops : Array Oper) (E n : Nat) (pre : Nat) (fr : Fr) (w : World) (listed : Array Bool) (a : Act) : Prop where
  lsize : listed.size = ops.size
  tsize : a.tmps.size = n
  dfr : a.defers = []
  sub : ∀ i, listed.getD i false = true → tb pre i = true
  eff : ∀ (i : Nat) (o : Oper), ops[i]? = some o → tb E i = true → tb pre i = true → listed.getD i false = true
  lcl : ∀ (i : Nat) (o : Oper), ops[i]? = some o → listed.getD i false = true → ∀ e ∈ o.after, bnd e = true → listed.getD e.on false = true
  pcl : ∀ (i : Nat) (o : Oper), ops[i]? = some o → tb pre i = true → ∀ e ∈ o.after, bnd e = true → tb pre e.on = true
  agr : ∀ t : Nat, (∀ (j : Nat) (o : Oper), ops[j]? = some o → tb pre j = true → listed.getD j false = false → o.dst ≠ some t) → a.tmps.getD t undef = fr t
  stb : ∀ (j : Nat) (o : Oper), ops[j]? = some o → tb pre j = true → listed.getD j false = false → Stb md P ops o fr w

section
variable {md : Bool} {P : Program} {ops : Array Oper} {E : Nat} {DD D : List Nat} {n : Nat}

/-- What is shut under 'waits for' bears with each operation all that it hangs on. -/
theorem closeD (hok : OkR md P ops E DD D n) (S : Nat → Prop) (hS : ∀ (i : Nat) (o : Oper), ops[i]? = some o → S i → ∀ e ∈ o.after, bnd e = true → S e.on) :
    ∀ (m i : Nat) (o : Oper), i < m → ops[i]? = some o → (∀ e ∈ o.after, bnd e = true → S e.on) → ∀ k, k < ops.size → tb (D.getD i 0) k = true → S k := by
  intro m
  induction m with
  | zero => intro i o hi; omega
  | succ m ih =>
    intro i o hi ho hd k hk ht
    obtain ⟨e, he, hb, hx⟩ := hok.dd i o k ho hk ht
    have hlt := hok.lt i o ho e he hb
    rcases hx with rfl | hx
    · exact hd e he hb
    · have hsz : e.on < ops.size := by
        have := (Array.getElem?_eq_some_iff.1 ho).1; omega
      have hoe : ops[e.on]? = some ops[e.on] := Array.getElem?_eq_getElem hsz
      exact ih e.on _ (by omega) hoe (fun e' he' hb' => hS e.on _ hoe (hd e he hb) e' he' hb') k hk hx

theorem depsIn_spec (hok : OkR md P ops E DD D n) {pre i : Nat} {o : Oper} (ho : ops[i]? = some o) (h : depsIn pre (DD.getD i 0) = true) : ∀ e ∈ o.after, bnd e = true → tb pre e.on = true := by
  intro e he hb
  rw [hok.dr i o ho] at h
  exact tb_land h (maskO_spec.2 ⟨e, he, hb, rfl⟩)

theorem depsIn_mk (hok : OkR md P ops E DD D n) {pre i : Nat} {o : Oper} (ho : ops[i]? = some o) (h : ∀ e ∈ o.after, bnd e = true → tb pre e.on = true) : depsIn pre (DD.getD i 0) = true := by
  rw [hok.dr i o ho]
  unfold depsIn
  have : Nat.land (maskO o) pre = maskO o := by
    show maskO o &&& pre = maskO o
    refine Nat.eq_of_testBit_eq fun k => ?_
    rw [Nat.testBit_and]
    cases hk : (maskO o).testBit k with
    | false => rfl
    | true =>
      obtain ⟨e, he, hb, rfl⟩ := maskO_spec.1 (by rw [tb_eq]; exact hk)
      have := h e he hb
      rw [tb_eq] at this
      rw [this]; rfl
  rw [this]
  exact Nat.beq_refl _

theorem lt_of_get {i : Nat} {o : Oper} (h : ops[i]? = some o) : i < ops.size := (Array.getElem?_eq_some_iff.1 h).1

theorem names_looks {o : Oper} {t : Nat} (h : t ∈ o.looksAt ops) : t ∈ namesO ops o := List.mem_append_left _ h
theorem names_dst {o : Oper} {t : Nat} (h : o.dst = some t) : t ∈ namesO ops o := List.mem_append_right _ (by simp [h])

/-- A read is taken into what the run has done. -/
theorem InvR.read (hok : OkR md P ops E DD D n) {pre : Nat} {fr : Fr} {w : World} {listed : Array Bool} {a : Act} (inv : InvR md P ops E n pre fr w listed a) {i : Nat} {o : Oper} {v : Value}
    (ho : ops[i]? = some o) (hp : tb pre i = false) (hE : tb E i = false) (hd : depsIn pre (DD.getD i 0) = true) (hs : ∀ K' : VPost, K' v w → stepV md P ops o fr w K') :
    InvR md P ops E n (addB pre i) (putF n fr o.dst v) w listed a := by
  have hnl : listed.getD i false = false := by
    cases h : listed.getD i false with
    | false => rfl
    | true => rw [inv.sub i h] at hp; cases hp
  -- a name of whoever has run already is none of the new operation's
  have hfree : ∀ (j : Nat) (oj : Oper) (d : Nat), ops[j]? = some oj → tb pre j = true → o.dst = some d → d ∉ namesO ops oj := by
    intro j oj d hj hpj hdst hm
    have hne : i ≠ j := fun e => by rw [e, hpj] at hp; cases hp
    rcases hok.cl i j o oj d ho hj hne hdst hm with h1 | ⟨h1, _⟩
    · have := closeD hok (fun k => tb pre k = true) inv.pcl (j + 1) j oj (by omega) hj (inv.pcl j oj hj hpj) i (lt_of_get ho) h1
      rw [this] at hp; cases hp
    · rw [h1] at hE; cases hE
  refine ⟨inv.lsize, inv.tsize, inv.dfr, fun k hk => tb_addB_old (inv.sub k hk), fun k ok hk hEk hpk => ?_, inv.lcl, fun k ok hk hpk e he hb => ?_, fun t ht => ?_, fun j oj hj hpj hlj => ?_⟩
  · have hne : i ≠ k := fun e => by rw [e, hEk] at hE; cases hE
    exact inv.eff k ok hk hEk (tb_addB_ne hpk hne)
  · by_cases hne : i = k
    · subst hne
      have : ok = o := Option.some.inj (hk.symm.trans ho)
      subst this
      exact tb_addB_old (depsIn_spec hok hk hd e he hb)
    · exact tb_addB_old (inv.pcl k ok hk (tb_addB_ne hpk hne) e he hb)
  · have h1 : o.dst ≠ some t := ht i o ho (tb_addB_same _ _) hnl
    rw [putF_ne n fr _ v t h1]
    exact inv.agr t fun j oj hj hpj hlj => ht j oj hj (tb_addB_old hpj) hlj
  · by_cases hne : i = j
    · subst hne
      have : oj = o := Option.some.inj (hj.symm.trans ho)
      subst this
      have hl : ∀ t ∈ oj.looksAt ops, fr t = putF n fr oj.dst v t := fun t ht => by
        rw [putF_ne]
        intro e
        exact hok.self i oj t ho hE e ht
      refine stepV_congr hl (hs _ ⟨?_, rfl⟩)
      unfold sameD
      cases hdst : oj.dst with
      | none => trivial
      | some d => simp only; rw [putF_same n fr d v (hok.dst i oj d ho hdst)]
    · have hpj' := tb_addB_ne hpj hne
      have hst := inv.stb j oj hj hpj' hlj
      have hsame : ∀ t ∈ namesO ops oj, putF n fr o.dst v t = fr t := fun t ht => by
        rw [putF_ne]
        intro e
        exact hfree j oj t hj hpj' e ht
      have hl : ∀ t ∈ oj.looksAt ops, fr t = putF n fr o.dst v t := fun t ht => (hsame t (names_looks ht)).symm
      have hst' := stepV_congr hl hst
      have : sameD (putF n fr o.dst v) oj.dst = sameD fr oj.dst := by
        unfold sameD
        cases hdst : oj.dst with
        | none => rfl
        | some d => funext u; simp only; rw [hsame d (names_dst hdst)]
      unfold Stb
      rw [this]
      exact hst'

/-- The run, brought to where no read is left that could come next. -/
theorem advance (hok : OkR md P ops E DD D n) {listed : Array Bool} {a : Act} {K : Fr → World → Prop} : ∀ (f pre : Nat) (fr : Fr) (w : World), InvR md P ops E n pre fr w listed a → runT md P ops E DD D n f pre fr w K →
    ∃ f' pre' fr', InvR md P ops E n pre' fr' w listed a ∧ runT md P ops E DD D n (f' + 1) pre' fr' w K ∧ pickR E DD pre' 0 ops.toList = none := by
  intro f
  induction f with
  | zero => intro pre fr w _ h; exact h.elim
  | succ f ih =>
    intro pre fr w inv h
    cases hr : pickR E DD pre 0 ops.toList with
    | none => exact ⟨f, pre, fr, inv, h, hr⟩
    | some x =>
      obtain ⟨i, o⟩ := x
      obtain ⟨_, ho, hp, hE, hd⟩ := pickR_some hr
      simp only [Nat.sub_zero, Array.getElem?_toList] at ho
      unfold runT at h
      simp only [hr] at h
      have hk3 := hok.kind i o ho hE
      cases hk : Nat.blt (kindO md P o) 2 with
      | true =>
        simp only [hk] at h
        obtain ⟨v, h1, h2⟩ := stepV_load (Nat.le_of_ble_eq_true hk) h
        exact ih _ _ w (inv.read hok ho hp hE hd h2) h1
      | false =>
        simp only [hk] at h
        obtain ⟨v, w', ⟨hw, h1⟩, h2⟩ := stepV_read hk3 h
        subst hw
        exact ih _ _ _ (inv.read hok ho hp hE hd h2) h1

def cntU (listed : Array Bool) : List Nat → Nat
  | [] => 0
  | i :: r => (bif listed.getD i false then 0 else 1) + cntU listed r

theorem cntU_set (listed : Array Bool) (i : Nat) (hi : i < listed.size) (hl : listed.getD i false = false) : ∀ l : List Nat, cntU (listed.setIfInBounds i true) l ≤ cntU listed l ∧ (i ∈ l → cntU (listed.setIfInBounds i true) l < cntU listed l) := by
  intro l
  induction l with
  | nil => exact ⟨Nat.le_refl _, fun h => by cases h⟩
  | cons j r ih =>
    unfold cntU
    by_cases e : i = j
    · subst e
      have h1 : (listed.setIfInBounds i true).getD i false = true := by simp [hi]
      rw [h1, hl]
      simp only [cond_true, cond_false]
      exact ⟨by omega, fun _ => by omega⟩
    · have h1 : (listed.setIfInBounds i true).getD j false = listed.getD j false := getD_set_ne false e
      rw [h1]
      refine ⟨by omega, fun h => ?_⟩
      rcases List.mem_cons.1 h with h | h
      · exact absurd h e
      · have := ih.2 h; omega

theorem cntU_zero {listed : Array Bool} : ∀ {l : List Nat}, cntU listed l = 0 → ∀ i ∈ l, listed.getD i false = true := by
  intro l
  induction l with
  | nil => intro _ i h; cases h
  | cons j r ih =>
    intro h i hi
    unfold cntU at h
    cases hj : listed.getD j false with
    | false => rw [hj] at h; simp at h
    | true =>
      rcases List.mem_cons.1 hi with rfl | hi
      · exact hj
      · exact ih (by omega) i hi

theorem ready_spec {listed : Array Bool} {i : Nat} (hs : listed.size = ops.size) (h : i ∈ Region.ready .any ops listed) :
    ∃ o, ops[i]? = some o ∧ listed.getD i false = false ∧ ∀ e ∈ o.after, bnd e = true → listed.getD e.on false = true := by
  obtain ⟨h1, o, ho, hall⟩ := mem_ready.1 h
  refine ⟨o, ho, ?_, hall⟩
  have : i < listed.size := by rw [hs]; exact lt_of_get ho
  simp [this] at h1 ⊢
  exact h1

/-- Where nothing may come up all has come. -/
theorem all_listed (hok : OkR md P ops E DD D n) {listed : Array Bool} (hs : listed.size = ops.size) (h : Region.ready .any ops listed = []) : ∀ m i, i < m → i < ops.size → listed.getD i false = true := by
  intro m
  induction m with
  | zero => intro i hi; omega
  | succ m ih =>
    intro i hi his
    by_cases him : i < m
    · exact ih i him his
    · cases hl : listed.getD i false with
      | true => rfl
      | false =>
        have ho : ops[i]? = some ops[i] := Array.getElem?_eq_getElem his
        have hmem : i ∈ Region.ready .any ops listed := mem_ready.2 ⟨by
          have : i < listed.size := by rw [hs]; exact his
          simp [this] at hl ⊢; exact hl, ops[i], ho, fun e he hb => ih e.on (by have := hok.lt i _ ho e he hb; omega) (by have := hok.lt i _ ho e he hb; omega)⟩
        rw [h] at hmem; cases hmem

theorem wpAny_of_runT (hok : OkR md P ops E DD D n) {K : Fr → World → Prop} {Q : Exit → Act → World → Prop} (hQ : ∀ fr w a, Agr n fr a → K fr w → Q .normal a w) :
    ∀ (fuel f pre : Nat) (fr : Fr) (w : World) (listed : Array Bool) (a : Act), InvR md P ops E n pre fr w listed a → cntU listed (List.range ops.size) ≤ fuel → runT md P ops E DD D n f pre fr w K →
      wpAny P .any ops Q fuel listed a w := by
  intro fuel
  -- the end: all has come
  have fin : ∀ (f pre : Nat) (fr : Fr) (w : World) (listed : Array Bool) (a : Act), InvR md P ops E n pre fr w listed a → (∀ i, i < ops.size → listed.getD i false = true) → runT md P ops E DD D n f pre fr w K → Q .normal a w := by
    intro f pre fr w listed a inv hall h
    obtain ⟨f', pre', fr', inv', h', hn⟩ := advance hok f pre fr w inv h
    unfold runT at h'
    simp only [hn] at h'
    have hpre : ∀ i, i < ops.size → tb pre' i = true := fun i hi => inv'.sub i (hall i hi)
    have hE : pickE E DD pre' 0 ops.toList = [] := by
      have key : ∀ (l : List Oper) (k : Nat), (∀ i, i < l.length → tb pre' (k + i) = true) → pickE E DD pre' k l = [] := by
        intro l
        induction l with
        | nil => intro k _; rfl
        | cons x r ih =>
          intro k hk
          unfold pickE
          have h0 := hk 0 (by simp)
          simp only [Nat.add_zero] at h0
          rw [h0]
          simp only [Bool.not_true, Bool.false_and, cond_false]
          exact ih (k + 1) fun i hi => by rw [show k + 1 + i = k + (i + 1) by omega]; exact hk (i + 1) (by simpa using hi)
      exact key ops.toList 0 fun i hi => by rw [Nat.zero_add]; exact hpre i (by simpa using hi)
    rw [hE] at h'
    simp only at h'
    cases hf : full pre' ops.size with
    | false => simp only [hf] at h'
    | true =>
      simp only [hf] at h'
      refine hQ fr' w a ⟨inv'.tsize, fun t => inv'.agr t fun j oj hj hpj hlj => ?_, inv'.dfr⟩ h'
      rw [hall j (lt_of_get hj)] at hlj; cases hlj
  induction fuel with
  | zero =>
    intro f pre fr w listed a inv hc h
    have hall : ∀ i, i < ops.size → listed.getD i false = true := fun i hi => cntU_zero (by omega) i (List.mem_range.2 hi)
    refine ⟨?_, fin f pre fr w listed a inv hall h⟩
    cases hr : Region.ready .any ops listed with
    | nil => rfl
    | cons i r =>
      obtain ⟨o, ho, hl, _⟩ := ready_spec inv.lsize (by rw [hr]; exact List.mem_cons_self : i ∈ Region.ready .any ops listed)
      rw [hall i (lt_of_get ho)] at hl; cases hl
  | succ fuel ih =>
    intro f pre fr w listed a inv hc h
    refine ⟨fun hr => fin f pre fr w listed a inv (fun i hi => all_listed hok inv.lsize hr (i + 1) i (by omega) hi) h, fun i hi => ?_⟩
    obtain ⟨f, pre, fr, inv, h, hn⟩ := advance hok f pre fr w inv h
    obtain ⟨o, ho, hl, hdeps⟩ := ready_spec inv.lsize hi
    have hisz : i < listed.size := by rw [inv.lsize]; exact lt_of_get ho
    -- all that it hangs on has come
    have hD : ∀ k, k < ops.size → tb (D.getD i 0) k = true → listed.getD k false = true :=
      closeD hok (fun k => listed.getD k false = true) inv.lcl (i + 1) i o (by omega) ho hdeps
    have hdp : depsIn pre (DD.getD i 0) = true := depsIn_mk hok ho fun e he hb => inv.sub _ (hdeps e he hb)
    have hcnt : cntU (listed.setIfInBounds i true) (List.range ops.size) ≤ fuel := by
      have := (cntU_set listed i hisz hl (List.range ops.size)).2 (List.mem_range.2 (lt_of_get ho))
      omega
    have hget : ∀ k, i ≠ k → (listed.setIfInBounds i true).getD k false = listed.getD k false := fun k hk => getD_set_ne false hk
    have hgeti : (listed.setIfInBounds i true).getD i false = true := by simp [hisz]
    have hlcl : ∀ (k : Nat) (ok : Oper), ops[k]? = some ok → (listed.setIfInBounds i true).getD k false = true → ∀ e ∈ ok.after, bnd e = true → (listed.setIfInBounds i true).getD e.on false = true := by
      intro k ok hk hlk e he hb
      have h1 : listed.getD e.on false = true := by
        by_cases hne : i = k
        · subst hne
          have : ok = o := Option.some.inj (hk.symm.trans ho)
          subst this
          exact hdeps e he hb
        · rw [hget k hne] at hlk
          exact inv.lcl k ok hk hlk e he hb
      by_cases hne : i = e.on
      · rw [← hne]; exact hgeti
      · rw [hget _ hne]; exact h1
    -- the slots that it looks at are as the run has them
    have hlook : ∀ t ∈ o.looksAt ops, a.tmps.getD t undef = fr t := by
      intro t ht
      refine inv.agr t fun j oj hj hpj hlj hdst => ?_
      have hEj : tb E j = false := by
        cases hEj : tb E j with
        | false => rfl
        | true => rw [inv.eff j oj hj hEj hpj] at hlj; cases hlj
      by_cases hne : j = i
      · subst hne
        have : oj = o := Option.some.inj (hj.symm.trans ho)
        subst this
        exact hok.self j oj t hj hEj hdst ht
      · rcases hok.cl j i oj o t hj ho hne hdst (names_looks ht) with h1 | ⟨h1, _⟩
        · rw [hD j (lt_of_get hj) h1] at hlj; cases hlj
        · rw [h1] at hEj; cases hEj
    cases hp : tb pre i with
    | true =>
      -- a read that the run has done already
      have hst := inv.stb i o ho hp hl
      refine wpOp_of_stepV ho hst hlook fun v w' ⟨hv, hw⟩ => ?_
      subst hw
      refine ih (f + 1) pre fr w' _ _ ⟨by simp [inv.lsize], by rw [put_size]; exact inv.tsize, by rw [put_defers]; exact inv.dfr, fun k hk => ?_, fun k ok hk hEk hpk => ?_, hlcl, inv.pcl, fun t ht => ?_, fun j oj hj hpj hlj => ?_⟩ hcnt h
      · by_cases hne : i = k
        · rw [← hne]; exact hp
        · rw [hget k hne] at hk; exact inv.sub k hk
      · by_cases hne : i = k
        · rw [← hne]; exact hgeti
        · rw [hget k hne]; exact inv.eff k ok hk hEk hpk
      · by_cases hdt : o.dst = some t
        · unfold sameD at hv
          rw [hdt] at hv
          simp only at hv
          have := put_getD a n inv.tsize fr o.dst v t (fun hx => absurd hdt hx) (fun t' ht' => hok.dst i o t' ho ht')
          rw [this, hdt, putF_same n fr t v (hok.dst i o t ho hdt), hv]
        · have h1 : a.tmps.getD t undef = fr t := by
            refine inv.agr t fun j oj hj hpj hlj => ?_
            by_cases hne : i = j
            · subst hne
              have : oj = o := Option.some.inj (hj.symm.trans ho)
              subst this
              exact hdt
            · exact ht j oj hj hpj (by rw [hget j hne]; exact hlj)
          have := put_getD a n inv.tsize fr o.dst v t (fun _ => h1) (fun t' ht' => hok.dst i o t' ho ht')
          rw [this, putF_ne n fr _ v t hdt]
      · have hne : i ≠ j := fun e => by rw [← e, hgeti] at hlj; cases hlj
        rw [hget j hne] at hlj
        exact inv.stb j oj hj hpj hlj
    | false =>
      cases hE : tb E i with
      | false =>
        -- no read is left that could come next
        have := pickR_none hn i o (by simpa using ho) (by simpa using hp) (by simpa using hE)
        rw [Nat.zero_add] at this; rw [this] at hdp; cases hdp
      | true =>
        have hmem := pickE_mem (k := 0) (l := ops.toList) (i := i) (o := o) (by simpa using ho) (by simpa using hp) (by simpa using hE) (by simpa using hdp)
        rw [Nat.zero_add] at hmem
        unfold runT at h
        simp only [hn] at h
        cases hes : pickE E DD pre 0 ops.toList with
        | nil => rw [hes] at hmem; cases hmem
        | cons e es =>
          rw [hes] at h hmem
          simp only at h
          have hstep := allP_mem h _ hmem
          refine wpOp_of_stepV ho hstep hlook fun v w' hk => ?_
          obtain ⟨hch, hrun⟩ := chks_spec hk
          have hlate : ∀ (j : Nat) (oj : Oper), ops[j]? = some oj → tb pre j = true → listed.getD j false = false → tb (D.getD i 0) j = false := by
            intro j oj hj hpj hlj
            cases hDj : tb (D.getD i 0) j with
            | false => rfl
            | true => rw [hD j (lt_of_get hj) hDj] at hlj; cases hlj
          refine ih f (addB pre i) (putF n fr o.dst v) w' _ _ ⟨by simp [inv.lsize], by rw [put_size]; exact inv.tsize, by rw [put_defers]; exact inv.dfr, fun k hk => ?_, fun k ok hk hEk hpk => ?_, hlcl,
            fun k ok hk hpk e he hb => ?_, fun t ht => ?_, fun j oj hj hpj hlj => ?_⟩ hcnt hrun
          · by_cases hne : i = k
            · rw [← hne]; exact tb_addB_same _ _
            · rw [hget k hne] at hk; exact tb_addB_old (inv.sub k hk)
          · by_cases hne : i = k
            · rw [← hne]; exact hgeti
            · rw [hget k hne]; exact inv.eff k ok hk hEk (tb_addB_ne hpk hne)
          · by_cases hne : i = k
            · subst hne
              have : ok = o := Option.some.inj (hk.symm.trans ho)
              subst this
              exact tb_addB_old (depsIn_spec hok ho hdp e he hb)
            · exact tb_addB_old (inv.pcl k ok hk (tb_addB_ne hpk hne) e he hb)
          · refine put_getD a n inv.tsize fr o.dst v t (fun _ => inv.agr t fun j oj hj hpj hlj => ?_) (fun t' ht' => hok.dst i o t' ho ht')
            have hne : i ≠ j := fun e => by rw [← e, hp] at hpj; cases hpj
            exact ht j oj hj (tb_addB_old hpj) (by rw [hget j hne]; exact hlj)
          · have hne : i ≠ j := fun e => by rw [← e, hgeti] at hlj; cases hlj
            rw [hget j hne] at hlj
            have hpj' := tb_addB_ne hpj hne
            have hEj : tb E j = false := by
              cases hEj : tb E j with
              | false => rfl
              | true => rw [inv.eff j oj hj hEj hpj'] at hlj; cases hlj
            by_cases hk0 : 0 < kindO md P oj
            · exact hch oj (heldO_mem (k := 0) (i := j) (by simpa using hj) (by simpa using hpj') (by simpa using hEj) (by simpa using hlate j oj hj hpj' hlj) hk0)
            · have hst := inv.stb j oj hj hpj' hlj
              obtain ⟨u, ⟨hu, _⟩, hdet⟩ := stepV_pure (by omega : kindO md P oj = 0) hst
              have hsame : ∀ t ∈ namesO ops oj, putF n fr o.dst v t = fr t := fun t ht => by
                rw [putF_ne]
                intro hdst
                rcases hok.cl i j o oj t ho hj hne hdst ht with h1 | ⟨_, h1⟩
                · have := closeD hok (fun k => tb pre k = true) inv.pcl (j + 1) j oj (by omega) hj (inv.pcl j oj hj hpj') i (lt_of_get ho) h1
                  rw [this] at hp; cases hp
                · rw [hlate j oj hj hpj' hlj] at h1; cases h1
              have hl : ∀ t ∈ oj.looksAt ops, fr t = putF n fr o.dst v t := fun t ht => (hsame t (names_looks ht)).symm
              refine stepV_congr hl (hdet w' _ ⟨?_, rfl⟩)
              unfold sameD at hu ⊢
              cases hdst : oj.dst with
              | none => trivial
              | some d =>
                rw [hdst] at hu
                simp only at hu ⊢
                rw [hsame d (names_dst hdst)]; exact hu
end
end Go.Proofs.Ytedebapgmfnflaa
