/- Levels, kinds, letters: walks without the heap's change. -/
import Derived.Test.YtbaddpnlokmldaaDoorI7
import Derived.Test.YtbaddpnlokmldaaDoorNF
namespace Go.Proofs.YtbaddpnlokmldaaDoor
open Go
set_option maxRecDepth 100000

/-! Letters. -/
def letB (c : UInt8) : Bool := decide (97 ≤ c.toNat ∧ c.toNat ≤ 122 ∨ 65 ≤ c.toNat ∧ c.toNat ≤ 90)
def digB (c : UInt8) : Bool := decide (48 ≤ c.toNat ∧ c.toNat ≤ 57)
def signB (c : UInt8) : Bool := letB c || digB c || decide (c.toNat = 95)
theorem or_let : ∀ c : UInt8, (decide (97 ≤ (c ||| 32).toNat) && decide ((c ||| 32).toNat ≤ 122)) = letB c := by
  have h : ∀ n, n < 256 → (decide (97 ≤ (UInt8.ofNat n ||| 32).toNat) && decide ((UInt8.ofNat n ||| 32).toNat ≤ 122)) = letB (UInt8.ofNat n) := by decide +kernel
  intro c
  have := h c.toNat c.toNat_lt
  rwa [show UInt8.ofNat c.toNat = c by simp] at this
section
variable {P : Program} {w : World} {K : VPost} {t : TypeId} {c : Bool}
theorem bin_orV {k : IntKind} {x y : Int} : binW P .or t c (.int k x) (.int k y) w K = K (.int k (k.wrap (BitVec.ofInt k.bits x ||| BitVec.ofInt k.bits y).toNat)) w := by
  simp [binW, binE, guardE, eqGuard, binOp, Op.intBits, insW, okW, Sem.run_bind]
theorem u8_orV {x y : UInt8} (h : K (bv (x ||| y)) w) : binN P .or t c (bv x) (bv y) w K := by
  show binW P .or t c (bv x) (bv y) w K
  unfold bv
  rw [bin_orV]
  have e : (BitVec.ofInt IntKind.u8.bits (x.toNat : Int) ||| BitVec.ofInt IntKind.u8.bits (y.toNat : Int)).toNat = (x ||| y).toNat := by
    have h8 : IntKind.u8.bits = 8 := rfl
    rw [h8, BitVec.ofInt_natCast, BitVec.ofInt_natCast, BitVec.toNat_or, BitVec.toNat_ofNat, BitVec.toNat_ofNat, UInt8.toNat_or, Nat.mod_eq_of_lt x.toNat_lt, Nat.mod_eq_of_lt y.toNat_lt]
  rw [e, wrap_u8n]
  have e2 : UInt8.ofNat (x ||| y).toNat = x ||| y := by simp
  rw [e2]
  exact h
/-- '&&', of two numbers' questions. -/
theorem and2_i {a b : Bool} {A : VPost → Prop} (hA : ∀ K' : VPost, K' (.bool b) w → A K') (h : K (.bool (a && b)) w) : gstep (.bool a) true w A fun v w' => pickW (.bool a) v (.bool false) w' K := by
  cases a with
  | true => exact gs_t (hA _ (pick_ti (by simpa using h)))
  | false => exact gs_ft (pick_fi (by simpa using h))
theorem or2_i {a b : Bool} {A : VPost → Prop} (hA : ∀ K' : VPost, K' (.bool b) w → A K') (h : K (.bool (a || b)) w) : gstep (.bool a) false w A fun v w' => pickW (.bool a) (.bool true) v w' K := by
  cases a with
  | false => exact gs_f (hA _ (pick_fi (by simpa using h)))
  | true => exact gs_tf (pick_ti (by simpa using h))
end

theorem letter_c {w : World} {K : VPost} {c : UInt8} (h : K (.bool (letB c)) w) : Calls Tryd.prog 53 #[bv c] w (retK K) := by
  refine c53_calls _ w K ?_
  unfold c53
  rw [show Value.int .u8 32 = bv 32 from rfl]
  refine u8_orV ?_
  have hl := or_let c
  have hge : ∀ (t : TypeId) (k : Bool) (K : VPost), K (.bool (decide (97 ≤ (c ||| 32).toNat))) w → binN Tryd.prog .geq t k (bv (c ||| 32)) (.int .u8 97) w K := fun t k K h => ngeq (y := 97) h
  have hle : ∀ (t : TypeId) (k : Bool) (K : VPost), K (.bool (decide ((c ||| 32).toNat ≤ 122))) w → binN Tryd.prog .leq t k (bv (c ||| 32)) (.int .u8 122) w K := fun t k K h => nleq (y := 122) h
  refine hge _ _ _ ?_
  cases h1 : decide (97 ≤ (c ||| 32).toNat) with
  | true =>
    rw [h1] at hl
    refine gs_t ?_
    refine gs_t (u8_orV ?_)
    refine gs_t (hle _ _ _ ?_)
    refine pick_ti ?_
    rw [← hl] at h
    simpa using h
  | false =>
    rw [h1] at hl
    iterate 3 refine gs_ft ?_
    refine pick_fi ?_
    rw [← hl] at h
    simpa using h
theorem rdigit_c {w : World} {K : VPost} {c : UInt8} (h : K (.bool (digB c)) w) : Calls Tryd.prog 36 #[bv c] w (retK K) := by
  refine c36_calls _ w K ?_
  unfold c36
  refine ngeq (x := c.toNat) (y := 48) ?_
  cases h1 : decide (48 ≤ c.toNat) with
  | true =>
    refine gs_t ?_
    refine gs_t (nleq (x := c.toNat) (y := 57) ?_)
    refine pick_ti ?_
    have e : digB c = decide (c.toNat ≤ 57) := by unfold digB; simp at h1; simp [h1]
    rw [e] at h; exact h
  | false =>
    iterate 2 refine gs_ft ?_
    refine pick_fi ?_
    have e : digB c = false := by unfold digB; simp at h1; simp; omega
    rw [e] at h; exact h
theorem rletter_c {w : World} {K : VPost} {c : UInt8} (h : K (.bool (letB c)) w) : Calls Tryd.prog 35 #[bv c] w (retK K) := by
  refine c35_calls _ w K ?_
  unfold c35
  have fin : ¬ (97 ≤ c.toNat ∧ c.toNat ≤ 122) → ∀ x : Bool, x = decide (65 ≤ c.toNat ∧ c.toNat ≤ 90) → K (.bool x) w := by
    rintro hno x rfl
    have e : letB c = decide (65 ≤ c.toNat ∧ c.toNat ≤ 90) := by
      unfold letB
      by_cases h2 : 65 ≤ c.toNat ∧ c.toNat ≤ 90
      · rw [decide_eq_true h2, decide_eq_true (.inr h2)]
      · rw [decide_eq_false h2, decide_eq_false (by omega)]
    rw [e] at h; exact h
  refine ngeq (x := c.toNat) (y := 97) ?_
  by_cases h1 : 97 ≤ c.toNat
  · rw [decide_eq_true h1]
    refine gs_t ?_
    refine gs_t (nleq (x := c.toNat) (y := 122) ?_)
    refine pick_ti ?_
    by_cases h2 : c.toNat ≤ 122
    · rw [decide_eq_true h2]
      repeat with_reducible first | refine gs_tf ?_ | refine gs_u ?_
      refine pick_ti ?_
      have e : letB c = true := by unfold letB; simp [h1, h2]
      rw [e] at h; exact h
    · rw [decide_eq_false h2]
      refine gs_f ?_
      refine gs_f (ngeq (x := c.toNat) (y := 65) ?_)
      refine gs_f ?_
      rw [decide_eq_true (by omega)]
      refine gs_t ?_
      refine gs_t (nleq (x := c.toNat) (y := 90) ?_)
      refine gs_f (pick_ti ?_)
      refine pick_fi ?_
      refine fin (by omega) _ ?_
      by_cases h4 : c.toNat ≤ 90
      · omega
      · rw [decide_eq_false h4, decide_eq_false (by omega)]
  · rw [decide_eq_false h1]
    iterate 2 refine gs_ft ?_
    refine pick_fi ?_
    refine gs_f ?_
    refine gs_f (ngeq (x := c.toNat) (y := 65) ?_)
    refine gs_f ?_
    by_cases h3 : 65 ≤ c.toNat
    · rw [decide_eq_true h3]
      refine gs_t ?_
      refine gs_t (nleq (x := c.toNat) (y := 90) ?_)
      refine gs_f (pick_ti ?_)
      refine pick_fi ?_
      refine fin (by omega) _ ?_
      simp [h3]
    · rw [decide_eq_false h3]
      iterate 2 refine gs_ft ?_
      refine gs_f (pick_fi ?_)
      refine pick_fi ?_
      refine fin (by omega) _ ?_
      rw [decide_eq_false (by omega)]
theorem sign_c {w : World} {K : VPost} {c : UInt8} (h : K (.bool (signB c)) w) : Calls Tryd.prog 54 #[bv c] w (retK K) := by
  refine c54_calls _ w K ?_
  unfold c54
  refine fnW_of (by kernel_rfl) (letter_c ?_)
  have last : ∀ d : Bool, (letB c || digB c) = d → gstep (.bool d) false w (fun K => K (bv c) w) fun t14 w15 => gstep (.bool d) false w15 (fun K => binN Tryd.prog .eql 5 true t14 (.int .u8 95) w15 K) fun t15 w17 => pickW (.bool d) (.bool true) t15 w17 fun t16 w19 => K t16 w19 := by
    intro d hd
    have e : signB c = (d || decide (c.toNat = 95)) := by unfold signB; rw [hd]
    rw [e] at h
    cases d with
    | true =>
      iterate 2 refine gs_tf ?_
      refine pick_ti ?_
      exact h
    | false =>
      refine gs_f ?_
      refine gs_f (neql (x := c.toNat) (y := 95) ?_)
      refine pick_fi ?_
      simpa using h
  cases h1 : letB c with
  | true =>
    repeat with_reducible first | refine gs_tf ?_ | refine gs_u ?_
    refine pick_ti ?_
    exact last true (by rw [h1]; rfl)
  | false =>
    refine gs_f ?_
    refine gs_f (ngeq (x := c.toNat) (y := 48) ?_)
    refine gs_f ?_
    by_cases h3 : 48 ≤ c.toNat
    · rw [decide_eq_true h3]
      refine gs_t ?_
      refine gs_t (nleq (x := c.toNat) (y := 57) ?_)
      refine gs_f (pick_ti ?_)
      refine pick_fi ?_
      refine last _ ?_
      rw [h1]
      unfold digB
      simp [h3]
    · rw [decide_eq_false h3]
      iterate 2 refine gs_ft ?_
      refine gs_f (pick_fi ?_)
      refine pick_fi ?_
      refine last _ ?_
      rw [h1]
      unfold digB
      simp
      omega

/-! Parts of names. -/
theorem sv_len {P : Program} {w : World} {K : VPost} {ts : Array TypeId} {t : TypeId} {l : Bytes} : lenW P (some false) ts t #[sv l] w K = K (.int .i64 l.length) w := rfl
def partB (l : Bytes) : Bool := match l with | [] => false | c :: _ => letB c && l.all signB
theorem part_c {w : World} {K : VPost} {l : Bytes} (hn : l.length < 2 ^ 60) (h : K (.bool (partB l)) w) : Calls Tryd.prog 34 #[sv l] w (retK K) := by
  refine c34_calls _ w K ?_
  unfold c34
  refine str_eql (a := l) (b := []) ?_
  by_cases hl0 : l = []
  · subst hl0
    rw [decide_eq_true rfl]
    repeat with_reducible first | refine gs_tf ?_ | refine gs_u ?_
    refine pick_ti ?_
    exact cndT h
  · rw [decide_eq_false hl0]
    have hpos : 0 < l.length := List.length_pos_iff.2 hl0
    have hpb : partB l = (letB l[0] && l.all signB) := by
      cases l with
      | nil => exact absurd rfl hl0
      | cons c r => rfl
    refine gs_f ?_
    refine gs_f (ixv_s (i := 0) hpos ?_)
    refine gs_f (fnW_of (by kernel_rfl) (letter_c ?_))
    refine gs_f (not_ti ?_)
    refine pick_fi ?_
    show condW (.bool (!letB l[0])) _ _
    cases h1 : letB l[0] with
    | false =>
      refine cndT ?_
      rw [hpb, h1] at h; exact h
    | true =>
      refine cndF ?_
      rw [hpb, h1, Bool.true_and] at h
      refine bindX_i fun J0 g0 => bindX_i fun J1 g1 => ?_
      rw [sv_len]
      refine bindX_i fun J2 g2 => ?_
      refine loop_i (fun m fr wr => ∃ i : Nat, m = l.length - i ∧ i ≤ l.length ∧ (l.take i).all signB = true ∧ fr 0 = sv l ∧ fr 13 = .int .i64 l.length ∧ fr 14 = .int .i64 i ∧ wr = w) l.length ?_ ?_
      · exact ⟨0, rfl, by omega, rfl, rfl, rfl, rfl, rfl⟩
      · rintro m fr wr J ⟨i, rfl, hi, ha, f0, f13, f14, rfl⟩ hJ hX
        rw [f0, f13, f14]
        refine nlss (cond_d (fun hlt => ?_) (fun hlt => ?_))
        · refine ixv_s hlt ?_
          refine fnW_of (by kernel_rfl) (sign_c ?_)
          refine not_ti ?_
          have ht : (l.take (i + 1)).all signB = signB l[i] := by
            rw [List.take_succ_eq_append_getElem hlt, List.all_append, ha]; simp
          cases h2 : signB l[i] with
          | true =>
            refine cndF ?_
            refine nadd (y := 1) (by omega) ?_
            exact hJ (l.length - (i + 1)) _ _ (by omega) ⟨i + 1, rfl, by omega, by rw [ht, h2], f0, f13, rfl, rfl⟩
          | false =>
            refine cndT ?_
            refine hX _ _ _ (by simp) (g2 _ _ _ (g1 _ _ _ (g0 _ _ _ ?_)))
            have e : l.all signB = false := by
              rw [List.all_eq_false]
              exact ⟨l[i], List.getElem_mem hlt, by rw [h2]; decide⟩
            rw [e] at h; exact h
        · obtain rfl : i = l.length := by omega
          rw [List.take_length] at ha
          refine hX _ _ _ (by simp) (g2 _ _ _ (blk_x (seq_n g1 ?_)))
          rw [ha] at h; exact h
end Go.Proofs.YtbaddpnlokmldaaDoor
