/- The order of digests, sorting and sets, by the document: the walks. -/
import Derived.Test.YtedebapgmfnflaaTG
namespace Go.Proofs.Ytedebapgmfnflaa
open Go
set_option maxRecDepth 100000

set_option maxHeartbeats 1000000 in
theorem rcompare_c {w : World} {K : VPost} {a b : Bytes} (ha : a.length = 32) (hb : b.length = 32) (hK : ∀ w', Ext [] w w' → K (.int .i64 (Lib.compareBytes a b)) w') :
    Calls Try.prog 60 #[.agg (bc a).toArray, .agg (bc b).toArray] w (retK K) := by
  refine c60_calls _ _ w K ?_
  unfold c60
  refine (Sep.nil w).box fun b2 w1 s _ => ?_
  refine s.box fun b3 w2 s _ => ?_
  have s : Sep [] w w2 [rB b3 (bc b) 62, rB b2 (bc a) 62] [] := s
  refine bindX_i fun J0 h0 => bindX_i fun J1 h1 => bindX_i fun J2 h2 => ?_
  refine loop_i (fun m fr wr => ∃ (i : Nat), m = 32 - i ∧ i ≤ 32 ∧ Lib.compareBytes (a.drop i) (b.drop i) = Lib.compareBytes a b ∧ fr 2 = .pointer (some ⟨b2, 0, none⟩) ∧ fr 3 = .pointer (some ⟨b3, 0, none⟩) ∧ fr 5 = .int .i64 i ∧ Sep [] w wr [rB b3 (bc b) 62, rB b2 (bc a) 62] []) 32 ?_ ?_
  · exact ⟨0, rfl, by omega, rfl, rfl, rfl, rfl, s⟩
  · rintro m fr wr J ⟨i, rfl, hi, hst, f2, f3, f5, s⟩ hJ hX
    rw [f2, f3, f5]
    refine nlss (y := 32) (cond_d (fun hlt => ?_) (fun hlt => ?_))
    · have hia : i < a.length := by omega
      have hib : i < b.length := by omega
      rw [List.drop_eq_getElem_cons hia, List.drop_eq_getElem_cons hib, Lib.compareBytes] at hst
      have ga : (bc a)[i]? = some (bv a[i]) := by simp [bc, hia]
      have gb : (bc b)[i]? = some (bv b[i]) := by simp [bc, hib]
      have s := s.drew
      refine idxA1 hlt ?_
      refine s.load1 1 rfl ga ?_
      refine idxA1 hlt ?_
      refine s.load1 0 rfl gb ?_
      unfold bv
      refine nlss (cond_d (fun h => ?_) (fun h => ?_))
      · rw [if_pos (UInt8.lt_iff_toNat_lt.2 h)] at hst
        refine hX _ _ _ (by simp) (h2 _ _ _ (h1 _ _ _ (h0 _ _ _ ?_)))
        have := hK _ s.ext
        rw [← hst] at this
        exact this
      · rw [if_neg (fun e => h (UInt8.lt_iff_toNat_lt.1 e))] at hst
        have s := s.drew
        refine idxA1 hlt ?_
        refine s.load1 1 rfl ga ?_
        refine idxA1 hlt ?_
        refine s.load1 0 rfl gb ?_
        unfold bv
        refine ngtr (cond_d (fun h => ?_) (fun h => ?_))
        · rw [if_pos (UInt8.lt_iff_toNat_lt.2 h)] at hst
          refine hX _ _ _ (by simp) (h2 _ _ _ (h1 _ _ _ (h0 _ _ _ ?_)))
          have := hK _ s.ext
          rw [← hst] at this
          exact this
        · rw [if_neg (fun e => h (UInt8.lt_iff_toNat_lt.1 e))] at hst
          refine nadd (y := 1) (by omega) ?_
          exact hJ (32 - (i + 1)) _ _ (by omega) ⟨i + 1, rfl, by omega, hst, f2, f3, rfl, s⟩
    · obtain rfl : i = 32 := by omega
      refine hX _ _ _ (by simp) (h2 _ _ _ (blk_x (seq_n h1 ?_)))
      rw [List.drop_eq_nil_of_le (by omega), List.drop_eq_nil_of_le (by omega), Lib.compareBytes] at hst
      have := hK _ s.ext
      rw [← hst] at this
      exact this

theorem rise_len : ∀ {a b : List Bytes}, rise a → rise b → (∀ x ∈ a, x ∈ b) → a.length ≤ b.length
  | [], _, _, _, _ => by simp
  | x :: a, [], _, _, h => by have := h x (by simp); cases this
  | x :: a, y :: b, ha, hb, h => by
    obtain ⟨ha1, ha2⟩ := List.pairwise_cons.1 ha
    obtain ⟨hb1, hb2⟩ := List.pairwise_cons.1 hb
    by_cases hxy : x = y
    · subst hxy
      have := rise_len ha2 hb2 (fun z hz => by
        rcases List.mem_cons.1 (h z (by simp [hz])) with e | e
        · subst e; exact absurd (ha1 z hz) (List.lt_irrefl _)
        · exact e)
      simp only [List.length_cons]; omega
    · have hyx : y < x := by
        rcases List.mem_cons.1 (h x (by simp)) with e | e
        · exact absurd e hxy
        · exact hb1 x e
      have := rise_len (a := x :: a) ha hb2 (fun z hz => by
        rcases List.mem_cons.1 (h z hz) with e | e
        · subst e
          rcases List.mem_cons.1 hz with e2 | e2
          · exact absurd e2.symm hxy
          · exact absurd (List.lt_trans hyx (ha1 z e2)) (List.lt_irrefl _)
        · exact e)
      simp only [List.length_cons] at this ⊢; omega
theorem cmp_leq (a b : Bytes) : Lib.compareBytes a b ≤ 0 ↔ ¬ b < a := by
  rw [← cmp_lt, cmp_swap a b]
  omega

/-- What is picked so far. -/
structure Pick (ds out : List Bytes) : Prop where
  rise : rise out
  sub : ∀ x ∈ out, x ∈ ds
  rest : ∀ x ∈ ds, x ∉ out → ∀ y ∈ out, y < x
structure Next (ds out : List Bytes) (i : Nat) (found : Bool) (next : Bytes) : Prop where
  len : next.length = 32
  no : found = false → ∀ j (h : j < ds.length), j < i → ds[j] ∈ out
  yes : found = true → next ∈ ds ∧ next ∉ out ∧ ∀ j (h : j < ds.length), j < i → ds[j] ∉ out → ¬ ds[j] < next

theorem Pick.more {ds out : List Bytes} (p : Pick ds out) {next : Bytes} (h : Next ds out ds.length true next) : Pick ds (out ++ [next]) := by
  obtain ⟨h1, h2, h3⟩ := h.yes rfl
  refine ⟨?_, fun x hx => ?_, fun x hx hn y hy => ?_⟩
  · unfold Go.Proofs.Ytedebapgmfnflaa.rise
    rw [List.pairwise_append]
    refine ⟨p.rise, by simp, fun a ha b hb => ?_⟩
    rw [List.mem_singleton] at hb
    subst hb
    exact p.rest _ h1 h2 a ha
  · rcases List.mem_append.1 hx with hx | hx
    · exact p.sub x hx
    · rw [List.mem_singleton] at hx; subst hx; exact h1
  · have hno : x ∉ out := fun h => hn (by simp [h])
    have hne : x ≠ next := fun h => hn (by simp [h])
    rcases List.mem_append.1 hy with hy | hy
    · exact p.rest x hx hno y hy
    · rw [List.mem_singleton] at hy
      subst hy
      obtain ⟨j, hj, rfl⟩ := List.mem_iff_getElem.1 hx
      have := h3 j hj hj hno
      by_cases hlt : y < ds[j]
      · exact hlt
      · exact absurd (List.le_antisymm (List.not_lt.1 hlt) (List.not_lt.1 this)) hne
theorem Pick.last {ds out : List Bytes} (p : Pick ds out) {x : Bytes} (hx : x ∈ ds) (h : 0 < out.length) : x ∈ out ↔ Lib.compareBytes x (out[out.length - 1]'(by omega)) ≤ 0 := by
  rw [cmp_leq]
  constructor
  · intro hm
    obtain ⟨i, hi, rfl⟩ := List.mem_iff_getElem.1 hm
    by_cases e : i = out.length - 1
    · subst e; exact List.lt_irrefl _
    · have := List.pairwise_iff_getElem.1 p.rise i (out.length - 1) hi (by omega) (by omega)
      exact fun hlt => List.lt_irrefl _ (List.lt_trans this hlt)
  · intro hn
    by_cases hm : x ∈ out
    · exact hm
    · exact absurd (p.rest x hx hm _ (List.getElem_mem _)) hn

set_option maxHeartbeats 4000000 in
theorem rsort_c {w : World} {K : VPost} {x : Value} {ds : List Bytes} (hx : RdSl w x 32 (fl ds) ds.length) (hd : ∀ d ∈ ds, d.length = 32) (h50 : ds.length < 50)
    (hK : ∀ v w', OwnAt w' v 62 32 (fl (sortD ds)) (sortD ds).length → Ext [] w w' → (∀ b ∈ slB v, w.heap.size ≤ b) → K v w') : Calls Try.prog 63 #[x] w (retK K) := by
  refine c63_calls _ w K ?_
  unfold c63
  refine (Sep.zero1 (U := rR x 32 (fl ds) ds.length) hx).litD [] rfl (by simp) (by simp) fun t w1 s => ?_
  have s : Sep [] w w1 [rDl t []] [rR x 32 (fl ds) ds.length] := s
  obtain ⟨xa, xc, hxa⟩ := hx.len
  have hlen : ∀ (w : World) (K : VPost), lenW Try.prog (some true) #[75] 3 #[x] w K = K (.int .i64 ds.length) w := fun w K => by rw [hxa, len_s]
  have hle := sortD_le ds
  obtain ⟨hT1, hT2⟩ := sortD_ok ds
  refine bindX_i fun J2 h2 => bindX_i fun J3 h3 => ?_
  refine loop_i (fun m fr wr => ∃ (t : Value) (out : List Bytes), m = (sortD ds).length + 1 - out.length ∧ Pick ds out ∧ fr 0 = x ∧ fr 3 = t ∧ Sep [] w wr [rDl t out] [rR x 32 (fl ds) ds.length]) ((sortD ds).length + 1) ?_ ?_
  · exact ⟨t, [], rfl, ⟨by simp [rise], by simp, by simp⟩, rfl, rfl, s⟩
  · rintro m fr wr J ⟨t, out, rfl, hp, f0, f3, s⟩ hJ hX
    have hol : out.length ≤ (sortD ds).length := rise_len hp.rise hT1 fun x hx => (hT2 x).2 (hp.sub x hx)
    have ho32 : ∀ d ∈ out, d.length = 32 := fun d h => hd d (hp.sub d h)
    refine bindX_i fun J7 h7 => ?_
    refine build0_dig ?_
    refine s.alloc zero_dig cells_dig fun b5 w2 s _ => ?_
    refine s.storeAll 0 rfl (by simp [bc]) (by simp [bc]) (bc_one _) fun w3 s _ => ?_
    have s : Sep [] w w3 [rB b5 (bc (List.replicate 32 0)) 62, rDl t out] [rR x 32 (fl ds) ds.length] := s
    refine bindX_i fun J13 h13 => bindX_i fun J24 h24 => ?_
    have fin13 : ∀ (fr : Fr) (w' : World) (found : Bool) (next : Bytes), Next ds out ds.length found next → fr 0 = x → fr 3 = t → fr 4 = .bool found → fr 5 = .pointer (some ⟨b5, 0, none⟩) →
        Sep [] w w' [rB b5 (bc next) 62, rDl t out] [rR x 32 (fl ds) ds.length] → J13 .normal fr w' := by
      intro fr w' found next hn f0 f3 f4 f5 s
      refine seq_n h13 ?_
      rw [f3, f4, f5, notN]
      cases found with
      | false =>
        rw [Bool.not_false, condW_t]
        refine hX _ _ _ (by simp) (h3 _ _ _ (h2 _ _ _ ?_))
        have hall : ∀ y, y ∈ out ↔ y ∈ ds := fun y => ⟨hp.sub y, fun hy => by
          obtain ⟨j, hj, rfl⟩ := List.mem_iff_getElem.1 hy
          exact hn.no rfl j hj hj⟩
        have e := sortD_of hp.rise hall
        have := hK t w'
        rw [e] at this
        exact this (s.at 1 rfl) s.ext (s.fresh 1 rfl)
      | true =>
        rw [Bool.not_true, condW_f]
        refine s.loadAll 0 rfl (by rw [bc_length]; exact hn.len) ?_
        refine s.apD 1 rfl hn.len (by omega) fun t2 t3 w4 s => ?_
        have hp2 := hp.more hn
        have hol2 : (out ++ [next]).length ≤ (sortD ds).length := rise_len hp2.rise hT1 fun x hx => (hT2 x).2 (hp2.sub x hx)
        rw [List.length_append, List.length_singleton] at hol2
        exact hJ ((sortD ds).length + 1 - (out ++ [next]).length) _ _ (by rw [List.length_append, List.length_singleton]; omega) ⟨t3, out ++ [next], rfl, hp2, f0, rfl, s.drop 0⟩
    refine loop_i (fun m fr wr => ∃ (i : Nat) (found : Bool) (next : Bytes), m = ds.length - i ∧ i ≤ ds.length ∧ Next ds out i found next ∧ fr 0 = x ∧ fr 3 = t ∧ fr 4 = .bool found ∧ fr 5 = .pointer (some ⟨b5, 0, none⟩) ∧ fr 6 = .int .i64 i ∧
      Sep [] w wr [rB b5 (bc next) 62, rDl t out] [rR x 32 (fl ds) ds.length]) ds.length ?_ ?_
    · exact ⟨0, false, List.replicate 32 0, rfl, by omega, ⟨by simp, by simp, by simp⟩, f0, f3, rfl, rfl, rfl, s⟩
    · rintro m fr wr JK ⟨i, found, next, rfl, hi, hn, f0, f3, f4, f5, f6, s⟩ hJK hXK
      rw [f0, f6, hlen]
      refine nlss (cond_d (fun hlt => ?_) (fun hlt => ?_))
      · refine bindX_i fun J32 h32 => bindX_i fun JU hU => ?_
        have hdi := hd ds[i] (List.getElem_mem hlt)
        have hmem : ds[i] ∈ ds := List.getElem_mem hlt
        have go : ∀ (fr : Fr) (w' : World) (found : Bool) (next : Bytes), Next ds out (i + 1) found next → fr 0 = x → fr 3 = t → fr 4 = .bool found → fr 5 = .pointer (some ⟨b5, 0, none⟩) → fr 6 = .int .i64 i →
            Sep [] w w' [rB b5 (bc next) 62, rDl t out] [rR x 32 (fl ds) ds.length] → J32 .normal fr w' := by
          intro fr w' found next hn f0 f3 f4 f5 f6 s
          refine seq_n h32 ?_
          rw [f6]
          refine nadd (y := 1) (by omega) ?_
          exact hJK (ds.length - (i + 1)) _ _ (by omega) ⟨i + 1, found, next, rfl, hlt, hn, f0, f3, f4, f5, rfl, s⟩
        -- skipped
        have skip : ds[i] ∈ out → Next ds out (i + 1) found next := fun hin => ⟨hn.len, fun hf j hj hji => by
            by_cases e : j = i
            · subst e; exact hin
            · exact hn.no hf j hj (by omega), fun hf => ⟨(hn.yes hf).1, (hn.yes hf).2.1, fun j hj hji hno => by
            by_cases e : j = i
            · subst e; exact absurd hin hno
            · exact (hn.yes hf).2.2 j hj (by omega) hno⟩⟩
        have take : ds[i] ∉ out → (found = true → ds[i] < next) → Next ds out (i + 1) true ds[i] := fun hno hlt2 => ⟨hdi, by simp, fun _ => ⟨hmem, hno, fun j hj hji hnoj => by
            by_cases e : j = i
            · subst e; exact List.lt_irrefl _
            · cases found with
              | false => exact absurd (hn.no rfl j hj (by omega)) hnoj
              | true =>
                have h1 := (hn.yes rfl).2.2 j hj (by omega) hnoj
                exact fun h2 => h1 (List.lt_trans h2 (hlt2 rfl))⟩⟩
        have leave : ds[i] ∉ out → found = true → ¬ ds[i] < next → Next ds out (i + 1) found next := fun hno hf hge => ⟨hn.len, fun h => by (rw [hf] at h; cases h), fun _ => ⟨(hn.yes hf).1, (hn.yes hf).2.1, fun j hj hji hnoj => by
            by_cases e : j = i
            · subst e; exact hge
            · exact (hn.yes hf).2.2 j hj (by omega) hnoj⟩⟩
        -- a candidate
        have cand : ∀ (fr : Fr) (w' : World), ds[i] ∉ out → fr 0 = x → fr 3 = t → fr 4 = .bool found → fr 5 = .pointer (some ⟨b5, 0, none⟩) → fr 6 = .int .i64 i → Sep [] w w' [rB b5 (bc next) 62, rDl t out] [rR x 32 (fl ds) ds.length] → True := fun _ _ _ _ _ _ _ _ _ => trivial
        rw [f3, f4, f5]
        have s := s.drew
        obtain ⟨ta, tc, hta⟩ := (OwnAt.rd (s.at 1 rfl) : RdSl wr.drew t 32 (fl out) out.length).len
        have hlt' : ∀ (w : World) (K : VPost), lenW Try.prog (some true) #[75] 3 #[t] w K = K (.int .i64 out.length) w := fun w K => by rw [hta, len_s]
        rw [hlt']
        refine ngtr (y := 0) ?_
        by_cases hpos : 0 < out.length
        · rw [decide_eq_true hpos]
          repeat with_reducible refine gs_t ?_
          obtain ⟨b1, o1, hix, hld⟩ := RdSl.dgetR (s.rat 0 rfl) hd hlt
          refine hix _ ?_
          repeat with_reducible refine gs_t ?_
          refine hld _ ?_
          repeat with_reducible refine gs_t ?_
          rw [hlt']
          repeat with_reducible refine gs_t ?_
          refine nsub (y := 1) (by omega) (by omega) ?_
          repeat with_reducible refine gs_t ?_
          obtain ⟨b2, o2, hix2, hld2⟩ := RdSl.dgetR (OwnAt.rd (s.at 1 rfl)) ho32 (show out.length - 1 < out.length by omega)
          refine hix2 _ ?_
          repeat with_reducible refine gs_t ?_
          refine hld2 _ ?_
          repeat with_reducible refine gs_t ?_
          refine fnW_of (by kernel_rfl) (rcompare_c hdi (ho32 _ (List.getElem_mem _)) fun w4 e => ?_)
          have s := s.ext0 e
          repeat with_reducible refine gs_t ?_
          rw [ileq]
          refine pick_ti ?_
          refine cond_d (fun hc => ?_) (fun hc => ?_)
          · exact go _ _ found next (skip ((hp.last hmem hpos).2 hc)) f0 f3 f4 f5 f6 s
          · have hno : ds[i] ∉ out := fun h => hc ((hp.last hmem hpos).1 h)
            rw [notN]
            have s := s.drew
            cases found with
            | false =>
              rw [Bool.not_false]
              repeat with_reducible refine gs_tf ?_
              refine pick_ti ?_
              rw [condW_t]
              obtain ⟨b3, o3, hix3, hld3⟩ := RdSl.dgetR (s.rat 0 rfl) hd hlt
              refine hix3 _ ?_
              refine hld3 _ ?_
              refine s.storeAll 0 rfl (by rw [bc_length]; exact hdi) (by rw [bc_length]; exact hn.len) (bc_one _) fun w5 s _ => ?_
              exact go _ _ true ds[i] (take hno (by simp)) f0 f3 rfl f5 f6 s
            | true =>
              rw [Bool.not_true]
              repeat with_reducible refine gs_f ?_
              obtain ⟨b3, o3, hix3, hld3⟩ := RdSl.dgetR (s.rat 0 rfl) hd hlt
              refine hix3 _ ?_
              repeat with_reducible refine gs_f ?_
              refine hld3 _ ?_
              repeat with_reducible refine gs_f ?_
              refine s.loadAll 0 rfl (by rw [bc_length]; exact hn.len) ?_
              repeat with_reducible refine gs_f ?_
              refine fnW_of (by kernel_rfl) (rcompare_c hdi hn.len fun w5 e => ?_)
              have s := s.ext0 e
              repeat with_reducible refine gs_f ?_
              rw [ilss]
              refine pick_fi ?_
              refine cond_d (fun hc2 => ?_) (fun hc2 => ?_)
              · obtain ⟨b4, o4, hix4, hld4⟩ := RdSl.dgetR (s.rat 0 rfl) hd hlt
                refine hix4 _ ?_
                refine hld4 _ ?_
                refine s.storeAll 0 rfl (by rw [bc_length]; exact hdi) (by rw [bc_length]; exact hn.len) (bc_one _) fun w6 s _ => ?_
                exact go _ _ true ds[i] (take hno (fun _ => (cmp_lt _ _).1 hc2)) f0 f3 rfl f5 f6 s
              · exact go _ _ true next (leave hno rfl (fun h => hc2 ((cmp_lt _ _).2 h))) f0 f3 f4 f5 f6 s
        · rw [decide_eq_false hpos]
          repeat with_reducible refine gs_ft ?_
          refine pick_fi ?_
          rw [condW_f]
          have hno : ds[i] ∉ out := by
            have : out = [] := List.eq_nil_of_length_eq_zero (by omega)
            rw [this]; simp
          rw [notN]
          have s := s.drew
          cases found with
          | false =>
            rw [Bool.not_false]
            repeat with_reducible refine gs_tf ?_
            refine pick_ti ?_
            rw [condW_t]
            obtain ⟨b3, o3, hix3, hld3⟩ := RdSl.dgetR (s.rat 0 rfl) hd hlt
            refine hix3 _ ?_
            refine hld3 _ ?_
            refine s.storeAll 0 rfl (by rw [bc_length]; exact hdi) (by rw [bc_length]; exact hn.len) (bc_one _) fun w5 s _ => ?_
            exact go _ _ true ds[i] (take hno (by simp)) f0 f3 rfl f5 f6 s
          | true =>
            rw [Bool.not_true]
            repeat with_reducible refine gs_f ?_
            obtain ⟨b3, o3, hix3, hld3⟩ := RdSl.dgetR (s.rat 0 rfl) hd hlt
            refine hix3 _ ?_
            repeat with_reducible refine gs_f ?_
            refine hld3 _ ?_
            repeat with_reducible refine gs_f ?_
            refine s.loadAll 0 rfl (by rw [bc_length]; exact hn.len) ?_
            repeat with_reducible refine gs_f ?_
            refine fnW_of (by kernel_rfl) (rcompare_c hdi hn.len fun w5 e => ?_)
            have s := s.ext0 e
            repeat with_reducible refine gs_f ?_
            rw [ilss]
            refine pick_fi ?_
            refine cond_d (fun hc2 => ?_) (fun hc2 => ?_)
            · obtain ⟨b4, o4, hix4, hld4⟩ := RdSl.dgetR (s.rat 0 rfl) hd hlt
              refine hix4 _ ?_
              refine hld4 _ ?_
              refine s.storeAll 0 rfl (by rw [bc_length]; exact hdi) (by rw [bc_length]; exact hn.len) (bc_one _) fun w6 s _ => ?_
              exact go _ _ true ds[i] (take hno (fun _ => (cmp_lt _ _).1 hc2)) f0 f3 rfl f5 f6 s
            · exact go _ _ true next (leave hno rfl (fun h => hc2 ((cmp_lt _ _).2 h))) f0 f3 f4 f5 f6 s
      · obtain rfl : i = ds.length := by omega
        exact hXK _ _ _ (by simp) (h24 _ _ _ (blk_x (fin13 _ _ found next hn f0 f3 f4 f5 s)))
end Go.Proofs.Ytedebapgmfnflaa
