/- Things in hand, short steps: what all parts need. -/
import Derived.Test.YtbaddpnlokmldaaDoorNB
import Derived.Test.YtbaddpnlokmldaaDoorH6
import Derived.Test.YtbaddpnlokmldaaDoorLA
namespace Go.Proofs.YtbaddpnlokmldaaDoor
open Go Go.ChangeShapes Go.WideShapes
set_option maxRecDepth 100000

theorem yield_i {P : Program} {K : VPost} {l d : Nat} {args : Array Value} {W : World} {R : Ending → World → Prop} (h : YieldAt Fence.wide d P l args W R) (hR : ∀ e W', R e W' → retK K e W') : dynW P (.func (.yield l) #[] #[]) args W K := by
  obtain ⟨fn, tmps, assign, body, hy, hr⟩ := h
  show nextW P K ((Instr.yield l (#[] ++ args)).run P W)
  have e : (#[] : Array Value) ++ args = args := by simp
  rw [e, hy]
  exact roundRF (r := none) (RoundIn.mono hr hR)
theorem RdSl.lenw {P : Program} {w w' : World} {v : Value} {s : Nat} {ys : List Value} {m : Nat} {ts : Array TypeId} {t : TypeId} {K : VPost} (h : RdSl w v s ys m) : lenW P (some true) ts t #[v] w' K = K (.int .i64 m) w' := by
  obtain ⟨a, c, rfl⟩ := h.len
  exact len_s
theorem retK_i {K : VPost} {v : Value} {w : World} (h : K v w) : retK K (.returned v) w := h
theorem cndT {A B : Prop} (h : A) : condW (.bool true) A B := h
theorem cndF {A B : Prop} (h : B) : condW (.bool false) A B := h
theorem mkfunc_i {P : Program} {K : VPost} {w : World} {f : Fn} {fs cs : Array Value} (h : K (.func f fs cs) w) : insW P (Instr.makeFunc f fs cs) w K := h

section
variable {S : List Nat} {w0 w : World} {L R : List Res} {K : VPost}
theorem Sep.swap {S : List Nat} {w0 w : World} {L R : List Res} {T1 T2 : Res} (s : Sep S w0 w (T1 :: T2 :: L) R) : Sep S w0 w (T2 :: T1 :: L) R := by
  have hp := List.pairwise_cons.1 s.dis
  have hp2 := List.pairwise_cons.1 hp.2
  have hm : ∀ T ∈ T2 :: T1 :: L, T ∈ T1 :: T2 :: L := fun T h => by
    simp only [List.mem_cons] at h ⊢
    rcases h with h | h | h <;> simp [h]
  refine ⟨s.ext, fun T h => s.own T (hm T h), s.rd, fun T h => s.old T (hm T h), List.pairwise_cons.2 ⟨fun U hU b hb hn => ?_, List.pairwise_cons.2 ⟨fun U hU => hp.1 U (by simp [hU]), hp2.2⟩⟩, fun T h => s.disR T (hm T h)⟩
  rcases List.mem_cons.1 hU with rfl | hU
  · exact hp.1 T2 (by simp) b hn hb
  · exact hp2.1 U hU b hb hn
/-- Fewer things that are read. -/
theorem Sep.less {R' : List Res} (s : Sep S w0 w L R) (h : ∀ T ∈ R', T ∈ R) : Sep S w0 w L R' := s.sub (List.Sublist.refl _) h
theorem gs_u {A : VPost → Prop} {K : VPost} {w : World} {b : Bool} (h : K undef w) : gstep undef b w A K := h
theorem Sep.perm {L' : List Res} (s : Sep S w0 w L R) (h : L.Perm L') : Sep S w0 w L' R :=
  ⟨s.ext, fun T hT => s.own T (h.mem_iff.2 hT), s.rd, fun T hT => s.old T (h.mem_iff.2 hT), (List.Perm.pairwise_iff (fun hxy b hb hm => hxy b hm hb) h).1 s.dis, fun T hT => s.disR T (h.mem_iff.2 hT)⟩
theorem Sep.toFront (s : Sep S w0 w L R) (i : Nat) {T : Res} (h : L[i]? = some T) : Sep S w0 w (T :: L.eraseIdx i) R := by
  obtain ⟨hi, hT⟩ := List.getElem?_eq_some_iff.1 h
  refine s.perm ?_
  have e : L = L.take i ++ T :: L.drop (i + 1) := by rw [← hT, ← List.drop_eq_getElem_cons hi, List.take_append_drop]
  rw [List.eraseIdx_eq_take_drop_succ]
  refine (List.Perm.of_eq e).trans ?_
  exact List.perm_middle
end
/-- What was there from the first. -/
theorem Sep.addBase {w0 w : World} {L R : List Res} {T : Res} (s : Sep [] w0 w L R) (h : T.holds w0) : Sep [] w0 w L (T :: R) :=
  s.addR (T.keep h s.ext (by simp)) fun U hU b hb hm => by
    rcases s.old U hU b hb with h1 | h1
    · cases h1
    · have := T.lt h b hm
      omega
def strF (P : Program) (t : TypeId) : Option (List (TypeId × Nat)) :=
  match P.underlying t with
  | some (.struct fs) => some (fs.toList.map fun f => (f.type, f.offset))
  | _ => none
theorem trod_fields {H : Type} {enc : TypeId × Value → H} {P : Program} {w : World} {sp : Nat → Bool} {held : Bool} {t : TypeId} {l : List (TypeId × Nat)} {cs : List Value} {x : DataW H × List MemPlace} {fuel : Nat} (hs : strF P t = some l) (h : DataW.trod enc P w 0 sp held fuel t cs = some x) (hfit : fitsD P t x.1) :
    cs.length = P.cellsOf t ∧ ∀ (i : Nat) te off, l[i]? = some (te, off) → ∃ y n, DataW.trod enc P w 0 sp held n te ((cs.drop off).take (P.cellsOf te)) = some y ∧ fitsD P te y.1 := by
  unfold strF at hs
  split at hs
  · rename_i fs hu
    simp only [Option.some.injEq] at hs
    subst hs
    obtain ⟨xs, n, _, hx, hl, hxs, hf⟩ := DataW.trod_struct hu h
    rw [hx] at hfit
    refine ⟨hl, fun i te off hi => ?_⟩
    rw [List.getElem?_map, Option.map_eq_some_iff] at hi
    obtain ⟨f, hfi, he⟩ := hi
    simp only [Prod.mk.injEq] at he
    obtain ⟨rfl, rfl⟩ := he
    have hlt : i < fs.size := by
      have := (List.getElem?_eq_some_iff.1 hfi).1
      simpa using this
    have := hf i f (by simpa using hfi)
    rw [List.getElem?_eq_getElem (by omega)] at this
    exact ⟨_, n, this, fits_struct hu hfit (i := i) (by simp [hfi]) (by rw [List.getElem?_map, List.getElem?_eq_getElem (by omega)]; rfl)⟩
  · cases hs
theorem flat_cut {α : Type} (f : α → List Value) (s : Nat) (P : α → Prop) : ∀ (m : Nat) (ys : List Value), ys.length = m * s → (∀ i, i < m → ∃ c : α, P c ∧ (ys.drop (i * s)).take s = f c) → ∃ l : List α, l.length = m ∧ (∀ c ∈ l, P c) ∧ ys = l.flatMap f := by
  intro m
  induction m with
  | zero => intro ys hl _; exact ⟨[], rfl, by simp, List.length_eq_zero_iff.1 (by rw [hl, Nat.zero_mul])⟩
  | succ m ih =>
    intro ys hl hel
    obtain ⟨c, hc, he⟩ := hel 0 (by omega)
    obtain ⟨l, h1, h2, h3⟩ := ih (ys.drop s) (by rw [List.length_drop, hl, Nat.add_mul, Nat.one_mul, Nat.add_sub_cancel]) (fun i hi => by
      obtain ⟨c, hc, he⟩ := hel (i + 1) (by omega)
      refine ⟨c, hc, ?_⟩
      rw [List.drop_drop, show s + i * s = (i + 1) * s by rw [Nat.add_mul, Nat.one_mul, Nat.add_comm]]; exact he)
    refine ⟨c :: l, by simp [h1], fun d hd => ?_, ?_⟩
    · rcases List.mem_cons.1 hd with rfl | hd
      · exact hc
      · exact h2 d hd
    · rw [List.flatMap_cons, ← h3, ← he, Nat.zero_mul, List.drop_zero, List.take_append_drop]
theorem Sep.toBack {S : List Nat} {w0 w : World} {L R : List Res} {T : Res} (s : Sep S w0 w (T :: L) R) : Sep S w0 w (L ++ [T]) R := s.perm (List.perm_append_comm (l₁ := [T]) (l₂ := L))
theorem lspl_at (l vs : List Value) (o j : Nat) (h : o + vs.length ≤ l.length) : (lspl l o vs)[j]? = if j < o then l[j]? else if j < o + vs.length then vs[j - o]? else l[j]? := by
  unfold lspl
  have ht : (l.take o).length = o := by rw [List.length_take]; omega
  rw [List.append_assoc]
  by_cases h1 : j < o
  · rw [if_pos h1, List.getElem?_append_left (by omega), List.getElem?_take, if_pos h1]
  · rw [if_neg h1, List.getElem?_append_right (by omega), ht]
    by_cases h2 : j < o + vs.length
    · rw [if_pos h2, List.getElem?_append_left (by omega)]
    · rw [if_neg h2, List.getElem?_append_right (by omega), List.getElem?_drop]
      congr 1
      omega
theorem lspl_len (l vs : List Value) (o : Nat) (h : o + vs.length ≤ l.length) : (lspl l o vs).length = l.length := by
  unfold lspl
  simp only [List.length_append, List.length_take, List.length_drop]
  omega

theorem OwnAt.atN {w : World} {v : Value} {e : TypeId} {s : Nat} {xs : List Value} {n k : Nat} (h : OwnAt w v e s xs n) (hk : k < n) (kk : IntKind) :
    ∃ b o, slB v = [b] ∧ (∀ K : VPost, K (.pointer (some ⟨b, o, none⟩)) w → idxW (some (none, s)) v (.int kk k) w K) ∧
    (∀ (K : VPost), K (.agg ((xs.drop (k * s)).take s).toArray) w → loadW (some (true, s)) (.pointer (some ⟨b, o, none⟩)) w K) ∧
    (∀ (g : Bool) (vs : List Value) (K : World → Prop), vs.length = s → (∀ x ∈ vs, x.oneCell' = true) → (∀ w', Ext [b] w w' → OwnAt w' v e s (lspl xs (k * s) vs) n → K w') → storeW (some (g, s)) (.pointer (some ⟨b, o, none⟩)) (.agg vs.toArray) w K) := by
  have hks : k * s + s ≤ n * s := by
    have := Nat.mul_le_mul_right s (show k + 1 ≤ n from hk)
    rwa [Nat.add_mul, Nat.one_mul] at this
  rcases h with ⟨rfl, rfl, rfl⟩ | ⟨b, o, c, cs, rfl, hb, hl, ht, hc, hn⟩
  · omega
  · have hcs : n * s ≤ c * s := Nat.mul_le_mul_right s hn
    refine ⟨b, o + k * s, rfl, fun K hK => idx_i hk hK, fun K hK => loadN hb.r (by omega) ?_, fun g vs K hv h1 hK => storeW_i hb rfl hv (by omega) h1 fun w' e' hb' _ => hK w' e' (.inr ⟨b, o, c, _, rfl, hb', ?_, ?_, ?_, hn⟩)⟩
    · rw [at_part ht hks]; exact hK
    · rw [lspl_len _ _ _ (by omega)]; exact hl
    · apply List.ext_getElem?
      intro j
      rw [List.getElem?_take, List.getElem?_drop, lspl_at _ _ _ _ (by omega), lspl_at _ _ _ _ (by omega)]
      have hx : j < n * s → xs[j]? = cs[o + j]? := fun hj => by rw [← ht, List.getElem?_take, if_pos hj, List.getElem?_drop]
      have hx2 : ¬ j < n * s → xs[j]? = none := fun hj => by rw [List.getElem?_eq_none]; omega
      by_cases hj : j < n * s
      · rw [if_pos hj, hx hj]
        by_cases h2 : j < k * s
        · rw [if_pos h2, if_pos (by omega)]
        · rw [if_neg h2, if_neg (by omega)]
          by_cases h3 : j < k * s + vs.length
          · rw [if_pos h3, if_pos (by omega)]
            congr 1
            omega
          · rw [if_neg h3, if_neg (by omega)]
      · rw [if_neg hj, if_neg (by omega), if_neg (by omega), hx2 hj]
    · rw [lspl_len _ _ _ (by omega)]; exact hc
/-- One of parts of one length is set. -/
theorem flat_set {α : Type} (f : α → List Value) (s : Nat) {l : List α} (hl : ∀ x ∈ l, (f x).length = s) {i : Nat} (h : i < l.length) {x : α} (hx : (f x).length = s) : lspl (l.flatMap f) (i * s) (f x) = (l.set i x).flatMap f := by
  have hsp : l = l.take i ++ l[i] :: l.drop (i + 1) := by rw [← List.drop_eq_getElem_cons h, List.take_append_drop]
  have h1 : ((l.take i).flatMap f).length = i * s := by rw [flat_len f s _ (fun d hm => hl d (List.mem_of_mem_take hm)), List.length_take, Nat.min_eq_left (by omega)]
  have h2 : l.set i x = l.take i ++ x :: l.drop (i + 1) := by rw [List.set_eq_take_append_cons_drop, if_pos h]
  have h3 : l.flatMap f = (l.take i).flatMap f ++ (f l[i] ++ (l.drop (i + 1)).flatMap f) := by
    conv => lhs; rw [hsp]
    rw [List.flatMap_append]; rfl
  have h4 : (f l[i]).length = s := hl _ (List.getElem_mem h)
  rw [h2, List.flatMap_append, h3]
  unfold lspl
  rw [← h1, List.take_left, hx, List.append_assoc]
  congr 1
  show f x ++ _ = f x ++ (l.drop (i + 1)).flatMap f
  congr 1
  rw [List.drop_append, List.drop_of_length_le (by omega), List.nil_append, show ((l.take i).flatMap f).length + s - ((l.take i).flatMap f).length = s by omega, ← h4, List.drop_left]
end Go.Proofs.YtbaddpnlokmldaaDoor
