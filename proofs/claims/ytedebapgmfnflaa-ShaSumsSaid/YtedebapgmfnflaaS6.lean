/- SHA-256: a hash in memory, by contracts: bytes taken in, a fork. -/
import Derived.Test.YtedebapgmfnflaaS5
namespace Go.Proofs.Ytedebapgmfnflaa
open Go
set_option maxRecDepth 100000

def hcells (m : HM) (rv : Value) : List Value := uc m.st ++ [rv, .int .i64 m.n]
section
variable {m : HM} {rv : Value} (h : m.st.length = 8)
include h
theorem hc_len : (hcells m rv).length = 10 := by simp [hcells, uc_length, h]
theorem hc_8 : (hcells m rv)[8]? = some rv := by
  unfold hcells; rw [List.getElem?_append_right (by rw [uc_length]; omega), uc_length, h]; rfl
theorem hc_9 : (hcells m rv)[9]? = some (.int .i64 m.n) := by
  unfold hcells; rw [List.getElem?_append_right (by rw [uc_length]; omega), uc_length, h]; rfl
theorem hc_st : ((hcells m rv).drop 0).take 8 = uc m.st := by
  unfold hcells; rw [List.drop_zero, List.take_append_of_le_length (by rw [uc_length]; omega), List.take_of_length_le (by rw [uc_length]; omega)]
theorem hc_s8 (rv' : Value) : (hcells m rv).set 8 rv' = hcells m rv' := by
  unfold hcells; rw [List.set_append_right _ _ (by rw [uc_length]; omega), uc_length, h]; rfl
theorem hc_s9 (n : Nat) : (hcells m rv).set 9 (.int .i64 n) = hcells { m with n := n } rv := by
  unfold hcells; rw [List.set_append_right _ _ (by rw [uc_length]; omega), uc_length, h]; rfl
theorem hc_spl (st : List UInt32) (hs : st.length = 8) : lspl (hcells m rv) 0 (uc st) = hcells { m with st := st } rv := by
  unfold hcells lspl
  rw [List.take_zero, List.nil_append, Nat.zero_add, uc_length, hs, List.drop_append_of_le_length (by rw [uc_length]; omega), List.drop_of_length_le (by rw [uc_length]; omega), List.nil_append]
end

structure IsHash (w : World) (p : Nat) (rv : Value) (m : HM) : Prop where
  hdr : Blk w p (hcells m rv) 112
  rest : OwnAt w rv 5 1 (bc m.rest) m.rest.length
  ne : p ∉ slB rv
  st : m.st.length = 8
/-- The hash behind a pointer, and the blocks that are its. -/
def Hash (w : World) (p : Nat) (F : List Nat) (m : HM) : Prop := ∃ rv, IsHash w p rv m ∧ F = p :: slB rv
theorem Hash.keep {w w' : World} {p : Nat} {F S : List Nat} {m : HM} (h : Hash w p F m) (e : Ext S w w') (hd : ∀ b ∈ F, b ∉ S) : Hash w' p F m := by
  obtain ⟨rv, h, rfl⟩ := h
  exact ⟨rv, ⟨h.hdr.keep e (hd p (by simp)), h.rest.keep e (fun b hb => hd b (by simp [hb])), h.ne, h.st⟩, rfl⟩
theorem Hash.lt {w : World} {p : Nat} {F : List Nat} {m : HM} (h : Hash w p F m) : ∀ b ∈ F, b < w.heap.size := by
  obtain ⟨rv, h, rfl⟩ := h
  intro b hb
  rcases List.mem_cons.1 hb with rfl | hb
  · exact h.hdr.lt
  · exact h.rest.lt b hb
def rH (p : Nat) (F : List Nat) (m : HM) : Res := ⟨F, fun w => Hash w p F m, fun h => h.lt, fun h e hd => h.keep e hd⟩

theorem Hash.len8 {w : World} {p : Nat} {F : List Nat} {m : HM} (h : Hash w p F m) : m.st.length = 8 := by obtain ⟨_, h, _⟩ := h; exact h.st

/-- A hash's parts in hand. -/
theorem Hash.open {w : World} {p : Nat} {rv : Value} {m : HM} {R : List Res} (h : IsHash w p rv m) (hR : ∀ T ∈ R, T.holds w) (hd : ∀ T ∈ R, ∀ b ∈ p :: slB rv, b ∉ T.foot) :
    Sep (p :: slB rv) w w [rB p (hcells m rv) 112, rO rv 5 1 (bc m.rest) m.rest.length] R :=
  Sep.start (by
    intro T hT
    rcases List.mem_cons.1 hT with rfl | hT
    · exact h.hdr
    · simp at hT; subst hT; exact h.rest) hR (by
    intro T hT b hb
    rcases List.mem_cons.1 hT with rfl | hT
    · simp [rB] at hb; subst hb; simp
    · simp at hT; subst hT; exact List.mem_cons_of_mem _ hb) (by
    refine List.pairwise_cons.2 ⟨fun T hT b hb => ?_, by simp⟩
    simp [rB] at hb
    simp at hT
    subst hb; subst hT
    exact h.ne) (by
    intro T hT U hU b hb
    refine hd U hU b ?_
    rcases List.mem_cons.1 hT with rfl | hT
    · simp [rB] at hb; subst hb; simp
    · simp at hT; subst hT; exact List.mem_cons_of_mem _ hb)
/-- .. and a hash again. -/
theorem Sep.hash {S : List Nat} {w0 w : World} {L R : List Res} {p : Nat} {rv : Value} {m : HM} (s : Sep S w0 w (rB p (hcells m rv) 112 :: rO rv 5 1 (bc m.rest) m.rest.length :: L) R) (hst : m.st.length = 8) :
    Hash w p (p :: slB rv) m ∧ ∀ b ∈ p :: slB rv, b ∈ S ∨ w0.heap.size ≤ b := by
  have hp := (List.pairwise_cons.1 s.dis).1 (rO rv 5 1 (bc m.rest) m.rest.length) (by simp) p (by simp [rB])
  refine ⟨⟨rv, ⟨s.at 0 rfl, s.at 1 rfl, hp, hst⟩, rfl⟩, fun b hb => ?_⟩
  rcases List.mem_cons.1 hb with rfl | hb
  · exact s.old _ List.mem_cons_self b (by simp [rB])
  · exact s.old (rO rv 5 1 (bc m.rest) m.rest.length) (by simp) b hb

theorem absorb_snoc (j : Nat) : ∀ (s : List UInt32) (x : Bytes), 64 * (j + 1) ≤ x.length → absorb (j + 1) s x = compress (absorb j s x) ((x.drop (64 * j)).take 64) := by
  induction j with
  | zero => intro s x _; rfl
  | succ j ih =>
    intro s x h
    show absorb (j + 1) (compress s (x.take 64)) (x.drop 64) = compress (absorb j (compress s (x.take 64)) (x.drop 64)) _
    rw [ih _ _ (by rw [List.length_drop]; omega), List.drop_drop, show 64 + 64 * j = 64 * (j + 1) by omega]

theorem und_bytes' : Try.prog.underlying 34 = some (.slice 5) := und_u8s

set_option maxHeartbeats 1000000 in
theorem take_c {w : World} {K : VPost} {p : Nat} {F : List Nat} {m : HM} {x : Value} {b : Bytes} (h : Hash w p F m) (hx : RdSl w x 1 (bc b) b.length) (hd : ∀ c ∈ F, c ∉ rdB x (bc b)) (hn : m.n + b.length ≤ 2 ^ 38) (hr : m.rest.length + b.length ≤ 2 ^ 38)
    (hK : ∀ F' w', Hash w' p F' (m.take b) → Mv F w F' w' → K (.tuple #[]) w') : Calls Try.prog 80 #[.pointer (some ⟨p, 0, none⟩), x] w (retK K) := by
  refine c80_calls _ _ w K ?_
  unfold c80
  obtain ⟨rv, h, rfl⟩ := h
  have h8 := h.st
  obtain ⟨ui, hui, huz, husz, huby⟩ := tyI_spec ty_u8
  have s := Hash.open (R := [rR x 1 (bc b) b.length]) h (by intro T hT; simp at hT; subst hT; exact hx) (by intro T hT c hc; simp at hT; subst hT; exact hd c hc)
  rw [nilW_e]
  refine off_i (k := 8) ?_
  refine s.load1 0 rfl (hc_8 h8) ?_
  refine s.appendO (v := rv) (n := m.rest.length) (m := b.length) (ys := bc b) (xs := bc m.rest) 1 (by rw [husz]; rfl) und_u8s und_u8s hui huz (by rw [husz]; rfl) (by rw [huby]; decide) (by rw [husz]; exact s.rat 0 rfl) (bc_one _) (by rw [huby]; omega) fun rv1 w1 s => ?_
  rw [husz, ← bc_append] at s
  have s : Sep _ w w1 [rB p (hcells m rv) 112, rO rv1 5 1 (bc (m.rest ++ b)) (m.rest.length + b.length)] _ := s
  rw [nilW_e]
  refine off_i (k := 8) ?_
  have hv1 : rv1.cells = #[rv1] ∧ rv1.oneCell' = true := by
    obtain ⟨a, c, rfl⟩ := (OwnAt.rd (s.at 1 rfl)).len
    exact ⟨rfl, rfl⟩
  refine s.store1 0 rfl hv1.1 (by rw [hc_len h8]; decide) hv1.2 fun w2 s _ => ?_
  have s : Sep _ w w2 [rB p ((hcells m rv).set 8 rv1) 112, rO rv1 5 1 (bc (m.rest ++ b)) (m.rest.length + b.length)] _ := s
  rw [hc_s8 h8] at s
  rw [nilW_e]
  refine off_i (k := 9) ?_
  refine s.load1 0 rfl (hc_9 h8) ?_
  obtain ⟨xa, xc, hxa⟩ := hx.len
  rw [hxa, len_s]
  refine nadd (by omega) ?_
  rw [nilW_e]
  refine off_i (k := 9) ?_
  refine s.store1 0 rfl rfl (by rw [hc_len h8]; decide) rfl fun w3 s _ => ?_
  have s : Sep _ w w3 [rB p ((hcells m rv1).set 9 (.int .i64 ((m.n + b.length : Nat) : Int))) 112, rO rv1 5 1 (bc (m.rest ++ b)) (m.rest.length + b.length)] _ := s
  rw [hc_s9 h8] at s
  refine bindX_i fun J0 h0 => bindX_i fun J1 h1 => ?_
  generalize hr0 : m.rest ++ b = r0 at s
  have hrl : r0.length = m.rest.length + b.length := by rw [← hr0, List.length_append]
  rw [← hrl] at s
  refine loop_i (fun q fr wr => ∃ (j : Nat) (rv' : Value), q = r0.length - 64 * j ∧ 64 * j ≤ r0.length ∧ fr 0 = .pointer (some ⟨p, 0, none⟩) ∧
    Sep (p :: slB rv) w wr [rB p (hcells ⟨absorb j m.st r0, r0.drop (64 * j), m.n + b.length⟩ rv') 112, rO rv' 5 1 (bc (r0.drop (64 * j))) (r0.drop (64 * j)).length] [rR x 1 (bc b) b.length]) r0.length ?_ ?_
  · exact ⟨0, rv1, by omega, by omega, rfl, s⟩
  · rintro q fr wr J ⟨j, rv', rfl, hj, f0, s⟩ hJ hX
    have ha8 : (absorb j m.st r0).length = 8 := absorb_length _ _ _ h8
    have hdl : (r0.drop (64 * j)).length = r0.length - 64 * j := List.length_drop
    rw [f0, nilW_e]
    refine off_i (k := 8) ?_
    refine s.load1 0 rfl (hc_8 ha8) ?_
    obtain ⟨ra, rc, hra⟩ := (OwnAt.rd (s.at 1 rfl)).len
    have hlen : ∀ (w : World) (K : VPost), lenW Try.prog (some true) #[34] 3 #[rv'] w K = K (.int .i64 (r0.drop (64 * j)).length) w := fun w K => by rw [hra, len_s]
    rw [hlen]
    refine ngeq (y := 64) (cond_d (fun hge => ?_) (fun hge => ?_))
    · have s := s.drew
      generalize wr.drew = wr at *
      rw [nilW_e]
      refine off_i (k := 0) ?_
      refine s.loadN 0 rfl (by rw [hc_len ha8]; decide) ?_
      rw [Nat.zero_add, hc_st ha8, nilW_e]
      refine off_i (k := 8) ?_
      refine s.load1 0 rfl (hc_8 ha8) ?_
      refine RdSl.cut (l := 0) (h := 64) (OwnAt.rd (s.at 1 rfl)) (OwnAt.cap (s.at 1 rfl)) rfl rfl (by omega) hge fun v' hv' hc' _ _ => ?_
      have hpart : (List.take ((64 - 0) * 1) (List.drop (0 * 1) (bc (r0.drop (64 * j))))) = bc ((r0.drop (64 * j)).take 64) := by
        rw [Nat.zero_mul, bc_part, List.drop_zero]
      rw [hpart] at hv'
      refine fnW_of (by kernel_rfl) (compress_c ha8 hv' hc' fun w4 e => ?_)
      have s := s.ext0 e
      have hn8 : (compress (absorb j m.st r0) ((r0.drop (64 * j)).take 64)).length = 8 := compress_length _ _ ha8
      rw [nilW_e]
      refine off_i (k := 0) ?_
      refine s.storeN 0 rfl rfl (by rw [uc_length, hn8]) (by rw [hc_len ha8]; decide) (uc_one _) fun w5 s _ => ?_
      have s : Sep _ w w5 [rB p (lspl (hcells ⟨absorb j m.st r0, r0.drop (64 * j), m.n + b.length⟩ rv') 0 (uc (compress (absorb j m.st r0) ((r0.drop (64 * j)).take 64)))) 112, rO rv' 5 1 (bc (r0.drop (64 * j))) (r0.drop (64 * j)).length] _ := s
      rw [hc_spl ha8 _ hn8, ← absorb_snoc j _ _ (by omega)] at s
      have hb8 : (absorb (j + 1) m.st r0).length = 8 := absorb_length _ _ _ h8
      rw [nilW_e]
      refine off_i (k := 8) ?_
      refine s.load1 0 rfl (hc_8 hb8) ?_
      refine OwnAt.cutO (l := 64) (h := (r0.drop (64 * j)).length) (s.at 1 rfl) rfl rfl hge (Nat.le_refl _) fun v2 hv2 hb2 => ?_
      have hpart2 : (List.take (((r0.drop (64 * j)).length - 64) * 1) (List.drop (64 * 1) (bc (r0.drop (64 * j))))) = bc (r0.drop (64 * (j + 1))) := by
        rw [bc_part, List.drop_drop, List.take_of_length_le (by rw [List.length_drop]; omega)]
        congr 1
      have hl2 : (r0.drop (64 * j)).length - 64 = (r0.drop (64 * (j + 1))).length := by rw [List.length_drop, List.length_drop]; omega
      rw [hpart2, hl2] at hv2
      have s := s.upd 1 rfl (T' := rO v2 5 1 (bc (r0.drop (64 * (j + 1)))) (r0.drop (64 * (j + 1))).length) hv2 (Ext.refl _ _) (fun c hc => .inl (by
        show c ∈ slB rv'
        rw [← hb2]; exact hc))
      rw [nilW_e]
      refine off_i (k := 8) ?_
      have hvc : v2.cells = #[v2] ∧ v2.oneCell' = true := by
        obtain ⟨a, c, rfl⟩ := (OwnAt.rd hv2).len
        exact ⟨rfl, rfl⟩
      refine s.store1 0 rfl hvc.1 (by rw [hc_len hb8]; decide) hvc.2 fun w6 s _ => ?_
      have s : Sep _ w w6 [rB p ((hcells ⟨absorb (j + 1) m.st r0, r0.drop (64 * j), m.n + b.length⟩ rv').set 8 v2) 112, rO v2 5 1 (bc (r0.drop (64 * (j + 1)))) (r0.drop (64 * (j + 1))).length] _ := s
      rw [hc_s8 hb8] at s
      exact hJ (r0.length - 64 * (j + 1)) _ _ (by omega) ⟨j + 1, v2, rfl, by omega, f0, s⟩
    · refine hX _ _ _ (by simp) (h1 _ _ _ (blk_x (h0 _ _ _ ?_)))
      have hjj : r0.length / 64 = j := by omega
      obtain ⟨hh, ho⟩ := s.hash ha8
      have em : m.take b = ⟨absorb j m.st r0, r0.drop (64 * j), m.n + b.length⟩ := by
        unfold HM.take
        rw [hr0, hjj]
      refine hK _ _ (em ▸ hh) ⟨s.ext, ho⟩
end Go.Proofs.Ytedebapgmfnflaa
