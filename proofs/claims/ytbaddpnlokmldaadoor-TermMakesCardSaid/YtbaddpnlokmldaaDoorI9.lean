/- strings.SplitSeq at a point; term.Word: walks. -/
import Derived.Test.YtbaddpnlokmldaaDoorI8
import Derived.Test.YtbaddpnlokmldaaDoorNS
namespace Go.Proofs.YtbaddpnlokmldaaDoor
open Go
set_option maxRecDepth 100000

theorem str_cutG {l : Bytes} {a b : Nat} {lo hi : Option Value} {w : World} {K : VPost} (hlo : bndIs lo 0 a) (hhi : bndIs hi l.length b) (hab : a ≤ b) (hbl : b ≤ l.length) (hK : K (sv ((l.drop a).take (b - a))) w) : sliceW .str (sv l) lo hi none w K := by
  have hs : (ByteArray.mk l.toArray).size = l.length := by show l.toArray.size = _; rw [List.size_toArray]
  show sliceW .str (.string ⟨l.toArray⟩) lo hi none w K
  refine ⟨rfl, ?_⟩
  rw [hs]
  refine ⟨by simp, a, b, l.length, rfl, hhi, hlo, hab, fun _ => hbl, Nat.le_refl _, ?_⟩
  have e : (ByteArray.mk l.toArray).extract a b = ⟨((l.drop a).take (b - a)).toArray⟩ := by
    apply ByteArray.ext
    rw [ByteArray.data_extract]
    apply Array.ext'
    simp [List.take_drop]
    try omega
  show K (.string ((ByteArray.mk l.toArray).extract a b)) w
  rw [e]
  exact hK
theorem str_add {P : Program} {w : World} {K : VPost} {t : TypeId} {c : Bool} {a b : Bytes} (hl : a.length + b.length < 2 ^ 60) (h : K (sv (a ++ b)) w) : binW P .add t c (sv a) (sv b) w K := by
  have e : (Op.stringOp .add ⟨a.toArray⟩ ⟨b.toArray⟩).run P w = .ok (.string ⟨(a ++ b).toArray⟩) w := by
    have hs : ∀ l : Bytes, (ByteArray.mk l.toArray).size = l.length := fun l => by show l.toArray.size = _; rw [List.size_toArray]
    have hmx : IntKind.max .i64 = 9223372036854775807 := rfl
    simp only [Op.stringOp]
    rw [if_neg (by rw [hs, hs, hmx]; omega), Sem.run_pure]
    congr 2
  show binW P .add t c (.string ⟨a.toArray⟩) (.string ⟨b.toArray⟩) w K
  unfold binW insW binE
  rw [Sem.run_bind]
  have hg : (guardE .add t c (.string ⟨a.toArray⟩) (.string ⟨b.toArray⟩)).run P w = .ok () w := by cases c <;> rfl
  rw [hg, Result.andThen_ok]
  show okW K ((Op.stringOp .add ⟨a.toArray⟩ ⟨b.toArray⟩).run P w)
  rw [e]
  exact h

/-! What stands between points. -/
def splitD : Bytes → List Bytes
  | [] => [[]]
  | c :: r => if c = 46 then [] :: splitD r else match splitD r with
    | [] => [[c]]
    | x :: xs => (c :: x) :: xs
theorem splitD_ne (l : Bytes) : splitD l ≠ [] := by
  cases l with
  | nil => simp [splitD]
  | cons c r =>
    rw [splitD]
    split
    · simp
    · split <;> simp
theorem split_no : ∀ l : Bytes, Lib.indexByte l 46 < 0 → splitD l = [l]
  | [], _ => rfl
  | c :: r, h => by
    rw [Lib.indexByte] at h
    by_cases hc : c = 46
    · subst hc; simp at h
    · rw [if_neg (by simpa using hc)] at h
      have hr : Lib.indexByte r 46 < 0 := by
        split at h
        · rename_i h1
          have h1 : Lib.indexByte r 46 = -1 := by simpa using h1
          omega
        · omega
      rw [splitD, if_neg hc, split_no r hr]
theorem split_at : ∀ l : Bytes, 0 ≤ Lib.indexByte l 46 → (Lib.indexByte l 46).toNat < l.length ∧ splitD l = l.take (Lib.indexByte l 46).toNat :: splitD (l.drop ((Lib.indexByte l 46).toNat + 1))
  | [], h => by simp [Lib.indexByte] at h
  | c :: r, h => by
    rw [Lib.indexByte] at h ⊢
    by_cases hc : c = 46
    · subst hc
      simp [splitD]
    · rw [if_neg (by simpa using hc)] at h ⊢
      split at h
      · omega
      · rename_i h1
        rw [if_neg h1]
        have hr : 0 ≤ Lib.indexByte r 46 := by
          have hne : Lib.indexByte r 46 ≠ -1 := by simpa using h1
          omega
        obtain ⟨h2, h3⟩ := split_at r hr
        have e : (Lib.indexByte r 46 + 1).toNat = (Lib.indexByte r 46).toNat + 1 := by omega
        rw [e]
        refine ⟨by simp; omega, ?_⟩
        rw [splitD, if_neg hc, h3]
        simp

section
variable {w : World} {L R : List Res}
set_option maxHeartbeats 400000 in
/-- The texts between points, one after the other, till one is refused. -/
theorem split_w {l D bp bs bn : Nat} {rdy ro : Obj} {txt : Bytes} {W : World} {K : VPost} (ok : Bytes → Bool) (s : Sep [] w W (rX l rdy :: rX D dfr :: rB bs [sv txt] 9 :: rB bp [sv [46]] 9 :: rB bn [.int .i64 0] 3 :: L) R) (hn : txt.length < 2 ^ 60)
    (hY : ∀ (p rest : Bytes) (W : World) (K' : VPost), p.length < 2 ^ 60 → Sep [] w W (rX l rdy :: rX D dfr :: rB bs [sv rest] 9 :: rB bp [sv [46]] 9 :: rB bn [.int .i64 0] 3 :: L) R →
      (ok p = true → ∀ W', Sep [] w W' (rX l rdy :: rX D dfr :: rB bs [sv rest] 9 :: rB bp [sv [46]] 9 :: rB bn [.int .i64 0] 3 :: L) R → K' (.bool true) W') →
      (ok p = false → ∀ W', Sep [] w W' (rX l ro :: rX D dfr :: rB bs [sv rest] 9 :: rB bp [sv [46]] 9 :: rB bn [.int .i64 0] 3 :: L) R → K' (.bool false) W') → dynW Tryd.prog (.func (.yield l) #[] #[]) #[sv p] W K')
    (hT : (splitD txt).all ok = true → ∀ rest W', Sep [] w W' (rX l rdy :: rX D dfr :: rB bs [sv rest] 9 :: rB bp [sv [46]] 9 :: rB bn [.int .i64 0] 3 :: L) R → K (.tuple #[]) W')
    (hF : (splitD txt).all ok = false → ∀ rest W', Sep [] w W' (rX l ro :: rX D dfr :: rB bs [sv rest] 9 :: rB bp [sv [46]] 9 :: rB bn [.int .i64 0] 3 :: L) R → K (.tuple #[]) W') :
    Calls Tryd.prog 66 #[.func (.yield l) #[] #[], .pointer (some ⟨bp, 0, none⟩), .pointer (some ⟨bs, 0, none⟩), .pointer (some ⟨bn, 0, none⟩)] W (retK K) := by
  refine c66_calls _ _ _ _ W K ?_
  unfold c66
  refine bindX_i fun J0 g0 => bindX_i fun J1 g1 => ?_
  refine s.load1 3 rfl rfl ?_
  rw [sv_len]
  refine neql (y := 0) ?_
  refine cndF ?_
  refine seq_n g1 ?_
  refine bindX_i fun J2 g2 => bindX_i fun J3 g3 => ?_
  refine loop_i (fun m fr wr => ∃ rest : Bytes, m = rest.length ∧ rest.length < 2 ^ 60 ∧ (splitD txt).all ok = (splitD rest).all ok ∧ fr 0 = .func (.yield l) #[] #[] ∧ fr 1 = .pointer (some ⟨bp, 0, none⟩) ∧ fr 2 = .pointer (some ⟨bs, 0, none⟩) ∧ fr 3 = .pointer (some ⟨bn, 0, none⟩) ∧
    Sep [] w wr (rX l rdy :: rX D dfr :: rB bs [sv rest] 9 :: rB bp [sv [46]] 9 :: rB bn [.int .i64 0] 3 :: L) R) txt.length ?_ ?_
  · exact ⟨txt, rfl, hn, rfl, rfl, rfl, rfl, rfl, s⟩
  · rintro m fr wr J ⟨rest, rfl, hrn, hall, f0, f1, f2, f3, s⟩ hJ hX
    rw [f0, f1, f2, f3]
    refine s.load1 2 rfl rfl ?_
    refine s.load1 3 rfl rfl ?_
    have hix := strings_Index_one ⟨rest.toArray⟩ 46 wr
    refine fnW_of (by kernel_rfl) (hix.mono fun e w' he => ?_)
    obtain ⟨rfl, rfl⟩ := he
    have hdl : (ByteArray.mk rest.toArray).data.toList = rest := rfl
    rw [hdl]
    refine retK_i ?_
    rw [ilss]
    refine cond_d (fun hlt => ?_) (fun hge => ?_)
    · have hsp := split_no rest hlt
      rw [hsp] at hall
      refine hX _ _ _ (by simp) (g3 _ _ _ (blk_x (seq_n g2 ?_)))
      show loadW _ (fr 2) _ fun t w8 => dynW _ (fr 0) _ w8 _
      rw [f0, f2]
      refine s.load1 2 rfl rfl ?_
      refine hY rest rest w' _ hrn s (fun ho W' s => ?_) (fun ho W' s => ?_)
      · exact g0 _ _ _ (hT (by rw [hall]; simp [ho]) rest W' s)
      · exact g0 _ _ _ (hF (by rw [hall]; simp [ho]) rest W' s)
    · obtain ⟨h1, h2⟩ := split_at rest (by omega)
      rw [h2] at hall
      obtain ⟨k, hk⟩ : ∃ k : Nat, Lib.indexByte rest 46 = k := ⟨(Lib.indexByte rest 46).toNat, by omega⟩
      rw [hk, Int.toNat_natCast] at h1 hall
      rw [hk]
      refine s.load1 2 rfl rfl ?_
      refine s.load1 4 rfl rfl ?_
      refine nadd (y := 0) (by omega) ?_
      refine str_cutG (a := 0) (b := k) rfl rfl (by omega) (by omega) ?_
      rw [List.drop_zero, Nat.sub_zero]
      refine hY (rest.take k) rest w' _ (by rw [List.length_take]; omega) s (fun ho W' s => ?_) (fun ho W' s => ?_)
      · refine not_ti ?_
        refine cndF ?_
        refine s.load1 2 rfl rfl ?_
        refine s.load1 3 rfl rfl ?_
        rw [sv_len]
        refine nadd (y := 1) (by omega) ?_
        refine str_cutG (l := rest) (a := k + 1) (b := rest.length) rfl rfl (by omega) (by omega) ?_
        have htk : (rest.drop (k + 1)).take (rest.length - (k + 1)) = rest.drop (k + 1) := List.take_of_length_le (by rw [List.length_drop]; exact Nat.le_refl _)
        rw [htk]
        refine s.store1 2 rfl rfl (by show 0 < 1; decide) rfl fun w9 s _ => ?_
        refine hJ (rest.drop (k + 1)).length _ _ (by rw [List.length_drop]; omega) ⟨rest.drop (k + 1), rfl, by rw [List.length_drop]; omega, by rw [hall]; simp [ho], f0, f1, f2, f3, s⟩
      · refine not_ti ?_
        refine cndT ?_
        refine hX _ _ _ (by simp) (g3 _ _ _ (g2 _ _ _ (g0 _ _ _ ?_)))
        exact hF (by rw [hall]; simp [ho]) rest W' s
end
end Go.Proofs.YtbaddpnlokmldaaDoor
