/- strings.Contains in plain words; term.Word: walk. Condition: the library's variable of a bound is a number. -/
import Derived.Test.YtbaddpnlokmldaaDoorIP
namespace Go.Proofs.YtbaddpnlokmldaaDoor
open Go
set_option maxRecDepth 100000

theorem zero_bool : zeroO Tryd.prog 4 = some (.bool false) := by kernel_rfl
theorem zero_int : zeroO Tryd.prog 3 = some (.int .i64 0) := by kernel_rfl
/-- The library's bound is a number. -/
def GS (w : World) : Prop := ∃ m, w.cell? ⟨0, 0, none⟩ = some (.int .i64 m)
theorem GS.keep {S : List Nat} {w w' : World} (h : GS w) (e : Ext S w w') (hS : 0 ∉ S) : GS w' := by
  obtain ⟨m, h⟩ := h
  refine ⟨m, ?_⟩
  unfold World.cell? at h ⊢
  have hlt : 0 < w.heap.size := by
    cases h2 : w.heap[0]? with
    | none => rw [h2] at h; cases h
    | some o => exact (Array.getElem?_eq_some_iff.1 h2).1
  rw [e.same 0 hlt hS]
  exact h
theorem contains_eq (s sub : Bytes) : Lib.contains s sub = decide (sub <:+: s) := by
  unfold Lib.contains
  rw [decide_eq_decide]
  constructor
  · intro h
    rcases Lib.index_spec s sub with ⟨h1, _⟩ | ⟨i, h1, h2, h3, _⟩
    · omega
    · unfold Lib.occAt at h3
      exact (List.isPrefixOf_iff_prefix.1 h3).isInfix.trans (List.drop_suffix i s).isInfix
  · rintro ⟨a, b, h⟩
    rcases Lib.index_spec s sub with ⟨_, h2⟩ | ⟨i, h1, _⟩
    · have h3 := h2 a.length (by rw [← h]; simp)
      unfold Lib.occAt at h3
      rw [← h, List.append_assoc, List.drop_left] at h3
      have h4 : sub.isPrefixOf (sub ++ b) = true := List.isPrefixOf_iff_prefix.2 (List.prefix_append _ _)
      rw [h4] at h3; cases h3
    · omega
abbrev resBA : ByteArray := ⟨#[32, 80, 114, 111, 112, 32, 84, 121, 112, 101, 32, 102, 117, 110, 32, 97, 108, 108, 32, 108, 101, 116, 32, 105, 110, 32, 111, 102, 32, 119, 105, 116, 104, 32, 97, 120, 105, 111, 109, 32, 100, 101, 102, 32, 116, 104, 101, 111, 114, 101, 109, 32, 102, 97, 109, 105, 108, 121, 32, 117, 48, 32, 117, 49, 32, 117, 50, 32, 117, 51, 32]⟩
theorem res_eq : resBA.data.toList = reservedT := by decide
theorem res_size : resBA.size < 4294967281 := by
  have h1 : resBA.size = reservedT.length := by rw [← res_eq]; rfl
  have h2 : reservedT.length = 71 := by decide
  omega
theorem has_word {w : World} {s : Bytes} (hg : GS w) : Calls Tryd.prog 32 #[.string resBA, sv ([32] ++ s ++ [32])] w fun e w' => e = .returned (.bool (decide ((32 :: s ++ [32]) <:+: reservedT))) ∧ w' = w := by
  obtain ⟨m, hm⟩ := hg
  have h := strings_Contains resBA ⟨([32] ++ s ++ [32]).toArray⟩ m w res_size hm
  have e2 : (ByteArray.mk ([32] ++ s ++ [32]).toArray).data.toList = 32 :: s ++ [32] := by simp
  rw [e2, contains_eq, res_eq] at h
  exact h

set_option maxHeartbeats 1000000 in
theorem word_c {w : World} {K : VPost} {s : Bytes} (hn : s.length < 2 ^ 60) (hg : GS w) (hK : ∀ w', Ext [] w w' → K (.bool (wordB s)) w') : Calls Tryd.prog 8 #[sv s] w (retK K) := by
  refine c8_calls _ w K ?_
  unfold c8
  refine (Sep.nil w).alloc zero_bool rfl fun r w1 q _ => ?_
  have no : ∀ w', Sep [] w w' (rB r [.bool false] 4 :: []) [] → wordB s = false → K (.bool false) w' := fun w' q h => by
    have := hK w' q.ext
    rwa [h] at this
  have ho : ∀ w', Sep [] w w' (rB r [.bool false] 4 :: []) [] → wordB s = false → storeW (some (false, 1)) (.pointer (some ⟨r, 0, none⟩)) (.bool false) w' fun w16 => loadW (some (false, 1)) (.pointer (some ⟨r, 0, none⟩)) w16 fun r17 _ => K r17 w16 := fun w' q h => by
    refine q.store1 0 rfl rfl (by show 0 < 1; decide) rfl fun w2 q _ => ?_
    exact q.load1 0 rfl rfl (no w2 q h)
  rw [sv_len]
  refine ngtr (y := 32) ?_
  by_cases h32 : 32 < s.length
  · rw [decide_eq_true h32]
    iterate 4 refine gs_tf ?_
    refine pick_ti ?_
    refine cndT (ho w1 q ?_)
    unfold wordB
    rw [decide_eq_false (by omega)]; rfl
  · rw [decide_eq_false h32]
    refine gs_f ?_
    refine gs_f ?_
    show binW _ _ _ _ (sv [32]) (sv s) _ _
    refine str_add (by simp; omega) ?_
    refine gs_f ?_
    show binW _ _ _ _ (sv ([32] ++ s)) (sv [32]) _ _
    refine str_add (by simp; omega) ?_
    have hhw := has_word (s := s) (hg.keep q.ext (by simp))
    refine gs_f (fnW_of (by kernel_rfl) (hhw.mono fun e w' he => ?_))
    obtain ⟨rfl, rfl⟩ := he
    refine retK_i ?_
    refine pick_fi ?_
    have hw : wordB s = (!decide ((32 :: s ++ [32]) <:+: reservedT) && (splitD s).all partB) := by
      unfold wordB
      rw [decide_eq_true (show s.length ≤ 32 by omega), Bool.true_and]
    refine cond_d (fun hin => ?_) (fun hin => ?_)
    · refine ho w' q ?_
      rw [hw, decide_eq_true hin]; rfl
    · rw [decide_eq_false hin, Bool.not_false, Bool.true_and] at hw
      refine bindV_i fun K19 h19 => bindV_i fun K20 h20 => ?_
      refine fnW_of (by kernel_rfl) (c33_calls _ _ _ _ ?_)
      unfold c33
      refine fnW_of (by kernel_rfl) (c52_calls _ _ _ _ _ ?_)
      unfold c52
      refine q.box fun bs w2 q _ => ?_
      refine q.box fun bp w3 q _ => ?_
      refine q.box fun bn w4 q _ => ?_
      refine mkfunc_i ?_
      have q := q.swap.toFront 2 rfl
      have q : Sep [] w w4 (rB bs [sv s] 9 :: rB bp [sv [46]] 9 :: rB bn [.int .i64 0] 3 :: rB r [.bool false] 4 :: []) [] := q
      refine bindV_i fun K30 h30 => ?_
      refine range_i (by kernel_rfl) q fun l D rdy bsy dn W1 hY q1 _ => ?_
      show Calls Tryd.prog _ #[.func (.yield l) #[] #[], .pointer (some ⟨bp, 0, none⟩), .pointer (some ⟨bs, 0, none⟩), .pointer (some ⟨bn, 0, none⟩)] W1 _
      refine split_w (txt := s) (ro := dn .ret) partB q1 (by omega) ?_ ?_ ?_
      · intro p rest W K' hp q hT hF
        refine hY.call rfl q ?_
        refine ⟨q.at 0 rfl, q.at 1 rfl, ?_⟩
        have q := q.putX bsy
        refine fnW_of (by kernel_rfl) (part_c hp ?_)
        refine not_ti ?_
        cases hpb : partB p with
        | true =>
          refine cndF ?_
          refine ⟨q.at 0 rfl, q.at 1 rfl, ?_⟩
          exact hT hpb _ (q.putX rdy)
        | false =>
          refine cndT ?_
          refine q.store1 5 rfl rfl (by show 0 < 1; decide) rfl fun w5 q _ => ?_
          refine ⟨q.at 0 rfl, q.at 1 rfl, ?_⟩
          exact hF hpb _ (q.putX (dn .ret))
      · intro hall rest W q
        refine ⟨q.at 1 rfl, .inl ⟨q.at 0 rfl, fun ob => ?_⟩⟩
        have q := q.putX ob
        rw [h20]
        refine q.store1 5 rfl rfl (by show 0 < 1; decide) rfl fun w5 q _ => ?_
        refine ⟨q.at 1 rfl, fun W8 hW8 => ?_⟩
        subst hW8
        have q := (q.drop 0).putX (.deferred none)
        refine q.load1 4 rfl rfl ?_
        have := hK _ q.ext
        rw [hw, hall] at this
        exact this
      · intro hall rest W q
        refine ⟨q.at 1 rfl, .inr ⟨rfl, .ret, .inl rfl, q.at 0 rfl, fun ob => ?_⟩⟩
        have q := q.putX ob
        rw [h30]
        show K20 _ _ _ _
        rw [h20]
        show K19 _ _ _ _
        rw [h19]
        refine ⟨q.at 1 rfl, fun W8 hW8 => ?_⟩
        subst hW8
        have q := (q.drop 0).putX (.deferred none)
        refine q.load1 4 rfl rfl ?_
        have := hK _ q.ext
        rw [hw, hall] at this
        exact this
end Go.Proofs.YtbaddpnlokmldaaDoor
