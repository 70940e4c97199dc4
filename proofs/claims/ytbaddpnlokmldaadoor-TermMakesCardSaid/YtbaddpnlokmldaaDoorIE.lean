/- term.all, term.Right: walks. Conditions: at most 10^6 nodes; the library's bound is a number. -/
import Derived.Test.YtbaddpnlokmldaaDoorID
namespace Go.Proofs.YtbaddpnlokmldaaDoor
open Go
set_option maxRecDepth 100000

theorem allR_args {k n : Int} {nm : Bytes} {ls : List Lv} {args : List TM} {p v : Int} {d : Nat} : allR (.mk k n nm ls args) p v d = (nodeR (.mk k n nm ls args) p v d && (List.range args.length).all fun i => match args[i]? with | some a => allR a p (v + bndA k i) (d + bndA k i) | none => true) := allR_eq _ _ _ _
set_option maxHeartbeats 1000000 in
theorem all_c : ∀ (t : TV) (p v : Int) (d : Nat) {w : World} {K : VPost}, t.ok w → GS w → t.size ≤ 1000000 → 0 ≤ v → v + t.size ≤ 2 ^ 42 → d + t.size ≤ 2 ^ 42 → (∀ w', Ext [] w w' → K (.bool (allR t.e p v d)) w') → Calls Tryd.prog 40 #[t.v, .int .i64 p, .int .i64 v, .int .i64 d] w (retK K) := by
  refine TV.ind fun k n nm ls lv av args ih p v d w K h hg hsz hv0 hv hd hK => ?_
  refine c40_calls _ _ _ _ w K ?_
  unfold c40
  refine TV.box h fun b w1 s => ?_
  have hk := tok_iff.1 h
  have hz : (TV.mk k n nm ls lv av args).size = 1 + ls.length + TV.sizes args := by rw [TV.size]
  have ha1 : ∀ (w : World) (K : VPost), lenW Tryd.prog (some true) #[25] 3 #[av] w K = K (.int .i64 args.length) w := fun w K => RdSl.lenw hk.ar
  have s := s.drew
  generalize w1.drew = w1 at *
  have he : (TV.mk k n nm ls lv av args).e = TM.mk k n nm ls (args.map TV.e) := by rw [TV.e_eq]; rfl
  have no : ∀ w', Ext [] w w' → nodeR (TM.mk k n nm ls (args.map TV.e)) p v d = false → K (.bool false) w' := fun w' e hn => by
    have := hK w' e
    rwa [he, allR_args, hn, Bool.false_and] at this
  have hnd : nodeR (TM.mk k n nm ls (args.map TV.e)) p v d = (decide (1 ≤ k ∧ k ≤ 9 ∧ d ≤ 200 ∧ (args.map TV.e).length = argsN k) && numR (TM.mk k n nm ls (args.map TV.e)) v && lvsR (TM.mk k n nm ls (args.map TV.e)) p) := rfl
  rw [List.length_map] at hnd
  have s : Sep [] w w1 (rB b [iv k, iv n, sv nm, lv, av] 27 :: []) (rT (TV.mk k n nm ls lv av args) :: []) := s
  repeat (first | with_reducible refine gs_tf ?_ | with_reducible refine gs_ft ?_ | with_reducible refine gs_u ?_ | with_reducible refine pick_ti ?_ | with_reducible refine pick_fi ?_ | with_reducible refine ⟨gs_tf ⟨rfl, rfl⟩, ?_⟩ | with_reducible refine ⟨gs_ft ⟨rfl, rfl⟩, ?_⟩ | with_reducible refine ⟨gs_u ⟨rfl, rfl⟩, ?_⟩ | with_reducible refine gs_t ?_ | with_reducible refine gs_f ?_ | with_reducible refine off_i ?_ | with_reducible refine cndT ?_ | with_reducible refine cndF ?_ | (with_reducible show loadW _ _ _ _; first | refine s.load1 0 rfl rfl ?_))
  rw [ilss]
  by_cases h1 : k < 1
  · rw [decide_eq_true h1]
    repeat (first | with_reducible refine gs_tf ?_ | with_reducible refine gs_ft ?_ | with_reducible refine gs_u ?_ | with_reducible refine pick_ti ?_ | with_reducible refine pick_fi ?_ | with_reducible refine ⟨gs_tf ⟨rfl, rfl⟩, ?_⟩ | with_reducible refine ⟨gs_ft ⟨rfl, rfl⟩, ?_⟩ | with_reducible refine ⟨gs_u ⟨rfl, rfl⟩, ?_⟩ | with_reducible refine gs_t ?_ | with_reducible refine gs_f ?_ | with_reducible refine off_i ?_ | with_reducible refine cndT ?_ | with_reducible refine cndF ?_)
    exact no _ s.ext (by rw [hnd, decide_eq_false (by omega)]; rfl)
  rw [decide_eq_false h1]
  repeat (first | with_reducible refine gs_tf ?_ | with_reducible refine gs_ft ?_ | with_reducible refine gs_u ?_ | with_reducible refine pick_ti ?_ | with_reducible refine pick_fi ?_ | with_reducible refine ⟨gs_tf ⟨rfl, rfl⟩, ?_⟩ | with_reducible refine ⟨gs_ft ⟨rfl, rfl⟩, ?_⟩ | with_reducible refine ⟨gs_u ⟨rfl, rfl⟩, ?_⟩ | with_reducible refine gs_t ?_ | with_reducible refine gs_f ?_ | with_reducible refine off_i ?_ | with_reducible refine cndT ?_ | with_reducible refine cndF ?_ | (with_reducible show loadW _ _ _ _; first | refine s.load1 0 rfl rfl ?_))
  rw [igtr]
  by_cases h9 : 9 < k
  · rw [decide_eq_true h9]
    repeat (first | with_reducible refine gs_tf ?_ | with_reducible refine gs_ft ?_ | with_reducible refine gs_u ?_ | with_reducible refine pick_ti ?_ | with_reducible refine pick_fi ?_ | with_reducible refine ⟨gs_tf ⟨rfl, rfl⟩, ?_⟩ | with_reducible refine ⟨gs_ft ⟨rfl, rfl⟩, ?_⟩ | with_reducible refine ⟨gs_u ⟨rfl, rfl⟩, ?_⟩ | with_reducible refine gs_t ?_ | with_reducible refine gs_f ?_ | with_reducible refine off_i ?_ | with_reducible refine cndT ?_ | with_reducible refine cndF ?_)
    exact no _ s.ext (by rw [hnd, decide_eq_false (by omega)]; rfl)
  rw [decide_eq_false h9]
  repeat (first | with_reducible refine gs_tf ?_ | with_reducible refine gs_ft ?_ | with_reducible refine gs_u ?_ | with_reducible refine pick_ti ?_ | with_reducible refine pick_fi ?_ | with_reducible refine ⟨gs_tf ⟨rfl, rfl⟩, ?_⟩ | with_reducible refine ⟨gs_ft ⟨rfl, rfl⟩, ?_⟩ | with_reducible refine ⟨gs_u ⟨rfl, rfl⟩, ?_⟩ | with_reducible refine gs_t ?_ | with_reducible refine gs_f ?_ | with_reducible refine off_i ?_ | with_reducible refine cndT ?_ | with_reducible refine cndF ?_ | (with_reducible show loadW _ _ _ _; first | refine s.load1 0 rfl rfl ?_))
  refine ngtr (y := 200) ?_
  by_cases hd2 : 200 < d
  · rw [decide_eq_true hd2]
    repeat (first | with_reducible refine gs_tf ?_ | with_reducible refine gs_ft ?_ | with_reducible refine gs_u ?_ | with_reducible refine pick_ti ?_ | with_reducible refine pick_fi ?_ | with_reducible refine ⟨gs_tf ⟨rfl, rfl⟩, ?_⟩ | with_reducible refine ⟨gs_ft ⟨rfl, rfl⟩, ?_⟩ | with_reducible refine ⟨gs_u ⟨rfl, rfl⟩, ?_⟩ | with_reducible refine gs_t ?_ | with_reducible refine gs_f ?_ | with_reducible refine off_i ?_ | with_reducible refine cndT ?_ | with_reducible refine cndF ?_)
    exact no _ s.ext (by rw [hnd, decide_eq_false (by omega)]; rfl)
  rw [decide_eq_false hd2]
  repeat (first | with_reducible refine gs_tf ?_ | with_reducible refine gs_ft ?_ | with_reducible refine gs_u ?_ | with_reducible refine pick_ti ?_ | with_reducible refine pick_fi ?_ | with_reducible refine ⟨gs_tf ⟨rfl, rfl⟩, ?_⟩ | with_reducible refine ⟨gs_ft ⟨rfl, rfl⟩, ?_⟩ | with_reducible refine ⟨gs_u ⟨rfl, rfl⟩, ?_⟩ | with_reducible refine gs_t ?_ | with_reducible refine gs_f ?_ | with_reducible refine off_i ?_ | with_reducible refine cndT ?_ | with_reducible refine cndF ?_ | (with_reducible show loadW _ _ _ _; first | refine s.load1 0 rfl rfl ?_))
  rw [ha1]
  repeat (first | with_reducible refine gs_tf ?_ | with_reducible refine gs_ft ?_ | with_reducible refine gs_u ?_ | with_reducible refine pick_ti ?_ | with_reducible refine pick_fi ?_ | with_reducible refine ⟨gs_tf ⟨rfl, rfl⟩, ?_⟩ | with_reducible refine ⟨gs_ft ⟨rfl, rfl⟩, ?_⟩ | with_reducible refine ⟨gs_u ⟨rfl, rfl⟩, ?_⟩ | with_reducible refine gs_t ?_ | with_reducible refine gs_f ?_ | with_reducible refine off_i ?_ | with_reducible refine cndT ?_ | with_reducible refine cndF ?_ | (with_reducible show loadW _ _ _ _; first | refine s.load1 0 rfl rfl ?_))
  refine fnW_of (by kernel_rfl) (forms_c fun w2 e2 => ?_)
  have s := s.ext0 e2
  refine ⟨gs_f (s.load1 0 rfl rfl ⟨rfl, rfl⟩), ?_⟩
  refine ⟨gs_f (s.load1 0 rfl rfl ⟨rfl, rfl⟩), ?_⟩
  repeat (first | with_reducible refine gs_tf ?_ | with_reducible refine gs_ft ?_ | with_reducible refine gs_u ?_ | with_reducible refine pick_ti ?_ | with_reducible refine pick_fi ?_ | with_reducible refine ⟨gs_tf ⟨rfl, rfl⟩, ?_⟩ | with_reducible refine ⟨gs_ft ⟨rfl, rfl⟩, ?_⟩ | with_reducible refine ⟨gs_u ⟨rfl, rfl⟩, ?_⟩ | with_reducible refine gs_t ?_ | with_reducible refine gs_f ?_ | with_reducible refine off_i ?_ | with_reducible refine cndT ?_ | with_reducible refine cndF ?_)
  refine form_ix (by omega) (by omega) ?_
  repeat (first | with_reducible refine gs_tf ?_ | with_reducible refine gs_ft ?_ | with_reducible refine gs_u ?_ | with_reducible refine pick_ti ?_ | with_reducible refine pick_fi ?_ | with_reducible refine ⟨gs_tf ⟨rfl, rfl⟩, ?_⟩ | with_reducible refine ⟨gs_ft ⟨rfl, rfl⟩, ?_⟩ | with_reducible refine ⟨gs_u ⟨rfl, rfl⟩, ?_⟩ | with_reducible refine gs_t ?_ | with_reducible refine gs_f ?_ | with_reducible refine off_i ?_ | with_reducible refine cndT ?_ | with_reducible refine cndF ?_)
  refine fld_form (v := iv (argsN k)) rfl ?_
  repeat (first | with_reducible refine gs_tf ?_ | with_reducible refine gs_ft ?_ | with_reducible refine gs_u ?_ | with_reducible refine pick_ti ?_ | with_reducible refine pick_fi ?_ | with_reducible refine ⟨gs_tf ⟨rfl, rfl⟩, ?_⟩ | with_reducible refine ⟨gs_ft ⟨rfl, rfl⟩, ?_⟩ | with_reducible refine ⟨gs_u ⟨rfl, rfl⟩, ?_⟩ | with_reducible refine gs_t ?_ | with_reducible refine gs_f ?_ | with_reducible refine off_i ?_ | with_reducible refine cndT ?_ | with_reducible refine cndF ?_)
  refine nneq ?_
  by_cases hal : args.length = argsN k
  case neg =>
    rw [decide_eq_true (by simpa using hal)]
    repeat (first | with_reducible refine gs_tf ?_ | with_reducible refine gs_ft ?_ | with_reducible refine gs_u ?_ | with_reducible refine pick_ti ?_ | with_reducible refine pick_fi ?_ | with_reducible refine ⟨gs_tf ⟨rfl, rfl⟩, ?_⟩ | with_reducible refine ⟨gs_ft ⟨rfl, rfl⟩, ?_⟩ | with_reducible refine ⟨gs_u ⟨rfl, rfl⟩, ?_⟩ | with_reducible refine gs_t ?_ | with_reducible refine gs_f ?_ | with_reducible refine off_i ?_ | with_reducible refine cndT ?_ | with_reducible refine cndF ?_)
    exact no _ s.ext (by rw [hnd, decide_eq_false (by omega)]; rfl)
  rw [decide_eq_false (by simpa using hal)]
  have hd1 : decide (1 ≤ k ∧ k ≤ 9 ∧ d ≤ 200 ∧ args.length = argsN k) = true := decide_eq_true ⟨by omega, by omega, by omega, hal⟩
  rw [hd1, Bool.true_and] at hnd
  repeat (first | with_reducible refine gs_tf ?_ | with_reducible refine gs_ft ?_ | with_reducible refine gs_u ?_ | with_reducible refine pick_ti ?_ | with_reducible refine pick_fi ?_ | with_reducible refine ⟨gs_tf ⟨rfl, rfl⟩, ?_⟩ | with_reducible refine ⟨gs_ft ⟨rfl, rfl⟩, ?_⟩ | with_reducible refine ⟨gs_u ⟨rfl, rfl⟩, ?_⟩ | with_reducible refine gs_t ?_ | with_reducible refine gs_f ?_ | with_reducible refine off_i ?_ | with_reducible refine cndT ?_ | with_reducible refine cndF ?_)
  refine s.loadAll 0 rfl rfl ?_
  repeat (first | with_reducible refine gs_tf ?_ | with_reducible refine gs_ft ?_ | with_reducible refine gs_u ?_ | with_reducible refine pick_ti ?_ | with_reducible refine pick_fi ?_ | with_reducible refine ⟨gs_tf ⟨rfl, rfl⟩, ?_⟩ | with_reducible refine ⟨gs_ft ⟨rfl, rfl⟩, ?_⟩ | with_reducible refine ⟨gs_u ⟨rfl, rfl⟩, ?_⟩ | with_reducible refine gs_t ?_ | with_reducible refine gs_f ?_ | with_reducible refine off_i ?_ | with_reducible refine cndT ?_ | with_reducible refine cndF ?_)
  refine fnW_of (by kernel_rfl) (numbered_c (t := TV.mk k n nm ls lv av args) (s.rat 0 rfl) (hg.keep s.ext (by simp)) fun w3 e3 => ?_)
  have s := s.ext0 e3
  repeat (first | with_reducible refine gs_tf ?_ | with_reducible refine gs_ft ?_ | with_reducible refine gs_u ?_ | with_reducible refine pick_ti ?_ | with_reducible refine pick_fi ?_ | with_reducible refine ⟨gs_tf ⟨rfl, rfl⟩, ?_⟩ | with_reducible refine ⟨gs_ft ⟨rfl, rfl⟩, ?_⟩ | with_reducible refine ⟨gs_u ⟨rfl, rfl⟩, ?_⟩ | with_reducible refine gs_t ?_ | with_reducible refine gs_f ?_ | with_reducible refine off_i ?_ | with_reducible refine cndT ?_ | with_reducible refine cndF ?_)
  refine not_ti ?_
  rw [he]
  cases hnum : numR (TM.mk k n nm ls (args.map TV.e)) v with
  | false =>
    rw [Bool.not_false]
    repeat (first | with_reducible refine gs_tf ?_ | with_reducible refine gs_ft ?_ | with_reducible refine gs_u ?_ | with_reducible refine pick_ti ?_ | with_reducible refine pick_fi ?_ | with_reducible refine ⟨gs_tf ⟨rfl, rfl⟩, ?_⟩ | with_reducible refine ⟨gs_ft ⟨rfl, rfl⟩, ?_⟩ | with_reducible refine ⟨gs_u ⟨rfl, rfl⟩, ?_⟩ | with_reducible refine gs_t ?_ | with_reducible refine gs_f ?_ | with_reducible refine off_i ?_ | with_reducible refine cndT ?_ | with_reducible refine cndF ?_)
    exact no _ s.ext (by rw [hnd, hnum]; rfl)
  | true =>
    rw [hnum, Bool.true_and] at hnd
    rw [Bool.not_true]
    repeat (first | with_reducible refine gs_tf ?_ | with_reducible refine gs_ft ?_ | with_reducible refine gs_u ?_ | with_reducible refine pick_ti ?_ | with_reducible refine pick_fi ?_ | with_reducible refine ⟨gs_tf ⟨rfl, rfl⟩, ?_⟩ | with_reducible refine ⟨gs_ft ⟨rfl, rfl⟩, ?_⟩ | with_reducible refine ⟨gs_u ⟨rfl, rfl⟩, ?_⟩ | with_reducible refine gs_t ?_ | with_reducible refine gs_f ?_ | with_reducible refine off_i ?_ | with_reducible refine cndT ?_ | with_reducible refine cndF ?_)
    refine s.loadAll 0 rfl rfl ?_
    repeat (first | with_reducible refine gs_tf ?_ | with_reducible refine gs_ft ?_ | with_reducible refine gs_u ?_ | with_reducible refine pick_ti ?_ | with_reducible refine pick_fi ?_ | with_reducible refine ⟨gs_tf ⟨rfl, rfl⟩, ?_⟩ | with_reducible refine ⟨gs_ft ⟨rfl, rfl⟩, ?_⟩ | with_reducible refine ⟨gs_u ⟨rfl, rfl⟩, ?_⟩ | with_reducible refine gs_t ?_ | with_reducible refine gs_f ?_ | with_reducible refine off_i ?_ | with_reducible refine cndT ?_ | with_reducible refine cndF ?_)
    refine fnW_of (by kernel_rfl) (leveled_c (t := TV.mk k n nm ls lv av args) (s.rat 0 rfl) (by show 1 ≤ k; omega) (by show k ≤ 9; omega) fun w4 e4 => ?_)
    have s := s.ext0 e4
    repeat (first | with_reducible refine gs_tf ?_ | with_reducible refine gs_ft ?_ | with_reducible refine gs_u ?_ | with_reducible refine pick_ti ?_ | with_reducible refine pick_fi ?_ | with_reducible refine ⟨gs_tf ⟨rfl, rfl⟩, ?_⟩ | with_reducible refine ⟨gs_ft ⟨rfl, rfl⟩, ?_⟩ | with_reducible refine ⟨gs_u ⟨rfl, rfl⟩, ?_⟩ | with_reducible refine gs_t ?_ | with_reducible refine gs_f ?_ | with_reducible refine off_i ?_ | with_reducible refine cndT ?_ | with_reducible refine cndF ?_)
    refine not_ti ?_
    rw [he]
    cases hlev : lvsR (TM.mk k n nm ls (args.map TV.e)) p with
    | false =>
      rw [Bool.not_false]
      repeat (first | with_reducible refine gs_tf ?_ | with_reducible refine gs_ft ?_ | with_reducible refine gs_u ?_ | with_reducible refine pick_ti ?_ | with_reducible refine pick_fi ?_ | with_reducible refine ⟨gs_tf ⟨rfl, rfl⟩, ?_⟩ | with_reducible refine ⟨gs_ft ⟨rfl, rfl⟩, ?_⟩ | with_reducible refine ⟨gs_u ⟨rfl, rfl⟩, ?_⟩ | with_reducible refine gs_t ?_ | with_reducible refine gs_f ?_ | with_reducible refine off_i ?_ | with_reducible refine cndT ?_ | with_reducible refine cndF ?_)
      exact no _ s.ext (by rw [hnd, hlev])
    | true =>
      rw [hlev] at hnd
      rw [Bool.not_true]
      repeat (first | with_reducible refine gs_tf ?_ | with_reducible refine gs_ft ?_ | with_reducible refine gs_u ?_ | with_reducible refine pick_ti ?_ | with_reducible refine pick_fi ?_ | with_reducible refine ⟨gs_tf ⟨rfl, rfl⟩, ?_⟩ | with_reducible refine ⟨gs_ft ⟨rfl, rfl⟩, ?_⟩ | with_reducible refine ⟨gs_u ⟨rfl, rfl⟩, ?_⟩ | with_reducible refine gs_t ?_ | with_reducible refine gs_f ?_ | with_reducible refine off_i ?_ | with_reducible refine cndT ?_ | with_reducible refine cndF ?_)
      have hK2 : ∀ w', Ext [] w w' → K (.bool ((List.range args.length).all fun i => match (args.map TV.e)[i]? with | some a => allR a p (v + bndA k i) (d + bndA k i) | none => true)) w' := fun w' e => by
        have := hK w' e
        rwa [he, allR_args, hnd, Bool.true_and, List.length_map] at this
      refine bindX_i fun J0 g0 => bindX_i fun J1 g1 => ?_
      repeat (first | with_reducible refine gs_tf ?_ | with_reducible refine gs_ft ?_ | with_reducible refine gs_u ?_ | with_reducible refine pick_ti ?_ | with_reducible refine pick_fi ?_ | with_reducible refine ⟨gs_tf ⟨rfl, rfl⟩, ?_⟩ | with_reducible refine ⟨gs_ft ⟨rfl, rfl⟩, ?_⟩ | with_reducible refine ⟨gs_u ⟨rfl, rfl⟩, ?_⟩ | with_reducible refine gs_t ?_ | with_reducible refine gs_f ?_ | with_reducible refine off_i ?_ | with_reducible refine cndT ?_ | with_reducible refine cndF ?_ | (with_reducible show loadW _ _ _ _; first | refine s.load1 0 rfl rfl ?_))
      rw [ha1]
      refine bindX_i fun J2 g2 => ?_
      refine loop_i (fun m fr wr => ∃ i : Nat, m = args.length - i ∧ i ≤ args.length ∧ ((List.range i).all fun i => match (args.map TV.e)[i]? with | some a => allR a p (v + bndA k i) (d + bndA k i) | none => true) = true ∧ fr 1 = .int .i64 p ∧ fr 2 = .int .i64 v ∧ fr 3 = .int .i64 d ∧ fr 4 = .pointer (some ⟨b, 0, none⟩) ∧ fr 48 = av ∧ fr 49 = .int .i64 args.length ∧ fr 50 = .int .i64 i ∧
        Sep [] w wr (rB b [iv k, iv n, sv nm, lv, av] 27 :: []) (rT (TV.mk k n nm ls lv av args) :: [])) args.length ?_ ?_
      · exact ⟨0, rfl, by omega, rfl, rfl, rfl, rfl, rfl, rfl, rfl, rfl, s⟩
      · rintro m fr wr J ⟨i, rfl, hi, hall, f1, f2, f3, f4, f48, f49, f50, s⟩ hJ hX
        have hal2 := len_sizes args
        rw [f49, f50]
        refine nlss (cond_d (fun hlt => ?_) (fun hlt => ?_))
        · rw [f48, f4, f1, f2, f3]
          have ko : TOk wr (TV.mk k n nm ls lv av args) := tok_iff.1 (s.rat 0 rfl)
          obtain ⟨b1, o1, hix, hld⟩ := ko.ar.term hlt .i64
          refine hix _ ?_
          refine hld _ ?_
          have hao : args[i].ok wr := ko.a _ (List.getElem_mem hlt)
          refine s.alloc zero_term rfl fun q w2 s _ => ?_
          refine s.storeAll (vs := args[i].cells) 0 rfl args[i].cells_len rfl (TV.one hao) fun w3 s _ => ?_
          have s : Sep [] w w3 (rB q args[i].cells 27 :: rB b [iv k, iv n, sv nm, lv, av] 27 :: []) (rT (TV.mk k n nm ls lv av args) :: []) := s
          refine off_i ?_
          refine s.load1 (v := iv k) 1 rfl rfl ?_
          refine fnW_of (by kernel_rfl) (deeper_c fun w4 e4 => ?_)
          have s := s.ext0 e4
          refine s.loadAll 0 rfl args[i].cells_len ?_
          have hbl := bnd_le k i
          have hsi := sizes_le (List.getElem_mem hlt)
          have hsp := size_pos args[i]
          refine iadd (by omega) ?_
          refine nadd (by omega) ?_
          have ko : TOk w4 (TV.mk k n nm ls lv av args) := tok_iff.1 (s.rat 0 rfl)
          refine fnW_of (by kernel_rfl) (ih args[i] (List.getElem_mem hlt) p (v + bndA k i) (d + bndA k i) (ko.a _ (List.getElem_mem hlt)) (hg.keep s.ext (by simp)) (by omega) (by omega) (by omega) (by omega) fun w5 e5 => ?_)
          have s := s.ext0 e5
          have hget : (args.map TV.e)[i]? = some args[i].e := by simp [hlt]
          have hcut : ((List.range (i + 1)).all fun i => match (args.map TV.e)[i]? with | some a => allR a p (v + bndA k i) (d + bndA k i) | none => true) = allR args[i].e p (v + bndA k i) (d + bndA k i) := by
            rw [List.range_succ, List.all_append, hall]
            simp [hlt]
          refine not_ti ?_
          cases hr : allR args[i].e p (v + bndA k i) (d + bndA k i) with
          | true =>
            refine cndF ?_
            refine nadd (y := 1) (by omega) ?_
            exact hJ (args.length - (i + 1)) _ _ (by omega) ⟨i + 1, rfl, by omega, by rw [hcut, hr], f1, f2, f3, f4, f48, f49, rfl, s.drop 0⟩
          | false =>
            refine cndT ?_
            refine hX _ _ _ (by simp) (g2 _ _ _ (g1 _ _ _ (g0 _ _ _ ?_)))
            have := hK2 w5 s.ext
            have e : ((List.range args.length).all fun i => match (args.map TV.e)[i]? with | some a => allR a p (v + bndA k i) (d + bndA k i) | none => true) = false := by
              rw [List.all_eq_false]
              refine ⟨i, List.mem_range.2 hlt, ?_⟩
              rw [hget]
              simp [hr]
            rw [e] at this
            exact this
        · obtain rfl : i = args.length := by omega
          refine hX _ _ _ (by simp) (g2 _ _ _ (blk_x (seq_n g1 ?_)))
          have := hK2 wr s.ext
          rw [hall] at this
          exact this

theorem tright_c {w : World} {K : VPost} {t : TV} {p v : Int} (h : t.ok w) (hg : GS w) (hsz : t.size ≤ 1000000) (hK : ∀ w', Ext [] w w' → K (.bool (rightR t.e p v)) w') : Calls Tryd.prog 20 #[t.v, .int .i64 p, .int .i64 v] w (retK K) := by
  refine c20_calls _ _ _ w K ?_
  unfold c20
  refine TV.box h fun b w1 s => ?_
  have hR : ∀ r : Bool, rightR t.e p v = r → ∀ w', Ext [] w w' → K (.bool r) w' := fun r h w' e => by
    have := hK w' e
    rwa [h] at this
  have hde : rightR t.e p v = (decide (0 ≤ p ∧ p ≤ 4 ∧ 0 ≤ v ∧ v ≤ 1099511627776 ∧ t.size ≤ 3000) && allR t.e p v 0) := by unfold rightR; rw [size_e]
  rw [hde] at hR
  rw [igeq]
  by_cases h1 : 0 ≤ p
  case neg =>
    rw [decide_eq_false h1]
    repeat (first | with_reducible refine gs_tf ?_ | with_reducible refine gs_ft ?_ | with_reducible refine gs_u ?_ | with_reducible refine pick_ti ?_ | with_reducible refine pick_fi ?_ | with_reducible refine ⟨gs_tf ⟨rfl, rfl⟩, ?_⟩ | with_reducible refine ⟨gs_ft ⟨rfl, rfl⟩, ?_⟩ | with_reducible refine ⟨gs_u ⟨rfl, rfl⟩, ?_⟩ | with_reducible refine gs_t ?_ | with_reducible refine gs_f ?_ | with_reducible refine off_i ?_ | with_reducible refine cndT ?_ | with_reducible refine cndF ?_)
    exact hR _ (by rw [decide_eq_false (by omega)]; rfl) _ s.ext
  rw [decide_eq_true h1]
  repeat (first | with_reducible refine gs_tf ?_ | with_reducible refine gs_ft ?_ | with_reducible refine gs_u ?_ | with_reducible refine pick_ti ?_ | with_reducible refine pick_fi ?_ | with_reducible refine ⟨gs_tf ⟨rfl, rfl⟩, ?_⟩ | with_reducible refine ⟨gs_ft ⟨rfl, rfl⟩, ?_⟩ | with_reducible refine ⟨gs_u ⟨rfl, rfl⟩, ?_⟩ | with_reducible refine gs_t ?_ | with_reducible refine gs_f ?_ | with_reducible refine off_i ?_ | with_reducible refine cndT ?_ | with_reducible refine cndF ?_)
  rw [ileq]
  by_cases h2 : p ≤ 4
  case neg =>
    rw [decide_eq_false h2]
    repeat (first | with_reducible refine gs_tf ?_ | with_reducible refine gs_ft ?_ | with_reducible refine gs_u ?_ | with_reducible refine pick_ti ?_ | with_reducible refine pick_fi ?_ | with_reducible refine ⟨gs_tf ⟨rfl, rfl⟩, ?_⟩ | with_reducible refine ⟨gs_ft ⟨rfl, rfl⟩, ?_⟩ | with_reducible refine ⟨gs_u ⟨rfl, rfl⟩, ?_⟩ | with_reducible refine gs_t ?_ | with_reducible refine gs_f ?_ | with_reducible refine off_i ?_ | with_reducible refine cndT ?_ | with_reducible refine cndF ?_)
    exact hR _ (by rw [decide_eq_false (by omega)]; rfl) _ s.ext
  rw [decide_eq_true h2]
  repeat (first | with_reducible refine gs_tf ?_ | with_reducible refine gs_ft ?_ | with_reducible refine gs_u ?_ | with_reducible refine pick_ti ?_ | with_reducible refine pick_fi ?_ | with_reducible refine ⟨gs_tf ⟨rfl, rfl⟩, ?_⟩ | with_reducible refine ⟨gs_ft ⟨rfl, rfl⟩, ?_⟩ | with_reducible refine ⟨gs_u ⟨rfl, rfl⟩, ?_⟩ | with_reducible refine gs_t ?_ | with_reducible refine gs_f ?_ | with_reducible refine off_i ?_ | with_reducible refine cndT ?_ | with_reducible refine cndF ?_)
  rw [igeq]
  by_cases h3 : 0 ≤ v
  case neg =>
    rw [decide_eq_false h3]
    repeat (first | with_reducible refine gs_tf ?_ | with_reducible refine gs_ft ?_ | with_reducible refine gs_u ?_ | with_reducible refine pick_ti ?_ | with_reducible refine pick_fi ?_ | with_reducible refine ⟨gs_tf ⟨rfl, rfl⟩, ?_⟩ | with_reducible refine ⟨gs_ft ⟨rfl, rfl⟩, ?_⟩ | with_reducible refine ⟨gs_u ⟨rfl, rfl⟩, ?_⟩ | with_reducible refine gs_t ?_ | with_reducible refine gs_f ?_ | with_reducible refine off_i ?_ | with_reducible refine cndT ?_ | with_reducible refine cndF ?_)
    exact hR _ (by rw [decide_eq_false (by omega)]; rfl) _ s.ext
  rw [decide_eq_true h3]
  repeat (first | with_reducible refine gs_tf ?_ | with_reducible refine gs_ft ?_ | with_reducible refine gs_u ?_ | with_reducible refine pick_ti ?_ | with_reducible refine pick_fi ?_ | with_reducible refine ⟨gs_tf ⟨rfl, rfl⟩, ?_⟩ | with_reducible refine ⟨gs_ft ⟨rfl, rfl⟩, ?_⟩ | with_reducible refine ⟨gs_u ⟨rfl, rfl⟩, ?_⟩ | with_reducible refine gs_t ?_ | with_reducible refine gs_f ?_ | with_reducible refine off_i ?_ | with_reducible refine cndT ?_ | with_reducible refine cndF ?_)
  rw [ileq]
  by_cases h4 : v ≤ 1099511627776
  case neg =>
    rw [decide_eq_false h4]
    repeat (first | with_reducible refine gs_tf ?_ | with_reducible refine gs_ft ?_ | with_reducible refine gs_u ?_ | with_reducible refine pick_ti ?_ | with_reducible refine pick_fi ?_ | with_reducible refine ⟨gs_tf ⟨rfl, rfl⟩, ?_⟩ | with_reducible refine ⟨gs_ft ⟨rfl, rfl⟩, ?_⟩ | with_reducible refine ⟨gs_u ⟨rfl, rfl⟩, ?_⟩ | with_reducible refine gs_t ?_ | with_reducible refine gs_f ?_ | with_reducible refine off_i ?_ | with_reducible refine cndT ?_ | with_reducible refine cndF ?_)
    exact hR _ (by rw [decide_eq_false (by omega)]; rfl) _ s.ext
  rw [decide_eq_true h4]
  repeat (first | with_reducible refine gs_tf ?_ | with_reducible refine gs_ft ?_ | with_reducible refine gs_u ?_ | with_reducible refine pick_ti ?_ | with_reducible refine pick_fi ?_ | with_reducible refine ⟨gs_tf ⟨rfl, rfl⟩, ?_⟩ | with_reducible refine ⟨gs_ft ⟨rfl, rfl⟩, ?_⟩ | with_reducible refine ⟨gs_u ⟨rfl, rfl⟩, ?_⟩ | with_reducible refine gs_t ?_ | with_reducible refine gs_f ?_ | with_reducible refine off_i ?_ | with_reducible refine cndT ?_ | with_reducible refine cndF ?_)
  refine s.loadAll 0 rfl t.cells_len ?_
  repeat (first | with_reducible refine gs_tf ?_ | with_reducible refine gs_ft ?_ | with_reducible refine gs_u ?_ | with_reducible refine pick_ti ?_ | with_reducible refine pick_fi ?_ | with_reducible refine ⟨gs_tf ⟨rfl, rfl⟩, ?_⟩ | with_reducible refine ⟨gs_ft ⟨rfl, rfl⟩, ?_⟩ | with_reducible refine ⟨gs_u ⟨rfl, rfl⟩, ?_⟩ | with_reducible refine gs_t ?_ | with_reducible refine gs_f ?_ | with_reducible refine off_i ?_ | with_reducible refine cndT ?_ | with_reducible refine cndF ?_)
  refine fnW_of (by kernel_rfl) (tnodes_c (s.rat 0 rfl) hsz fun w2 e2 => ?_)
  have s := s.ext0 e2
  repeat (first | with_reducible refine gs_tf ?_ | with_reducible refine gs_ft ?_ | with_reducible refine gs_u ?_ | with_reducible refine pick_ti ?_ | with_reducible refine pick_fi ?_ | with_reducible refine ⟨gs_tf ⟨rfl, rfl⟩, ?_⟩ | with_reducible refine ⟨gs_ft ⟨rfl, rfl⟩, ?_⟩ | with_reducible refine ⟨gs_u ⟨rfl, rfl⟩, ?_⟩ | with_reducible refine gs_t ?_ | with_reducible refine gs_f ?_ | with_reducible refine off_i ?_ | with_reducible refine cndT ?_ | with_reducible refine cndF ?_)
  refine nleq (y := 3000) ?_
  by_cases h5 : t.size ≤ 3000
  case neg =>
    rw [decide_eq_false (by omega)]
    repeat (first | with_reducible refine gs_tf ?_ | with_reducible refine gs_ft ?_ | with_reducible refine gs_u ?_ | with_reducible refine pick_ti ?_ | with_reducible refine pick_fi ?_ | with_reducible refine ⟨gs_tf ⟨rfl, rfl⟩, ?_⟩ | with_reducible refine ⟨gs_ft ⟨rfl, rfl⟩, ?_⟩ | with_reducible refine ⟨gs_u ⟨rfl, rfl⟩, ?_⟩ | with_reducible refine gs_t ?_ | with_reducible refine gs_f ?_ | with_reducible refine off_i ?_ | with_reducible refine cndT ?_ | with_reducible refine cndF ?_)
    exact hR _ (by rw [decide_eq_false (by omega)]; rfl) _ s.ext
  rw [decide_eq_true (by omega)]
  repeat (first | with_reducible refine gs_tf ?_ | with_reducible refine gs_ft ?_ | with_reducible refine gs_u ?_ | with_reducible refine pick_ti ?_ | with_reducible refine pick_fi ?_ | with_reducible refine ⟨gs_tf ⟨rfl, rfl⟩, ?_⟩ | with_reducible refine ⟨gs_ft ⟨rfl, rfl⟩, ?_⟩ | with_reducible refine ⟨gs_u ⟨rfl, rfl⟩, ?_⟩ | with_reducible refine gs_t ?_ | with_reducible refine gs_f ?_ | with_reducible refine off_i ?_ | with_reducible refine cndT ?_ | with_reducible refine cndF ?_)
  refine s.loadAll 0 rfl t.cells_len ?_
  repeat (first | with_reducible refine gs_tf ?_ | with_reducible refine gs_ft ?_ | with_reducible refine gs_u ?_ | with_reducible refine pick_ti ?_ | with_reducible refine pick_fi ?_ | with_reducible refine ⟨gs_tf ⟨rfl, rfl⟩, ?_⟩ | with_reducible refine ⟨gs_ft ⟨rfl, rfl⟩, ?_⟩ | with_reducible refine ⟨gs_u ⟨rfl, rfl⟩, ?_⟩ | with_reducible refine gs_t ?_ | with_reducible refine gs_f ?_ | with_reducible refine off_i ?_ | with_reducible refine cndT ?_ | with_reducible refine cndF ?_)
  refine fnW_of (by kernel_rfl) (all_c t p v 0 (s.rat 0 rfl) (hg.keep s.ext (by simp)) hsz h3 (by omega) (by omega) fun w3 e3 => ?_)
  repeat (first | with_reducible refine gs_tf ?_ | with_reducible refine gs_ft ?_ | with_reducible refine gs_u ?_ | with_reducible refine pick_ti ?_ | with_reducible refine pick_fi ?_ | with_reducible refine ⟨gs_tf ⟨rfl, rfl⟩, ?_⟩ | with_reducible refine ⟨gs_ft ⟨rfl, rfl⟩, ?_⟩ | with_reducible refine ⟨gs_u ⟨rfl, rfl⟩, ?_⟩ | with_reducible refine gs_t ?_ | with_reducible refine gs_f ?_ | with_reducible refine off_i ?_ | with_reducible refine cndT ?_ | with_reducible refine cndF ?_)
  refine hR _ ?_ _ (s.ext.new e3)
  rw [decide_eq_true ⟨h1, h2, h3, h4, h5⟩, Bool.true_and]
end Go.Proofs.YtbaddpnlokmldaaDoor
