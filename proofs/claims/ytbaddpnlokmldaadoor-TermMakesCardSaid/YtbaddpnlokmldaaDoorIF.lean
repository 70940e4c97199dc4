/- A term's nodes ranged over; Loose, Uses: walks. Conditions: at most 10^6 nodes; the library's bound is a number. -/
import Derived.Test.YtbaddpnlokmldaaDoorIE
namespace Go.Proofs.YtbaddpnlokmldaaDoor
open Go
set_option maxRecDepth 100000

section
variable {S : List Nat} {w0 : World} {R : List Res}
theorem Sep.mid {w : World} {L M : List Res} {T : Res} (s : Sep S w0 w (T :: (L ++ M)) R) : Sep S w0 w (L ++ T :: M) R := s.perm List.perm_middle.symm
theorem Sep.unmid {w : World} {L M : List Res} {T : Res} (s : Sep S w0 w (L ++ T :: M) R) : Sep S w0 w (T :: (L ++ M)) R := s.perm List.perm_middle

set_option maxHeartbeats 800000 in
/-- The same, where the function that is called has things of its own in hand, which may grow. -/
theorem visit_s {fv : Value} {t0 : TV} {all : List (TV × Nat)} {Q : List (TV × Nat) → List Res → Prop} {F : List Res → Prop} (ht0 : rT t0 ∈ R)
    (hY : ∀ x p rest, p ++ x :: rest = all → ∀ (M L' : List Res) W K', Q p L' → Sep S w0 W (L' ++ M) R → (∀ L'' W', Q (p ++ [x]) L'' → Sep S w0 W' (L'' ++ M) R → K' (.bool true) W') → (∀ L'' W', F L'' → Sep S w0 W' (L'' ++ M) R → K' (.bool false) W') → dynW Tryd.prog fv #[x.1.v, .int .i64 x.2] W K') :
    ∀ (t : TV) (d : Nat) (pre post : List (TV × Nat)) (M L' : List Res) {W : World} {K : VPost}, pre ++ t.nodesV d ++ post = all → Q pre L' → Sep S w0 W (L' ++ M) R → (∀ w, t0.ok w → t.ok w) → t.size ≤ 1000000 → d + t.size ≤ 2 ^ 40 →
    (∀ L'' W', Q (pre ++ t.nodesV d) L'' → Sep S w0 W' (L'' ++ M) R → K (.bool true) W') → (∀ L'' W', F L'' → Sep S w0 W' (L'' ++ M) R → K (.bool false) W') → Calls Tryd.prog 44 #[t.v, .int .i64 d, fv] W (retK K) := by
  refine TV.ind fun k n nm ls lv av args ih d pre post M L' W K hal hq s hin hsz hd hKt hKf => ?_
  refine c44_calls _ _ _ W K ?_
  unfold c44
  have hszz : 1 + ls.length + TV.sizes args ≤ 1000000 := by rw [TV.size] at hsz; exact hsz
  have hd2 : d + (1 + ls.length + TV.sizes args) ≤ 2 ^ 40 := by rw [TV.size] at hd; exact hd
  have okS : ∀ {L W}, Sep S w0 W L R → TOk W (TV.mk k n nm ls lv av args) := fun s => tok_iff.1 (hin _ (s.rd (rT t0) ht0))
  have hk := okS s
  have ha1 : ∀ (w : World) (K : VPost), lenW Tryd.prog (some true) #[25] 3 #[av] w K = K (.int .i64 args.length) w := fun w K => RdSl.lenw hk.ar
  have hnv : (TV.mk k n nm ls lv av args).nodesV d = (TV.mk k n nm ls lv av args, d) :: TV.nodesVA k args 0 d := by rw [TV.nodesV]
  refine s.box fun b W1 s _ => ?_
  have s : Sep S w0 W1 (rB b [iv k, iv n, sv nm, lv, av] 27 :: (L' ++ M)) R := s
  refine s.loadAll 0 rfl rfl ?_
  refine hY (TV.mk k n nm ls lv av args, d) pre (TV.nodesVA k args 0 d ++ post) (by rw [← hal, hnv]; simp) _ L' W1 _ hq s.mid (fun L2 W2 hq2 s => ?_) (fun L2 W2 hf2 s => ?_)
  · refine not_ti ?_
    refine cndF ?_
    have s := s.unmid
    refine bindX_i fun J0 g0 => bindX_i fun J1 g1 => ?_
    refine off_i ?_
    refine s.load1 (v := av) 0 rfl rfl ?_
    rw [ha1]
    refine bindX_i fun J2 g2 => ?_
    refine loop_i (fun m fr wr => ∃ (i : Nat) (Li : List Res), m = args.length - i ∧ i ≤ args.length ∧ fr 1 = .int .i64 d ∧ fr 2 = fv ∧ fr 3 = .pointer (some ⟨b, 0, none⟩) ∧ fr 15 = av ∧ fr 16 = .int .i64 args.length ∧ fr 17 = .int .i64 i ∧ Q (pre ++ (TV.mk k n nm ls lv av args, d) :: TV.nodesVA k (args.take i) 0 d) Li ∧ Sep S w0 wr (rB b [iv k, iv n, sv nm, lv, av] 27 :: (Li ++ M)) R) args.length ?_ ?_
    · exact ⟨0, L2, rfl, by omega, rfl, rfl, rfl, rfl, rfl, rfl, hq2, s⟩
    · rintro m fr wr J ⟨i, Li, rfl, hi, f1, f2, f3, f15, f16, f17, hqi, s⟩ hJ hX
      have hal2 := len_sizes args
      rw [f16, f17]
      refine nlss (cond_d (fun hlt => ?_) (fun hlt => ?_))
      · rw [f15, f3, f1, f2]
        obtain ⟨b1, o1, hix, hld⟩ := (okS s).ar.term hlt .i64
        refine hix _ ?_
        refine hld _ ?_
        have hao : args[i].ok wr := (okS s).a _ (List.getElem_mem hlt)
        refine s.alloc zero_term rfl fun q w2 s _ => ?_
        refine s.storeAll (vs := args[i].cells) 0 rfl args[i].cells_len rfl (TV.one hao) fun w3 s _ => ?_
        have s : Sep S w0 w3 (rB q args[i].cells 27 :: rB b [iv k, iv n, sv nm, lv, av] 27 :: (Li ++ M)) R := s
        have s := s.drew
        generalize w3.drew = w3 at *
        refine s.loadAll 0 rfl args[i].cells_len ?_
        refine off_i ?_
        refine s.load1 (v := iv k) 1 rfl rfl ?_
        refine fnW_of (by kernel_rfl) (deeper_c fun w4 e4 => ?_)
        have s := s.ext0 e4
        refine ⟨s.loadAll 0 rfl args[i].cells_len ⟨rfl, rfl⟩, ?_⟩
        have hbl := bnd_le k i
        have hsi := sizes_le (List.getElem_mem hlt)
        refine nadd (by omega) ?_
        have s : Sep S w0 w4 (Li ++ rB b [iv k, iv n, sv nm, lv, av] 27 :: M) R := (s.drop 0).mid
        refine fnW_of (by kernel_rfl) (ih args[i] (List.getElem_mem hlt) (d + bndA k i) (pre ++ (TV.mk k n nm ls lv av args, d) :: TV.nodesVA k (args.take i) 0 d) (TV.nodesVA k (args.drop (i + 1)) (i + 1) d ++ post) _ Li ?_ hqi s (fun w h0 => (tok_iff.1 (hin w h0)).a _ (List.getElem_mem hlt)) (by omega) (by omega) (fun L5 W5 hq5 s => ?_) (fun L5 W5 hf5 s => ?_))
        · have hsp : args = args.take i ++ args[i] :: args.drop (i + 1) := by rw [← List.drop_eq_getElem_cons hlt, List.take_append_drop]
          have hlen : (args.take i).length = i := by rw [List.length_take]; omega
          have e : TV.nodesVA k args 0 d = TV.nodesVA k (args.take i) 0 d ++ (args[i].nodesV (d + bndA k i) ++ TV.nodesVA k (args.drop (i + 1)) (i + 1) d) := by
            conv => lhs; rw [hsp]
            rw [nodesVA_app, hlen, Nat.zero_add, TV.nodesVA]
          rw [← hal, hnv, e]
          simp
        · refine not_ti ?_
          refine cndF ?_
          refine nadd (y := 1) (by omega) ?_
          refine hJ (args.length - (i + 1)) _ _ (by omega) ⟨i + 1, L5, rfl, by omega, f1, f2, f3, f15, f16, rfl, ?_, s.unmid⟩
          rw [nodesVA_take hlt]
          rw [List.append_assoc, List.cons_append] at hq5
          exact hq5
        · refine not_ti ?_
          refine cndT ?_
          exact hX _ _ _ (by simp) (g2 _ _ _ (g1 _ _ _ (g0 _ _ _ (hKf L5 _ hf5 (s.unmid.drop 0)))))
      · obtain rfl : i = args.length := by omega
        rw [List.take_length] at hqi
        refine hX _ _ _ (by simp) (g2 _ _ _ (blk_x (seq_n g1 (hKt Li _ ?_ (s.drop 0)))))
        rw [hnv]
        exact hqi
  · refine not_ti ?_
    refine cndT ?_
    exact hKf L2 _ hf2 (s.unmid.drop 0)

set_option maxHeartbeats 800000 in
theorem rangeNodes_i {w : World} {L : List Res} {t : TV} {bt : Nat} {AB : Array Value → World → RoundT → Prop} {done : Nat → World → Prop} {stop : Exit → Nat → World → Prop} {Q : List (TV × Nat) → List Res → Prop} (ht : rT t ∈ R) (hsz : t.size ≤ 3000) (s : Sep S w0 w (rB bt t.cells 27 :: L) R) (h0 : Q [] L)
    (hAB : ∀ (l D : Nat) (rdy bsy : Obj) (dn : Exit → Obj) x p rest, p ++ x :: rest = t.nodesV 0 → ∀ (M L' : List Res) W (K' : Bool → World → Prop), Q p L' → Sep S w0 W (rX l rdy :: rX D dfr :: (L' ++ M)) (rT x.1 :: R) → (∀ L'' W', Q (p ++ [x]) L'' → Sep S w0 W' (rX l rdy :: rX D dfr :: (L'' ++ M)) R → K' true W') →
      AB #[x.1.v, .int .i64 x.2] W (fun W' F => W'.heap[l]? = some rdy ∧ W'.heap[D]? = some dfr ∧ F (W'.putObj l bsy) (rEnd false l D rdy bsy dn K')))
    (hdone : ∀ (l D : Nat) (ob : Obj) (M L' : List Res) W, Q (t.nodesV 0) L' → Sep S w0 W (rX l ob :: rX D dfr :: (L' ++ M)) R → done D W) :
    rangeH Tryd.prog false (.func (.func 60) #[] #[.pointer (some ⟨bt, 0, none⟩)]) 2 AB w done stop := by
  refine range_i (by kernel_rfl) s fun l D rdy bsy dn W1 hY s1 _ => ?_
  show Calls Tryd.prog _ #[.func (.yield l) #[] #[], .pointer (some ⟨bt, 0, none⟩)] W1 _
  refine c60_calls _ _ W1 _ ?_
  unfold c60
  refine s1.box fun byb W2 s _ => ?_
  refine s.alloc zero_int rfl fun bl W3 s _ => ?_
  refine s.store1 0 rfl rfl (by show 0 < 1; decide) rfl fun W4 s _ => ?_
  have s : Sep S w0 W4 (rB bl [.int .i64 3000] 3 :: rB byb [.func (.yield l) #[] #[]] 67 :: rX l rdy :: rX D dfr :: rB bt t.cells 27 :: L) R := s
  refine s.loadAll 4 rfl t.cells_len ?_
  refine mkfunc_i ?_
  refine fnW_of (by kernel_rfl) (visit_s (S := S) (w0 := w0) (t0 := t) (all := t.nodesV 0) (Q := fun p L2 => ∃ L', Q p L' ∧ L2 = rB bl [.int .i64 (3000 - wtS p : Nat)] 3 :: rB byb [.func (.yield l) #[] #[]] 67 :: rX l rdy :: rX D dfr :: L') (F := fun _ => False) ht ?_ t 0 [] [] [rB bt t.cells 27] (rB bl [.int .i64 3000] 3 :: rB byb [.func (.yield l) #[] #[]] 67 :: rX l rdy :: rX D dfr :: L) (by simp) ⟨L, h0, by simp [wtS]⟩ ?_ (fun w h => h) (by omega) (by omega) ?_ (fun _ _ h _ => False.elim h))
  · rintro x p rest hx M _ W K' ⟨L', hq, rfl⟩ s hT _
    have hxm : x ∈ t.nodesV 0 := mem_mid hx
    have hle := wtS_le hx
    have hw1 := wtS_one p x
    have s := s.node ht hxm
    obtain ⟨⟨k, n, nm, ls, lv, av, args⟩, dx⟩ := x
    have hk := tok_iff.1 (s.rat 0 rfl : TV.ok W (TV.mk k n nm ls lv av args))
    have hl1 : ∀ (w : World) (K : VPost), lenW Tryd.prog (some true) #[24] 3 #[lv] w K = K (.int .i64 ls.length) w := fun w K => RdSl.lenw hk.lr
    have hw1 : wtS (p ++ [(TV.mk k n nm ls lv av args, dx)]) = wtS p + (1 + ls.length) := hw1
    show fnW Tryd.prog 61 #[(TV.mk k n nm ls lv av args).v, .int .i64 dx, .pointer (some ⟨bl, 0, none⟩), .pointer (some ⟨byb, 0, none⟩)] W K'
    refine fnW_of (by kernel_rfl) (c61_calls _ _ _ _ W K' ?_)
    unfold c61
    refine s.box fun bx W2 s _ => ?_
    have s : Sep S w0 W2 (rB bx [iv k, iv n, sv nm, lv, av] 27 :: rB bl [.int .i64 (3000 - wtS p : Nat)] 3 :: rB byb [.func (.yield l) #[] #[]] 67 :: rX l rdy :: rX D dfr :: (L' ++ M)) (rT (TV.mk k n nm ls lv av args) :: R) := s
    repeat (first | with_reducible refine gs_tf ?_ | with_reducible refine gs_ft ?_ | with_reducible refine gs_u ?_ | with_reducible refine pick_ti ?_ | with_reducible refine pick_fi ?_ | with_reducible refine ⟨gs_tf ⟨rfl, rfl⟩, ?_⟩ | with_reducible refine ⟨gs_ft ⟨rfl, rfl⟩, ?_⟩ | with_reducible refine ⟨gs_u ⟨rfl, rfl⟩, ?_⟩ | with_reducible refine gs_t ?_ | with_reducible refine gs_f ?_ | with_reducible refine off_i ?_ | with_reducible refine cndT ?_ | with_reducible refine cndF ?_ | (with_reducible show loadW _ _ _ _; first | refine s.load1 0 rfl rfl ?_ | refine s.load1 1 rfl rfl ?_ | refine s.load1 2 rfl rfl ?_))
    rw [hl1]
    refine nadd (x := 1) (by omega) ?_
    refine nsub (by omega) (by omega) ?_
    refine s.store1 1 rfl rfl (by show 0 < 1; decide) rfl fun W3 s _ => ?_
    have s : Sep S w0 W3 (rB bx [iv k, iv n, sv nm, lv, av] 27 :: rB bl [.int .i64 (3000 - wtS p - (1 + ls.length) : Nat)] 3 :: rB byb [.func (.yield l) #[] #[]] 67 :: rX l rdy :: rX D dfr :: (L' ++ M)) (rT (TV.mk k n nm ls lv av args) :: R) := s
    repeat (first | with_reducible refine gs_tf ?_ | with_reducible refine gs_ft ?_ | with_reducible refine gs_u ?_ | with_reducible refine pick_ti ?_ | with_reducible refine pick_fi ?_ | with_reducible refine ⟨gs_tf ⟨rfl, rfl⟩, ?_⟩ | with_reducible refine ⟨gs_ft ⟨rfl, rfl⟩, ?_⟩ | with_reducible refine ⟨gs_u ⟨rfl, rfl⟩, ?_⟩ | with_reducible refine gs_t ?_ | with_reducible refine gs_f ?_ | with_reducible refine off_i ?_ | with_reducible refine cndT ?_ | with_reducible refine cndF ?_ | (with_reducible show loadW _ _ _ _; first | refine s.load1 0 rfl rfl ?_ | refine s.load1 1 rfl rfl ?_ | refine s.load1 2 rfl rfl ?_))
    refine ngeq (y := 0) ?_
    rw [decide_eq_true (Nat.zero_le _)]
    repeat (first | with_reducible refine gs_tf ?_ | with_reducible refine gs_ft ?_ | with_reducible refine gs_u ?_ | with_reducible refine pick_ti ?_ | with_reducible refine pick_fi ?_ | with_reducible refine ⟨gs_tf ⟨rfl, rfl⟩, ?_⟩ | with_reducible refine ⟨gs_ft ⟨rfl, rfl⟩, ?_⟩ | with_reducible refine ⟨gs_u ⟨rfl, rfl⟩, ?_⟩ | with_reducible refine gs_t ?_ | with_reducible refine gs_f ?_ | with_reducible refine off_i ?_ | with_reducible refine cndT ?_ | with_reducible refine cndF ?_ | (with_reducible show loadW _ _ _ _; first | refine s.load1 0 rfl rfl ?_ | refine s.load1 1 rfl rfl ?_ | refine s.load1 2 rfl rfl ?_))
    refine s.loadAll 0 rfl rfl ?_
    repeat (first | with_reducible refine gs_tf ?_ | with_reducible refine gs_ft ?_ | with_reducible refine gs_u ?_ | with_reducible refine pick_ti ?_ | with_reducible refine pick_fi ?_ | with_reducible refine ⟨gs_tf ⟨rfl, rfl⟩, ?_⟩ | with_reducible refine ⟨gs_ft ⟨rfl, rfl⟩, ?_⟩ | with_reducible refine ⟨gs_u ⟨rfl, rfl⟩, ?_⟩ | with_reducible refine gs_t ?_ | with_reducible refine gs_f ?_ | with_reducible refine off_i ?_ | with_reducible refine cndT ?_ | with_reducible refine cndF ?_)
    show dynW Tryd.prog (.func (.yield l) #[] #[]) #[(TV.mk k n nm ls lv av args).v, .int .i64 dx] W3 _
    have s := (s.drop 0)
    have s : Sep S w0 W3 (rX l rdy :: rX D dfr :: (L' ++ (rB bl [.int .i64 (3000 - wtS p - (1 + ls.length) : Nat)] 3 :: rB byb [.func (.yield l) #[] #[]] 67 :: M))) (rT (TV.mk k n nm ls lv av args) :: R) := by
      refine s.perm ?_
      refine List.Perm.trans (l₂ := rX l rdy :: rX D dfr :: (rB bl [.int .i64 (3000 - wtS p - (1 + ls.length) : Nat)] 3 :: rB byb [.func (.yield l) #[] #[]] 67 :: (L' ++ M))) ?_ ?_
      · exact (List.perm_append_comm (l₁ := [_, _]) (l₂ := [_, _])).append_right _
      · refine List.Perm.cons _ (List.Perm.cons _ ?_)
        refine List.Perm.trans (l₂ := rB bl [.int .i64 (3000 - wtS p - (1 + ls.length) : Nat)] 3 :: (L' ++ (rB byb [.func (.yield l) #[] #[]] 67 :: M))) (List.Perm.cons _ List.perm_middle.symm) List.perm_middle.symm
    refine hY.call rfl s ?_
    refine hAB l D rdy bsy dn (TV.mk k n nm ls lv av args, dx) p rest hx _ L' W3 _ hq s fun L2 W5 hq2 s => ?_
    repeat (first | with_reducible refine gs_tf ?_ | with_reducible refine gs_ft ?_ | with_reducible refine gs_u ?_ | with_reducible refine pick_ti ?_ | with_reducible refine pick_fi ?_ | with_reducible refine ⟨gs_tf ⟨rfl, rfl⟩, ?_⟩ | with_reducible refine ⟨gs_ft ⟨rfl, rfl⟩, ?_⟩ | with_reducible refine ⟨gs_u ⟨rfl, rfl⟩, ?_⟩ | with_reducible refine gs_t ?_ | with_reducible refine gs_f ?_ | with_reducible refine off_i ?_ | with_reducible refine cndT ?_ | with_reducible refine cndF ?_)
    refine hT (rB bl [.int .i64 (3000 - wtS (p ++ [(TV.mk k n nm ls lv av args, dx)]) : Nat)] 3 :: rB byb [.func (.yield l) #[] #[]] 67 :: rX l rdy :: rX D dfr :: L2) W5 ⟨L2, hq2, rfl⟩ ?_
    rw [hw1, ← Nat.sub_sub]
    refine s.perm ?_
    refine List.Perm.trans (l₂ := rX l rdy :: rX D dfr :: (rB bl [.int .i64 (3000 - wtS p - (1 + ls.length) : Nat)] 3 :: rB byb [.func (.yield l) #[] #[]] 67 :: (L2 ++ M))) ?_ ?_
    · refine List.Perm.cons _ (List.Perm.cons _ ?_)
      exact List.Perm.trans (l₂ := rB bl [.int .i64 (3000 - wtS p - (1 + ls.length) : Nat)] 3 :: (L2 ++ (rB byb [.func (.yield l) #[] #[]] 67 :: M))) List.perm_middle (List.Perm.cons _ List.perm_middle)
    · exact (List.perm_append_comm (l₁ := [_, _]) (l₂ := [_, _])).append_right _
  · refine s.perm ?_
    exact List.Perm.cons _ (List.Perm.cons _ (List.Perm.cons _ (List.Perm.cons _ (List.perm_append_comm (l₁ := [_])))))
  · rintro _ W' ⟨L', hq, rfl⟩ s
    rw [List.nil_append] at hq
    have s : Sep S w0 W' (rX l rdy :: rX D dfr :: (L' ++ (rB bl [.int .i64 (3000 - wtS (t.nodesV 0) : Nat)] 3 :: rB byb [.func (.yield l) #[] #[]] 67 :: [rB bt t.cells 27]))) R := by
      refine s.perm ?_
      refine List.Perm.trans (l₂ := rX l rdy :: rX D dfr :: (rB bl [.int .i64 (3000 - wtS (t.nodesV 0) : Nat)] 3 :: rB byb [.func (.yield l) #[] #[]] 67 :: (L' ++ [rB bt t.cells 27]))) ?_ ?_
      · exact (List.perm_append_comm (l₁ := [_, _]) (l₂ := [_, _])).append_right _
      · refine List.Perm.cons _ (List.Perm.cons _ ?_)
        exact List.Perm.trans (l₂ := rB bl [.int .i64 (3000 - wtS (t.nodesV 0) : Nat)] 3 :: (L' ++ (rB byb [.func (.yield l) #[] #[]] 67 :: [rB bt t.cells 27]))) (List.Perm.cons _ List.perm_middle.symm) List.perm_middle.symm
    refine ⟨s.at 1 rfl, .inl ⟨s.at 0 rfl, fun ob => ?_⟩⟩
    exact hdone l D ob _ L' _ hq (s.putX ob)
end
end Go.Proofs.YtbaddpnlokmldaaDoor
