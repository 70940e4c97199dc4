/- Ranges over functions by yield's own rule; slices.Backward; term.Bind: walks. -/
import Derived.Test.YtbaddpnlokmldaaDoorI6
namespace Go.Proofs.YtbaddpnlokmldaaDoor
open Go
set_option maxRecDepth 100000

/-- A block with whatever in it. -/
def rX (b : Nat) (o : Obj) : Res := ⟨[b], fun w => w.heap[b]? = some o, fun {w} h x hx => by
  simp at hx; subst hx
  exact (Array.getElem?_eq_some_iff.1 h).1, fun {S w w'} h e hd => by
    have hb := (Array.getElem?_eq_some_iff.1 h).1
    rw [e.same b hb (hd b (by simp))]; exact h⟩
abbrev dfr : Obj := .deferred (some [])
theorem Ext.putObj (w : World) (l : Nat) (o : Obj) : Ext [l] w (w.putObj l o) :=
  have h := grownBy_putObj' w l o
  ⟨h.os, h.tape, h.output, h.size, fun b hb hn => h.block b hb (fun e => hn (by
    have e : some b = some l := e
    simp only [Option.some.injEq] at e
    subst e; simp))⟩
theorem Ext.allocO (w : World) (o : Obj) : Ext [] w (w.alloc o) := ⟨rfl, rfl, rfl, by simp, fun b hb _ => RowKit.Below.heap_alloc w o b hb⟩

/-- How a round may end. -/
abbrev rEnd (esc : Bool) (l D : Nat) (rdy bsy : Obj) (dn : Exit → Obj) (R : Bool → World → Prop) : XPost := fun e _ W3 => W3.heap[l]? = some bsy ∧ W3.heap[D]? = some dfr ∧ match e with
      | .normal => R true (W3.putObj l rdy)
      | .ret => match esc with | true => R false (W3.putObj l (dn .ret)) | false => False
      | .exit id => match esc with | true => R false (W3.putObj l (dn (.exit id))) | false => False
      | _ => False
/-- What a call of yield asks and gives. -/
def YieldR (P : Program) (esc : Bool) (np : Nat) (AB : Array Value → World → RoundT → Prop) (l D : Nat) (rdy bsy : Obj) (dn : Exit → Obj) : Prop :=
  ∀ (args : Array Value) (W : World) (R : Bool → World → Prop), args.size = np → W.heap[l]? = some rdy → W.heap[D]? = some dfr →
    AB args W (fun W' F => W'.heap[l]? = some rdy ∧ W'.heap[D]? = some dfr ∧ F (W'.putObj l bsy) (rEnd esc l D rdy bsy dn R)) →
    YieldAt Fence.wide 0 P l args W fun e W' => ∃ b, e = .returned (.bool b) ∧ R b W'

section
variable {S : List Nat} {w0 w : World} {L R : List Res} {K : VPost}
theorem Sep.putX {l : Nat} {a : Obj} (s : Sep S w0 w (rX l a :: L) R) (o : Obj) : Sep S w0 (w.putObj l o) (rX l o :: L) R := by
  have h : w.heap[l]? = some a := s.at 0 rfl
  exact s.upd 0 rfl (T := rX l a) (T' := rX l o) (World.putObj_heap_same (Array.getElem?_eq_some_iff.1 h).1) (Ext.putObj w l o) (fun b hb => .inl hb)
theorem range_i {P : Program} {esc : Bool} {gf : Nat} {lb : Array Value} {np : Nat} {AB : Array Value → World → RoundT → Prop} {done : Nat → World → Prop} {stop : Exit → Nat → World → Prop} (he : entersB P gf = true) (s : Sep S w0 w L R)
    (h : ∀ l D rdy bsy dn W1, YieldR P esc np AB l D rdy bsy dn → Sep S w0 W1 (rX l rdy :: rX D dfr :: L) R → Ext [] w W1 →
      Calls P gf (#[.func (.yield l) #[] #[]] ++ lb) W1 (retK fun _ W' => W'.heap[D]? = some dfr ∧ ((W'.heap[l]? = some rdy ∧ ∀ o, done D (W'.putObj l o)) ∨ (esc = true ∧ ∃ e, (e = .ret ∨ ∃ id, e = .exit id) ∧ W'.heap[l]? = some (dn e) ∧ ∀ o, stop e D (W'.putObj l o))))) :
    rangeH P esc (.func (.func gf) #[] lb) np AB w done stop := by
  refine .inr ⟨gf, lb, rfl, fun args w => ?_, fun l D W1 rdy bsy dn hl hD hW1 hY => ?_⟩
  · unfold entersB at he
    unfold callFunc
    cases hf : P.funcs[gf]? with
    | none => simp [hf] at he
    | some fn =>
      simp only [hf, Bool.and_eq_true, bne_iff_ne, ne_eq] at he
      obtain ⟨h1, h2⟩ := he
      have h3 : fn.body.isNone = false := by cases hb : fn.body <;> simp [hb] at h1 ⊢
      simp only [Sem.run_bind, Go.program, Sem.run, Result.andThen_ok, hf, beq_iff_eq, h2, if_false, h3, Bool.false_eq_true, Sem.run_pure]
  · subst hl hD hW1
    have s1 := s.add (T := rX w.heap.size dfr) (w' := w.alloc dfr) (World.alloc_heap_new w _) (Ext.allocO _ _) (by simp [rX])
    have hsz : (w.alloc dfr).heap.size = w.heap.size + 1 := by simp
    have s2 := s1.add (T := rX (w.heap.size + 1) rdy) (w' := (w.alloc dfr).alloc rdy) (by rw [← hsz]; exact World.alloc_heap_new _ _) (Ext.allocO _ _) (by
      intro b hb
      simp [rX] at hb
      omega)
    refine (h _ _ rdy bsy dn _ hY s2 ((Ext.allocO _ _).new (Ext.allocO _ _))).mono fun e W' hr => ?_
    cases e with
    | returned v => exact ⟨⟨v, rfl⟩, hr⟩
    | _ => exact hr.elim
/-- A call of yield. -/
theorem YieldR.call {P : Program} {esc : Bool} {np : Nat} {AB : Array Value → World → RoundT → Prop} {l D : Nat} {rdy bsy : Obj} {dn : Exit → Obj} (hY : YieldR P esc np AB l D rdy bsy dn) {args : Array Value} (hs : args.size = np) (s : Sep S w0 w (rX l rdy :: rX D dfr :: L) R)
    (h : AB args w (fun W' F => W'.heap[l]? = some rdy ∧ W'.heap[D]? = some dfr ∧ F (W'.putObj l bsy) (rEnd esc l D rdy bsy dn fun b W => K (.bool b) W))) : dynW P (.func (.yield l) #[] #[]) args w K :=
  yield_i (hY args w (fun b W => K (.bool b) W) hs (s.at 0 rfl) (s.at 1 rfl) h) fun e W' he => by
    obtain ⟨b, rfl, hR⟩ := he
    exact hR
end

theorem backward_w {l b1 : Nat} {x : Value} {ts : List TV} {W : World} {K : VPost} (Inv : Nat → World → Prop) (hn : ts.length < 2 ^ 50) (hx : ∀ i W, Inv i W → RBlk W b1 [x] ∧ RdSl W x 5 (tcs ts) ts.length)
    (hY : ∀ i (hi : i < ts.length) W (K : VPost), Inv (i + 1) W → (∀ W', Inv i W' → K (.bool true) W') → dynW Tryd.prog (.func (.yield l) #[] #[]) #[.int .i64 i, ts[i].v] W K)
    (h0 : Inv ts.length W) (hK : ∀ W', Inv 0 W' → K (.tuple #[]) W') : Calls Tryd.prog 55 #[.func (.yield l) #[] #[], .pointer (some ⟨b1, 0, none⟩)] W (retK K) := by
  refine c55_calls _ _ W K ?_
  unfold c55
  refine load1 (hx _ _ h0).1 (v := x) rfl ?_
  rw [(hx _ _ h0).2.lenw]
  refine isub (by omega) ?_
  refine bindX_i fun J0 g0 => bindX_i fun J1 g1 => ?_
  refine loop_i (fun m fr wr => ∃ i : Nat, m = i ∧ i ≤ ts.length ∧ fr 0 = .func (.yield l) #[] #[] ∧ fr 1 = .pointer (some ⟨b1, 0, none⟩) ∧ fr 3 = .int .i64 ((i : Int) - 1) ∧ Inv i wr) ts.length ?_ ?_
  · exact ⟨_, rfl, Nat.le_refl _, rfl, rfl, rfl, h0⟩
  · rintro m fr wr J ⟨i, rfl, hi, f0, f1, f3, inv⟩ hJ hX
    rw [f0, f1, f3, igeq]
    refine cond_d (fun hlt => ?_) (fun hlt => ?_)
    · obtain ⟨i, rfl⟩ : ∃ j, m = j + 1 := ⟨m - 1, by omega⟩
      have hlt : i < ts.length := by omega
      have hi1 : ((i + 1 : Nat) : Int) - 1 = (i : Int) := by omega
      rw [hi1]
      refine load1 (hx _ _ inv).1 (v := x) rfl ?_
      obtain ⟨b2, o2, hix, hld⟩ := (hx _ _ inv).2.term hlt .i64
      refine hix _ ?_
      refine hld _ ?_
      refine hY i hlt wr _ inv fun W' inv' => ?_
      refine not_ti ?_
      refine cndF ?_
      refine isub (by omega) ?_
      exact hJ i _ _ (by omega) ⟨i, rfl, by omega, f0, f1, rfl, inv'⟩
    · obtain rfl : m = 0 := by omega
      exact hX _ _ _ (by simp) (g1 _ _ _ (blk_x (g0 _ _ _ (hK wr inv))))

set_option maxHeartbeats 800000 in
theorem bind_c {w : World} {K : VPost} {kd : Int} {f : TV} {x : Value} {ts : List TV} (hkd : i64ok kd) (hf : f.ok w) (hfs : f.size ≤ 1000000) (hx : RdSl w x 5 (tcs ts) ts.length) (hts : ∀ t ∈ ts, t.ok w) (hss : ∀ t ∈ ts, t.size ≤ 1000000) (hn : ts.length < 2 ^ 50)
    (hK : ∀ (o : TV) w', o.e = bindT kd f.e (ts.map TV.e) → o.ok w' → (∀ b ∈ o.foot, w.heap.size ≤ b) → Ext [] w w' → K o.v w') : Calls Tryd.prog 13 #[.int .i64 kd, f.v, x] w (retK K) := by
  refine c13_calls _ _ _ w K ?_
  unfold c13
  refine (Sep.zero1 (U := rT f) hf).box fun bk w1 s _ => ?_
  refine s.box fun b w2 s _ => ?_
  have s : Sep [] w w2 (rB b f.cells 27 :: rB bk [.int .i64 kd] 3 :: []) (rT f :: []) := s
  refine s.alloc zero_term rfl fun r w3 s _ => ?_
  have s : Sep [] w w3 (rB r zT 27 :: rB b f.cells 27 :: rB bk [.int .i64 kd] 3 :: []) (rT f :: []) := s
  refine s.loadAll 1 rfl f.cells_len ?_
  refine fnW_of (by kernel_rfl) (clone_c f (TV.keep s.ext hf) hfs fun f' w4 he hok hft e4 => ?_)
  have hft2 : ∀ b ∈ f'.foot, w.heap.size ≤ b := fun b hb => Nat.le_trans s.ext.size (hft b hb)
  have s := s.madeT hok e4 hft
  refine s.alloc zero_term rfl fun q w5 s _ => ?_
  refine s.storeAll (vs := f'.cells) 0 rfl f'.cells_len rfl (TV.one (s.rd (rT f') (by simp))) fun w6 s _ => ?_
  refine fnW_of (by kernel_rfl) (c37_calls _ _ _ ?_)
  unfold c37
  refine s.box fun b1 w7 s _ => ?_
  obtain ⟨xa, xc, hxv⟩ := hx.len
  have hxc : x.cells.toList = [x] := by rw [hxv]; rfl
  rw [hxc] at s
  refine mkfunc_i ?_
  have s : Sep [] w w7 (rB b1 [x] 25 :: rB q f'.cells 27 :: rB r zT 27 :: rB b f.cells 27 :: rB bk [.int .i64 kd] 3 :: []) (rT f' :: []) := s.less (fun T hT => by
    rw [List.mem_singleton] at hT
    subst hT; simp)
  refine range_i (by kernel_rfl) s fun l D rdy bsy dn W1 hY s1 _ => ?_
  show Calls Tryd.prog _ #[.func (.yield l) #[] #[], .pointer (some ⟨b1, 0, none⟩)] W1 _
  refine backward_w (x := x) (ts := ts) (fun i W => ∃ o : TV, o.e = bindT kd f.e ((ts.drop i).map TV.e) ∧ (∀ b ∈ o.foot, w.heap.size ≤ b) ∧
    Sep [] w W (rX l rdy :: rX D dfr :: rB b1 [x] 25 :: rB q o.cells 27 :: rB r zT 27 :: rB b f.cells 27 :: rB bk [.int .i64 kd] 3 :: []) (rT o :: [])) hn ?_ ?_ ?_ ?_
  · rintro i W ⟨o, _, _, s⟩
    exact ⟨Blk.r (s.at 2 rfl), hx.keep s.ext (by simp)⟩
  · rintro i hi W K' ⟨o, heq, hfr, s⟩ hK'
    refine hY.call rfl s ?_
    show allocW _ _ W _
    refine s.alloc zero_term rfl fun p w8 s _ => ?_
    have hti : ts[i].ok w8 := TV.keep s.ext (hts _ (List.getElem_mem hi))
    show storeW _ _ ts[i].v w8 _
    refine s.storeAll (vs := ts[i].cells) 0 rfl ts[i].cells_len rfl (TV.one hti) fun w9 s _ => ?_
    have s : Sep [] w w9 (rB p ts[i].cells 27 :: rX l rdy :: rX D dfr :: rB b1 [x] 25 :: rB q o.cells 27 :: rB r zT 27 :: rB b f.cells 27 :: rB bk [.int .i64 kd] 3 :: []) (rT o :: []) := s
    refine ⟨s.at 1 rfl, s.at 2 rfl, ?_⟩
    have s := s.swap.putX bsy
    have s : Sep [] w _ (rX l bsy :: rB p ts[i].cells 27 :: rX D dfr :: rB b1 [x] 25 :: rB q o.cells 27 :: rB r zT 27 :: rB b f.cells 27 :: rB bk [.int .i64 kd] 3 :: []) (rT o :: []) := s
    show loadW _ _ (w9.putObj l bsy).drew _
    have s := s.drew
    generalize (w9.putObj l bsy).drew = w9 at *
    refine s.load1 7 rfl rfl ?_
    refine s.loadAll 1 rfl ts[i].cells_len ?_
    refine s.loadAll 4 rfl o.cells_len ?_
    refine fnW_of (by kernel_rfl) (clone_c ts[i] (TV.keep s.ext (hts _ (List.getElem_mem hi))) (hss _ (List.getElem_mem hi)) fun a w10 hea hoka hfa e10 => ?_)
    have hfa2 : ∀ b ∈ a.foot, w.heap.size ≤ b := fun b hb => Nat.le_trans s.ext.size (hfa b hb)
    have s := s.madeT hoka e10 hfa
    refine ⟨s.load1 7 rfl rfl ⟨rfl, rfl⟩, ?_⟩
    refine ⟨s.loadAll 4 rfl o.cells_len ⟨rfl, rfl⟩, ?_⟩
    refine s.litT2 a o fun vl w11 s => ?_
    have hvl := s.fresh 0 rfl
    have o2 : OwnAt w11 vl 27 5 (tcs [a, o]) 2 := s.at 0 rfl
    have s := s.mkNode (k := kd) hkd (by simp) (by simp)
    refine ⟨s.load1 7 rfl rfl ⟨rfl, rfl⟩, ?_⟩
    refine build_i str_term (fill_node kd (slice_one o2.rd).2) ?_
    refine s.storeAll (vs := (nodeV kd vl a o).cells) 4 rfl rfl o.cells_len (TV.one (s.rd (rT (nodeV kd vl a o)) (by simp))) fun w12 s _ => ?_
    refine ⟨s.at 0 rfl, s.at 2 rfl, ?_⟩
    have s := (s.putX rdy).drop 1
    refine hK' _ ⟨nodeV kd vl a o, ?_, nodeV_fresh hvl hfa2 hfr, s.less (fun T hT => ?_)⟩
    · rw [bindT_drop hi, nodeV_e, heq, hea]
    · rw [List.mem_singleton] at hT
      subst hT; simp
  · exact ⟨f', by rw [List.drop_length]; exact he, hft2, s1⟩
  · rintro W' ⟨o, heq, hfr, s⟩
    rw [List.drop_zero] at heq
    refine ⟨s.at 1 rfl, .inl ⟨s.at 0 rfl, fun ob => ?_⟩⟩
    have s := (s.putX ob).drop 0
    refine s.loadAll 2 rfl o.cells_len ?_
    refine s.storeAll (vs := o.cells) 3 rfl o.cells_len rfl (TV.one (s.rd (rT o) (by simp))) fun w8 s _ => ?_
    refine ⟨s.at 0 rfl, fun W8 hW8 => ?_⟩
    subst hW8
    have s := (s.putX (.deferred none)).drop 0
    refine s.loadAll 2 rfl o.cells_len ?_
    exact hK o _ heq (s.rd (rT o) (by simp)) hfr s.ext
end Go.Proofs.YtbaddpnlokmldaaDoor
