/- The law that bytes that are a frame are that of the parts that are told: its walk. -/
import Derived.Test.YtedebapgmfnflaaTD
namespace Go.Proofs.Ytedebapgmfnflaa
open Go
set_option maxRecDepth 100000

theorem bool_neq {P : Program} {w : World} {K : VPost} {t : TypeId} {c : Bool} {a b : Bool} (hu : P.underlying t = some .bool) (h : K (.bool (!(a == b))) w) : binW P .neq t c (.bool a) (.bool b) w K := by
  refine (bin_nequal (fun _ => by cases c <;> rfl) rfl ?_).mpr h
  show (Op.equalIn (9999 + 1) t _ _).run P w = _
  unfold Op.equalIn
  rw [Sem.run_bind, run_und hu]
  rfl
theorem rows_nil (w : World) : RowsR w (.slice none 0 0) [] [] := ⟨⟨rfl, .inl ⟨rfl, _, _, rfl⟩⟩, trivial⟩

set_option maxHeartbeats 2000000 in
theorem unframesLaw_walk {w : World} {K : VPost} {x : Value} {l : Bytes} (hx : RdSl w x 1 (bc l) l.length) (hc : capOk x) (hK : ∀ w', Ext [] w w' → K (.bool true) w') :
    Calls Try.prog 15 #[x] w (retK K) := by
  refine c15_calls _ w K ?_
  unfold c15
  refine fnW_of (by kernel_rfl) (alive2_c fun w1 e => ?_)
  have s := (Sep.zero1 (U := rR x 1 (bc l) l.length) hx).ext0 e
  rw [notN, Bool.not_true, condW_f]
  obtain ⟨xa, xc, hxa⟩ := hx.len
  have hlen : ∀ (w : World) (K : VPost), lenW Try.prog (some true) #[34] 3 #[x] w K = K (.int .i64 l.length) w := fun w K => by rw [hxa, len_s]
  rw [hlen]
  refine ngtr (y := 2000) (cond_d (fun _ => hK _ s.ext) (fun hle => ?_))
  refine fnW_of (by kernel_rfl) (copyBytes_c (s.rat 0 rfl) (by omega) fun o w2 ho e hf => ?_)
  have s := s.add (T := rDb o l) ho.at e hf
  have same : ∀ w', RdSl w' o 1 (bc l) l.length → Ext [] w w' → RdSl w' x 1 (bc l) l.length → ∀ K : VPost, (∀ w2, Ext [] w' w2 → K (.bool true) w2) → fnW Try.prog 30 #[o, x] w' K := by
    intro w' h1 _ h2 K hK
    refine fnW_of (by kernel_rfl) (sameBytes_c h1 h2 (by omega) fun w3 e => ?_)
    have := hK w3 e
    rw [decide_eq_true rfl]
    exact this
  refine fnW_of (by kernel_rfl) (unframe_c ho.rd ho.cap (by omega) (fun hno w3 e3 => ?_) (fun ls hls v hs w3 Q s2 hhs => ?_))
  · have s := s.ext0 e3
    rw [extr0, extr1]
    refine fnW_of (by kernel_rfl) (runframe_c (s.rat 0 rfl) hc (by omega) (fun _ w4 e4 => ?_) (fun ls hls => ?_))
    · have s := s.ext0 e4
      rw [extr0, extr1]
      refine bool_neq und_boolB ?_
      rw [show (!(false == false)) = false from rfl]
      repeat with_reducible refine gs_f ?_
      refine fnW_of (by kernel_rfl) (same_c (rows_nil w4) (rows_nil w4) (by decide) (by simp) fun w5 e => ?_)
      have s := s.ext0 e
      rw [decide_eq_true rfl]
      repeat with_reducible refine gs_f ?_
      rw [notN, Bool.not_true]
      refine pick_fi ?_
      repeat with_reducible refine gs_f ?_
      refine same _ (OwnAt.rd (s.at 0 rfl)) s.ext (s.rat 0 rfl) _ fun w6 e => ?_
      have s := s.ext0 e
      repeat with_reducible refine gs_f ?_
      rw [notN, Bool.not_true]
      refine pick_fi ?_
      rw [condW_f, notN, Bool.not_false]
      repeat with_reducible refine gs_t ?_
      rw [len_s]
      repeat with_reducible refine gs_t ?_
      refine neql (x := 0) (y := 0) ?_
      rw [decide_eq_true rfl]
      refine pick_ti ?_
      repeat with_reducible refine gs_tf ?_
      refine pick_ti ?_
      exact hK _ s.ext
    · rw [hno] at hls; cases hls
  · have s := s.ext0 s2.ext
    have hl : RowsR w3 v hs ls := ⟨by rw [hhs]; exact OwnAt.rd (s2.at 1 rfl), s2.at 0 rfl⟩
    have hfr := frame_unframe hls
    have hfb : (frameB ls).length = 4 + (frameL ls).length := by rw [frameB, List.length_append, le4_length]
    have hfl := frameL_length ls
    have hll : l.length = 4 + (frameL ls).length := by rw [← hfr, hfb]
    rw [extr0, extr1]
    have hown : OwnAt w2 o 5 1 (bc l) l.length := ho.at
    have s := s.addR (T := rW v hs ls) hl (fun U hU b hb hm => by
      rw [List.mem_singleton] at hU
      subst hU
      have h1 := hown.lt b hb
      have h2 : w2.heap.size ≤ b := by
        rcases List.mem_append.1 hm with hm | hm
        · exact s2.fresh 1 rfl b (rdB_slB (ys := bc [0]) (by
            unfold rdB at hm ⊢
            cases hs with
            | nil => cases hm
            | cons y r => exact hm))
        · exact s2.fresh 0 rfl b hm
      omega)
    have s : Sep [] w w3 [rDb o l] [rW v hs ls, rR x 1 (bc l) l.length] := s
    refine fnW_of (by kernel_rfl) (runframe_c (s.rat 1 rfl) hc (by omega) (fun hno => ?_) (fun ls' hls' v' hs' w4 Q' s3 hhs' => ?_))
    · rw [hls] at hno; cases hno
    rw [hls] at hls'
    obtain rfl := Option.some.inj hls'
    have s := s.ext0 s3.ext
    have hl' : RowsR w4 v' hs' ls := ⟨by rw [hhs']; exact OwnAt.rd (s3.at 1 rfl), s3.at 0 rfl⟩
    have hone : ∀ y ∈ ls, y.length < 2 ^ 62 := by
      intro y hy
      have := each_le (ls := ls) (m := ls.flatten.length + ls.length) (Nat.le_refl _) y hy
      omega
    rw [extr0, extr1]
    refine bool_neq und_boolB ?_
    rw [show (!(true == true)) = false from rfl]
    repeat with_reducible refine gs_f ?_
    refine fnW_of (by kernel_rfl) (same_c (s.rat 0 rfl) hl' (by omega) hone fun w5 e => ?_)
    have s := s.ext0 e
    rw [decide_eq_true rfl]
    repeat with_reducible refine gs_f ?_
    rw [notN, Bool.not_true]
    refine pick_fi ?_
    repeat with_reducible refine gs_f ?_
    refine same _ (OwnAt.rd (s.at 0 rfl)) s.ext (s.rat 1 rfl) _ fun w6 e => ?_
    have s := s.ext0 e
    repeat with_reducible refine gs_f ?_
    rw [notN, Bool.not_true]
    refine pick_fi ?_
    rw [condW_f, notN, Bool.not_true]
    repeat with_reducible refine gs_ft ?_
    refine pick_fi ?_
    repeat with_reducible refine gs_f ?_
    repeat with_reducible refine gs_t ?_
    refine fnW_of (by kernel_rfl) (frame_c (s.rat 0 rfl) (by omega) fun f w7 hf7 e _ => ?_)
    have s := s.ext0 e
    repeat with_reducible refine gs_t ?_
    refine fnW_of (by kernel_rfl) (sameBytes_c hf7.rd (s.rat 1 rfl) (by omega) fun w8 e => ?_)
    have s := s.ext0 e
    rw [decide_eq_true hfr]
    repeat with_reducible refine gs_f ?_
    refine pick_ti ?_
    refine pick_fi ?_
    exact hK _ s.ext
end Go.Proofs.Ytedebapgmfnflaa
