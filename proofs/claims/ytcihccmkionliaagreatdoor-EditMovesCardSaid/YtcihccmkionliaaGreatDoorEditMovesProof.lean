/- The law EditMoves holds for every input, as its card says; no condition. -/
import Derived.Test.YtcihccmkionliaaGreatDoorEdit6
import Derived.Test.YtcihccmkionliaaGreatDoorCards
import Derived.Test.YtcihccmkionliaaGreatDoorTie
import Derived.SevenTiedAt
namespace Go.Proofs.YtcihccmkionliaaGreatDoor
open Go Go.ChangeShapes Go.WideShapes Go.ChangeAt Go.RowKit
set_option maxRecDepth 100000

theorem editMoves_lifted (os : Os) (started : os.Started) (H : Type) (enc : TypeId × Value -> H) :
    ReturnsInHanded {} Tryz.checked os 4 .any (fun w args => (Rows.editMovesSpec.pre enc Tryz.prog Tryz.f4 Rows.editMovesRow.domain false w args ∧ laidMetH Tryz.prog theLaid w) ∧ sizedMet enc Tryz.prog Tryz.f4 (OpenSpec.ofChange Rows.editMovesSpec) false w args)
      (Rows.editMovesSpec.post enc Tryz.prog Tryz.f4 false true false false) := by
  refine law_lifted_shaped (laid := theLaid) (dom := Rows.editMovesRow.domain) started (b := 4) (by kernel_rfl) Tryz.func4
    (ChangeSpec.witness_shaped (enc := enc) (C := Tryz.checked) (os := os) (X := fun w _ => laidMetH Tryz.prog theLaid w) false (World.laidAll Tryz.prog os theLaid) #[.slice none 0 0, .string ⟨#[]⟩, .int .i64 0] 8 (door_os os) (door_shape os) (by kernel_rfl) (by kernel_rfl) (by kernel_rfl) (door_met os _)) rfl ?_ (by kernel_rfl) (by kernel_rfl) (by kernel_rfl) rfl ?_
  · intro ds hds
    have hn : ds.length = 3 := hds.trans (by kernel_rfl)
    match ds, hn with
    | [d0, d1, d2], _ => exact ⟨rfl, rfl, rfl⟩
  · intro W base args hl hc hsh
    have hn : args.toList.length = 3 := hl.trans (by kernel_rfl)
    obtain ⟨v0, v1, v2, rfl⟩ := args3 hn
    obtain ⟨a, h0, c0, k0, b0⟩ := open_decls (hc 0 _ v0 (by kernel_rfl) rfl)
    obtain ⟨b, rfl, h1⟩ := open_textN (hc 1 _ v1 (by kernel_rfl) rfl)
    obtain ⟨c, rfl, h2⟩ := open_i64 (hc 2 _ v2 (by kernel_rfl) rfl)
    exact (movesLaw_walk h0 c0 k0 h1 h2 (gs_shaped hsh) alive24_c (K := fun v W' => v = .bool true ∧ Ext [] W W') fun w' e => ⟨rfl, e⟩).mono law_ret

theorem editMoves_row : Rows.EditMovesSaid :=
  OpenClaim.holds_of_wide 4 Tryz.f4 rfl rfl rfl rfl rfl rfl rfl ⟨rfl, rfl, rfl, rfl, rfl⟩ rfl rfl rfl rfl rfl (by kernel_rfl) Tryz.func4 (by kernel_rfl)
    (of_decide_eq_true (by kernel_rfl)) (by unfold Func.isWrapper; first | (rw [if_pos (by decide +kernel)]; kernel_rfl) | (rw [if_neg (by decide +kernel)]; exact ⟨rfl, rfl⟩))
    (fun os started H enc _ => editMoves_lifted os started H enc)

theorem editMoves_holds : Rows.EditMovesCardSaid :=
  Claim7.holds_tied_plain_at .later [] [.data, .pinned] true (true, "dcd452ac8048766082724c585bc855903f26c46f51c9393b234450074996d525") true
    editMoves_row (fun _ h => by cases h) (by kernel_rfl) (fun _ h => by cases h) editMoves_row_tie rfl ⟨rfl, rfl⟩ (by kernel_rfl) rfl
    (fun f fn hf hfn => by
      obtain rfl : f = 4 := (Option.some.inj ((show Tryz.prog.funcNamed "imprimatur/imprimaturlaw24.EditMoves" = some 4 by kernel_rfl).symm.trans hf)).symm
      obtain rfl : fn = Tryz.f4 := (Option.some.inj (Tryz.func4.symm.trans hfn)).symm
      exact ⟨by kernel_rfl, fun j t ht => by
        have hall : Tryz.f4.params.toList.all (fun t => Tryz.prog.wantsStandIn t == false) = true := by kernel_rfl
        have ht' : t ∈ Tryz.f4.params.toList := by
          have := Array.mem_of_getElem? ht
          simpa using this
        show Tryz.prog.wantsStandIn t = false
        exact eq_of_beq (List.all_eq_true.1 hall t ht')⟩)
    (by kernel_rfl)
end Go.Proofs.YtcihccmkionliaaGreatDoor
