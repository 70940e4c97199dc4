/- The law AreaRoom holds for every input, as its card says; no condition. -/
import Derived.Test.YtedebapgmfnflaaDoorAreaR4
import Derived.Test.YtedebapgmfnflaaDoorCards
import Derived.Test.YtedebapgmfnflaaDoorTie
import Derived.SevenTiedAt
namespace Go.Proofs.YtedebapgmfnflaaDoor
open Go Go.ChangeShapes Go.WideShapes Go.ChangeAt Go.RowKit
set_option maxRecDepth 100000

theorem areaRoom_lifted (os : Os) (started : os.Started) (H : Type) (enc : TypeId × Value → H) :
    ReturnsInHanded {} Tryd.checked os 8 .any (fun w args => (Rows.areaRoomSpec.pre enc Tryd.prog Tryd.f8 Rows.areaRoomRow.domain false w args ∧ laidMetH Tryd.prog theLaid w) ∧ sizedMet enc Tryd.prog Tryd.f8 (OpenSpec.ofChange Rows.areaRoomSpec) false w args)
      (Rows.areaRoomSpec.post enc Tryd.prog Tryd.f8 false true false false) := by
  refine law_lifted_laid (laid := theLaid) (dom := Rows.areaRoomRow.domain) started (b := 4) (by kernel_rfl) Tryd.func8
    (ChangeSpec.witness_shaped (enc := enc) (C := Tryd.checked) (os := os) (X := fun w _ => laidMetH Tryd.prog theLaid w) false (World.laidAll Tryd.prog os theLaid) #[.int .i64 0, .slice none 0 0] 8 (door_os os) (door_shape os) (by kernel_rfl) (by kernel_rfl) (by kernel_rfl) (door_met os _)) rfl ?_ (by kernel_rfl) (by kernel_rfl) (by kernel_rfl) rfl ?_
  · intro ds hds
    have hn : ds.length = 2 := hds.trans (by kernel_rfl)
    match ds, hn with
    | [d0, d1], _ => exact ⟨rfl, rfl, rfl⟩
  · intro W base args hl hc
    have hn : args.toList.length = 2 := hl.trans (by kernel_rfl)
    obtain ⟨v0, v1, rfl⟩ := args2 hn
    obtain ⟨a, rfl, h0⟩ := open_i64 (hc 0 _ v0 (by kernel_rfl) rfl)
    obtain ⟨s1, b, h1, c1, k1, b1⟩ := open_rows (hc 1 _ v1 (by kernel_rfl) rfl)
    exact (roomLaw_walk h1 k1 b1 (K := fun v W' => v = .bool true ∧ Ext [] W W') fun w' e => ⟨rfl, e⟩).mono law_ret

theorem areaRoom_row : Rows.AreaRoomSaid :=
  OpenClaim.holds_of_wide 8 Tryd.f8 rfl rfl rfl rfl rfl rfl rfl ⟨rfl, rfl, rfl, rfl, rfl⟩ rfl rfl rfl rfl rfl (by kernel_rfl) Tryd.func8 (by kernel_rfl)
    (of_decide_eq_true (by kernel_rfl)) (by unfold Func.isWrapper; first | (rw [if_pos (by decide +kernel)]; kernel_rfl) | (rw [if_neg (by decide +kernel)]; exact ⟨rfl, rfl⟩))
    (fun os started H enc _ => areaRoom_lifted os started H enc)

theorem areaRoom_holds : Rows.AreaRoomCardSaid :=
  Claim7.holds_tied_plain_at .later [] [.data, .pinned] true (true, "cece70cbbb7e7deb769315f9ff6d12f8ea4fec9450782fee1a5f38f72081f107") false
    areaRoom_row (fun _ h => by cases h) (by kernel_rfl) (fun _ h => by cases h) areaRoom_row_tie rfl ⟨rfl, rfl⟩ (by kernel_rfl) rfl
    (fun f fn hf hfn => by
      obtain rfl : f = 8 := (Option.some.inj ((show Tryd.prog.funcNamed "imprimatur/imprimaturlaw05.AreaRoom" = some 8 by kernel_rfl).symm.trans hf)).symm
      obtain rfl : fn = Tryd.f8 := (Option.some.inj (Tryd.func8.symm.trans hfn)).symm
      exact ⟨by kernel_rfl, fun j t ht => by
        have hall : Tryd.f8.params.toList.all (fun t => Tryd.prog.wantsStandIn t == false) = true := by kernel_rfl
        have ht' : t ∈ Tryd.f8.params.toList := by
          have := Array.mem_of_getElem? ht
          simpa using this
        show Tryd.prog.wantsStandIn t = false
        exact eq_of_beq (List.all_eq_true.1 hall t ht')⟩)
    (by kernel_rfl)
end Go.Proofs.YtedebapgmfnflaaDoor
