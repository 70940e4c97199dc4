/- The law AreaLasts holds for every input, as its card says; no condition. -/
import Derived.Test.YtedebapgmfnflaaDoorAreaL4
import Derived.Test.YtedebapgmfnflaaDoorCards
import Derived.Test.YtedebapgmfnflaaDoorTie
import Derived.SevenTiedAt
namespace Go.Proofs.YtedebapgmfnflaaDoor
open Go Go.ChangeShapes Go.WideShapes Go.ChangeAt Go.RowKit
set_option maxRecDepth 100000

theorem areaLasts_lifted (os : Os) (started : os.Started) (H : Type) (enc : TypeId × Value → H) :
    ReturnsInHanded {} Tryd.checked os 9 .any (fun w args => (Rows.areaLastsSpec.pre enc Tryd.prog Tryd.f9 Rows.areaLastsRow.domain false w args ∧ laidMetH Tryd.prog theLaid w) ∧ sizedMet enc Tryd.prog Tryd.f9 (OpenSpec.ofChange Rows.areaLastsSpec) false w args)
      (Rows.areaLastsSpec.post enc Tryd.prog Tryd.f9 false true false false) := by
  refine law_lifted_laid (laid := theLaid) (dom := Rows.areaLastsRow.domain) started (b := 4) (by kernel_rfl) Tryd.func9
    (ChangeSpec.witness_shaped (enc := enc) (C := Tryd.checked) (os := os) (X := fun w _ => laidMetH Tryd.prog theLaid w) false (World.laidAll Tryd.prog os theLaid) #[.int .i64 0, .slice none 0 0] 8 (door_os os) (door_shape os) (by kernel_rfl) (by kernel_rfl) (by kernel_rfl) (door_met os _)) rfl ?_ (by kernel_rfl) (by kernel_rfl) (by kernel_rfl) rfl ?_
  · intro ds hds
    have hn : ds.length = 2 := hds.trans (by kernel_rfl)
    match ds, hn with
    | [d0, d1], _ => exact ⟨rfl, rfl, rfl⟩
  · intro W base args hl hc
    have hn : args.toList.length = 2 := hl.trans (by kernel_rfl)
    obtain ⟨v0, v1, rfl⟩ := args2 hn
    obtain ⟨a, rfl, h0⟩ := open_i64 (hc 0 _ v0 (by kernel_rfl) rfl)
    obtain ⟨b, h1⟩ := open_callsA (hc 1 _ v1 (by kernel_rfl) rfl)
    exact (lastsLaw_walk h1 (K := fun v W' => v = .bool true ∧ Ext [] W W') fun w' e => ⟨rfl, e⟩).mono law_ret

theorem areaLasts_row : Rows.AreaLastsSaid :=
  OpenClaim.holds_of_wide 9 Tryd.f9 rfl rfl rfl rfl rfl rfl rfl ⟨rfl, rfl, rfl, rfl, rfl⟩ rfl rfl rfl rfl rfl (by kernel_rfl) Tryd.func9 (by kernel_rfl)
    (of_decide_eq_true (by kernel_rfl)) (by unfold Func.isWrapper; first | (rw [if_pos (by decide +kernel)]; kernel_rfl) | (rw [if_neg (by decide +kernel)]; exact ⟨rfl, rfl⟩))
    (fun os started H enc _ => areaLasts_lifted os started H enc)

theorem areaLasts_holds : Rows.AreaLastsCardSaid :=
  Claim7.holds_tied_plain_at .later [] [.data, .pinned] true (true, "cece70cbbb7e7deb769315f9ff6d12f8ea4fec9450782fee1a5f38f72081f107") false
    areaLasts_row (fun _ h => by cases h) (by kernel_rfl) (fun _ h => by cases h) areaLasts_row_tie rfl ⟨rfl, rfl⟩ (by kernel_rfl) rfl
    (fun f fn hf hfn => by
      obtain rfl : f = 9 := (Option.some.inj ((show Tryd.prog.funcNamed "imprimatur/imprimaturlaw05.AreaLasts" = some 9 by kernel_rfl).symm.trans hf)).symm
      obtain rfl : fn = Tryd.f9 := (Option.some.inj (Tryd.func9.symm.trans hfn)).symm
      exact ⟨by kernel_rfl, fun j t ht => by
        have hall : Tryd.f9.params.toList.all (fun t => Tryd.prog.wantsStandIn t == false) = true := by kernel_rfl
        have ht' : t ∈ Tryd.f9.params.toList := by
          have := Array.mem_of_getElem? ht
          simpa using this
        show Tryd.prog.wantsStandIn t = false
        exact eq_of_beq (List.all_eq_true.1 hall t ht')⟩)
    (by kernel_rfl)
end Go.Proofs.YtedebapgmfnflaaDoor
