/- The law TermSpines holds for every input, as its card says; no condition. -/
import Derived.Test.YtbaddpnlokmldaaDoorIO
import Derived.Test.YtbaddpnlokmldaaDoorLC
import Derived.Test.YtbaddpnlokmldaaDoorCards
import Derived.Test.YtbaddpnlokmldaaDoorTie
import Derived.SevenTiedAt
namespace Go.Proofs.YtbaddpnlokmldaaDoor
open Go Go.ChangeShapes Go.WideShapes Go.ChangeAt Go.RowKit
set_option maxRecDepth 100000

theorem termSpines_lifted (os : Os) (started : os.Started) (H : Type) (enc : TypeId × Value → H) :
    ReturnsInHanded {} Tryd.checked os 6 .any (fun w args => (Rows.termSpinesSpec.pre enc Tryd.prog Tryd.f6 Rows.termSpinesRow.domain false w args ∧ laidMetH Tryd.prog theLaid w) ∧ sizedMet enc Tryd.prog Tryd.f6 (OpenSpec.ofChange Rows.termSpinesSpec) false w args)
      (Rows.termSpinesSpec.post enc Tryd.prog Tryd.f6 false true false false) := by
  refine law_lifted_shaped (laid := theLaid) (dom := Rows.termSpinesRow.domain) started (b := 4) (by kernel_rfl) Tryd.func6
    (ChangeSpec.witness_shaped (enc := enc) (C := Tryd.checked) (os := os) (X := fun w _ => laidMetH Tryd.prog theLaid w) false (World.laidAll Tryd.prog os theLaid) #[.agg #[.int .i64 0, .int .i64 0, .string ⟨#[]⟩, .slice none 0 0, .slice none 0 0]] 8 (door_os os) (door_shape os) (by kernel_rfl) (by kernel_rfl) (by kernel_rfl) (door_met os _)) rfl ?_ (by kernel_rfl) (by kernel_rfl) (by kernel_rfl) rfl ?_
  · intro ds hds
    have hn : ds.length = 1 := hds.trans (by kernel_rfl)
    match ds, hn with
    | [d0], _ => exact ⟨rfl, rfl, rfl⟩
  · intro W base args hl hc hsh
    have hn : args.toList.length = 1 := hl.trans (by kernel_rfl)
    obtain ⟨v0, rfl⟩ := args1 hn
    obtain ⟨a, rfl, h0⟩ := open_term (hc 0 _ v0 (by kernel_rfl) rfl)
    exact (spinesLaw_walk h0 (gs_shaped hsh) (K := fun v W' => v = .bool true ∧ Ext [] W W') fun w' e => ⟨rfl, e⟩).mono law_ret

theorem termSpines_row : Rows.TermSpinesSaid :=
  OpenClaim.holds_of_wide 6 Tryd.f6 rfl rfl rfl rfl rfl rfl rfl ⟨rfl, rfl, rfl, rfl, rfl⟩ rfl rfl rfl rfl rfl (by kernel_rfl) Tryd.func6 (by kernel_rfl)
    (of_decide_eq_true (by kernel_rfl)) (by unfold Func.isWrapper; first | (rw [if_pos (by decide +kernel)]; kernel_rfl) | (rw [if_neg (by decide +kernel)]; exact ⟨rfl, rfl⟩))
    (fun os started H enc _ => termSpines_lifted os started H enc)

theorem termSpines_holds : Rows.TermSpinesCardSaid :=
  Claim7.holds_tied_plain_at .later [] [.data, .pinned] true (true, "0255acf985a872c1b6e3502532f7de8523f0c542d212764d86c6d3835f2a1486") false
    termSpines_row (fun _ h => by cases h) (by kernel_rfl) (fun _ h => by cases h) termSpines_row_tie rfl ⟨rfl, rfl⟩ (by kernel_rfl) rfl
    (fun f fn hf hfn => by
      obtain rfl : f = 6 := (Option.some.inj ((show Tryd.prog.funcNamed "imprimatur/imprimaturlaw08.TermSpines" = some 6 by kernel_rfl).symm.trans hf)).symm
      obtain rfl : fn = Tryd.f6 := (Option.some.inj (Tryd.func6.symm.trans hfn)).symm
      exact ⟨by kernel_rfl, fun j t ht => by
        have hall : Tryd.f6.params.toList.all (fun t => Tryd.prog.wantsStandIn t == false) = true := by kernel_rfl
        have ht' : t ∈ Tryd.f6.params.toList := by
          have := Array.mem_of_getElem? ht
          simpa using this
        show Tryd.prog.wantsStandIn t = false
        exact eq_of_beq (List.all_eq_true.1 hall t ht')⟩)
    (by kernel_rfl)
end Go.Proofs.YtbaddpnlokmldaaDoor
