/- The law TermMakes holds for every input, as its card says; no condition. -/
import Derived.Test.YtbaddpnlokmldaaDoorIQ
import Derived.Test.YtbaddpnlokmldaaDoorLC
import Derived.Test.YtbaddpnlokmldaaDoorCards
import Derived.Test.YtbaddpnlokmldaaDoorTie
import Derived.SevenTiedAt
namespace Go.Proofs.YtbaddpnlokmldaaDoor
open Go Go.ChangeShapes Go.WideShapes Go.ChangeAt Go.RowKit
set_option maxRecDepth 100000

theorem termMakes_lifted (os : Os) (started : os.Started) (H : Type) (enc : TypeId × Value → H) :
    ReturnsInHanded {} Tryd.checked os 4 .any (fun w args => (Rows.termMakesSpec.pre enc Tryd.prog Tryd.f4 Rows.termMakesRow.domain false w args ∧ laidMetH Tryd.prog theLaid w) ∧ sizedMet enc Tryd.prog Tryd.f4 (OpenSpec.ofChange Rows.termMakesSpec) false w args)
      (Rows.termMakesSpec.post enc Tryd.prog Tryd.f4 false true false false) := by
  refine law_lifted_shaped (laid := theLaid) (dom := Rows.termMakesRow.domain) started (b := 4) (by kernel_rfl) Tryd.func4
    (ChangeSpec.witness_shaped (enc := enc) (C := Tryd.checked) (os := os) (X := fun w _ => laidMetH Tryd.prog theLaid w) false (World.laidAll Tryd.prog os theLaid) #[.agg #[.int .i64 0, .int .i64 0, .string ⟨#[]⟩, .slice none 0 0, .slice none 0 0], .slice none 0 0, .int .i64 0] 8 (door_os os) (door_shape os) (by kernel_rfl) (by kernel_rfl) (by kernel_rfl) (door_met os _)) rfl ?_ (by kernel_rfl) (by kernel_rfl) (by kernel_rfl) rfl ?_
  · intro ds hds
    have hn : ds.length = 3 := hds.trans (by kernel_rfl)
    match ds, hn with
    | [d0, d1, d2], _ => exact ⟨rfl, rfl, rfl⟩
  · intro W base args hl hc hsh
    have hn : args.toList.length = 3 := hl.trans (by kernel_rfl)
    obtain ⟨v0, v1, v2, rfl⟩ := args3 hn
    obtain ⟨a, rfl, h0⟩ := open_term (hc 0 _ v0 (by kernel_rfl) rfl)
    obtain ⟨b, h1, c1, k1, b1⟩ := open_terms (hc 1 _ v1 (by kernel_rfl) rfl)
    obtain ⟨c, rfl, h2⟩ := open_i64 (hc 2 _ v2 (by kernel_rfl) rfl)
    exact (makesLaw_walk h0 (gs_shaped hsh) h1 k1 b1 h2 (K := fun v W' => v = .bool true ∧ Ext [] W W') fun w' e => ⟨rfl, e⟩).mono law_ret

theorem termMakes_row : Rows.TermMakesSaid :=
  OpenClaim.holds_of_wide 4 Tryd.f4 rfl rfl rfl rfl rfl rfl rfl ⟨rfl, rfl, rfl, rfl, rfl⟩ rfl rfl rfl rfl rfl (by kernel_rfl) Tryd.func4 (by kernel_rfl)
    (of_decide_eq_true (by kernel_rfl)) (by unfold Func.isWrapper; first | (rw [if_pos (by decide +kernel)]; kernel_rfl) | (rw [if_neg (by decide +kernel)]; exact ⟨rfl, rfl⟩))
    (fun os started H enc _ => termMakes_lifted os started H enc)

theorem termMakes_holds : Rows.TermMakesCardSaid :=
  Claim7.holds_tied_plain_at .later [] [.data, .pinned] true (true, "0255acf985a872c1b6e3502532f7de8523f0c542d212764d86c6d3835f2a1486") false
    termMakes_row (fun _ h => by cases h) (by kernel_rfl) (fun _ h => by cases h) termMakes_row_tie rfl ⟨rfl, rfl⟩ (by kernel_rfl) rfl
    (fun f fn hf hfn => by
      obtain rfl : f = 4 := (Option.some.inj ((show Tryd.prog.funcNamed "imprimatur/imprimaturlaw08.TermMakes" = some 4 by kernel_rfl).symm.trans hf)).symm
      obtain rfl : fn = Tryd.f4 := (Option.some.inj (Tryd.func4.symm.trans hfn)).symm
      exact ⟨by kernel_rfl, fun j t ht => by
        have hall : Tryd.f4.params.toList.all (fun t => Tryd.prog.wantsStandIn t == false) = true := by kernel_rfl
        have ht' : t ∈ Tryd.f4.params.toList := by
          have := Array.mem_of_getElem? ht
          simpa using this
        show Tryd.prog.wantsStandIn t = false
        exact eq_of_beq (List.all_eq_true.1 hall t ht')⟩)
    (by kernel_rfl)
end Go.Proofs.YtbaddpnlokmldaaDoor
