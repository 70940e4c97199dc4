/- The law SealPacks holds for every input, as its card says; no condition. -/
import Derived.Test.YtedebapgmfnflaaDoorX6
import Derived.Test.YtedebapgmfnflaaDoorLB
import Derived.Test.YtedebapgmfnflaaDoorCards
import Derived.Test.YtedebapgmfnflaaDoorTie
import Derived.SevenTiedAt
namespace Go.Proofs.YtedebapgmfnflaaDoor
open Go Go.ChangeShapes Go.WideShapes Go.ChangeAt Go.RowKit
set_option maxRecDepth 100000

theorem sealPacks_lifted (os : Os) (started : os.Started) (H : Type) (enc : TypeId × Value → H) :
    ReturnsInHanded {} Tryd.checked os 3 .any (fun w args => (Rows.sealPacksSpec.pre enc Tryd.prog Tryd.f3 Rows.sealPacksRow.domain false w args ∧ laidMetH Tryd.prog theLaid w) ∧ sizedMet enc Tryd.prog Tryd.f3 (OpenSpec.ofChange Rows.sealPacksSpec) false w args)
      (Rows.sealPacksSpec.post enc Tryd.prog Tryd.f3 false true false false) := by
  refine law_lifted_laid (laid := theLaid) (dom := Rows.sealPacksRow.domain) started (b := 4) (by kernel_rfl) Tryd.func3
    (ChangeSpec.witness_shaped (enc := enc) (C := Tryd.checked) (os := os) (X := fun w _ => laidMetH Tryd.prog theLaid w) false (World.laidAll Tryd.prog os theLaid) #[.int .i64 0, .int .i64 0, .slice none 0 0, .slice none 0 0, .int .i64 0] 8 (door_os os) (door_shape os) (by kernel_rfl) (by kernel_rfl) (by kernel_rfl) (door_met os _)) rfl ?_ (by kernel_rfl) (by kernel_rfl) (by kernel_rfl) rfl ?_
  · intro ds hds
    have hn : ds.length = 5 := hds.trans (by kernel_rfl)
    match ds, hn with
    | [d0, d1, d2, d3, d4], _ => exact ⟨rfl, rfl, rfl⟩
  · intro W base args hl hc
    have hn : args.toList.length = 5 := hl.trans (by kernel_rfl)
    obtain ⟨v0, v1, v2, v3, v4, rfl⟩ := args5 hn
    obtain ⟨a, rfl, h0⟩ := open_i64 (hc 0 _ v0 (by kernel_rfl) rfl)
    obtain ⟨b, rfl, h1⟩ := open_i64 (hc 1 _ v1 (by kernel_rfl) rfl)
    obtain ⟨c, ⟨h2, c2⟩, k2⟩ := open_bytesC (hc 2 _ v2 (by kernel_rfl) rfl)
    obtain ⟨d, h3, k3, c3, b3⟩ := open_blocks (hc 3 _ v3 (by kernel_rfl) rfl)
    obtain ⟨e, rfl, h4⟩ := open_i64 (hc 4 _ v4 (by kernel_rfl) rfl)
    exact (packsLaw_walk h2 h3 k3 (K := fun v W' => v = .bool true ∧ Ext [] W W') fun w' e => ⟨rfl, e⟩).mono law_ret

theorem sealPacks_row : Rows.SealPacksSaid :=
  OpenClaim.holds_of_wide 3 Tryd.f3 rfl rfl rfl rfl rfl rfl rfl ⟨rfl, rfl, rfl, rfl, rfl⟩ rfl rfl rfl rfl rfl (by kernel_rfl) Tryd.func3 (by kernel_rfl)
    (of_decide_eq_true (by kernel_rfl)) (by unfold Func.isWrapper; first | (rw [if_pos (by decide +kernel)]; kernel_rfl) | (rw [if_neg (by decide +kernel)]; exact ⟨rfl, rfl⟩))
    (fun os started H enc _ => sealPacks_lifted os started H enc)

theorem sealPacks_holds : Rows.SealPacksCardSaid :=
  Claim7.holds_tied_plain_at .later [] [.data, .pinned] true (true, "cece70cbbb7e7deb769315f9ff6d12f8ea4fec9450782fee1a5f38f72081f107") false
    sealPacks_row (fun _ h => by cases h) (by kernel_rfl) (fun _ h => by cases h) sealPacks_row_tie rfl ⟨rfl, rfl⟩ (by kernel_rfl) rfl
    (fun f fn hf hfn => by
      obtain rfl : f = 3 := (Option.some.inj ((show Tryd.prog.funcNamed "imprimatur/imprimaturlaw04.SealPacks" = some 3 by kernel_rfl).symm.trans hf)).symm
      obtain rfl : fn = Tryd.f3 := (Option.some.inj (Tryd.func3.symm.trans hfn)).symm
      exact ⟨by kernel_rfl, fun j t ht => by
        have hall : Tryd.f3.params.toList.all (fun t => Tryd.prog.wantsStandIn t == false) = true := by kernel_rfl
        have ht' : t ∈ Tryd.f3.params.toList := by
          have := Array.mem_of_getElem? ht
          simpa using this
        show Tryd.prog.wantsStandIn t = false
        exact eq_of_beq (List.all_eq_true.1 hall t ht')⟩)
    (by kernel_rfl)
end Go.Proofs.YtedebapgmfnflaaDoor
