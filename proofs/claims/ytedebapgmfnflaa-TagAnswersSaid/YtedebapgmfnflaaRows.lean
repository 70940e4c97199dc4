/-
  No cell of these rows narrows 'for every input' (looked for: loops, veiled, ifaces, maps, wideKeys, modest, calm, conditions, laid).
  DERIVED. THE GIVEN ROWS OF THIS SEAT. 16 by the template 'for every input the law returns true; each argument reads behind the call as it read before'; 0 by the template 'total and deterministic' (their statements: YtedebapgmfnflaaTotals.lean).
  GIVEN WITH THE SEED: the statements are not yours to turn. If you find one false, say at which input.
  Laid BY PROGRAM, IN A SANDBOX (cutbox-rows.mjs): the forced cells as the released guide's own fill.sh prints them over the translation 6f2eccf83dd6b97a… (all of the seat's roots in one cut). By AI agents, Wed Nov 11 2026. No macro, syntax, notation, axiom, sorry.
-/
import Derived.Test.YtedebapgmfnflaaChecked
import GoSem.Claim
import GoSem.ClaimJoined
import GoSem.ClaimMapViews
import Derived.JoinedTies
import Derived.KernelRfl
namespace Go.Proofs.Ytedebapgmfnflaa
/- THE CELL 'sum', in the pinned program and in every row, IS THE sha256 OF THE DUMP (.gsa) THAT YtedebapgmfnflaaProg.lean LOADS. Nothing in Lean hashes anything: it is a label: what it is worth is what the hold of that sum in a sandbox is worth. -/
noncomputable def Try.pinned : Pinned := { name := "ytedebapgmfnflaa", sum := "6f2eccf83dd6b97adbd893a918bcbab403f745d8e155cb864ce3700566caa8ea", checked := Try.checked }
namespace Rows
def none {H : Type} : Left H := { results := [], args := [] }

/-- 'imprimaturlaw03.DiskCalls': WHATEVER THE INPUT: true; the input reads as it did. -/
def diskCallsSpec : ChangeSpec := { name := "diskCalls", fn := fun _ => fun
  | [d1, d2, d3] => { results := [.lit (.bool true)], args := [d1, d2, d3] }
  | _ => none }
def diskCallsRow : OpenClaim := { program := "ytedebapgmfnflaa", sum := "6f2eccf83dd6b97adbd893a918bcbab403f745d8e155cb864ce3700566caa8ea", func := "imprimatur/imprimaturlaw03.DiskCalls", spec := "diskCalls", apart := false }
def DiskCallsSaid : Prop := diskCallsRow.holds Try.pinned (OpenSpec.ofChange diskCallsSpec)

/-- ITS FALSE NEIGHBOUR: 'it returns false'. Refute it at one input. -/
def diskCallsWrong : ChangeSpec := { name := "diskCalls", fn := fun _ => fun
  | [d1, d2, d3] => { results := [.lit (.bool false)], args := [d1, d2, d3] }
  | _ => none }
def DiskCallsWrongFalsely : Prop := diskCallsRow.holds Try.pinned (OpenSpec.ofChange diskCallsWrong)

/-- 'imprimaturlaw03.DiskLasts': WHATEVER THE INPUT: true; the input reads as it did. -/
def diskLastsSpec : ChangeSpec := { name := "diskLasts", fn := fun _ => fun
  | [d1, d2, d3] => { results := [.lit (.bool true)], args := [d1, d2, d3] }
  | _ => none }
def diskLastsRow : OpenClaim := { program := "ytedebapgmfnflaa", sum := "6f2eccf83dd6b97adbd893a918bcbab403f745d8e155cb864ce3700566caa8ea", func := "imprimatur/imprimaturlaw03.DiskLasts", spec := "diskLasts", apart := false }
def DiskLastsSaid : Prop := diskLastsRow.holds Try.pinned (OpenSpec.ofChange diskLastsSpec)

/-- ITS FALSE NEIGHBOUR: 'it returns false'. Refute it at one input. -/
def diskLastsWrong : ChangeSpec := { name := "diskLasts", fn := fun _ => fun
  | [d1, d2, d3] => { results := [.lit (.bool false)], args := [d1, d2, d3] }
  | _ => none }
def DiskLastsWrongFalsely : Prop := diskLastsRow.holds Try.pinned (OpenSpec.ofChange diskLastsWrong)

/-- 'imprimaturlaw03.DiskTwins': WHATEVER THE INPUT: true; the input reads as it did. -/
def diskTwinsSpec : ChangeSpec := { name := "diskTwins", fn := fun _ => fun
  | [d1, d2, d3] => { results := [.lit (.bool true)], args := [d1, d2, d3] }
  | _ => none }
def diskTwinsRow : OpenClaim := { program := "ytedebapgmfnflaa", sum := "6f2eccf83dd6b97adbd893a918bcbab403f745d8e155cb864ce3700566caa8ea", func := "imprimatur/imprimaturlaw03.DiskTwins", spec := "diskTwins", apart := false }
def DiskTwinsSaid : Prop := diskTwinsRow.holds Try.pinned (OpenSpec.ofChange diskTwinsSpec)

/-- ITS FALSE NEIGHBOUR: 'it returns false'. Refute it at one input. -/
def diskTwinsWrong : ChangeSpec := { name := "diskTwins", fn := fun _ => fun
  | [d1, d2, d3] => { results := [.lit (.bool false)], args := [d1, d2, d3] }
  | _ => none }
def DiskTwinsWrongFalsely : Prop := diskTwinsRow.holds Try.pinned (OpenSpec.ofChange diskTwinsWrong)

/-- 'imprimaturlaw03.DiskLimits': WHATEVER THE INPUT: true; the input reads as it did. -/
def diskLimitsSpec : ChangeSpec := { name := "diskLimits", fn := fun _ => fun
  | [d1, d2] => { results := [.lit (.bool true)], args := [d1, d2] }
  | _ => none }
def diskLimitsRow : OpenClaim := { program := "ytedebapgmfnflaa", sum := "6f2eccf83dd6b97adbd893a918bcbab403f745d8e155cb864ce3700566caa8ea", func := "imprimatur/imprimaturlaw03.DiskLimits", spec := "diskLimits", apart := false }
def DiskLimitsSaid : Prop := diskLimitsRow.holds Try.pinned (OpenSpec.ofChange diskLimitsSpec)

/-- ITS FALSE NEIGHBOUR: 'it returns false'. Refute it at one input. -/
def diskLimitsWrong : ChangeSpec := { name := "diskLimits", fn := fun _ => fun
  | [d1, d2] => { results := [.lit (.bool false)], args := [d1, d2] }
  | _ => none }
def DiskLimitsWrongFalsely : Prop := diskLimitsRow.holds Try.pinned (OpenSpec.ofChange diskLimitsWrong)

/-- 'imprimaturlaw03.DiskParts': WHATEVER THE INPUT: true; the input reads as it did. -/
def diskPartsSpec : ChangeSpec := { name := "diskParts", fn := fun _ => fun
  | [d1, d2] => { results := [.lit (.bool true)], args := [d1, d2] }
  | _ => none }
def diskPartsRow : OpenClaim := { program := "ytedebapgmfnflaa", sum := "6f2eccf83dd6b97adbd893a918bcbab403f745d8e155cb864ce3700566caa8ea", func := "imprimatur/imprimaturlaw03.DiskParts", spec := "diskParts", apart := false }
def DiskPartsSaid : Prop := diskPartsRow.holds Try.pinned (OpenSpec.ofChange diskPartsSpec)

/-- ITS FALSE NEIGHBOUR: 'it returns false'. Refute it at one input. -/
def diskPartsWrong : ChangeSpec := { name := "diskParts", fn := fun _ => fun
  | [d1, d2] => { results := [.lit (.bool false)], args := [d1, d2] }
  | _ => none }
def DiskPartsWrongFalsely : Prop := diskPartsRow.holds Try.pinned (OpenSpec.ofChange diskPartsWrong)

/-- 'imprimaturlaw01.ShaParts': WHATEVER THE INPUT: true; the input reads as it did. -/
def shaPartsSpec : ChangeSpec := { name := "shaParts", fn := fun _ => fun
  | [d] => { results := [.lit (.bool true)], args := [d] }
  | _ => none }
def shaPartsRow : OpenClaim := { program := "ytedebapgmfnflaa", sum := "6f2eccf83dd6b97adbd893a918bcbab403f745d8e155cb864ce3700566caa8ea", func := "imprimatur/imprimaturlaw01.ShaParts", spec := "shaParts", apart := false }
def ShaPartsSaid : Prop := shaPartsRow.holds Try.pinned (OpenSpec.ofChange shaPartsSpec)

/-- ITS FALSE NEIGHBOUR: 'it returns false'. Refute it at one input. -/
def shaPartsWrong : ChangeSpec := { name := "shaParts", fn := fun _ => fun
  | [d] => { results := [.lit (.bool false)], args := [d] }
  | _ => none }
def ShaPartsWrongFalsely : Prop := shaPartsRow.holds Try.pinned (OpenSpec.ofChange shaPartsWrong)

/-- 'imprimaturlaw01.ShaForks': WHATEVER THE INPUT: true; the input reads as it did. -/
def shaForksSpec : ChangeSpec := { name := "shaForks", fn := fun _ => fun
  | [d1, d2, d3] => { results := [.lit (.bool true)], args := [d1, d2, d3] }
  | _ => none }
def shaForksRow : OpenClaim := { program := "ytedebapgmfnflaa", sum := "6f2eccf83dd6b97adbd893a918bcbab403f745d8e155cb864ce3700566caa8ea", func := "imprimatur/imprimaturlaw01.ShaForks", spec := "shaForks", apart := false }
def ShaForksSaid : Prop := shaForksRow.holds Try.pinned (OpenSpec.ofChange shaForksSpec)

/-- ITS FALSE NEIGHBOUR: 'it returns false'. Refute it at one input. -/
def shaForksWrong : ChangeSpec := { name := "shaForks", fn := fun _ => fun
  | [d1, d2, d3] => { results := [.lit (.bool false)], args := [d1, d2, d3] }
  | _ => none }
def ShaForksWrongFalsely : Prop := shaForksRow.holds Try.pinned (OpenSpec.ofChange shaForksWrong)

/-- 'imprimaturlaw01.ShaPads': WHATEVER THE INPUT: true; the input reads as it did. -/
def shaPadsSpec : ChangeSpec := { name := "shaPads", fn := fun _ => fun
  | [d] => { results := [.lit (.bool true)], args := [d] }
  | _ => none }
def shaPadsRow : OpenClaim := { program := "ytedebapgmfnflaa", sum := "6f2eccf83dd6b97adbd893a918bcbab403f745d8e155cb864ce3700566caa8ea", func := "imprimatur/imprimaturlaw01.ShaPads", spec := "shaPads", apart := false }
def ShaPadsSaid : Prop := shaPadsRow.holds Try.pinned (OpenSpec.ofChange shaPadsSpec)

/-- ITS FALSE NEIGHBOUR: 'it returns false'. Refute it at one input. -/
def shaPadsWrong : ChangeSpec := { name := "shaPads", fn := fun _ => fun
  | [d] => { results := [.lit (.bool false)], args := [d] }
  | _ => none }
def ShaPadsWrongFalsely : Prop := shaPadsRow.holds Try.pinned (OpenSpec.ofChange shaPadsWrong)

/-- 'imprimaturlaw01.ShaSums': WHATEVER THE INPUT: true; the input reads as it did. -/
def shaSumsSpec : ChangeSpec := { name := "shaSums", fn := fun _ => fun
  | [d1, d2, d3, d4] => { results := [.lit (.bool true)], args := [d1, d2, d3, d4] }
  | _ => none }
def shaSumsRow : OpenClaim := { program := "ytedebapgmfnflaa", sum := "6f2eccf83dd6b97adbd893a918bcbab403f745d8e155cb864ce3700566caa8ea", func := "imprimatur/imprimaturlaw01.ShaSums", spec := "shaSums", apart := false }
def ShaSumsSaid : Prop := shaSumsRow.holds Try.pinned (OpenSpec.ofChange shaSumsSpec)

/-- ITS FALSE NEIGHBOUR: 'it returns false'. Refute it at one input. -/
def shaSumsWrong : ChangeSpec := { name := "shaSums", fn := fun _ => fun
  | [d1, d2, d3, d4] => { results := [.lit (.bool false)], args := [d1, d2, d3, d4] }
  | _ => none }
def ShaSumsWrongFalsely : Prop := shaSumsRow.holds Try.pinned (OpenSpec.ofChange shaSumsWrong)

/-- 'imprimaturlaw01.ShaBlocks': WHATEVER THE INPUT: true; the input reads as it did. -/
def shaBlocksSpec : ChangeSpec := { name := "shaBlocks", fn := fun _ => fun
  | [d] => { results := [.lit (.bool true)], args := [d] }
  | _ => none }
def shaBlocksRow : OpenClaim := { program := "ytedebapgmfnflaa", sum := "6f2eccf83dd6b97adbd893a918bcbab403f745d8e155cb864ce3700566caa8ea", func := "imprimatur/imprimaturlaw01.ShaBlocks", spec := "shaBlocks", apart := false }
def ShaBlocksSaid : Prop := shaBlocksRow.holds Try.pinned (OpenSpec.ofChange shaBlocksSpec)

/-- ITS FALSE NEIGHBOUR: 'it returns false'. Refute it at one input. -/
def shaBlocksWrong : ChangeSpec := { name := "shaBlocks", fn := fun _ => fun
  | [d] => { results := [.lit (.bool false)], args := [d] }
  | _ => none }
def ShaBlocksWrongFalsely : Prop := shaBlocksRow.holds Try.pinned (OpenSpec.ofChange shaBlocksWrong)

/-- 'imprimaturlaw02.TagAnswers': WHATEVER THE INPUT: true; the input reads as it did. -/
def tagAnswersSpec : ChangeSpec := { name := "tagAnswers", fn := fun _ => fun
  | [d1, d2, d3, d4, d5] => { results := [.lit (.bool true)], args := [d1, d2, d3, d4, d5] }
  | _ => none }
def tagAnswersRow : OpenClaim := { program := "ytedebapgmfnflaa", sum := "6f2eccf83dd6b97adbd893a918bcbab403f745d8e155cb864ce3700566caa8ea", func := "imprimatur/imprimaturlaw02.TagAnswers", spec := "tagAnswers", inPlace := ["internal/abi.NoEscape", "internal/bytealg.IndexByteString", "internal/bytealg.Compare"], unfollowed := true, recurses := true, apart := false }
def TagAnswersSaid : Prop := tagAnswersRow.holds Try.pinned (OpenSpec.ofChange tagAnswersSpec)

/-- ITS FALSE NEIGHBOUR: 'it returns false'. Refute it at one input. -/
def tagAnswersWrong : ChangeSpec := { name := "tagAnswers", fn := fun _ => fun
  | [d1, d2, d3, d4, d5] => { results := [.lit (.bool false)], args := [d1, d2, d3, d4, d5] }
  | _ => none }
def TagAnswersWrongFalsely : Prop := tagAnswersRow.holds Try.pinned (OpenSpec.ofChange tagAnswersWrong)

/-- 'imprimaturlaw02.TagFrames': WHATEVER THE INPUT: true; the input reads as it did. -/
def tagFramesSpec : ChangeSpec := { name := "tagFrames", fn := fun _ => fun
  | [d1, d2] => { results := [.lit (.bool true)], args := [d1, d2] }
  | _ => none }
def tagFramesRow : OpenClaim := { program := "ytedebapgmfnflaa", sum := "6f2eccf83dd6b97adbd893a918bcbab403f745d8e155cb864ce3700566caa8ea", func := "imprimatur/imprimaturlaw02.TagFrames", spec := "tagFrames", inPlace := ["internal/abi.NoEscape", "internal/bytealg.IndexByteString", "internal/bytealg.Compare"], unfollowed := true, recurses := true, apart := false }
def TagFramesSaid : Prop := tagFramesRow.holds Try.pinned (OpenSpec.ofChange tagFramesSpec)

/-- ITS FALSE NEIGHBOUR: 'it returns false'. Refute it at one input. -/
def tagFramesWrong : ChangeSpec := { name := "tagFrames", fn := fun _ => fun
  | [d1, d2] => { results := [.lit (.bool false)], args := [d1, d2] }
  | _ => none }
def TagFramesWrongFalsely : Prop := tagFramesRow.holds Try.pinned (OpenSpec.ofChange tagFramesWrong)

/-- 'imprimaturlaw02.TagUnframes': WHATEVER THE INPUT: true; the input reads as it did. -/
def tagUnframesSpec : ChangeSpec := { name := "tagUnframes", fn := fun _ => fun
  | [d] => { results := [.lit (.bool true)], args := [d] }
  | _ => none }
def tagUnframesRow : OpenClaim := { program := "ytedebapgmfnflaa", sum := "6f2eccf83dd6b97adbd893a918bcbab403f745d8e155cb864ce3700566caa8ea", func := "imprimatur/imprimaturlaw02.TagUnframes", spec := "tagUnframes", inPlace := ["internal/abi.NoEscape", "internal/bytealg.IndexByteString", "internal/bytealg.Compare"], unfollowed := true, recurses := true, apart := false }
def TagUnframesSaid : Prop := tagUnframesRow.holds Try.pinned (OpenSpec.ofChange tagUnframesSpec)

/-- ITS FALSE NEIGHBOUR: 'it returns false'. Refute it at one input. -/
def tagUnframesWrong : ChangeSpec := { name := "tagUnframes", fn := fun _ => fun
  | [d] => { results := [.lit (.bool false)], args := [d] }
  | _ => none }
def TagUnframesWrongFalsely : Prop := tagUnframesRow.holds Try.pinned (OpenSpec.ofChange tagUnframesWrong)

/-- 'imprimaturlaw02.TagHex': WHATEVER THE INPUT: true; the input reads as it did. -/
def tagHexSpec : ChangeSpec := { name := "tagHex", fn := fun _ => fun
  | [d1, d2] => { results := [.lit (.bool true)], args := [d1, d2] }
  | _ => none }
def tagHexRow : OpenClaim := { program := "ytedebapgmfnflaa", sum := "6f2eccf83dd6b97adbd893a918bcbab403f745d8e155cb864ce3700566caa8ea", func := "imprimatur/imprimaturlaw02.TagHex", spec := "tagHex", inPlace := ["internal/abi.NoEscape", "internal/bytealg.IndexByteString", "internal/bytealg.Compare"], unfollowed := true, recurses := true, apart := false }
def TagHexSaid : Prop := tagHexRow.holds Try.pinned (OpenSpec.ofChange tagHexSpec)

/-- ITS FALSE NEIGHBOUR: 'it returns false'. Refute it at one input. -/
def tagHexWrong : ChangeSpec := { name := "tagHex", fn := fun _ => fun
  | [d1, d2] => { results := [.lit (.bool false)], args := [d1, d2] }
  | _ => none }
def TagHexWrongFalsely : Prop := tagHexRow.holds Try.pinned (OpenSpec.ofChange tagHexWrong)

/-- 'imprimaturlaw02.TagSets': WHATEVER THE INPUT: true; the input reads as it did. -/
def tagSetsSpec : ChangeSpec := { name := "tagSets", fn := fun _ => fun
  | [d1, d2, d3] => { results := [.lit (.bool true)], args := [d1, d2, d3] }
  | _ => none }
def tagSetsRow : OpenClaim := { program := "ytedebapgmfnflaa", sum := "6f2eccf83dd6b97adbd893a918bcbab403f745d8e155cb864ce3700566caa8ea", func := "imprimatur/imprimaturlaw02.TagSets", spec := "tagSets", inPlace := ["internal/abi.NoEscape", "internal/bytealg.IndexByteString", "internal/bytealg.Compare"], unfollowed := true, recurses := true, apart := false }
def TagSetsSaid : Prop := tagSetsRow.holds Try.pinned (OpenSpec.ofChange tagSetsSpec)

/-- ITS FALSE NEIGHBOUR: 'it returns false'. Refute it at one input. -/
def tagSetsWrong : ChangeSpec := { name := "tagSets", fn := fun _ => fun
  | [d1, d2, d3] => { results := [.lit (.bool false)], args := [d1, d2, d3] }
  | _ => none }
def TagSetsWrongFalsely : Prop := tagSetsRow.holds Try.pinned (OpenSpec.ofChange tagSetsWrong)

/-- 'imprimaturlaw02.TagNodes': WHATEVER THE INPUT: true; the input reads as it did. -/
def tagNodesSpec : ChangeSpec := { name := "tagNodes", fn := fun _ => fun
  | [d1, d2, d3] => { results := [.lit (.bool true)], args := [d1, d2, d3] }
  | _ => none }
def tagNodesRow : OpenClaim := { program := "ytedebapgmfnflaa", sum := "6f2eccf83dd6b97adbd893a918bcbab403f745d8e155cb864ce3700566caa8ea", func := "imprimatur/imprimaturlaw02.TagNodes", spec := "tagNodes", inPlace := ["internal/abi.NoEscape", "internal/bytealg.IndexByteString", "internal/bytealg.Compare"], unfollowed := true, recurses := true, apart := false }
def TagNodesSaid : Prop := tagNodesRow.holds Try.pinned (OpenSpec.ofChange tagNodesSpec)

/-- ITS FALSE NEIGHBOUR: 'it returns false'. Refute it at one input. -/
def tagNodesWrong : ChangeSpec := { name := "tagNodes", fn := fun _ => fun
  | [d1, d2, d3] => { results := [.lit (.bool false)], args := [d1, d2, d3] }
  | _ => none }
def TagNodesWrongFalsely : Prop := tagNodesRow.holds Try.pinned (OpenSpec.ofChange tagNodesWrong)

/- THE SECOND FORM. 'bulk': how many values and letters a reading holds, each counted each time it is reached (what is shared counts as often as it is met; a slice's spare places count too). A statement '..UptoSaid' is the law's where the arguments, and the package variables that the reading takes, are together of bulk at most 1048576: NARROWER than '..Said'. Prove '..Said' where nothing that the law and all that it calls make is longer than what came in: it says more and counts as full. Else prove '..UptoSaid'. A law counts once. -/
mutual
def uptoBulk {H : Type} : DataW H → Nat
  | .lit (.string bytes) => bytes.length + 1
  | .lit _ => 1
  | .nil => 1
  | .ptr d => uptoBulk d + 1
  | .slice elems spare => uptoBulkAll elems + uptoBulkAll spare + 1
  | .agg parts => uptoBulkAll parts + 1
  | .iface _ d => uptoBulk d + 1
  | .map entries => uptoBulkEntries entries + 1
  | .held _ => 1
def uptoBulkAll {H : Type} : List (DataW H) → Nat
  | [] => 0
  | d :: r => uptoBulk d + uptoBulkAll r
def uptoBulkEntries {H : Type} : List (Lit × DataW H) → Nat
  | [] => 0
  | x :: r => uptoBulkEntry x + uptoBulkEntries r
def uptoBulkEntry {H : Type} : Lit × DataW H → Nat
  | (.string bytes, d) => bytes.length + uptoBulk d + 1
  | (_, d) => uptoBulk d + 1
 end
def uptoSmall : (H : Type) → List (DataW H) → Bool := fun _ ds => decide (uptoBulkAll ds ≤ 1048576)
def OpenSpec.upto (s : _root_.Go.ChangeSpec) : _root_.Go.OpenSpec := { _root_.Go.OpenSpec.ofChange s with cond := some uptoSmall }

/-- 'imprimaturlaw03.DiskCalls', WHERE WHAT IT READS IS OF BULK AT MOST 1048576: true; the input reads as it did. -/
def diskCallsUptoRow : OpenClaim := { program := "ytedebapgmfnflaa", sum := "6f2eccf83dd6b97adbd893a918bcbab403f745d8e155cb864ce3700566caa8ea", func := "imprimatur/imprimaturlaw03.DiskCalls", spec := "diskCalls", apart := false, narrowed := true }
def DiskCallsUptoSaid : Prop := diskCallsUptoRow.holds Try.pinned (OpenSpec.upto diskCallsSpec)

/-- 'imprimaturlaw03.DiskLasts', WHERE WHAT IT READS IS OF BULK AT MOST 1048576: true; the input reads as it did. -/
def diskLastsUptoRow : OpenClaim := { program := "ytedebapgmfnflaa", sum := "6f2eccf83dd6b97adbd893a918bcbab403f745d8e155cb864ce3700566caa8ea", func := "imprimatur/imprimaturlaw03.DiskLasts", spec := "diskLasts", apart := false, narrowed := true }
def DiskLastsUptoSaid : Prop := diskLastsUptoRow.holds Try.pinned (OpenSpec.upto diskLastsSpec)

/-- 'imprimaturlaw03.DiskTwins', WHERE WHAT IT READS IS OF BULK AT MOST 1048576: true; the input reads as it did. -/
def diskTwinsUptoRow : OpenClaim := { program := "ytedebapgmfnflaa", sum := "6f2eccf83dd6b97adbd893a918bcbab403f745d8e155cb864ce3700566caa8ea", func := "imprimatur/imprimaturlaw03.DiskTwins", spec := "diskTwins", apart := false, narrowed := true }
def DiskTwinsUptoSaid : Prop := diskTwinsUptoRow.holds Try.pinned (OpenSpec.upto diskTwinsSpec)

/-- 'imprimaturlaw03.DiskLimits', WHERE WHAT IT READS IS OF BULK AT MOST 1048576: true; the input reads as it did. -/
def diskLimitsUptoRow : OpenClaim := { program := "ytedebapgmfnflaa", sum := "6f2eccf83dd6b97adbd893a918bcbab403f745d8e155cb864ce3700566caa8ea", func := "imprimatur/imprimaturlaw03.DiskLimits", spec := "diskLimits", apart := false, narrowed := true }
def DiskLimitsUptoSaid : Prop := diskLimitsUptoRow.holds Try.pinned (OpenSpec.upto diskLimitsSpec)

/-- 'imprimaturlaw03.DiskParts', WHERE WHAT IT READS IS OF BULK AT MOST 1048576: true; the input reads as it did. -/
def diskPartsUptoRow : OpenClaim := { program := "ytedebapgmfnflaa", sum := "6f2eccf83dd6b97adbd893a918bcbab403f745d8e155cb864ce3700566caa8ea", func := "imprimatur/imprimaturlaw03.DiskParts", spec := "diskParts", apart := false, narrowed := true }
def DiskPartsUptoSaid : Prop := diskPartsUptoRow.holds Try.pinned (OpenSpec.upto diskPartsSpec)

/-- 'imprimaturlaw01.ShaParts', WHERE WHAT IT READS IS OF BULK AT MOST 1048576: true; the input reads as it did. -/
def shaPartsUptoRow : OpenClaim := { program := "ytedebapgmfnflaa", sum := "6f2eccf83dd6b97adbd893a918bcbab403f745d8e155cb864ce3700566caa8ea", func := "imprimatur/imprimaturlaw01.ShaParts", spec := "shaParts", apart := false, narrowed := true }
def ShaPartsUptoSaid : Prop := shaPartsUptoRow.holds Try.pinned (OpenSpec.upto shaPartsSpec)

/-- 'imprimaturlaw01.ShaForks', WHERE WHAT IT READS IS OF BULK AT MOST 1048576: true; the input reads as it did. -/
def shaForksUptoRow : OpenClaim := { program := "ytedebapgmfnflaa", sum := "6f2eccf83dd6b97adbd893a918bcbab403f745d8e155cb864ce3700566caa8ea", func := "imprimatur/imprimaturlaw01.ShaForks", spec := "shaForks", apart := false, narrowed := true }
def ShaForksUptoSaid : Prop := shaForksUptoRow.holds Try.pinned (OpenSpec.upto shaForksSpec)

/-- 'imprimaturlaw01.ShaPads', WHERE WHAT IT READS IS OF BULK AT MOST 1048576: true; the input reads as it did. -/
def shaPadsUptoRow : OpenClaim := { program := "ytedebapgmfnflaa", sum := "6f2eccf83dd6b97adbd893a918bcbab403f745d8e155cb864ce3700566caa8ea", func := "imprimatur/imprimaturlaw01.ShaPads", spec := "shaPads", apart := false, narrowed := true }
def ShaPadsUptoSaid : Prop := shaPadsUptoRow.holds Try.pinned (OpenSpec.upto shaPadsSpec)

/-- 'imprimaturlaw01.ShaSums', WHERE WHAT IT READS IS OF BULK AT MOST 1048576: true; the input reads as it did. -/
def shaSumsUptoRow : OpenClaim := { program := "ytedebapgmfnflaa", sum := "6f2eccf83dd6b97adbd893a918bcbab403f745d8e155cb864ce3700566caa8ea", func := "imprimatur/imprimaturlaw01.ShaSums", spec := "shaSums", apart := false, narrowed := true }
def ShaSumsUptoSaid : Prop := shaSumsUptoRow.holds Try.pinned (OpenSpec.upto shaSumsSpec)

/-- 'imprimaturlaw01.ShaBlocks', WHERE WHAT IT READS IS OF BULK AT MOST 1048576: true; the input reads as it did. -/
def shaBlocksUptoRow : OpenClaim := { program := "ytedebapgmfnflaa", sum := "6f2eccf83dd6b97adbd893a918bcbab403f745d8e155cb864ce3700566caa8ea", func := "imprimatur/imprimaturlaw01.ShaBlocks", spec := "shaBlocks", apart := false, narrowed := true }
def ShaBlocksUptoSaid : Prop := shaBlocksUptoRow.holds Try.pinned (OpenSpec.upto shaBlocksSpec)

/-- 'imprimaturlaw02.TagAnswers', WHERE WHAT IT READS IS OF BULK AT MOST 1048576: true; the input reads as it did. -/
def tagAnswersUptoRow : OpenClaim := { program := "ytedebapgmfnflaa", sum := "6f2eccf83dd6b97adbd893a918bcbab403f745d8e155cb864ce3700566caa8ea", func := "imprimatur/imprimaturlaw02.TagAnswers", spec := "tagAnswers", inPlace := ["internal/abi.NoEscape", "internal/bytealg.IndexByteString", "internal/bytealg.Compare"], unfollowed := true, recurses := true, apart := false, narrowed := true }
def TagAnswersUptoSaid : Prop := tagAnswersUptoRow.holds Try.pinned (OpenSpec.upto tagAnswersSpec)

/-- 'imprimaturlaw02.TagFrames', WHERE WHAT IT READS IS OF BULK AT MOST 1048576: true; the input reads as it did. -/
def tagFramesUptoRow : OpenClaim := { program := "ytedebapgmfnflaa", sum := "6f2eccf83dd6b97adbd893a918bcbab403f745d8e155cb864ce3700566caa8ea", func := "imprimatur/imprimaturlaw02.TagFrames", spec := "tagFrames", inPlace := ["internal/abi.NoEscape", "internal/bytealg.IndexByteString", "internal/bytealg.Compare"], unfollowed := true, recurses := true, apart := false, narrowed := true }
def TagFramesUptoSaid : Prop := tagFramesUptoRow.holds Try.pinned (OpenSpec.upto tagFramesSpec)

/-- 'imprimaturlaw02.TagUnframes', WHERE WHAT IT READS IS OF BULK AT MOST 1048576: true; the input reads as it did. -/
def tagUnframesUptoRow : OpenClaim := { program := "ytedebapgmfnflaa", sum := "6f2eccf83dd6b97adbd893a918bcbab403f745d8e155cb864ce3700566caa8ea", func := "imprimatur/imprimaturlaw02.TagUnframes", spec := "tagUnframes", inPlace := ["internal/abi.NoEscape", "internal/bytealg.IndexByteString", "internal/bytealg.Compare"], unfollowed := true, recurses := true, apart := false, narrowed := true }
def TagUnframesUptoSaid : Prop := tagUnframesUptoRow.holds Try.pinned (OpenSpec.upto tagUnframesSpec)

/-- 'imprimaturlaw02.TagHex', WHERE WHAT IT READS IS OF BULK AT MOST 1048576: true; the input reads as it did. -/
def tagHexUptoRow : OpenClaim := { program := "ytedebapgmfnflaa", sum := "6f2eccf83dd6b97adbd893a918bcbab403f745d8e155cb864ce3700566caa8ea", func := "imprimatur/imprimaturlaw02.TagHex", spec := "tagHex", inPlace := ["internal/abi.NoEscape", "internal/bytealg.IndexByteString", "internal/bytealg.Compare"], unfollowed := true, recurses := true, apart := false, narrowed := true }
def TagHexUptoSaid : Prop := tagHexUptoRow.holds Try.pinned (OpenSpec.upto tagHexSpec)

/-- 'imprimaturlaw02.TagSets', WHERE WHAT IT READS IS OF BULK AT MOST 1048576: true; the input reads as it did. -/
def tagSetsUptoRow : OpenClaim := { program := "ytedebapgmfnflaa", sum := "6f2eccf83dd6b97adbd893a918bcbab403f745d8e155cb864ce3700566caa8ea", func := "imprimatur/imprimaturlaw02.TagSets", spec := "tagSets", inPlace := ["internal/abi.NoEscape", "internal/bytealg.IndexByteString", "internal/bytealg.Compare"], unfollowed := true, recurses := true, apart := false, narrowed := true }
def TagSetsUptoSaid : Prop := tagSetsUptoRow.holds Try.pinned (OpenSpec.upto tagSetsSpec)

/-- 'imprimaturlaw02.TagNodes', WHERE WHAT IT READS IS OF BULK AT MOST 1048576: true; the input reads as it did. -/
def tagNodesUptoRow : OpenClaim := { program := "ytedebapgmfnflaa", sum := "6f2eccf83dd6b97adbd893a918bcbab403f745d8e155cb864ce3700566caa8ea", func := "imprimatur/imprimaturlaw02.TagNodes", spec := "tagNodes", inPlace := ["internal/abi.NoEscape", "internal/bytealg.IndexByteString", "internal/bytealg.Compare"], unfollowed := true, recurses := true, apart := false, narrowed := true }
def TagNodesUptoSaid : Prop := tagNodesUptoRow.holds Try.pinned (OpenSpec.upto tagNodesSpec)

end Rows
end Go.Proofs.Ytedebapgmfnflaa
