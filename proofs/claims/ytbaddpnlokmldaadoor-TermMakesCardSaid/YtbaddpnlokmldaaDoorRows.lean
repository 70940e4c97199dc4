/-
  NARROWER THAN 'FOR EVERY INPUT', by the rows' own cells (each row's printed sentence says how): TermWords: laid · TermMakes: loops, laid · TermRights: loops, laid · TermSpines: loops, laid.
  DERIVED. THE GIVEN ROWS OF THIS SEAT. 4 by the template 'for every input the law returns true; each argument reads behind the call as it read before'; 0 by the template 'total and deterministic' (their statements: YtbaddpnlokmldaaDoorTotals.lean).
  GIVEN WITH THE SEED: the statements are not yours to turn. If you find one false, say at which input.
  Laid BY PROGRAM, IN A SANDBOX (cutbox-rows.mjs): the forced cells as the released guide's own fill.sh prints them over the translation d8c73b755353dd46… (all of the seat's roots in one cut). By AI agents, Wed Nov 11 2026. No macro, syntax, notation, axiom, sorry.
-/
import Derived.Test.YtbaddpnlokmldaaDoorChecked
import GoSem.PinnedTables
import GoSem.Claim
import GoSem.ClaimJoined
import GoSem.ClaimMapViews
import Derived.JoinedTies
import Derived.KernelRfl
namespace Go.Proofs.YtbaddpnlokmldaaDoor
/- THE CELL 'sum', in the pinned program and in every row, IS THE sha256 OF THE DUMP (.gsa) THAT YtbaddpnlokmldaaDoorProg.lean LOADS. Nothing in Lean hashes anything: it is a label: what it is worth is what the hold of that sum in a sandbox is worth. -/
noncomputable def Tryd.pinned : Pinned := { name := "ytbaddpnlokmldaadoor", sum := "d8c73b755353dd460a7df63015766b3209e1e919f850b9bde8931ac350d5730e", checked := Tryd.checked }
namespace Rows
def none {H : Type} : Left H := { results := [], args := [] }

/- WHAT THE LISTED PACKAGE-LEVEL VARIABLES READ AS WHEN THE CALL BEGINS. Each datum BY PROGRAM (the guide's laid-datum.mjs) off the statement by which the dump's own 'gosem.cut.vars' lays the variable. In a bare row this is a premise. The card (YtbaddpnlokmldaaDoorCards.lean) ties it to the program's text. -/
def laid_unicode_utf8_acceptRanges {H : Type} : DataW H := .agg [.agg [.lit (.int .u8 128), .lit (.int .u8 191)], .agg [.lit (.int .u8 160), .lit (.int .u8 191)], .agg [.lit (.int .u8 128), .lit (.int .u8 159)], .agg [.lit (.int .u8 144), .lit (.int .u8 191)], .agg [.lit (.int .u8 128), .lit (.int .u8 143)], .agg [.lit (.int .u8 0), .lit (.int .u8 0)], .agg [.lit (.int .u8 0), .lit (.int .u8 0)], .agg [.lit (.int .u8 0), .lit (.int .u8 0)], .agg [.lit (.int .u8 0), .lit (.int .u8 0)], .agg [.lit (.int .u8 0), .lit (.int .u8 0)], .agg [.lit (.int .u8 0), .lit (.int .u8 0)], .agg [.lit (.int .u8 0), .lit (.int .u8 0)], .agg [.lit (.int .u8 0), .lit (.int .u8 0)], .agg [.lit (.int .u8 0), .lit (.int .u8 0)], .agg [.lit (.int .u8 0), .lit (.int .u8 0)], .agg [.lit (.int .u8 0), .lit (.int .u8 0)]]
/-- One of Go's own tables, pinned by name: the form's constant. -/
def laid_unicode_utf8_first : DataW Unit := Go.Pinned.utf8First

/-- 'imprimaturlaw08.TermWords': WHATEVER THE INPUT: true; the input reads as it did. -/
def termWordsSpec : ChangeSpec := { name := "termWords", fn := fun _ => fun
  | [d] => { results := [.lit (.bool true)], args := [d] }
  | _ => none }
def termWordsRow : OpenClaim := { program := "ytbaddpnlokmldaadoor", sum := "d8c73b755353dd460a7df63015766b3209e1e919f850b9bde8931ac350d5730e", func := "imprimatur/imprimaturlaw08.TermWords", spec := "termWords", inPlace := ["internal/bytealg.IndexByteString", "internal/bytealg.IndexString"], unfollowed := true, recurses := true, named := ["internal/bytealg.MaxLen", "unicode/utf8.first", "unicode/utf8.acceptRanges"], apart := false, laid := [("unicode/utf8.acceptRanges", laid_unicode_utf8_acceptRanges), ("unicode/utf8.first", laid_unicode_utf8_first)] }
def TermWordsSaid : Prop := termWordsRow.holds Tryd.pinned (OpenSpec.ofChange termWordsSpec)

/-- ITS FALSE NEIGHBOUR: 'it returns false'. Refute it at one input. -/
def termWordsWrong : ChangeSpec := { name := "termWords", fn := fun _ => fun
  | [d] => { results := [.lit (.bool false)], args := [d] }
  | _ => none }
def TermWordsWrongFalsely : Prop := termWordsRow.holds Tryd.pinned (OpenSpec.ofChange termWordsWrong)

/-- 'imprimaturlaw08.TermMakes': WHATEVER THE INPUT: true; the input reads as it did. -/
def termMakesSpec : ChangeSpec := { name := "termMakes", fn := fun _ => fun
  | [d1, d2, d3] => { results := [.lit (.bool true)], args := [d1, d2, d3] }
  | _ => none }
def termMakesRow : OpenClaim := { program := "ytbaddpnlokmldaadoor", sum := "d8c73b755353dd460a7df63015766b3209e1e919f850b9bde8931ac350d5730e", func := "imprimatur/imprimaturlaw08.TermMakes", spec := "termMakes", inPlace := ["internal/bytealg.IndexByteString", "internal/bytealg.IndexString"], unfollowed := true, recurses := true, named := ["internal/bytealg.MaxLen", "unicode/utf8.first", "unicode/utf8.acceptRanges"], loops := true, apart := false, laid := [("unicode/utf8.acceptRanges", laid_unicode_utf8_acceptRanges), ("unicode/utf8.first", laid_unicode_utf8_first)] }
def TermMakesSaid : Prop := termMakesRow.holds Tryd.pinned (OpenSpec.ofChange termMakesSpec)

/-- ITS FALSE NEIGHBOUR: 'it returns false'. Refute it at one input. -/
def termMakesWrong : ChangeSpec := { name := "termMakes", fn := fun _ => fun
  | [d1, d2, d3] => { results := [.lit (.bool false)], args := [d1, d2, d3] }
  | _ => none }
def TermMakesWrongFalsely : Prop := termMakesRow.holds Tryd.pinned (OpenSpec.ofChange termMakesWrong)

/-- 'imprimaturlaw08.TermRights': WHATEVER THE INPUT: true; the input reads as it did. -/
def termRightsSpec : ChangeSpec := { name := "termRights", fn := fun _ => fun
  | [d1, d2, d3, d4] => { results := [.lit (.bool true)], args := [d1, d2, d3, d4] }
  | _ => none }
def termRightsRow : OpenClaim := { program := "ytbaddpnlokmldaadoor", sum := "d8c73b755353dd460a7df63015766b3209e1e919f850b9bde8931ac350d5730e", func := "imprimatur/imprimaturlaw08.TermRights", spec := "termRights", inPlace := ["internal/bytealg.IndexByteString", "internal/bytealg.IndexString"], unfollowed := true, recurses := true, named := ["internal/bytealg.MaxLen", "unicode/utf8.first", "unicode/utf8.acceptRanges"], loops := true, apart := false, laid := [("unicode/utf8.acceptRanges", laid_unicode_utf8_acceptRanges), ("unicode/utf8.first", laid_unicode_utf8_first)] }
def TermRightsSaid : Prop := termRightsRow.holds Tryd.pinned (OpenSpec.ofChange termRightsSpec)

/-- ITS FALSE NEIGHBOUR: 'it returns false'. Refute it at one input. -/
def termRightsWrong : ChangeSpec := { name := "termRights", fn := fun _ => fun
  | [d1, d2, d3, d4] => { results := [.lit (.bool false)], args := [d1, d2, d3, d4] }
  | _ => none }
def TermRightsWrongFalsely : Prop := termRightsRow.holds Tryd.pinned (OpenSpec.ofChange termRightsWrong)

/-- 'imprimaturlaw08.TermSpines': WHATEVER THE INPUT: true; the input reads as it did. -/
def termSpinesSpec : ChangeSpec := { name := "termSpines", fn := fun _ => fun
  | [d] => { results := [.lit (.bool true)], args := [d] }
  | _ => none }
def termSpinesRow : OpenClaim := { program := "ytbaddpnlokmldaadoor", sum := "d8c73b755353dd460a7df63015766b3209e1e919f850b9bde8931ac350d5730e", func := "imprimatur/imprimaturlaw08.TermSpines", spec := "termSpines", inPlace := ["internal/bytealg.IndexByteString", "internal/bytealg.IndexString"], unfollowed := true, recurses := true, named := ["internal/bytealg.MaxLen", "unicode/utf8.first", "unicode/utf8.acceptRanges"], loops := true, apart := false, laid := [("unicode/utf8.acceptRanges", laid_unicode_utf8_acceptRanges), ("unicode/utf8.first", laid_unicode_utf8_first)] }
def TermSpinesSaid : Prop := termSpinesRow.holds Tryd.pinned (OpenSpec.ofChange termSpinesSpec)

/-- ITS FALSE NEIGHBOUR: 'it returns false'. Refute it at one input. -/
def termSpinesWrong : ChangeSpec := { name := "termSpines", fn := fun _ => fun
  | [d] => { results := [.lit (.bool false)], args := [d] }
  | _ => none }
def TermSpinesWrongFalsely : Prop := termSpinesRow.holds Tryd.pinned (OpenSpec.ofChange termSpinesWrong)

/- THE SECOND FORM. 'bulk': how many values and letters a reading holds, each counted each time it is reached (what is shared counts as often as it is met; a slice's spare places count too). A statement '..UptoSaid' is the law's where the arguments, and the package variables that the reading takes, are together of bulk at most 1048576: NARROWER than '..Said'. Prove '..Said' where nothing that the law and all that it calls make is longer than what came in: it says more and counts as full. Else prove '..UptoSaid'. A law counts once. -/
mutual
def uptoBulk {H : Type} : DataW H → Nat
  | .lit (.string bytes) => bytes.length + 1
  | .lit _ => 1
  | .nil => 1
  | .ptr d => uptoBulk d + 1
  | .slice elems spare => uptoBulkAll elems + uptoBulkAll spare + 1
  | .agg parts => uptoBulkAll parts + 1
  | .iface _ d => uptoBulk d + 1
  | .map entries => uptoBulkEntries entries + 1
  | .held _ => 1
def uptoBulkAll {H : Type} : List (DataW H) → Nat
  | [] => 0
  | d :: r => uptoBulk d + uptoBulkAll r
def uptoBulkEntries {H : Type} : List (Lit × DataW H) → Nat
  | [] => 0
  | x :: r => uptoBulkEntry x + uptoBulkEntries r
def uptoBulkEntry {H : Type} : Lit × DataW H → Nat
  | (.string bytes, d) => bytes.length + uptoBulk d + 1
  | (_, d) => uptoBulk d + 1
 end
def uptoSmall : (H : Type) → List (DataW H) → Bool := fun _ ds => decide (uptoBulkAll ds ≤ 1048576)
def OpenSpec.upto (s : _root_.Go.ChangeSpec) : _root_.Go.OpenSpec := { _root_.Go.OpenSpec.ofChange s with cond := some uptoSmall }

/-- 'imprimaturlaw08.TermWords', WHERE WHAT IT READS IS OF BULK AT MOST 1048576: true; the input reads as it did. -/
def termWordsUptoRow : OpenClaim := { program := "ytbaddpnlokmldaadoor", sum := "d8c73b755353dd460a7df63015766b3209e1e919f850b9bde8931ac350d5730e", func := "imprimatur/imprimaturlaw08.TermWords", spec := "termWords", inPlace := ["internal/bytealg.IndexByteString", "internal/bytealg.IndexString"], unfollowed := true, recurses := true, named := ["internal/bytealg.MaxLen", "unicode/utf8.first", "unicode/utf8.acceptRanges"], apart := false, laid := [("unicode/utf8.acceptRanges", laid_unicode_utf8_acceptRanges), ("unicode/utf8.first", laid_unicode_utf8_first)], narrowed := true }
def TermWordsUptoSaid : Prop := termWordsUptoRow.holds Tryd.pinned (OpenSpec.upto termWordsSpec)

/-- 'imprimaturlaw08.TermMakes', WHERE WHAT IT READS IS OF BULK AT MOST 1048576: true; the input reads as it did. -/
def termMakesUptoRow : OpenClaim := { program := "ytbaddpnlokmldaadoor", sum := "d8c73b755353dd460a7df63015766b3209e1e919f850b9bde8931ac350d5730e", func := "imprimatur/imprimaturlaw08.TermMakes", spec := "termMakes", inPlace := ["internal/bytealg.IndexByteString", "internal/bytealg.IndexString"], unfollowed := true, recurses := true, named := ["internal/bytealg.MaxLen", "unicode/utf8.first", "unicode/utf8.acceptRanges"], loops := true, apart := false, laid := [("unicode/utf8.acceptRanges", laid_unicode_utf8_acceptRanges), ("unicode/utf8.first", laid_unicode_utf8_first)], narrowed := true }
def TermMakesUptoSaid : Prop := termMakesUptoRow.holds Tryd.pinned (OpenSpec.upto termMakesSpec)

/-- 'imprimaturlaw08.TermRights', WHERE WHAT IT READS IS OF BULK AT MOST 1048576: true; the input reads as it did. -/
def termRightsUptoRow : OpenClaim := { program := "ytbaddpnlokmldaadoor", sum := "d8c73b755353dd460a7df63015766b3209e1e919f850b9bde8931ac350d5730e", func := "imprimatur/imprimaturlaw08.TermRights", spec := "termRights", inPlace := ["internal/bytealg.IndexByteString", "internal/bytealg.IndexString"], unfollowed := true, recurses := true, named := ["internal/bytealg.MaxLen", "unicode/utf8.first", "unicode/utf8.acceptRanges"], loops := true, apart := false, laid := [("unicode/utf8.acceptRanges", laid_unicode_utf8_acceptRanges), ("unicode/utf8.first", laid_unicode_utf8_first)], narrowed := true }
def TermRightsUptoSaid : Prop := termRightsUptoRow.holds Tryd.pinned (OpenSpec.upto termRightsSpec)

/-- 'imprimaturlaw08.TermSpines', WHERE WHAT IT READS IS OF BULK AT MOST 1048576: true; the input reads as it did. -/
def termSpinesUptoRow : OpenClaim := { program := "ytbaddpnlokmldaadoor", sum := "d8c73b755353dd460a7df63015766b3209e1e919f850b9bde8931ac350d5730e", func := "imprimatur/imprimaturlaw08.TermSpines", spec := "termSpines", inPlace := ["internal/bytealg.IndexByteString", "internal/bytealg.IndexString"], unfollowed := true, recurses := true, named := ["internal/bytealg.MaxLen", "unicode/utf8.first", "unicode/utf8.acceptRanges"], loops := true, apart := false, laid := [("unicode/utf8.acceptRanges", laid_unicode_utf8_acceptRanges), ("unicode/utf8.first", laid_unicode_utf8_first)], narrowed := true }
def TermSpinesUptoSaid : Prop := termSpinesUptoRow.holds Tryd.pinned (OpenSpec.upto termSpinesSpec)

end Rows
end Go.Proofs.YtbaddpnlokmldaaDoor
