/-
  No cell of these rows narrows 'for every input' (looked for: loops, veiled, ifaces, maps, wideKeys, modest, calm, conditions, laid).
  DERIVED. THE GIVEN ROWS OF THIS SEAT. 6 by the template 'for every input the law returns true; each argument reads behind the call as it read before'; 0 by the template 'total and deterministic' (their statements: YtahcbcgakadfpaaTotals.lean).
  GIVEN WITH THE SEED: the statements are not yours to turn. If you find one false, say at which input.
  Laid BY PROGRAM, IN A SANDBOX (cutbox-rows.mjs): the forced cells as the released guide's own fill.sh prints them over the translation c15b737e81759c3a… (all of the seat's roots in one cut). By AI agents, Wed Nov 11 2026. No macro, syntax, notation, axiom, sorry.
-/
import Derived.Test.YtahcbcgakadfpaaChecked
import GoSem.Claim
import GoSem.ClaimJoined
import GoSem.ClaimMapViews
import Derived.JoinedTies
import Derived.KernelRfl
namespace Go.Proofs.Ytahcbcgakadfpaa
/- THE CELL 'sum', in the pinned program and in every row, IS THE sha256 OF THE DUMP (.gsa) THAT YtahcbcgakadfpaaProg.lean LOADS. Nothing in Lean hashes anything: it is a label: what it is worth is what the hold of that sum in a sandbox is worth. -/
noncomputable def Try.pinned : Pinned := { name := "ytahcbcgakadfpaa", sum := "c15b737e81759c3a9ec0234b62a35d80a2855f91563d4a5a7a93132a3127d7a0", checked := Try.checked }
namespace Rows
def none {H : Type} : Left H := { results := [], args := [] }

/-- 'plnlaw31.StripRow': WHATEVER THE INPUT: true; the input reads as it did. -/
def stripRowSpec : ChangeSpec := { name := "stripRow", fn := fun _ => fun
  | [d1, d2] => { results := [.lit (.bool true)], args := [d1, d2] }
  | _ => none }
def stripRowRow : OpenClaim := { program := "ytahcbcgakadfpaa", sum := "c15b737e81759c3a9ec0234b62a35d80a2855f91563d4a5a7a93132a3127d7a0", func := "planish/plnlaw31.StripRow", spec := "stripRow", recurses := true, apart := false }
def StripRowSaid : Prop := stripRowRow.holds Try.pinned (OpenSpec.ofChange stripRowSpec)

/-- ITS FALSE NEIGHBOUR: 'it returns false'. Refute it at one input. -/
def stripRowWrong : ChangeSpec := { name := "stripRow", fn := fun _ => fun
  | [d1, d2] => { results := [.lit (.bool false)], args := [d1, d2] }
  | _ => none }
def StripRowWrongFalsely : Prop := stripRowRow.holds Try.pinned (OpenSpec.ofChange stripRowWrong)

/-- 'plnlaw20.PhisChain': WHATEVER THE INPUT: true; the input reads as it did. -/
def phisChainSpec : ChangeSpec := { name := "phisChain", fn := fun _ => fun
  | [d] => { results := [.lit (.bool true)], args := [d] }
  | _ => none }
def phisChainRow : OpenClaim := { program := "ytahcbcgakadfpaa", sum := "c15b737e81759c3a9ec0234b62a35d80a2855f91563d4a5a7a93132a3127d7a0", func := "planish/plnlaw20.PhisChain", spec := "phisChain", recurses := true, apart := false }
def PhisChainSaid : Prop := phisChainRow.holds Try.pinned (OpenSpec.ofChange phisChainSpec)

/-- ITS FALSE NEIGHBOUR: 'it returns false'. Refute it at one input. -/
def phisChainWrong : ChangeSpec := { name := "phisChain", fn := fun _ => fun
  | [d] => { results := [.lit (.bool false)], args := [d] }
  | _ => none }
def PhisChainWrongFalsely : Prop := phisChainRow.holds Try.pinned (OpenSpec.ofChange phisChainWrong)

/-- 'plnlaw26.TailDeep': WHATEVER THE INPUT: true; the input reads as it did. -/
def tailDeepSpec : ChangeSpec := { name := "tailDeep", fn := fun _ => fun
  | [d] => { results := [.lit (.bool true)], args := [d] }
  | _ => none }
def tailDeepRow : OpenClaim := { program := "ytahcbcgakadfpaa", sum := "c15b737e81759c3a9ec0234b62a35d80a2855f91563d4a5a7a93132a3127d7a0", func := "planish/plnlaw26.TailDeep", spec := "tailDeep", unfollowed := true, recurses := true, apart := false }
def TailDeepSaid : Prop := tailDeepRow.holds Try.pinned (OpenSpec.ofChange tailDeepSpec)

/-- ITS FALSE NEIGHBOUR: 'it returns false'. Refute it at one input. -/
def tailDeepWrong : ChangeSpec := { name := "tailDeep", fn := fun _ => fun
  | [d] => { results := [.lit (.bool false)], args := [d] }
  | _ => none }
def TailDeepWrongFalsely : Prop := tailDeepRow.holds Try.pinned (OpenSpec.ofChange tailDeepWrong)

/-- 'plnlaw22.TrimRows': WHATEVER THE INPUT: true; the input reads as it did. -/
def trimRowsSpec : ChangeSpec := { name := "trimRows", fn := fun _ => fun
  | [d1, d2] => { results := [.lit (.bool true)], args := [d1, d2] }
  | _ => none }
def trimRowsRow : OpenClaim := { program := "ytahcbcgakadfpaa", sum := "c15b737e81759c3a9ec0234b62a35d80a2855f91563d4a5a7a93132a3127d7a0", func := "planish/plnlaw22.TrimRows", spec := "trimRows", recurses := true, apart := false }
def TrimRowsSaid : Prop := trimRowsRow.holds Try.pinned (OpenSpec.ofChange trimRowsSpec)

/-- ITS FALSE NEIGHBOUR: 'it returns false'. Refute it at one input. -/
def trimRowsWrong : ChangeSpec := { name := "trimRows", fn := fun _ => fun
  | [d1, d2] => { results := [.lit (.bool false)], args := [d1, d2] }
  | _ => none }
def TrimRowsWrongFalsely : Prop := trimRowsRow.holds Try.pinned (OpenSpec.ofChange trimRowsWrong)

/-- 'plnlaw11.SemDeep': WHATEVER THE INPUT: true; the input reads as it did. -/
def semDeepSpec : ChangeSpec := { name := "semDeep", fn := fun _ => fun
  | [d] => { results := [.lit (.bool true)], args := [d] }
  | _ => none }
def semDeepRow : OpenClaim := { program := "ytahcbcgakadfpaa", sum := "c15b737e81759c3a9ec0234b62a35d80a2855f91563d4a5a7a93132a3127d7a0", func := "planish/plnlaw11.SemDeep", spec := "semDeep", unfollowed := true, recurses := true, apart := false }
def SemDeepSaid : Prop := semDeepRow.holds Try.pinned (OpenSpec.ofChange semDeepSpec)

/-- ITS FALSE NEIGHBOUR: 'it returns false'. Refute it at one input. -/
def semDeepWrong : ChangeSpec := { name := "semDeep", fn := fun _ => fun
  | [d] => { results := [.lit (.bool false)], args := [d] }
  | _ => none }
def SemDeepWrongFalsely : Prop := semDeepRow.holds Try.pinned (OpenSpec.ofChange semDeepWrong)

/-- 'plnlaw11.SemAlike': WHATEVER THE INPUT: true; the input reads as it did. -/
def semAlikeSpec : ChangeSpec := { name := "semAlike", fn := fun _ => fun
  | [d1, d2, d3] => { results := [.lit (.bool true)], args := [d1, d2, d3] }
  | _ => none }
def semAlikeRow : OpenClaim := { program := "ytahcbcgakadfpaa", sum := "c15b737e81759c3a9ec0234b62a35d80a2855f91563d4a5a7a93132a3127d7a0", func := "planish/plnlaw11.SemAlike", spec := "semAlike", unfollowed := true, recurses := true, apart := false }
def SemAlikeSaid : Prop := semAlikeRow.holds Try.pinned (OpenSpec.ofChange semAlikeSpec)

/-- ITS FALSE NEIGHBOUR: 'it returns false'. Refute it at one input. -/
def semAlikeWrong : ChangeSpec := { name := "semAlike", fn := fun _ => fun
  | [d1, d2, d3] => { results := [.lit (.bool false)], args := [d1, d2, d3] }
  | _ => none }
def SemAlikeWrongFalsely : Prop := semAlikeRow.holds Try.pinned (OpenSpec.ofChange semAlikeWrong)

/- THE SECOND FORM. 'bulk': how many values and letters a reading holds, each counted each time it is reached (what is shared counts as often as it is met; a slice's spare places count too). A statement '..UptoSaid' is the law's where the arguments, and the package variables that the reading takes, are together of bulk at most 1048576: NARROWER than '..Said'. Prove '..Said' where nothing that the law and all that it calls make is longer than what came in: it says more and counts as full. Else prove '..UptoSaid'. A law counts once. -/
mutual
def uptoBulk {H : Type} : DataW H → Nat
  | .lit (.string bytes) => bytes.length + 1
  | .lit _ => 1
  | .nil => 1
  | .ptr d => uptoBulk d + 1
  | .slice elems spare => uptoBulkAll elems + uptoBulkAll spare + 1
  | .agg parts => uptoBulkAll parts + 1
  | .iface _ d => uptoBulk d + 1
  | .map entries => uptoBulkEntries entries + 1
  | .held _ => 1
def uptoBulkAll {H : Type} : List (DataW H) → Nat
  | [] => 0
  | d :: r => uptoBulk d + uptoBulkAll r
def uptoBulkEntries {H : Type} : List (Lit × DataW H) → Nat
  | [] => 0
  | x :: r => uptoBulkEntry x + uptoBulkEntries r
def uptoBulkEntry {H : Type} : Lit × DataW H → Nat
  | (.string bytes, d) => bytes.length + uptoBulk d + 1
  | (_, d) => uptoBulk d + 1
 end
def uptoSmall : (H : Type) → List (DataW H) → Bool := fun _ ds => decide (uptoBulkAll ds ≤ 1048576)
def OpenSpec.upto (s : _root_.Go.ChangeSpec) : _root_.Go.OpenSpec := { _root_.Go.OpenSpec.ofChange s with cond := some uptoSmall }

/-- 'plnlaw31.StripRow', WHERE WHAT IT READS IS OF BULK AT MOST 1048576: true; the input reads as it did. -/
def stripRowUptoRow : OpenClaim := { program := "ytahcbcgakadfpaa", sum := "c15b737e81759c3a9ec0234b62a35d80a2855f91563d4a5a7a93132a3127d7a0", func := "planish/plnlaw31.StripRow", spec := "stripRow", recurses := true, apart := false, narrowed := true }
def StripRowUptoSaid : Prop := stripRowUptoRow.holds Try.pinned (OpenSpec.upto stripRowSpec)

/-- 'plnlaw20.PhisChain', WHERE WHAT IT READS IS OF BULK AT MOST 1048576: true; the input reads as it did. -/
def phisChainUptoRow : OpenClaim := { program := "ytahcbcgakadfpaa", sum := "c15b737e81759c3a9ec0234b62a35d80a2855f91563d4a5a7a93132a3127d7a0", func := "planish/plnlaw20.PhisChain", spec := "phisChain", recurses := true, apart := false, narrowed := true }
def PhisChainUptoSaid : Prop := phisChainUptoRow.holds Try.pinned (OpenSpec.upto phisChainSpec)

/-- 'plnlaw26.TailDeep', WHERE WHAT IT READS IS OF BULK AT MOST 1048576: true; the input reads as it did. -/
def tailDeepUptoRow : OpenClaim := { program := "ytahcbcgakadfpaa", sum := "c15b737e81759c3a9ec0234b62a35d80a2855f91563d4a5a7a93132a3127d7a0", func := "planish/plnlaw26.TailDeep", spec := "tailDeep", unfollowed := true, recurses := true, apart := false, narrowed := true }
def TailDeepUptoSaid : Prop := tailDeepUptoRow.holds Try.pinned (OpenSpec.upto tailDeepSpec)

/-- 'plnlaw22.TrimRows', WHERE WHAT IT READS IS OF BULK AT MOST 1048576: true; the input reads as it did. -/
def trimRowsUptoRow : OpenClaim := { program := "ytahcbcgakadfpaa", sum := "c15b737e81759c3a9ec0234b62a35d80a2855f91563d4a5a7a93132a3127d7a0", func := "planish/plnlaw22.TrimRows", spec := "trimRows", recurses := true, apart := false, narrowed := true }
def TrimRowsUptoSaid : Prop := trimRowsUptoRow.holds Try.pinned (OpenSpec.upto trimRowsSpec)

/-- 'plnlaw11.SemDeep', WHERE WHAT IT READS IS OF BULK AT MOST 1048576: true; the input reads as it did. -/
def semDeepUptoRow : OpenClaim := { program := "ytahcbcgakadfpaa", sum := "c15b737e81759c3a9ec0234b62a35d80a2855f91563d4a5a7a93132a3127d7a0", func := "planish/plnlaw11.SemDeep", spec := "semDeep", unfollowed := true, recurses := true, apart := false, narrowed := true }
def SemDeepUptoSaid : Prop := semDeepUptoRow.holds Try.pinned (OpenSpec.upto semDeepSpec)

/-- 'plnlaw11.SemAlike', WHERE WHAT IT READS IS OF BULK AT MOST 1048576: true; the input reads as it did. -/
def semAlikeUptoRow : OpenClaim := { program := "ytahcbcgakadfpaa", sum := "c15b737e81759c3a9ec0234b62a35d80a2855f91563d4a5a7a93132a3127d7a0", func := "planish/plnlaw11.SemAlike", spec := "semAlike", unfollowed := true, recurses := true, apart := false, narrowed := true }
def SemAlikeUptoSaid : Prop := semAlikeUptoRow.holds Try.pinned (OpenSpec.upto semAlikeSpec)

end Rows
end Go.Proofs.Ytahcbcgakadfpaa
