/-
  No cell of these rows narrows 'for every input' (looked for: loops, veiled, ifaces, maps, wideKeys, modest, calm, conditions, laid).
  DERIVED. THE GIVEN ROWS OF THIS SEAT. 13 by the template 'for every input the law returns true; each argument reads behind the call as it read before'; 0 by the template 'total and deterministic' (their statements: YtkcimaibaicdcaaTotals.lean).
  GIVEN WITH THE SEED: the statements are not yours to turn. If you find one false, say at which input.
  Laid BY PROGRAM, IN A SANDBOX (cutbox-rows.mjs): the forced cells as the released guide's own fill.sh prints them over the translation b3fc3a9165e1d839… (all of the seat's roots in one cut). By AI agents, Wed Nov 11 2026. No macro, syntax, notation, axiom, sorry.
-/
import Derived.Test.YtkcimaibaicdcaaChecked
import GoSem.Claim
import GoSem.ClaimJoined
import GoSem.ClaimMapViews
import Derived.JoinedTies
import Derived.KernelRfl
namespace Go.Proofs.Ytkcimaibaicdcaa
/- THE CELL 'sum', in the pinned program and in every row, IS THE sha256 OF THE DUMP (.gsa) THAT YtkcimaibaicdcaaProg.lean LOADS. Nothing in Lean hashes anything: it is a label: what it is worth is what the hold of that sum in a sandbox is worth. -/
noncomputable def Try.pinned : Pinned := { name := "ytkcimaibaicdcaa", sum := "b3fc3a9165e1d839cc50fbd8cb7ed3dc71f8c81eccbac21543bc3c33d9faf739", checked := Try.checked }
namespace Rows
def none {H : Type} : Left H := { results := [], args := [] }

/-- 'plnlaw4.FlowTells': WHATEVER THE INPUT: true; the input reads as it did. -/
def flowTellsSpec : ChangeSpec := { name := "flowTells", fn := fun _ => fun
  | [d1, d2] => { results := [.lit (.bool true)], args := [d1, d2] }
  | _ => none }
def flowTellsRow : OpenClaim := { program := "ytkcimaibaicdcaa", sum := "b3fc3a9165e1d839cc50fbd8cb7ed3dc71f8c81eccbac21543bc3c33d9faf739", func := "planish/plnlaw4.FlowTells", spec := "flowTells", recurses := true, apart := false }
def FlowTellsSaid : Prop := flowTellsRow.holds Try.pinned (OpenSpec.ofChange flowTellsSpec)

/-- ITS FALSE NEIGHBOUR: 'it returns false'. Refute it at one input. -/
def flowTellsWrong : ChangeSpec := { name := "flowTells", fn := fun _ => fun
  | [d1, d2] => { results := [.lit (.bool false)], args := [d1, d2] }
  | _ => none }
def FlowTellsWrongFalsely : Prop := flowTellsRow.holds Try.pinned (OpenSpec.ofChange flowTellsWrong)

/-- 'plnlaw4.FlowOrders': WHATEVER THE INPUT: true; the input reads as it did. -/
def flowOrdersSpec : ChangeSpec := { name := "flowOrders", fn := fun _ => fun
  | [d] => { results := [.lit (.bool true)], args := [d] }
  | _ => none }
def flowOrdersRow : OpenClaim := { program := "ytkcimaibaicdcaa", sum := "b3fc3a9165e1d839cc50fbd8cb7ed3dc71f8c81eccbac21543bc3c33d9faf739", func := "planish/plnlaw4.FlowOrders", spec := "flowOrders", recurses := true, apart := false }
def FlowOrdersSaid : Prop := flowOrdersRow.holds Try.pinned (OpenSpec.ofChange flowOrdersSpec)

/-- ITS FALSE NEIGHBOUR: 'it returns false'. Refute it at one input. -/
def flowOrdersWrong : ChangeSpec := { name := "flowOrders", fn := fun _ => fun
  | [d] => { results := [.lit (.bool false)], args := [d] }
  | _ => none }
def FlowOrdersWrongFalsely : Prop := flowOrdersRow.holds Try.pinned (OpenSpec.ofChange flowOrdersWrong)

/-- 'plnlaw4.FlowWays': WHATEVER THE INPUT: true; the input reads as it did. -/
def flowWaysSpec : ChangeSpec := { name := "flowWays", fn := fun _ => fun
  | [d1, d2, d3] => { results := [.lit (.bool true)], args := [d1, d2, d3] }
  | _ => none }
def flowWaysRow : OpenClaim := { program := "ytkcimaibaicdcaa", sum := "b3fc3a9165e1d839cc50fbd8cb7ed3dc71f8c81eccbac21543bc3c33d9faf739", func := "planish/plnlaw4.FlowWays", spec := "flowWays", recurses := true, apart := false }
def FlowWaysSaid : Prop := flowWaysRow.holds Try.pinned (OpenSpec.ofChange flowWaysSpec)

/-- ITS FALSE NEIGHBOUR: 'it returns false'. Refute it at one input. -/
def flowWaysWrong : ChangeSpec := { name := "flowWays", fn := fun _ => fun
  | [d1, d2, d3] => { results := [.lit (.bool false)], args := [d1, d2, d3] }
  | _ => none }
def FlowWaysWrongFalsely : Prop := flowWaysRow.holds Try.pinned (OpenSpec.ofChange flowWaysWrong)

/-- 'plnlaw5.DomWays': WHATEVER THE INPUT: true; the input reads as it did. -/
def domWaysSpec : ChangeSpec := { name := "domWays", fn := fun _ => fun
  | [d1, d2] => { results := [.lit (.bool true)], args := [d1, d2] }
  | _ => none }
def domWaysRow : OpenClaim := { program := "ytkcimaibaicdcaa", sum := "b3fc3a9165e1d839cc50fbd8cb7ed3dc71f8c81eccbac21543bc3c33d9faf739", func := "planish/plnlaw5.DomWays", spec := "domWays", unfollowed := true, recurses := true, apart := false }
def DomWaysSaid : Prop := domWaysRow.holds Try.pinned (OpenSpec.ofChange domWaysSpec)

/-- ITS FALSE NEIGHBOUR: 'it returns false'. Refute it at one input. -/
def domWaysWrong : ChangeSpec := { name := "domWays", fn := fun _ => fun
  | [d1, d2] => { results := [.lit (.bool false)], args := [d1, d2] }
  | _ => none }
def DomWaysWrongFalsely : Prop := domWaysRow.holds Try.pinned (OpenSpec.ofChange domWaysWrong)

/-- 'plnlaw5.DomFronts': WHATEVER THE INPUT: true; the input reads as it did. -/
def domFrontsSpec : ChangeSpec := { name := "domFronts", fn := fun _ => fun
  | [d1, d2, d3] => { results := [.lit (.bool true)], args := [d1, d2, d3] }
  | _ => none }
def domFrontsRow : OpenClaim := { program := "ytkcimaibaicdcaa", sum := "b3fc3a9165e1d839cc50fbd8cb7ed3dc71f8c81eccbac21543bc3c33d9faf739", func := "planish/plnlaw5.DomFronts", spec := "domFronts", unfollowed := true, recurses := true, apart := false }
def DomFrontsSaid : Prop := domFrontsRow.holds Try.pinned (OpenSpec.ofChange domFrontsSpec)

/-- ITS FALSE NEIGHBOUR: 'it returns false'. Refute it at one input. -/
def domFrontsWrong : ChangeSpec := { name := "domFronts", fn := fun _ => fun
  | [d1, d2, d3] => { results := [.lit (.bool false)], args := [d1, d2, d3] }
  | _ => none }
def DomFrontsWrongFalsely : Prop := domFrontsRow.holds Try.pinned (OpenSpec.ofChange domFrontsWrong)

/-- 'plnlaw5.DomTells': WHATEVER THE INPUT: true; the input reads as it did. -/
def domTellsSpec : ChangeSpec := { name := "domTells", fn := fun _ => fun
  | [d1, d2, d3] => { results := [.lit (.bool true)], args := [d1, d2, d3] }
  | _ => none }
def domTellsRow : OpenClaim := { program := "ytkcimaibaicdcaa", sum := "b3fc3a9165e1d839cc50fbd8cb7ed3dc71f8c81eccbac21543bc3c33d9faf739", func := "planish/plnlaw5.DomTells", spec := "domTells", unfollowed := true, recurses := true, apart := false }
def DomTellsSaid : Prop := domTellsRow.holds Try.pinned (OpenSpec.ofChange domTellsSpec)

/-- ITS FALSE NEIGHBOUR: 'it returns false'. Refute it at one input. -/
def domTellsWrong : ChangeSpec := { name := "domTells", fn := fun _ => fun
  | [d1, d2, d3] => { results := [.lit (.bool false)], args := [d1, d2, d3] }
  | _ => none }
def DomTellsWrongFalsely : Prop := domTellsRow.holds Try.pinned (OpenSpec.ofChange domTellsWrong)

/-- 'plnlaw5.DomTree': WHATEVER THE INPUT: true; the input reads as it did. -/
def domTreeSpec : ChangeSpec := { name := "domTree", fn := fun _ => fun
  | [d1, d2, d3, d4] => { results := [.lit (.bool true)], args := [d1, d2, d3, d4] }
  | _ => none }
def domTreeRow : OpenClaim := { program := "ytkcimaibaicdcaa", sum := "b3fc3a9165e1d839cc50fbd8cb7ed3dc71f8c81eccbac21543bc3c33d9faf739", func := "planish/plnlaw5.DomTree", spec := "domTree", unfollowed := true, recurses := true, apart := false }
def DomTreeSaid : Prop := domTreeRow.holds Try.pinned (OpenSpec.ofChange domTreeSpec)

/-- ITS FALSE NEIGHBOUR: 'it returns false'. Refute it at one input. -/
def domTreeWrong : ChangeSpec := { name := "domTree", fn := fun _ => fun
  | [d1, d2, d3, d4] => { results := [.lit (.bool false)], args := [d1, d2, d3, d4] }
  | _ => none }
def DomTreeWrongFalsely : Prop := domTreeRow.holds Try.pinned (OpenSpec.ofChange domTreeWrong)

/-- 'plnlaw4.FlowTidies': WHATEVER THE INPUT: true; the input reads as it did. -/
def flowTidiesSpec : ChangeSpec := { name := "flowTidies", fn := fun _ => fun
  | [d1, d2, d3] => { results := [.lit (.bool true)], args := [d1, d2, d3] }
  | _ => none }
def flowTidiesRow : OpenClaim := { program := "ytkcimaibaicdcaa", sum := "b3fc3a9165e1d839cc50fbd8cb7ed3dc71f8c81eccbac21543bc3c33d9faf739", func := "planish/plnlaw4.FlowTidies", spec := "flowTidies", recurses := true, apart := false }
def FlowTidiesSaid : Prop := flowTidiesRow.holds Try.pinned (OpenSpec.ofChange flowTidiesSpec)

/-- ITS FALSE NEIGHBOUR: 'it returns false'. Refute it at one input. -/
def flowTidiesWrong : ChangeSpec := { name := "flowTidies", fn := fun _ => fun
  | [d1, d2, d3] => { results := [.lit (.bool false)], args := [d1, d2, d3] }
  | _ => none }
def FlowTidiesWrongFalsely : Prop := flowTidiesRow.holds Try.pinned (OpenSpec.ofChange flowTidiesWrong)

/-- 'plnlaw6.WfTells': WHATEVER THE INPUT: true; the input reads as it did. -/
def wfTellsSpec : ChangeSpec := { name := "wfTells", fn := fun _ => fun
  | [d1, d2, d3] => { results := [.lit (.bool true)], args := [d1, d2, d3] }
  | _ => none }
def wfTellsRow : OpenClaim := { program := "ytkcimaibaicdcaa", sum := "b3fc3a9165e1d839cc50fbd8cb7ed3dc71f8c81eccbac21543bc3c33d9faf739", func := "planish/plnlaw6.WfTells", spec := "wfTells", recurses := true, apart := false }
def WfTellsSaid : Prop := wfTellsRow.holds Try.pinned (OpenSpec.ofChange wfTellsSpec)

/-- ITS FALSE NEIGHBOUR: 'it returns false'. Refute it at one input. -/
def wfTellsWrong : ChangeSpec := { name := "wfTells", fn := fun _ => fun
  | [d1, d2, d3] => { results := [.lit (.bool false)], args := [d1, d2, d3] }
  | _ => none }
def WfTellsWrongFalsely : Prop := wfTellsRow.holds Try.pinned (OpenSpec.ofChange wfTellsWrong)

/-- 'plnlaw6.WfSteps': WHATEVER THE INPUT: true; the input reads as it did. -/
def wfStepsSpec : ChangeSpec := { name := "wfSteps", fn := fun _ => fun
  | [d1, d2, d3] => { results := [.lit (.bool true)], args := [d1, d2, d3] }
  | _ => none }
def wfStepsRow : OpenClaim := { program := "ytkcimaibaicdcaa", sum := "b3fc3a9165e1d839cc50fbd8cb7ed3dc71f8c81eccbac21543bc3c33d9faf739", func := "planish/plnlaw6.WfSteps", spec := "wfSteps", recurses := true, apart := false }
def WfStepsSaid : Prop := wfStepsRow.holds Try.pinned (OpenSpec.ofChange wfStepsSpec)

/-- ITS FALSE NEIGHBOUR: 'it returns false'. Refute it at one input. -/
def wfStepsWrong : ChangeSpec := { name := "wfSteps", fn := fun _ => fun
  | [d1, d2, d3] => { results := [.lit (.bool false)], args := [d1, d2, d3] }
  | _ => none }
def WfStepsWrongFalsely : Prop := wfStepsRow.holds Try.pinned (OpenSpec.ofChange wfStepsWrong)

/-- 'plnlaw6.WfSpoilt': WHATEVER THE INPUT: true; the input reads as it did. -/
def wfSpoiltSpec : ChangeSpec := { name := "wfSpoilt", fn := fun _ => fun
  | [d1, d2, d3, d4, d5] => { results := [.lit (.bool true)], args := [d1, d2, d3, d4, d5] }
  | _ => none }
def wfSpoiltRow : OpenClaim := { program := "ytkcimaibaicdcaa", sum := "b3fc3a9165e1d839cc50fbd8cb7ed3dc71f8c81eccbac21543bc3c33d9faf739", func := "planish/plnlaw6.WfSpoilt", spec := "wfSpoilt", recurses := true, apart := false }
def WfSpoiltSaid : Prop := wfSpoiltRow.holds Try.pinned (OpenSpec.ofChange wfSpoiltSpec)

/-- ITS FALSE NEIGHBOUR: 'it returns false'. Refute it at one input. -/
def wfSpoiltWrong : ChangeSpec := { name := "wfSpoilt", fn := fun _ => fun
  | [d1, d2, d3, d4, d5] => { results := [.lit (.bool false)], args := [d1, d2, d3, d4, d5] }
  | _ => none }
def WfSpoiltWrongFalsely : Prop := wfSpoiltRow.holds Try.pinned (OpenSpec.ofChange wfSpoiltWrong)

/-- 'plnlaw6.WfOrder': WHATEVER THE INPUT: true; the input reads as it did. -/
def wfOrderSpec : ChangeSpec := { name := "wfOrder", fn := fun _ => fun
  | [d1, d2, d3] => { results := [.lit (.bool true)], args := [d1, d2, d3] }
  | _ => none }
def wfOrderRow : OpenClaim := { program := "ytkcimaibaicdcaa", sum := "b3fc3a9165e1d839cc50fbd8cb7ed3dc71f8c81eccbac21543bc3c33d9faf739", func := "planish/plnlaw6.WfOrder", spec := "wfOrder", recurses := true, apart := false }
def WfOrderSaid : Prop := wfOrderRow.holds Try.pinned (OpenSpec.ofChange wfOrderSpec)

/-- ITS FALSE NEIGHBOUR: 'it returns false'. Refute it at one input. -/
def wfOrderWrong : ChangeSpec := { name := "wfOrder", fn := fun _ => fun
  | [d1, d2, d3] => { results := [.lit (.bool false)], args := [d1, d2, d3] }
  | _ => none }
def WfOrderWrongFalsely : Prop := wfOrderRow.holds Try.pinned (OpenSpec.ofChange wfOrderWrong)

/-- 'plnlaw6.WfLimits': WHATEVER THE INPUT: true; the input reads as it did. -/
def wfLimitsSpec : ChangeSpec := { name := "wfLimits", fn := fun _ => fun
  | [d1, d2] => { results := [.lit (.bool true)], args := [d1, d2] }
  | _ => none }
def wfLimitsRow : OpenClaim := { program := "ytkcimaibaicdcaa", sum := "b3fc3a9165e1d839cc50fbd8cb7ed3dc71f8c81eccbac21543bc3c33d9faf739", func := "planish/plnlaw6.WfLimits", spec := "wfLimits", recurses := true, apart := false }
def WfLimitsSaid : Prop := wfLimitsRow.holds Try.pinned (OpenSpec.ofChange wfLimitsSpec)

/-- ITS FALSE NEIGHBOUR: 'it returns false'. Refute it at one input. -/
def wfLimitsWrong : ChangeSpec := { name := "wfLimits", fn := fun _ => fun
  | [d1, d2] => { results := [.lit (.bool false)], args := [d1, d2] }
  | _ => none }
def WfLimitsWrongFalsely : Prop := wfLimitsRow.holds Try.pinned (OpenSpec.ofChange wfLimitsWrong)

/- THE SECOND FORM. 'bulk': how many values and letters a reading holds, each counted each time it is reached (what is shared counts as often as it is met; a slice's spare places count too). A statement '..UptoSaid' is the law's where the arguments, and the package variables that the reading takes, are together of bulk at most 1048576: NARROWER than '..Said'. Prove '..Said' where nothing that the law and all that it calls make is longer than what came in: it says more and counts as full. Else prove '..UptoSaid'. A law counts once. -/
mutual
def uptoBulk {H : Type} : DataW H → Nat
  | .lit (.string bytes) => bytes.length + 1
  | .lit _ => 1
  | .nil => 1
  | .ptr d => uptoBulk d + 1
  | .slice elems spare => uptoBulkAll elems + uptoBulkAll spare + 1
  | .agg parts => uptoBulkAll parts + 1
  | .iface _ d => uptoBulk d + 1
  | .map entries => uptoBulkEntries entries + 1
  | .held _ => 1
def uptoBulkAll {H : Type} : List (DataW H) → Nat
  | [] => 0
  | d :: r => uptoBulk d + uptoBulkAll r
def uptoBulkEntries {H : Type} : List (Lit × DataW H) → Nat
  | [] => 0
  | x :: r => uptoBulkEntry x + uptoBulkEntries r
def uptoBulkEntry {H : Type} : Lit × DataW H → Nat
  | (.string bytes, d) => bytes.length + uptoBulk d + 1
  | (_, d) => uptoBulk d + 1
 end
def uptoSmall : (H : Type) → List (DataW H) → Bool := fun _ ds => decide (uptoBulkAll ds ≤ 1048576)
def OpenSpec.upto (s : _root_.Go.ChangeSpec) : _root_.Go.OpenSpec := { _root_.Go.OpenSpec.ofChange s with cond := some uptoSmall }

/-- 'plnlaw4.FlowTells', WHERE WHAT IT READS IS OF BULK AT MOST 1048576: true; the input reads as it did. -/
def flowTellsUptoRow : OpenClaim := { program := "ytkcimaibaicdcaa", sum := "b3fc3a9165e1d839cc50fbd8cb7ed3dc71f8c81eccbac21543bc3c33d9faf739", func := "planish/plnlaw4.FlowTells", spec := "flowTells", recurses := true, apart := false, narrowed := true }
def FlowTellsUptoSaid : Prop := flowTellsUptoRow.holds Try.pinned (OpenSpec.upto flowTellsSpec)

/-- 'plnlaw4.FlowOrders', WHERE WHAT IT READS IS OF BULK AT MOST 1048576: true; the input reads as it did. -/
def flowOrdersUptoRow : OpenClaim := { program := "ytkcimaibaicdcaa", sum := "b3fc3a9165e1d839cc50fbd8cb7ed3dc71f8c81eccbac21543bc3c33d9faf739", func := "planish/plnlaw4.FlowOrders", spec := "flowOrders", recurses := true, apart := false, narrowed := true }
def FlowOrdersUptoSaid : Prop := flowOrdersUptoRow.holds Try.pinned (OpenSpec.upto flowOrdersSpec)

/-- 'plnlaw4.FlowWays', WHERE WHAT IT READS IS OF BULK AT MOST 1048576: true; the input reads as it did. -/
def flowWaysUptoRow : OpenClaim := { program := "ytkcimaibaicdcaa", sum := "b3fc3a9165e1d839cc50fbd8cb7ed3dc71f8c81eccbac21543bc3c33d9faf739", func := "planish/plnlaw4.FlowWays", spec := "flowWays", recurses := true, apart := false, narrowed := true }
def FlowWaysUptoSaid : Prop := flowWaysUptoRow.holds Try.pinned (OpenSpec.upto flowWaysSpec)

/-- 'plnlaw5.DomWays', WHERE WHAT IT READS IS OF BULK AT MOST 1048576: true; the input reads as it did. -/
def domWaysUptoRow : OpenClaim := { program := "ytkcimaibaicdcaa", sum := "b3fc3a9165e1d839cc50fbd8cb7ed3dc71f8c81eccbac21543bc3c33d9faf739", func := "planish/plnlaw5.DomWays", spec := "domWays", unfollowed := true, recurses := true, apart := false, narrowed := true }
def DomWaysUptoSaid : Prop := domWaysUptoRow.holds Try.pinned (OpenSpec.upto domWaysSpec)

/-- 'plnlaw5.DomFronts', WHERE WHAT IT READS IS OF BULK AT MOST 1048576: true; the input reads as it did. -/
def domFrontsUptoRow : OpenClaim := { program := "ytkcimaibaicdcaa", sum := "b3fc3a9165e1d839cc50fbd8cb7ed3dc71f8c81eccbac21543bc3c33d9faf739", func := "planish/plnlaw5.DomFronts", spec := "domFronts", unfollowed := true, recurses := true, apart := false, narrowed := true }
def DomFrontsUptoSaid : Prop := domFrontsUptoRow.holds Try.pinned (OpenSpec.upto domFrontsSpec)

/-- 'plnlaw5.DomTells', WHERE WHAT IT READS IS OF BULK AT MOST 1048576: true; the input reads as it did. -/
def domTellsUptoRow : OpenClaim := { program := "ytkcimaibaicdcaa", sum := "b3fc3a9165e1d839cc50fbd8cb7ed3dc71f8c81eccbac21543bc3c33d9faf739", func := "planish/plnlaw5.DomTells", spec := "domTells", unfollowed := true, recurses := true, apart := false, narrowed := true }
def DomTellsUptoSaid : Prop := domTellsUptoRow.holds Try.pinned (OpenSpec.upto domTellsSpec)

/-- 'plnlaw5.DomTree', WHERE WHAT IT READS IS OF BULK AT MOST 1048576: true; the input reads as it did. -/
def domTreeUptoRow : OpenClaim := { program := "ytkcimaibaicdcaa", sum := "b3fc3a9165e1d839cc50fbd8cb7ed3dc71f8c81eccbac21543bc3c33d9faf739", func := "planish/plnlaw5.DomTree", spec := "domTree", unfollowed := true, recurses := true, apart := false, narrowed := true }
def DomTreeUptoSaid : Prop := domTreeUptoRow.holds Try.pinned (OpenSpec.upto domTreeSpec)

/-- 'plnlaw4.FlowTidies', WHERE WHAT IT READS IS OF BULK AT MOST 1048576: true; the input reads as it did. -/
def flowTidiesUptoRow : OpenClaim := { program := "ytkcimaibaicdcaa", sum := "b3fc3a9165e1d839cc50fbd8cb7ed3dc71f8c81eccbac21543bc3c33d9faf739", func := "planish/plnlaw4.FlowTidies", spec := "flowTidies", recurses := true, apart := false, narrowed := true }
def FlowTidiesUptoSaid : Prop := flowTidiesUptoRow.holds Try.pinned (OpenSpec.upto flowTidiesSpec)

/-- 'plnlaw6.WfTells', WHERE WHAT IT READS IS OF BULK AT MOST 1048576: true; the input reads as it did. -/
def wfTellsUptoRow : OpenClaim := { program := "ytkcimaibaicdcaa", sum := "b3fc3a9165e1d839cc50fbd8cb7ed3dc71f8c81eccbac21543bc3c33d9faf739", func := "planish/plnlaw6.WfTells", spec := "wfTells", recurses := true, apart := false, narrowed := true }
def WfTellsUptoSaid : Prop := wfTellsUptoRow.holds Try.pinned (OpenSpec.upto wfTellsSpec)

/-- 'plnlaw6.WfSteps', WHERE WHAT IT READS IS OF BULK AT MOST 1048576: true; the input reads as it did. -/
def wfStepsUptoRow : OpenClaim := { program := "ytkcimaibaicdcaa", sum := "b3fc3a9165e1d839cc50fbd8cb7ed3dc71f8c81eccbac21543bc3c33d9faf739", func := "planish/plnlaw6.WfSteps", spec := "wfSteps", recurses := true, apart := false, narrowed := true }
def WfStepsUptoSaid : Prop := wfStepsUptoRow.holds Try.pinned (OpenSpec.upto wfStepsSpec)

/-- 'plnlaw6.WfSpoilt', WHERE WHAT IT READS IS OF BULK AT MOST 1048576: true; the input reads as it did. -/
def wfSpoiltUptoRow : OpenClaim := { program := "ytkcimaibaicdcaa", sum := "b3fc3a9165e1d839cc50fbd8cb7ed3dc71f8c81eccbac21543bc3c33d9faf739", func := "planish/plnlaw6.WfSpoilt", spec := "wfSpoilt", recurses := true, apart := false, narrowed := true }
def WfSpoiltUptoSaid : Prop := wfSpoiltUptoRow.holds Try.pinned (OpenSpec.upto wfSpoiltSpec)

/-- 'plnlaw6.WfOrder', WHERE WHAT IT READS IS OF BULK AT MOST 1048576: true; the input reads as it did. -/
def wfOrderUptoRow : OpenClaim := { program := "ytkcimaibaicdcaa", sum := "b3fc3a9165e1d839cc50fbd8cb7ed3dc71f8c81eccbac21543bc3c33d9faf739", func := "planish/plnlaw6.WfOrder", spec := "wfOrder", recurses := true, apart := false, narrowed := true }
def WfOrderUptoSaid : Prop := wfOrderUptoRow.holds Try.pinned (OpenSpec.upto wfOrderSpec)

/-- 'plnlaw6.WfLimits', WHERE WHAT IT READS IS OF BULK AT MOST 1048576: true; the input reads as it did. -/
def wfLimitsUptoRow : OpenClaim := { program := "ytkcimaibaicdcaa", sum := "b3fc3a9165e1d839cc50fbd8cb7ed3dc71f8c81eccbac21543bc3c33d9faf739", func := "planish/plnlaw6.WfLimits", spec := "wfLimits", recurses := true, apart := false, narrowed := true }
def WfLimitsUptoSaid : Prop := wfLimitsUptoRow.holds Try.pinned (OpenSpec.upto wfLimitsSpec)

end Rows
end Go.Proofs.Ytkcimaibaicdcaa
