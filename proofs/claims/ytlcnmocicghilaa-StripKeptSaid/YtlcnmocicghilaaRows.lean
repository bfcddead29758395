/-
  No cell of these rows narrows 'for every input' (looked for: loops, veiled, ifaces, maps, wideKeys, modest, calm, conditions, laid).
  DERIVED. THE GIVEN ROWS OF THIS SEAT. 3 by the template 'for every input the law returns true; each argument reads behind the call as it read before'; 0 by the template 'total and deterministic' (their statements: YtlcnmocicghilaaTotals.lean).
  GIVEN WITH THE SEED: the statements are not yours to turn. If you find one false, say at which input.
  Laid BY PROGRAM, IN A SANDBOX (cutbox-rows.mjs): the forced cells as the released guide's own fill.sh prints them over the translation 4e014e34757afadf… (all of the seat's roots in one cut). By AI agents, Wed Nov 11 2026. No macro, syntax, notation, axiom, sorry.
-/
import Derived.Test.YtlcnmocicghilaaChecked
import GoSem.Claim
import GoSem.ClaimJoined
import GoSem.ClaimMapViews
import Derived.JoinedTies
import Derived.KernelRfl
namespace Go.Proofs.Ytlcnmocicghilaa
/- THE CELL 'sum', in the pinned program and in every row, IS THE sha256 OF THE DUMP (.gsa) THAT YtlcnmocicghilaaProg.lean LOADS. Nothing in Lean hashes anything: it is a label: what it is worth is what the hold of that sum in a sandbox is worth. -/
noncomputable def Try.pinned : Pinned := { name := "ytlcnmocicghilaa", sum := "4e014e34757afadfa3932cf37a0c051671d7b3a6a860c2ffb7d7e6cb928a90db", checked := Try.checked }
namespace Rows
def none {H : Type} : Left H := { results := [], args := [] }

/-- 'plnlaw31.StripKept': WHATEVER THE INPUT: true; the input reads as it did. -/
def stripKeptSpec : ChangeSpec := { name := "stripKept", fn := fun _ => fun
  | [d] => { results := [.lit (.bool true)], args := [d] }
  | _ => none }
def stripKeptRow : OpenClaim := { program := "ytlcnmocicghilaa", sum := "4e014e34757afadfa3932cf37a0c051671d7b3a6a860c2ffb7d7e6cb928a90db", func := "planish/plnlaw31.StripKept", spec := "stripKept", recurses := true, apart := false }
def StripKeptSaid : Prop := stripKeptRow.holds Try.pinned (OpenSpec.ofChange stripKeptSpec)

/-- ITS FALSE NEIGHBOUR: 'it returns false'. Refute it at one input. -/
def stripKeptWrong : ChangeSpec := { name := "stripKept", fn := fun _ => fun
  | [d] => { results := [.lit (.bool false)], args := [d] }
  | _ => none }
def StripKeptWrongFalsely : Prop := stripKeptRow.holds Try.pinned (OpenSpec.ofChange stripKeptWrong)

/-- 'plnlaw26.TailSites': WHATEVER THE INPUT: true; the input reads as it did. -/
def tailSitesSpec : ChangeSpec := { name := "tailSites", fn := fun _ => fun
  | [d1, d2] => { results := [.lit (.bool true)], args := [d1, d2] }
  | _ => none }
def tailSitesRow : OpenClaim := { program := "ytlcnmocicghilaa", sum := "4e014e34757afadfa3932cf37a0c051671d7b3a6a860c2ffb7d7e6cb928a90db", func := "planish/plnlaw26.TailSites", spec := "tailSites", unfollowed := true, recurses := true, apart := false }
def TailSitesSaid : Prop := tailSitesRow.holds Try.pinned (OpenSpec.ofChange tailSitesSpec)

/-- ITS FALSE NEIGHBOUR: 'it returns false'. Refute it at one input. -/
def tailSitesWrong : ChangeSpec := { name := "tailSites", fn := fun _ => fun
  | [d1, d2] => { results := [.lit (.bool false)], args := [d1, d2] }
  | _ => none }
def TailSitesWrongFalsely : Prop := tailSitesRow.holds Try.pinned (OpenSpec.ofChange tailSitesWrong)

/-- 'plnlaw24.PromoMay': WHATEVER THE INPUT: true; the input reads as it did. -/
def promoMaySpec : ChangeSpec := { name := "promoMay", fn := fun _ => fun
  | [d1, d2] => { results := [.lit (.bool true)], args := [d1, d2] }
  | _ => none }
def promoMayRow : OpenClaim := { program := "ytlcnmocicghilaa", sum := "4e014e34757afadfa3932cf37a0c051671d7b3a6a860c2ffb7d7e6cb928a90db", func := "planish/plnlaw24.PromoMay", spec := "promoMay", unfollowed := true, recurses := true, apart := false }
def PromoMaySaid : Prop := promoMayRow.holds Try.pinned (OpenSpec.ofChange promoMaySpec)

/-- ITS FALSE NEIGHBOUR: 'it returns false'. Refute it at one input. -/
def promoMayWrong : ChangeSpec := { name := "promoMay", fn := fun _ => fun
  | [d1, d2] => { results := [.lit (.bool false)], args := [d1, d2] }
  | _ => none }
def PromoMayWrongFalsely : Prop := promoMayRow.holds Try.pinned (OpenSpec.ofChange promoMayWrong)

/- THE SECOND FORM. 'bulk': how many values and letters a reading holds, each counted each time it is reached (what is shared counts as often as it is met; a slice's spare places count too). A statement '..UptoSaid' is the law's where the arguments, and the package variables that the reading takes, are together of bulk at most 1048576: NARROWER than '..Said'. Prove '..Said' where nothing that the law and all that it calls make is longer than what came in: it says more and counts as full. Else prove '..UptoSaid'. A law counts once. -/
mutual
def uptoBulk {H : Type} : DataW H → Nat
  | .lit (.string bytes) => bytes.length + 1
  | .lit _ => 1
  | .nil => 1
  | .ptr d => uptoBulk d + 1
  | .slice elems spare => uptoBulkAll elems + uptoBulkAll spare + 1
  | .agg parts => uptoBulkAll parts + 1
  | .iface _ d => uptoBulk d + 1
  | .map entries => uptoBulkEntries entries + 1
  | .held _ => 1
def uptoBulkAll {H : Type} : List (DataW H) → Nat
  | [] => 0
  | d :: r => uptoBulk d + uptoBulkAll r
def uptoBulkEntries {H : Type} : List (Lit × DataW H) → Nat
  | [] => 0
  | x :: r => uptoBulkEntry x + uptoBulkEntries r
def uptoBulkEntry {H : Type} : Lit × DataW H → Nat
  | (.string bytes, d) => bytes.length + uptoBulk d + 1
  | (_, d) => uptoBulk d + 1
 end
def uptoSmall : (H : Type) → List (DataW H) → Bool := fun _ ds => decide (uptoBulkAll ds ≤ 1048576)
def OpenSpec.upto (s : _root_.Go.ChangeSpec) : _root_.Go.OpenSpec := { _root_.Go.OpenSpec.ofChange s with cond := some uptoSmall }

/-- 'plnlaw31.StripKept', WHERE WHAT IT READS IS OF BULK AT MOST 1048576: true; the input reads as it did. -/
def stripKeptUptoRow : OpenClaim := { program := "ytlcnmocicghilaa", sum := "4e014e34757afadfa3932cf37a0c051671d7b3a6a860c2ffb7d7e6cb928a90db", func := "planish/plnlaw31.StripKept", spec := "stripKept", recurses := true, apart := false, narrowed := true }
def StripKeptUptoSaid : Prop := stripKeptUptoRow.holds Try.pinned (OpenSpec.upto stripKeptSpec)

/-- 'plnlaw26.TailSites', WHERE WHAT IT READS IS OF BULK AT MOST 1048576: true; the input reads as it did. -/
def tailSitesUptoRow : OpenClaim := { program := "ytlcnmocicghilaa", sum := "4e014e34757afadfa3932cf37a0c051671d7b3a6a860c2ffb7d7e6cb928a90db", func := "planish/plnlaw26.TailSites", spec := "tailSites", unfollowed := true, recurses := true, apart := false, narrowed := true }
def TailSitesUptoSaid : Prop := tailSitesUptoRow.holds Try.pinned (OpenSpec.upto tailSitesSpec)

/-- 'plnlaw24.PromoMay', WHERE WHAT IT READS IS OF BULK AT MOST 1048576: true; the input reads as it did. -/
def promoMayUptoRow : OpenClaim := { program := "ytlcnmocicghilaa", sum := "4e014e34757afadfa3932cf37a0c051671d7b3a6a860c2ffb7d7e6cb928a90db", func := "planish/plnlaw24.PromoMay", spec := "promoMay", unfollowed := true, recurses := true, apart := false, narrowed := true }
def PromoMayUptoSaid : Prop := promoMayUptoRow.holds Try.pinned (OpenSpec.upto promoMaySpec)

end Rows
end Go.Proofs.Ytlcnmocicghilaa
