/- The law returns true at every input. No condition. A part of its proof. -/
import Derived.KernelRfl
import Derived.Test.YtkcimaibaicdcaaG4
set_option linter.unusedSimpArgs false
set_option linter.unusedVariables false
namespace Go.Tm.Tab
abbrev t (x : Nat) : Operand := .tmp x
abbrev n (x : Int) : Operand := .const (.int .i64 x)
abbrev T : Operand := .const (.bool true)
abbrev F : Operand := .const (.bool false)
abbrev nil : Operand := .const (.slice none 0 0)
abbrev i (d : Nat) (o : Op) : I := ⟨some d,o,none⟩
abbrev j (o : Op) : I := ⟨none,o,none⟩
abbrev g (d c : Nat) (b : Bool) (o : Op) : I := ⟨some d,o,some (c,b)⟩
end Go.Tm.Tab
