/- The law returns true at every input. No condition. A part of its proof. -/
import Derived.KernelRfl
import Derived.Test.YtkcimaibaicdcaaP4
set_option linter.unusedSimpArgs false
set_option linter.unusedVariables false
set_option maxHeartbeats 16000000
set_option maxRecDepth 100000
namespace Go.Tm.Tab
abbrev t (x:Nat):Operand:=.tmp x
abbrev n (x:Int):Operand:=.const (.int .i64 x)
abbrev T:Operand:=.const (.bool true)
abbrev F:Operand:=.const (.bool false)
abbrev nil:Operand:=.const (.slice none 0 0)
abbrev i (d:Nat)(o:Op):I:=⟨some d,o,none⟩
abbrev j (o:Op):I:=⟨none,o,none⟩
abbrev g (d c:Nat)(b:Bool)(o:Op):I:=⟨some d,o,some (c,b)⟩
abbrev mv (d s:Nat):I:=⟨some d,.move (.tmp s),none⟩
abbrev sv (d s:Nat):I:=⟨some d,.assign (.tmp s),none⟩
abbrev gv (d c:Nat)(b:Bool)(s:Nat):I:=⟨some d,.move (.tmp s),some (c,b)⟩
abbrev bn (d:Nat)(o:BinOp)(ty x:Nat)(k:Int):I:=⟨some d,.binOp o ty (.tmp x) (.const (.int .i64 k)) ty,none⟩
abbrev bt (d:Nat)(o:BinOp)(ty x y:Nat):I:=⟨some d,.binOp o ty (.tmp x) (.tmp y) ty,none⟩
abbrev lo (d ty x:Nat):I:=⟨some d,.load ty (.tmp x),none⟩
abbrev fl (d ty x k:Nat):I:=⟨some d,.fieldAddr ty (.tmp x) k,none⟩
abbrev xa (d ty x y:Nat):I:=⟨some d,.indexAddr ty (.tmp x) (.tmp y),none⟩
abbrev ln (d x ty:Nat):I:=⟨some d,.call ⟨.builtin .len,#[.tmp x],#[ty]⟩,none⟩
end Go.Tm.Tab
