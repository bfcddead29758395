/- The law returns true at every input. No condition. A part of its proof. -/
import Derived.Test.YtkcimaibaicdcaaProg
import Derived.Test.YtkcimaibaicdcaaP8
set_option linter.unusedSimpArgs false
set_option linter.unusedVariables false
set_option maxHeartbeats 16000000
set_option maxRecDepth 100000
namespace Go.Proofs.Ytkcimaibaicdcaa.Tk
open Go.Tm
theorem o_num:Opens Try.prog 3 (fun n=>[int n]) okI:=opens_num Try.underlying3
theorem o_i64:Opens Try.prog 2 (fun n=>[int n]) okI:=opens_num Try.underlying2
theorem o_ints:Opens Try.prog 22 (fun l=>[ints l]) (fun l=>(∀x∈l,okI x)∧l.length≤17592186044416):=opens_ints Try.underlying3 Try.underlying22 (by kernel_rfl) (by kernel_rfl)
theorem o_bool:Opens Try.prog 4 (fun b=>[bool b]) (fun _=>True):=opens_bool Try.underlying4
theorem o_str:Opens Try.prog 9 (fun b=>[str b]) (fun b=>b.size≤140737488351232):=opens_string Try.underlying9
theorem o_ins:Opens Try.prog 56 encIns OkIns:=
 opens_struct Try.underlying56 (opensF_cons (s:=1) (s2:=6) rfl (by kernel_rfl) o_num (opensF_cons (s:=1) (s2:=5) rfl (by kernel_rfl) o_num (opensF_cons (s:=1) (s2:=4) rfl (by kernel_rfl) o_num (opensF_cons (s:=1) (s2:=3) rfl (by kernel_rfl) o_num (opensF_cons (s:=1) (s2:=2) rfl (by kernel_rfl) o_i64 (opensF_cons (s:=1) (s2:=1) rfl (by kernel_rfl) o_ints (opensF_one (s:=1) rfl (by kernel_rfl) o_ints)))))))
  (by kernel_rfl) (fun y=>⟨y.1,y.2.1,y.2.2.1,y.2.2.2.1,y.2.2.2.2.1,y.2.2.2.2.2.1,y.2.2.2.2.2.2⟩) (fun _=>rfl)
  (fun _ h=>⟨h.1,h.2.1,h.2.2.1,h.2.2.2.1,h.2.2.2.2.1,h.2.2.2.2.2.1.1,h.2.2.2.2.2.2.1,h.2.2.2.2.2.1.2,h.2.2.2.2.2.2.2⟩)
theorem o_inss:Opens Try.prog 52 (fun l=>[inss l]) (fun l=>(∀x∈l,OkIns x)∧l.length≤17592186044416):=
 (opens_slice (b:=88) (s:=7) Try.underlying52 o_ins (fun _=>rfl) (by omega) (by kernel_rfl) (by kernel_rfl)).mono fun l ⟨h1,h2⟩=>⟨h2,by omega⟩
theorem o_block:Opens Try.prog 54 (fun b=>[encBlock b]) OkBlock:=
 opens_struct Try.underlying54 (opensF_one (s:=1) rfl (by kernel_rfl) o_inss) (by kernel_rfl) (fun y=>⟨y⟩) (fun _=>rfl) (fun _ h=>⟨h.1,h.2⟩)
theorem o_blocks:Opens Try.prog 23 (fun l=>[blocks l]) (fun l=>(∀x∈l,OkBlock x)∧l.length≤17592186044416):=by
 have:=(opens_slice (b:=24) (s:=1) Try.underlying23 o_block (fun _=>rfl) (by omega) (by kernel_rfl) (by kernel_rfl)).mono (B':=fun l=>(∀x∈l,OkBlock x)∧l.length≤17592186044416) fun l ⟨h1,h2⟩=>⟨h2,by omega⟩
 simpa only[blocks,flat1] using this
theorem o_func:Opens Try.prog 25 encFunc OkFunc:=
 opens_struct Try.underlying25 (opensF_cons (s:=1) (s2:=4) rfl (by kernel_rfl) o_str (opensF_cons (s:=1) (s2:=3) rfl (by kernel_rfl) o_bool (opensF_cons (s:=1) (s2:=2) rfl (by kernel_rfl) o_ints (opensF_cons (s:=1) (s2:=1) rfl (by kernel_rfl) o_num (opensF_one (s:=1) rfl (by kernel_rfl) o_blocks)))))
  (by kernel_rfl) (fun y=>⟨y.1,y.2.1,y.2.2.1,y.2.2.2.1,y.2.2.2.2⟩) (fun _=>rfl)
  (fun _ h=>⟨h.2.2.1.1,h.2.2.2.1,h.2.2.2.2.1,h.2.2.1.2,h.2.2.2.2.2⟩)
end Go.Proofs.Ytkcimaibaicdcaa.Tk
namespace Go.Proofs.Ytkcimaibaicdcaa.Tk
open Go.Tm
theorem o_longs:Opens Try.prog 72 (fun l=>[ints l]) (fun l=>(∀x∈l,okI x)∧l.length≤17592186044416):=opens_ints Try.underlying2 Try.underlying72 (by kernel_rfl) (by kernel_rfl)
theorem o_extern:Opens Try.prog 79 encExtern (fun x=>(∀y∈x.params,okI y)∧okI x.result∧x.params.length≤17592186044416):=
 opens_struct Try.underlying79 (opensF_cons (s:=1) (s2:=2) rfl (by kernel_rfl) o_str (opensF_cons (s:=1) (s2:=1) rfl (by kernel_rfl) o_ints (opensF_one (s:=1) rfl (by kernel_rfl) o_num)))
  (by kernel_rfl) (fun y=>⟨y.1,y.2.1,y.2.2⟩) (fun _=>rfl) (fun _ h=>⟨h.2.1.1,h.2.2,h.2.1.2⟩)
theorem o_global:Opens Try.prog 74 encGlobal (fun x=>(∀y∈x.cells,okI y)∧x.cells.length≤17592186044416):=
 opens_struct Try.underlying74 (opensF_cons (s:=1) (s2:=1) rfl (by kernel_rfl) o_str (opensF_one (s:=1) rfl (by kernel_rfl) o_longs))
  (by kernel_rfl) (fun y=>⟨y.1,y.2⟩) (fun _=>rfl) (fun _ h=>⟨h.2.1,h.2.2⟩)
theorem o_table:Opens Try.prog 76 encTable (fun x=>(∀y∈x.funcs,okI y)∧x.funcs.length≤17592186044416):=
 opens_struct Try.underlying76 (opensF_cons (s:=1) (s2:=1) rfl (by kernel_rfl) o_str (opensF_one (s:=1) rfl (by kernel_rfl) o_ints))
  (by kernel_rfl) (fun y=>⟨y.1,y.2⟩) (fun _=>rfl) (fun _ h=>⟨h.2.1,h.2.2⟩)
theorem o_externs:Opens Try.prog 44 (fun l=>[externs l]) (fun l=>(∀x∈l,(∀y∈x.params,okI y)∧okI x.result∧x.params.length≤17592186044416)∧l.length≤17592186044416):=
 (opens_slice (b:=48) (s:=3) Try.underlying44 o_extern (fun _=>rfl) (by omega) (by kernel_rfl) (by kernel_rfl)).mono fun l ⟨h1,h2⟩=>⟨h2,by omega⟩
theorem o_globals:Opens Try.prog 45 (fun l=>[globals l]) (fun l=>(∀x∈l,(∀y∈x.cells,okI y)∧x.cells.length≤17592186044416)∧l.length≤17592186044416):=
 (opens_slice (b:=40) (s:=2) Try.underlying45 o_global (fun _=>rfl) (by omega) (by kernel_rfl) (by kernel_rfl)).mono fun l ⟨h1,h2⟩=>⟨h2,by omega⟩
theorem o_tables:Opens Try.prog 46 (fun l=>[tables l]) (fun l=>(∀x∈l,(∀y∈x.funcs,okI y)∧x.funcs.length≤17592186044416)∧l.length≤17592186044416):=
 (opens_slice (b:=40) (s:=2) Try.underlying46 o_table (fun _=>rfl) (by omega) (by kernel_rfl) (by kernel_rfl)).mono fun l ⟨h1,h2⟩=>⟨h2,by omega⟩
theorem o_funcs:Opens Try.prog 47 (fun l=>[funcs l]) (fun l=>(∀x∈l,OkFunc x)∧l.length≤17592186044416):=
 (opens_slice (b:=80) (s:=5) Try.underlying47 o_func (fun _=>rfl) (by omega) (by kernel_rfl) (by kernel_rfl)).mono fun l ⟨h1,h2⟩=>⟨h2,by omega⟩
theorem o_module:Opens Try.prog 49 encModule OkModule:=
 opens_struct Try.underlying49 (opensF_cons (s:=1) (s2:=3) rfl (by kernel_rfl) o_externs (opensF_cons (s:=1) (s2:=2) rfl (by kernel_rfl) o_globals (opensF_cons (s:=1) (s2:=1) rfl (by kernel_rfl) o_tables (opensF_one (s:=1) rfl (by kernel_rfl) o_funcs))))
  (by kernel_rfl) (fun y=>⟨y.1,y.2.1,y.2.2.1,y.2.2.2⟩) (fun _=>rfl)
  (fun _ h=>⟨h.1.1,h.2.1.1,h.2.2.1.1,h.2.2.2.1,h.1.2,h.2.1.2,h.2.2.1.2,h.2.2.2.2⟩)
end Go.Proofs.Ytkcimaibaicdcaa.Tk
