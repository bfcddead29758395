/- The law returns true at every input. No condition. A part of its proof. -/
import Derived.Test.YtkcimaibaicdcaaG14
set_option linter.unusedSimpArgs false
set_option linter.unusedVariables false
namespace Go.Proofs.Ytkcimaibaicdcaa.Tk
open Go.Tm Go.Tm.Tab
set_option maxRecDepth 100000
set_option maxHeartbeats 2000000 in
theorem fit_14 {vals : FuncId → Bool} {call : CallF} {n : Nat} (m : Tm.Module) (f : Tm.Func) (ty : List Int) (x : Ins) (hop : x.op = 14) (hall : ∀ t h,call 118 [ints ty,ints x.args,int t] h = some (bool (allT t (gotOf ty x.args)),h)) (hrow : ∀ (w : List Int) (l : Nat) (h : Heap),h[l]? = some (.row 1 (w.map int)) → call 119 [ints ty,ints x.args,.os l 0 w.length (some w.length)] h = some (bool (decide (gotOf ty x.args = w)),h)) (hfrz : ∀ (w : List Int) h,call 119 [ints ty,ints x.args,ints w] h = some (bool (decide (gotOf ty x.args = w)),h)) : ∃ r h',fin Try.prog [.tmp 8] (exec Try.prog vals call n k114 ⟨enterE 0 [.agg [externs m.externs,globals m.globals,tables m.tables,funcs m.funcs],.agg [str f.name,bool f.out,ints f.params,int f.result,blocks f.blocks],ints ty,.agg [int x.op,int x.type,int x.to,int x.sym,int x.num,ints x.args,ints x.into]],[]⟩) = some (r,h') ∧ view true h' depth r = some (bool (fitB m f ty x)) := by
 rw [show fitB m f ty x = (decide (x.type = 2) && allT 1 (gotOf ty x.args)) by unfold fitB; rw [hop]; rfl]
 cases q1 : decide (x.type = 2) <;> cases q2 : allT 1 (gotOf ty x.args) <;> (simp +decide -implicitDefEqProofs only [k114,go_sem,hop,q1,q2,hall]; exact ⟨_,_,rfl,rfl⟩)
set_option maxHeartbeats 2000000 in
theorem fit_15 {vals : FuncId → Bool} {call : CallF} {n : Nat} (m : Tm.Module) (f : Tm.Func) (ty : List Int) (x : Ins) (hop : x.op = 15) (hall : ∀ t h,call 118 [ints ty,ints x.args,int t] h = some (bool (allT t (gotOf ty x.args)),h)) (hrow : ∀ (w : List Int) (l : Nat) (h : Heap),h[l]? = some (.row 1 (w.map int)) → call 119 [ints ty,ints x.args,.os l 0 w.length (some w.length)] h = some (bool (decide (gotOf ty x.args = w)),h)) (hfrz : ∀ (w : List Int) h,call 119 [ints ty,ints x.args,ints w] h = some (bool (decide (gotOf ty x.args = w)),h)) : ∃ r h',fin Try.prog [.tmp 8] (exec Try.prog vals call n k114 ⟨enterE 0 [.agg [externs m.externs,globals m.globals,tables m.tables,funcs m.funcs],.agg [str f.name,bool f.out,ints f.params,int f.result,blocks f.blocks],ints ty,.agg [int x.op,int x.type,int x.to,int x.sym,int x.num,ints x.args,ints x.into]],[]⟩) = some (r,h') ∧ view true h' depth r = some (bool (fitB m f ty x)) := by
 rw [show fitB m f ty x = (decide (x.type = 2) && allT 1 (gotOf ty x.args)) by unfold fitB; rw [hop]; rfl]
 cases q1 : decide (x.type = 2) <;> cases q2 : allT 1 (gotOf ty x.args) <;> (simp +decide -implicitDefEqProofs only [k114,go_sem,hop,q1,q2,hall]; exact ⟨_,_,rfl,rfl⟩)
set_option maxHeartbeats 2000000 in
theorem fit_16 {vals : FuncId → Bool} {call : CallF} {n : Nat} (m : Tm.Module) (f : Tm.Func) (ty : List Int) (x : Ins) (hop : x.op = 16) (hall : ∀ t h,call 118 [ints ty,ints x.args,int t] h = some (bool (allT t (gotOf ty x.args)),h)) (hrow : ∀ (w : List Int) (l : Nat) (h : Heap),h[l]? = some (.row 1 (w.map int)) → call 119 [ints ty,ints x.args,.os l 0 w.length (some w.length)] h = some (bool (decide (gotOf ty x.args = w)),h)) (hfrz : ∀ (w : List Int) h,call 119 [ints ty,ints x.args,ints w] h = some (bool (decide (gotOf ty x.args = w)),h)) : ∃ r h',fin Try.prog [.tmp 8] (exec Try.prog vals call n k114 ⟨enterE 0 [.agg [externs m.externs,globals m.globals,tables m.tables,funcs m.funcs],.agg [str f.name,bool f.out,ints f.params,int f.result,blocks f.blocks],ints ty,.agg [int x.op,int x.type,int x.to,int x.sym,int x.num,ints x.args,ints x.into]],[]⟩) = some (r,h') ∧ view true h' depth r = some (bool (fitB m f ty x)) := by
 rw [show fitB m f ty x = (decide (x.type = 2) && allT 2 (gotOf ty x.args)) by unfold fitB; rw [hop]; rfl]
 cases q1 : decide (x.type = 2) <;> cases q2 : allT 2 (gotOf ty x.args) <;> (simp +decide -implicitDefEqProofs only [k114,go_sem,hop,q1,q2,hall]; exact ⟨_,_,rfl,rfl⟩)
set_option maxHeartbeats 2000000 in
theorem fit_17 {vals : FuncId → Bool} {call : CallF} {n : Nat} (m : Tm.Module) (f : Tm.Func) (ty : List Int) (x : Ins) (hop : x.op = 17) (hall : ∀ t h,call 118 [ints ty,ints x.args,int t] h = some (bool (allT t (gotOf ty x.args)),h)) (hrow : ∀ (w : List Int) (l : Nat) (h : Heap),h[l]? = some (.row 1 (w.map int)) → call 119 [ints ty,ints x.args,.os l 0 w.length (some w.length)] h = some (bool (decide (gotOf ty x.args = w)),h)) (hfrz : ∀ (w : List Int) h,call 119 [ints ty,ints x.args,ints w] h = some (bool (decide (gotOf ty x.args = w)),h)) : ∃ r h',fin Try.prog [.tmp 8] (exec Try.prog vals call n k114 ⟨enterE 0 [.agg [externs m.externs,globals m.globals,tables m.tables,funcs m.funcs],.agg [str f.name,bool f.out,ints f.params,int f.result,blocks f.blocks],ints ty,.agg [int x.op,int x.type,int x.to,int x.sym,int x.num,ints x.args,ints x.into]],[]⟩) = some (r,h') ∧ view true h' depth r = some (bool (fitB m f ty x)) := by
 rw [show fitB m f ty x = (decide (gotOf ty x.args = [2,x.type,x.type])) by unfold fitB; rw [hop]; rfl]
 have hr : call 119 [ints ty,ints x.args,.os 3 0 3 (some 3)] [.row 0 [externs m.externs,globals m.globals,tables m.tables,funcs m.funcs],.row 0 [str f.name,bool f.out,ints f.params,int f.result,blocks f.blocks],.row 0 [int 17,int x.type,int x.to,int x.sym,int x.num,ints x.args,ints x.into],.row 1 [int 2,int x.type,int x.type]] = some (bool (decide (gotOf ty x.args = [2,x.type,x.type])),[.row 0 [externs m.externs,globals m.globals,tables m.tables,funcs m.funcs],.row 0 [str f.name,bool f.out,ints f.params,int f.result,blocks f.blocks],.row 0 [int 17,int x.type,int x.to,int x.sym,int x.num,ints x.args,ints x.into],.row 1 [int 2,int x.type,int x.type]]) := hrow [2,x.type,x.type] 3 _ rfl
 cases q2 : decide (gotOf ty x.args = [2,x.type,x.type]) <;> (rw [q2] at hr; simp +decide -implicitDefEqProofs only [k114,go_sem,hop,hr]; exact ⟨_,_,rfl,rfl⟩)
set_option maxHeartbeats 2000000 in
theorem fit_19 {vals : FuncId → Bool} {call : CallF} {n : Nat} (m : Tm.Module) (f : Tm.Func) (ty : List Int) (x : Ins) (hop : x.op = 19) (hall : ∀ t h,call 118 [ints ty,ints x.args,int t] h = some (bool (allT t (gotOf ty x.args)),h)) (hrow : ∀ (w : List Int) (l : Nat) (h : Heap),h[l]? = some (.row 1 (w.map int)) → call 119 [ints ty,ints x.args,.os l 0 w.length (some w.length)] h = some (bool (decide (gotOf ty x.args = w)),h)) (hfrz : ∀ (w : List Int) h,call 119 [ints ty,ints x.args,ints w] h = some (bool (decide (gotOf ty x.args = w)),h)) : ∃ r h',fin Try.prog [.tmp 8] (exec Try.prog vals call n k114 ⟨enterE 0 [.agg [externs m.externs,globals m.globals,tables m.tables,funcs m.funcs],.agg [str f.name,bool f.out,ints f.params,int f.result,blocks f.blocks],ints ty,.agg [int x.op,int x.type,int x.to,int x.sym,int x.num,ints x.args,ints x.into]],[]⟩) = some (r,h') ∧ view true h' depth r = some (bool (fitB m f ty x)) := by
 rw [show fitB m f ty x = (decide (x.type = 3) && decide (gotOf ty x.args = [3,1])) by unfold fitB; rw [hop]; rfl]
 have hr : call 119 [ints ty,ints x.args,.os 3 0 2 (some 2)] [.row 0 [externs m.externs,globals m.globals,tables m.tables,funcs m.funcs],.row 0 [str f.name,bool f.out,ints f.params,int f.result,blocks f.blocks],.row 0 [int 19,int x.type,int x.to,int x.sym,int x.num,ints x.args,ints x.into],.row 1 [int 3,int 1]] = some (bool (decide (gotOf ty x.args = [3,1])),[.row 0 [externs m.externs,globals m.globals,tables m.tables,funcs m.funcs],.row 0 [str f.name,bool f.out,ints f.params,int f.result,blocks f.blocks],.row 0 [int 19,int x.type,int x.to,int x.sym,int x.num,ints x.args,ints x.into],.row 1 [int 3,int 1]]) := hrow [3,1] 3 _ rfl
 cases q1 : decide (x.type = 3) <;> cases q2 : decide (gotOf ty x.args = [3,1]) <;> (rw [q2] at hr; simp +decide -implicitDefEqProofs only [k114,go_sem,hop,q1,hr]; exact ⟨_,_,rfl,rfl⟩)
set_option maxHeartbeats 2000000 in
theorem fit_20 {vals : FuncId → Bool} {call : CallF} {n : Nat} (m : Tm.Module) (f : Tm.Func) (ty : List Int) (x : Ins) (hop : x.op = 20) (hall : ∀ t h,call 118 [ints ty,ints x.args,int t] h = some (bool (allT t (gotOf ty x.args)),h)) (hrow : ∀ (w : List Int) (l : Nat) (h : Heap),h[l]? = some (.row 1 (w.map int)) → call 119 [ints ty,ints x.args,.os l 0 w.length (some w.length)] h = some (bool (decide (gotOf ty x.args = w)),h)) (hfrz : ∀ (w : List Int) h,call 119 [ints ty,ints x.args,ints w] h = some (bool (decide (gotOf ty x.args = w)),h)) : ∃ r h',fin Try.prog [.tmp 8] (exec Try.prog vals call n k114 ⟨enterE 0 [.agg [externs m.externs,globals m.globals,tables m.tables,funcs m.funcs],.agg [str f.name,bool f.out,ints f.params,int f.result,blocks f.blocks],ints ty,.agg [int x.op,int x.type,int x.to,int x.sym,int x.num,ints x.args,ints x.into]],[]⟩) = some (r,h') ∧ view true h' depth r = some (bool (fitB m f ty x)) := by
 rw [show fitB m f ty x = (decide (x.type = 1) && decide (gotOf ty x.args = [3])) by unfold fitB; rw [hop]; rfl]
 have hr : call 119 [ints ty,ints x.args,.os 3 0 1 (some 1)] [.row 0 [externs m.externs,globals m.globals,tables m.tables,funcs m.funcs],.row 0 [str f.name,bool f.out,ints f.params,int f.result,blocks f.blocks],.row 0 [int 20,int x.type,int x.to,int x.sym,int x.num,ints x.args,ints x.into],.row 1 [int 3]] = some (bool (decide (gotOf ty x.args = [3])),[.row 0 [externs m.externs,globals m.globals,tables m.tables,funcs m.funcs],.row 0 [str f.name,bool f.out,ints f.params,int f.result,blocks f.blocks],.row 0 [int 20,int x.type,int x.to,int x.sym,int x.num,ints x.args,ints x.into],.row 1 [int 3]]) := hrow [3] 3 _ rfl
 cases q1 : decide (x.type = 1) <;> cases q2 : decide (gotOf ty x.args = [3]) <;> (rw [q2] at hr; simp +decide -implicitDefEqProofs only [k114,go_sem,hop,q1,hr]; exact ⟨_,_,rfl,rfl⟩)
set_option maxHeartbeats 2000000 in
theorem fit_21 {vals : FuncId → Bool} {call : CallF} {n : Nat} (m : Tm.Module) (f : Tm.Func) (ty : List Int) (x : Ins) (hop : x.op = 21) (hall : ∀ t h,call 118 [ints ty,ints x.args,int t] h = some (bool (allT t (gotOf ty x.args)),h)) (hrow : ∀ (w : List Int) (l : Nat) (h : Heap),h[l]? = some (.row 1 (w.map int)) → call 119 [ints ty,ints x.args,.os l 0 w.length (some w.length)] h = some (bool (decide (gotOf ty x.args = w)),h)) (hfrz : ∀ (w : List Int) h,call 119 [ints ty,ints x.args,ints w] h = some (bool (decide (gotOf ty x.args = w)),h)) : ∃ r h',fin Try.prog [.tmp 8] (exec Try.prog vals call n k114 ⟨enterE 0 [.agg [externs m.externs,globals m.globals,tables m.tables,funcs m.funcs],.agg [str f.name,bool f.out,ints f.params,int f.result,blocks f.blocks],ints ty,.agg [int x.op,int x.type,int x.to,int x.sym,int x.num,ints x.args,ints x.into]],[]⟩) = some (r,h') ∧ view true h' depth r = some (bool (fitB m f ty x)) := by
 rw [show fitB m f ty x = (decide (gotOf ty x.args = [3,1])) by unfold fitB; rw [hop]; rfl]
 have hr : call 119 [ints ty,ints x.args,.os 3 0 2 (some 2)] [.row 0 [externs m.externs,globals m.globals,tables m.tables,funcs m.funcs],.row 0 [str f.name,bool f.out,ints f.params,int f.result,blocks f.blocks],.row 0 [int 21,int x.type,int x.to,int x.sym,int x.num,ints x.args,ints x.into],.row 1 [int 3,int 1]] = some (bool (decide (gotOf ty x.args = [3,1])),[.row 0 [externs m.externs,globals m.globals,tables m.tables,funcs m.funcs],.row 0 [str f.name,bool f.out,ints f.params,int f.result,blocks f.blocks],.row 0 [int 21,int x.type,int x.to,int x.sym,int x.num,ints x.args,ints x.into],.row 1 [int 3,int 1]]) := hrow [3,1] 3 _ rfl
 cases q2 : decide (gotOf ty x.args = [3,1]) <;> (rw [q2] at hr; simp +decide -implicitDefEqProofs only [k114,go_sem,hop,hr]; exact ⟨_,_,rfl,rfl⟩)
set_option maxHeartbeats 2000000 in
theorem fit_22 {vals : FuncId → Bool} {call : CallF} {n : Nat} (m : Tm.Module) (f : Tm.Func) (ty : List Int) (x : Ins) (hop : x.op = 22) (hall : ∀ t h,call 118 [ints ty,ints x.args,int t] h = some (bool (allT t (gotOf ty x.args)),h)) (hrow : ∀ (w : List Int) (l : Nat) (h : Heap),h[l]? = some (.row 1 (w.map int)) → call 119 [ints ty,ints x.args,.os l 0 w.length (some w.length)] h = some (bool (decide (gotOf ty x.args = w)),h)) (hfrz : ∀ (w : List Int) h,call 119 [ints ty,ints x.args,ints w] h = some (bool (decide (gotOf ty x.args = w)),h)) (hs : 0 ≤ x.sym ∧ x.sym < m.funcs.length) : ∃ r h',fin Try.prog [.tmp 8] (exec Try.prog vals call n k114 ⟨enterE 0 [.agg [externs m.externs,globals m.globals,tables m.tables,funcs m.funcs],.agg [str f.name,bool f.out,ints f.params,int f.result,blocks f.blocks],ints ty,.agg [int x.op,int x.type,int x.to,int x.sym,int x.num,ints x.args,ints x.into]],[]⟩) = some (r,h') ∧ view true h' depth r = some (bool (fitB m f ty x)) := by
 rw [show fitB m f ty x = (decide (x.type = (fnAt m.funcs x.sym).result) && decide (gotOf ty x.args = (fnAt m.funcs x.sym).params)) by unfold fitB; rw [hop]; rfl]
 cases q1 : decide (x.type = (fnAt m.funcs x.sym).result) <;> cases q2 : decide (gotOf ty x.args = (fnAt m.funcs x.sym).params) <;> (simp +decide -implicitDefEqProofs only [k114,go_sem,hop,hs,hfrz,q1,q2]; exact ⟨_,_,rfl,rfl⟩)
set_option maxHeartbeats 2000000 in
theorem fit_23 {vals : FuncId → Bool} {call : CallF} {n : Nat} (m : Tm.Module) (f : Tm.Func) (ty : List Int) (x : Ins) (hop : x.op = 23) (hall : ∀ t h,call 118 [ints ty,ints x.args,int t] h = some (bool (allT t (gotOf ty x.args)),h)) (hrow : ∀ (w : List Int) (l : Nat) (h : Heap),h[l]? = some (.row 1 (w.map int)) → call 119 [ints ty,ints x.args,.os l 0 w.length (some w.length)] h = some (bool (decide (gotOf ty x.args = w)),h)) (hfrz : ∀ (w : List Int) h,call 119 [ints ty,ints x.args,ints w] h = some (bool (decide (gotOf ty x.args = w)),h)) (hs : 0 ≤ x.sym ∧ x.sym < m.externs.length) : ∃ r h',fin Try.prog [.tmp 8] (exec Try.prog vals call n k114 ⟨enterE 0 [.agg [externs m.externs,globals m.globals,tables m.tables,funcs m.funcs],.agg [str f.name,bool f.out,ints f.params,int f.result,blocks f.blocks],ints ty,.agg [int x.op,int x.type,int x.to,int x.sym,int x.num,ints x.args,ints x.into]],[]⟩) = some (r,h') ∧ view true h' depth r = some (bool (fitB m f ty x)) := by
 rw [show fitB m f ty x = (decide (x.type = (extAt m.externs x.sym).result) && decide (gotOf ty x.args = (extAt m.externs x.sym).params)) by unfold fitB; rw [hop]; rfl]
 cases q1 : decide (x.type = (extAt m.externs x.sym).result) <;> cases q2 : decide (gotOf ty x.args = (extAt m.externs x.sym).params) <;> (simp +decide -implicitDefEqProofs only [k114,go_sem,hop,hs,hfrz,q1,q2]; exact ⟨_,_,rfl,rfl⟩)
set_option maxHeartbeats 2000000 in
theorem fit_24 {vals : FuncId → Bool} {call : CallF} {n : Nat} (m : Tm.Module) (f : Tm.Func) (ty : List Int) (x : Ins) (hop : x.op = 24) (hall : ∀ t h,call 118 [ints ty,ints x.args,int t] h = some (bool (allT t (gotOf ty x.args)),h)) (hrow : ∀ (w : List Int) (l : Nat) (h : Heap),h[l]? = some (.row 1 (w.map int)) → call 119 [ints ty,ints x.args,.os l 0 w.length (some w.length)] h = some (bool (decide (gotOf ty x.args = w)),h)) (hfrz : ∀ (w : List Int) h,call 119 [ints ty,ints x.args,ints w] h = some (bool (decide (gotOf ty x.args = w)),h)) : ∃ r h',fin Try.prog [.tmp 8] (exec Try.prog vals call n k114 ⟨enterE 0 [.agg [externs m.externs,globals m.globals,tables m.tables,funcs m.funcs],.agg [str f.name,bool f.out,ints f.params,int f.result,blocks f.blocks],ints ty,.agg [int x.op,int x.type,int x.to,int x.sym,int x.num,ints x.args,ints x.into]],[]⟩) = some (r,h') ∧ view true h' depth r = some (bool (fitB m f ty x)) := by
 rw [show fitB m f ty x = (decide (x.type = 4) && decide (gotOf ty x.args = [1])) by unfold fitB; rw [hop]; rfl]
 have hr : call 119 [ints ty,ints x.args,.os 3 0 1 (some 1)] [.row 0 [externs m.externs,globals m.globals,tables m.tables,funcs m.funcs],.row 0 [str f.name,bool f.out,ints f.params,int f.result,blocks f.blocks],.row 0 [int 24,int x.type,int x.to,int x.sym,int x.num,ints x.args,ints x.into],.row 1 [int 1]] = some (bool (decide (gotOf ty x.args = [1])),[.row 0 [externs m.externs,globals m.globals,tables m.tables,funcs m.funcs],.row 0 [str f.name,bool f.out,ints f.params,int f.result,blocks f.blocks],.row 0 [int 24,int x.type,int x.to,int x.sym,int x.num,ints x.args,ints x.into],.row 1 [int 1]]) := hrow [1] 3 _ rfl
 cases q1 : decide (x.type = 4) <;> cases q2 : decide (gotOf ty x.args = [1]) <;> (rw [q2] at hr; simp +decide -implicitDefEqProofs only [k114,go_sem,hop,q1,hr]; exact ⟨_,_,rfl,rfl⟩)
set_option maxHeartbeats 2000000 in
theorem fit_25 {vals : FuncId → Bool} {call : CallF} {n : Nat} (m : Tm.Module) (f : Tm.Func) (ty : List Int) (x : Ins) (hop : x.op = 25) (hall : ∀ t h,call 118 [ints ty,ints x.args,int t] h = some (bool (allT t (gotOf ty x.args)),h)) (hrow : ∀ (w : List Int) (l : Nat) (h : Heap),h[l]? = some (.row 1 (w.map int)) → call 119 [ints ty,ints x.args,.os l 0 w.length (some w.length)] h = some (bool (decide (gotOf ty x.args = w)),h)) (hfrz : ∀ (w : List Int) h,call 119 [ints ty,ints x.args,ints w] h = some (bool (decide (gotOf ty x.args = w)),h)) (hpos : 0 < x.args.length) (hin : ∀ v ∈ x.args,0 ≤ v ∧ v < (ty.length : Int)) : ∃ r h',fin Try.prog [.tmp 8] (exec Try.prog vals call n k114 ⟨enterE 0 [.agg [externs m.externs,globals m.globals,tables m.tables,funcs m.funcs],.agg [str f.name,bool f.out,ints f.params,int f.result,blocks f.blocks],ints ty,.agg [int x.op,int x.type,int x.to,int x.sym,int x.num,ints x.args,ints x.into]],[]⟩) = some (r,h') ∧ view true h' depth r = some (bool (fitB m f ty x)) := by
 rw [show fitB m f ty x = (decide (rd (gotOf ty x.args) 0 = 4) && !decide (x.type = 3)) by unfold fitB; rw [hop]; rfl]
 have e0 : (0 : Int) ≤ 0 ∧ (0 : Int) < x.args.length := by omega
 have hr := hin (rd x.args 0) (by have := mem_of_rd (xs := x.args) (i := 0) (by omega); simpa using this)
 have hg : rd (gotOf ty x.args) 0 = rd ty (rd x.args 0) := by have := got_rd (ty := ty) (args := x.args) (i := 0) (by omega); simpa using this
 rw [hg]
 cases q1 : decide (rd ty (rd x.args 0) = 4) <;> cases q2 : decide (x.type = 3) <;> (simp +decide -implicitDefEqProofs only [k114,go_sem,hop,e0,hr,q1,q2]; exact ⟨_,_,rfl,rfl⟩)
set_option maxHeartbeats 2000000 in
theorem fit_26 {vals : FuncId → Bool} {call : CallF} {n : Nat} (m : Tm.Module) (f : Tm.Func) (ty : List Int) (x : Ins) (hop : x.op = 26) (hall : ∀ t h,call 118 [ints ty,ints x.args,int t] h = some (bool (allT t (gotOf ty x.args)),h)) (hrow : ∀ (w : List Int) (l : Nat) (h : Heap),h[l]? = some (.row 1 (w.map int)) → call 119 [ints ty,ints x.args,.os l 0 w.length (some w.length)] h = some (bool (decide (gotOf ty x.args = w)),h)) (hfrz : ∀ (w : List Int) h,call 119 [ints ty,ints x.args,ints w] h = some (bool (decide (gotOf ty x.args = w)),h)) : ∃ r h',fin Try.prog [.tmp 8] (exec Try.prog vals call n k114 ⟨enterE 0 [.agg [externs m.externs,globals m.globals,tables m.tables,funcs m.funcs],.agg [str f.name,bool f.out,ints f.params,int f.result,blocks f.blocks],ints ty,.agg [int x.op,int x.type,int x.to,int x.sym,int x.num,ints x.args,ints x.into]],[]⟩) = some (r,h') ∧ view true h' depth r = some (bool (fitB m f ty x)) := by
 rw [show fitB m f ty x = (allT x.type (gotOf ty x.args)) by unfold fitB; rw [hop]; rfl]
 cases q2 : allT x.type (gotOf ty x.args) <;> (simp +decide -implicitDefEqProofs only [k114,go_sem,hop,q2,hall]; exact ⟨_,_,rfl,rfl⟩)
set_option maxHeartbeats 2000000 in
theorem fit_27 {vals : FuncId → Bool} {call : CallF} {n : Nat} (m : Tm.Module) (f : Tm.Func) (ty : List Int) (x : Ins) (hop : x.op = 27) (hall : ∀ t h,call 118 [ints ty,ints x.args,int t] h = some (bool (allT t (gotOf ty x.args)),h)) (hrow : ∀ (w : List Int) (l : Nat) (h : Heap),h[l]? = some (.row 1 (w.map int)) → call 119 [ints ty,ints x.args,.os l 0 w.length (some w.length)] h = some (bool (decide (gotOf ty x.args = w)),h)) (hfrz : ∀ (w : List Int) h,call 119 [ints ty,ints x.args,ints w] h = some (bool (decide (gotOf ty x.args = w)),h)) : ∃ r h',fin Try.prog [.tmp 8] (exec Try.prog vals call n k114 ⟨enterE 0 [.agg [externs m.externs,globals m.globals,tables m.tables,funcs m.funcs],.agg [str f.name,bool f.out,ints f.params,int f.result,blocks f.blocks],ints ty,.agg [int x.op,int x.type,int x.to,int x.sym,int x.num,ints x.args,ints x.into]],[]⟩) = some (r,h') ∧ view true h' depth r = some (bool (fitB m f ty x)) := by
 rw [show fitB m f ty x = (true) by unfold fitB; rw [hop]; rfl]
 simp +decide -implicitDefEqProofs only [k114,go_sem,hop]; exact ⟨_,_,rfl,rfl⟩
set_option maxHeartbeats 2000000 in
theorem fit_28 {vals : FuncId → Bool} {call : CallF} {n : Nat} (m : Tm.Module) (f : Tm.Func) (ty : List Int) (x : Ins) (hop : x.op = 28) (hall : ∀ t h,call 118 [ints ty,ints x.args,int t] h = some (bool (allT t (gotOf ty x.args)),h)) (hrow : ∀ (w : List Int) (l : Nat) (h : Heap),h[l]? = some (.row 1 (w.map int)) → call 119 [ints ty,ints x.args,.os l 0 w.length (some w.length)] h = some (bool (decide (gotOf ty x.args = w)),h)) (hfrz : ∀ (w : List Int) h,call 119 [ints ty,ints x.args,ints w] h = some (bool (decide (gotOf ty x.args = w)),h)) : ∃ r h',fin Try.prog [.tmp 8] (exec Try.prog vals call n k114 ⟨enterE 0 [.agg [externs m.externs,globals m.globals,tables m.tables,funcs m.funcs],.agg [str f.name,bool f.out,ints f.params,int f.result,blocks f.blocks],ints ty,.agg [int x.op,int x.type,int x.to,int x.sym,int x.num,ints x.args,ints x.into]],[]⟩) = some (r,h') ∧ view true h' depth r = some (bool (fitB m f ty x)) := by
 rw [show fitB m f ty x = (decide (gotOf ty x.args = [2])) by unfold fitB; rw [hop]; rfl]
 have hr : call 119 [ints ty,ints x.args,.os 3 0 1 (some 1)] [.row 0 [externs m.externs,globals m.globals,tables m.tables,funcs m.funcs],.row 0 [str f.name,bool f.out,ints f.params,int f.result,blocks f.blocks],.row 0 [int 28,int x.type,int x.to,int x.sym,int x.num,ints x.args,ints x.into],.row 1 [int 2]] = some (bool (decide (gotOf ty x.args = [2])),[.row 0 [externs m.externs,globals m.globals,tables m.tables,funcs m.funcs],.row 0 [str f.name,bool f.out,ints f.params,int f.result,blocks f.blocks],.row 0 [int 28,int x.type,int x.to,int x.sym,int x.num,ints x.args,ints x.into],.row 1 [int 2]]) := hrow [2] 3 _ rfl
 cases q2 : decide (gotOf ty x.args = [2]) <;> (rw [q2] at hr; simp +decide -implicitDefEqProofs only [k114,go_sem,hop,hr]; exact ⟨_,_,rfl,rfl⟩)
set_option maxHeartbeats 2000000 in
theorem fit_29 {vals : FuncId → Bool} {call : CallF} {n : Nat} (m : Tm.Module) (f : Tm.Func) (ty : List Int) (x : Ins) (hop : x.op = 29) (hall : ∀ t h,call 118 [ints ty,ints x.args,int t] h = some (bool (allT t (gotOf ty x.args)),h)) (hrow : ∀ (w : List Int) (l : Nat) (h : Heap),h[l]? = some (.row 1 (w.map int)) → call 119 [ints ty,ints x.args,.os l 0 w.length (some w.length)] h = some (bool (decide (gotOf ty x.args = w)),h)) (hfrz : ∀ (w : List Int) h,call 119 [ints ty,ints x.args,ints w] h = some (bool (decide (gotOf ty x.args = w)),h)) : ∃ r h',fin Try.prog [.tmp 8] (exec Try.prog vals call n k114 ⟨enterE 0 [.agg [externs m.externs,globals m.globals,tables m.tables,funcs m.funcs],.agg [str f.name,bool f.out,ints f.params,int f.result,blocks f.blocks],ints ty,.agg [int x.op,int x.type,int x.to,int x.sym,int x.num,ints x.args,ints x.into]],[]⟩) = some (r,h') ∧ view true h' depth r = some (bool (fitB m f ty x)) := by
 rw [show fitB m f ty x = (if f.result = 0 then decide (gotOf ty x.args = []) else decide (gotOf ty x.args = [f.result])) by unfold fitB; rw [hop]; rfl]
 have hr : call 119 [ints ty,ints x.args,.os 3 0 1 (some 1)] [.row 0 [externs m.externs,globals m.globals,tables m.tables,funcs m.funcs],.row 0 [str f.name,bool f.out,ints f.params,int f.result,blocks f.blocks],.row 0 [int 29,int x.type,int x.to,int x.sym,int x.num,ints x.args,ints x.into],.row 1 [int f.result]] = some (bool (decide (gotOf ty x.args = [f.result])),[.row 0 [externs m.externs,globals m.globals,tables m.tables,funcs m.funcs],.row 0 [str f.name,bool f.out,ints f.params,int f.result,blocks f.blocks],.row 0 [int 29,int x.type,int x.to,int x.sym,int x.num,ints x.args,ints x.into],.row 1 [int f.result]]) := hrow [f.result] 3 _ rfl
 have hl : decide ((x.args.length : Int) = 0) = decide (gotOf ty x.args = []) := by
  rw [decide_eq_decide]
  unfold gotOf
  rw [List.map_eq_nil_iff,← List.length_eq_zero_iff]
  omega
 cases q1 : decide (f.result = 0) with
 | true =>
  rw [if_pos (of_decide_eq_true q1),← hl]
  cases q2 : decide ((x.args.length : Int) = 0) <;> (simp +decide -implicitDefEqProofs only [k114,go_sem,hop,q1,q2]; exact ⟨_,_,rfl,rfl⟩)
 | false =>
  rw [if_neg (of_decide_eq_false q1)]
  cases q2 : decide (gotOf ty x.args = [f.result]) <;> (rw [q2] at hr; simp +decide -implicitDefEqProofs only [k114,go_sem,hop,q1,hr]; exact ⟨_,_,rfl,rfl⟩)
set_option maxHeartbeats 2000000 in
theorem fit_30 {vals : FuncId → Bool} {call : CallF} {n : Nat} (m : Tm.Module) (f : Tm.Func) (ty : List Int) (x : Ins) (hop : x.op = 30) (hall : ∀ t h,call 118 [ints ty,ints x.args,int t] h = some (bool (allT t (gotOf ty x.args)),h)) (hrow : ∀ (w : List Int) (l : Nat) (h : Heap),h[l]? = some (.row 1 (w.map int)) → call 119 [ints ty,ints x.args,.os l 0 w.length (some w.length)] h = some (bool (decide (gotOf ty x.args = w)),h)) (hfrz : ∀ (w : List Int) h,call 119 [ints ty,ints x.args,ints w] h = some (bool (decide (gotOf ty x.args = w)),h)) : ∃ r h',fin Try.prog [.tmp 8] (exec Try.prog vals call n k114 ⟨enterE 0 [.agg [externs m.externs,globals m.globals,tables m.tables,funcs m.funcs],.agg [str f.name,bool f.out,ints f.params,int f.result,blocks f.blocks],ints ty,.agg [int x.op,int x.type,int x.to,int x.sym,int x.num,ints x.args,ints x.into]],[]⟩) = some (r,h') ∧ view true h' depth r = some (bool (fitB m f ty x)) := by
 rw [show fitB m f ty x = (true) by unfold fitB; rw [hop]; rfl]
 simp +decide -implicitDefEqProofs only [k114,go_sem,hop]; exact ⟨_,_,rfl,rfl⟩
end Go.Proofs.Ytkcimaibaicdcaa.Tk
namespace Go.Proofs.Ytkcimaibaicdcaa.Tk
open Go.Tm Go.Tm.Tab
set_option maxRecDepth 100000
def fitG (m : Tm.Module) (f : Tm.Func) (x : Ins) (got : List Int) : Bool :=
 fitS x.op x.type x.num got (fnAt m.funcs x.sym).result (fnAt m.funcs x.sym).params (extAt m.externs x.sym).result (extAt m.externs x.sym).params f.result
theorem dec1 (a g : Int) : decide ([g] = [a]) = decide (g = a) := decide_eq_decide.2 (by simp)
theorem dec2 (a b g g' : Int) : decide ([g,g'] = [a,b]) = (decide (g = a) && decide (g' = b)) := by rw [← Bool.decide_and]; exact decide_eq_decide.2 (by simp)
theorem dec3 (a b c g g' g2 : Int) : decide ([g,g',g2] = [a,b,c]) = ((decide (g = a) && decide (g' = b)) && decide (g2 = c)) := by rw [← Bool.decide_and,← Bool.decide_and]; exact decide_eq_decide.2 (by simp [and_assoc])
theorem all1 (t g : Int) : allT t [g] = decide (g = t) := by simp [allT]
theorem all2 (t g g' : Int) : allT t [g,g'] = (decide (g = t) && decide (g' = t)) := by simp [allT]
theorem len1 {got : List Int} (h : got.length = 1) : ∃ a,got = [a] := by
 match got,h with
 | [a],_ => exact ⟨a,rfl⟩
theorem len2 {got : List Int} (h : got.length = 2) : ∃ a b,got = [a,b] := by
 match got,h with
 | [a,b],_ => exact ⟨a,b,rfl⟩
theorem len3 {got : List Int} (h : got.length = 3) : ∃ a b c,got = [a,b,c] := by
 match got,h with
 | [a,b,c],_ => exact ⟨a,b,c,rfl⟩
theorem at0 (a : Int) (r : List Int) : rd (a :: r) 0 = a := rfl
theorem at1 (a b : Int) (r : List Int) : rd (a :: b :: r) 1 = b := rfl
theorem at2 (a b c : Int) (r : List Int) : rd (a :: b :: c :: r) 2 = c := rfl
theorem in0 (a : Int) (r : List Int) : (0 : Int) ≤ 0 ∧ (0 : Int) < (a :: r).length := by simp
theorem in1 (a b : Int) (r : List Int) : (0 : Int) ≤ 1 ∧ (1 : Int) < (a :: b :: r).length := by simp; omega
theorem in2 (a b c : Int) (r : List Int) : (0 : Int) ≤ 2 ∧ (2 : Int) < (a :: b :: c :: r).length := by simp; omega
theorem fit_phi {vals : FuncId → Bool} {call : CallF} {n : Nat} (got : List Int) (x : Ins) (p : Nat) (hl : got.length < 2 ^ 50) (h : Heap) (hp : h[p]? = some (.row 0 [int x.op,int x.type,int x.to,int x.sym,int x.num,ints x.args,ints x.into])) (m : Nat) (hm : got.length < m) : Tm.Loop Try.prog vals call n [3,6,9] k106b0 m ⟨[(3,ints got),(6,.op p 0),(9,int 0)],h⟩ = some (if got.any (fun v => !decide (v = x.type)) = true then (.ret,⟨[(8,bool false)],h⟩) else (.exit 1,⟨[(3,ints got),(6,.op p 0),(9,int got.length),(233,bool false)],h⟩)) := by
 obtain ⟨h1,e,L⟩ := Loop_any (P := Try.prog) (vals := vals) (call := call) (n := n) (ks := [3,6,9]) (K := k106b0) (id := 1) got.length (fun i => !decide (rd got i = x.type)) (fun i => [(3,ints got),(6,.op p 0),(9,int i)]) [(8,bool false)] [(3,ints got),(6,.op p 0),(9,int got.length),(233,bool false)] (fun g => g = h)
  (fun i g hi hg => ⟨h,rfl,by
   rw [hg]
   have e1 : decide ((i : Int) < got.length) = true := by simp; omega
   have e2 : 0 ≤ (i : Int) ∧ (i : Int) < got.length := by omega
   have e3 := wrap_next (n := got.length) (i := i) (by omega) (by omega)
   cases c1 : decide (rd got i = x.type) <;> simp +decide -implicitDefEqProofs only [k106b0,go_sem,e1,e2,e3,set_new,c1,hp]⟩)
  (fun g hg => ⟨h,rfl,by rw [hg]; simp +decide -implicitDefEqProofs only [k106b0,go_sem,Int.lt_irrefl,decide_false]⟩) got.length 0 m h (by omega) hm rfl
 rw [e] at L
 simp only [show ((0 : Nat) : Int) = 0 from rfl] at L
 rw [any_ints (fun v => !decide (v = x.type))] at L
 exact L
set_option maxHeartbeats 2000000 in
theorem rfit_1 {vals : FuncId → Bool} {call : CallF} {n : Nat} (m : Tm.Module) (f : Tm.Func) (got : List Int) (x : Ins) (hop : x.op = 1) : ∃ r h',fin Try.prog [.tmp 8] (exec Try.prog vals call n k106 ⟨enterE 0 [.agg [externs m.externs,globals m.globals,tables m.tables,funcs m.funcs],.agg [str f.name,bool f.out,ints f.params,int f.result,blocks f.blocks],.agg [int x.op,int x.type,int x.to,int x.sym,int x.num,ints x.args,ints x.into],ints got],[]⟩) = some (r,h') ∧ view true h' depth r = some (bool (fitG m f x got)) := by
 rw [show fitG m f x got = (decide (x.type = 1) || (decide (x.type = 2) && (decide (x.num = 0) || decide (x.num = 1)))) by unfold fitG; rw [hop]; rfl]
 cases q1 : decide (x.type = 1) <;> cases q2 : decide (x.type = 2) <;> cases q3 : decide (x.num = 0) <;> cases q4 : decide (x.num = 1) <;> (simp +decide -implicitDefEqProofs only [k106,go_sem,hop,q1,q2,q3,q4]; exact ⟨_,_,rfl,rfl⟩)
set_option maxHeartbeats 2000000 in
theorem rfit_2 {vals : FuncId → Bool} {call : CallF} {n : Nat} (m : Tm.Module) (f : Tm.Func) (got : List Int) (x : Ins) (hop : x.op = 2) : ∃ r h',fin Try.prog [.tmp 8] (exec Try.prog vals call n k106 ⟨enterE 0 [.agg [externs m.externs,globals m.globals,tables m.tables,funcs m.funcs],.agg [str f.name,bool f.out,ints f.params,int f.result,blocks f.blocks],.agg [int x.op,int x.type,int x.to,int x.sym,int x.num,ints x.args,ints x.into],ints got],[]⟩) = some (r,h') ∧ view true h' depth r = some (bool (fitG m f x got)) := by
 rw [show fitG m f x got = (decide (x.type = 4)) by unfold fitG; rw [hop]; rfl]
 cases q1 : decide (x.type = 4) <;> (simp +decide -implicitDefEqProofs only [k106,go_sem,hop,q1]; exact ⟨_,_,rfl,rfl⟩)
set_option maxHeartbeats 2000000 in
theorem rfit_3 {vals : FuncId → Bool} {call : CallF} {n : Nat} (m : Tm.Module) (f : Tm.Func) (got : List Int) (x : Ins) (hop : x.op = 3) : ∃ r h',fin Try.prog [.tmp 8] (exec Try.prog vals call n k106 ⟨enterE 0 [.agg [externs m.externs,globals m.globals,tables m.tables,funcs m.funcs],.agg [str f.name,bool f.out,ints f.params,int f.result,blocks f.blocks],.agg [int x.op,int x.type,int x.to,int x.sym,int x.num,ints x.args,ints x.into],ints got],[]⟩) = some (r,h') ∧ view true h' depth r = some (bool (fitG m f x got)) := by
 rw [show fitG m f x got = (decide (x.type = 3)) by unfold fitG; rw [hop]; rfl]
 cases q1 : decide (x.type = 3) <;> (simp +decide -implicitDefEqProofs only [k106,go_sem,hop,q1]; exact ⟨_,_,rfl,rfl⟩)
set_option maxHeartbeats 2000000 in
theorem rfit_18 {vals : FuncId → Bool} {call : CallF} {n : Nat} (m : Tm.Module) (f : Tm.Func) (got : List Int) (x : Ins) (hop : x.op = 18) : ∃ r h',fin Try.prog [.tmp 8] (exec Try.prog vals call n k106 ⟨enterE 0 [.agg [externs m.externs,globals m.globals,tables m.tables,funcs m.funcs],.agg [str f.name,bool f.out,ints f.params,int f.result,blocks f.blocks],.agg [int x.op,int x.type,int x.to,int x.sym,int x.num,ints x.args,ints x.into],ints got],[]⟩) = some (r,h') ∧ view true h' depth r = some (bool (fitG m f x got)) := by
 rw [show fitG m f x got = (decide (x.type = 3)) by unfold fitG; rw [hop]; rfl]
 cases q1 : decide (x.type = 3) <;> (simp +decide -implicitDefEqProofs only [k106,go_sem,hop,q1]; exact ⟨_,_,rfl,rfl⟩)
set_option maxHeartbeats 2000000 in
theorem rfit_4 {vals : FuncId → Bool} {call : CallF} {n : Nat} (m : Tm.Module) (f : Tm.Func) (got : List Int) (x : Ins) (hop : x.op = 4) (hl : got.length = 2) : ∃ r h',fin Try.prog [.tmp 8] (exec Try.prog vals call n k106 ⟨enterE 0 [.agg [externs m.externs,globals m.globals,tables m.tables,funcs m.funcs],.agg [str f.name,bool f.out,ints f.params,int f.result,blocks f.blocks],.agg [int x.op,int x.type,int x.to,int x.sym,int x.num,ints x.args,ints x.into],ints got],[]⟩) = some (r,h') ∧ view true h' depth r = some (bool (fitG m f x got)) := by
 rw [show fitG m f x got = (decide (x.type = 1) && allT 1 got) by unfold fitG; rw [hop]; rfl]
 obtain ⟨a,b,rfl⟩ := len2 hl
 rw [all2]
 cases q1 : decide (x.type = 1) <;> cases q2 : decide (a = 1) <;> cases q3 : decide (b = 1) <;> (simp +decide -implicitDefEqProofs only [k106,go_sem,hop,q1,q2,q3,in0,in1,in2,at0,at1,at2]; exact ⟨_,_,rfl,rfl⟩)
set_option maxHeartbeats 2000000 in
theorem rfit_5 {vals : FuncId → Bool} {call : CallF} {n : Nat} (m : Tm.Module) (f : Tm.Func) (got : List Int) (x : Ins) (hop : x.op = 5) (hl : got.length = 2) : ∃ r h',fin Try.prog [.tmp 8] (exec Try.prog vals call n k106 ⟨enterE 0 [.agg [externs m.externs,globals m.globals,tables m.tables,funcs m.funcs],.agg [str f.name,bool f.out,ints f.params,int f.result,blocks f.blocks],.agg [int x.op,int x.type,int x.to,int x.sym,int x.num,ints x.args,ints x.into],ints got],[]⟩) = some (r,h') ∧ view true h' depth r = some (bool (fitG m f x got)) := by
 rw [show fitG m f x got = (decide (x.type = 1) && allT 1 got) by unfold fitG; rw [hop]; rfl]
 obtain ⟨a,b,rfl⟩ := len2 hl
 rw [all2]
 cases q1 : decide (x.type = 1) <;> cases q2 : decide (a = 1) <;> cases q3 : decide (b = 1) <;> (simp +decide -implicitDefEqProofs only [k106,go_sem,hop,q1,q2,q3,in0,in1,in2,at0,at1,at2]; exact ⟨_,_,rfl,rfl⟩)
set_option maxHeartbeats 2000000 in
theorem rfit_6 {vals : FuncId → Bool} {call : CallF} {n : Nat} (m : Tm.Module) (f : Tm.Func) (got : List Int) (x : Ins) (hop : x.op = 6) (hl : got.length = 2) : ∃ r h',fin Try.prog [.tmp 8] (exec Try.prog vals call n k106 ⟨enterE 0 [.agg [externs m.externs,globals m.globals,tables m.tables,funcs m.funcs],.agg [str f.name,bool f.out,ints f.params,int f.result,blocks f.blocks],.agg [int x.op,int x.type,int x.to,int x.sym,int x.num,ints x.args,ints x.into],ints got],[]⟩) = some (r,h') ∧ view true h' depth r = some (bool (fitG m f x got)) := by
 rw [show fitG m f x got = (decide (x.type = 1) && allT 1 got) by unfold fitG; rw [hop]; rfl]
 obtain ⟨a,b,rfl⟩ := len2 hl
 rw [all2]
 cases q1 : decide (x.type = 1) <;> cases q2 : decide (a = 1) <;> cases q3 : decide (b = 1) <;> (simp +decide -implicitDefEqProofs only [k106,go_sem,hop,q1,q2,q3,in0,in1,in2,at0,at1,at2]; exact ⟨_,_,rfl,rfl⟩)
set_option maxHeartbeats 2000000 in
theorem rfit_7 {vals : FuncId → Bool} {call : CallF} {n : Nat} (m : Tm.Module) (f : Tm.Func) (got : List Int) (x : Ins) (hop : x.op = 7) (hl : got.length = 2) : ∃ r h',fin Try.prog [.tmp 8] (exec Try.prog vals call n k106 ⟨enterE 0 [.agg [externs m.externs,globals m.globals,tables m.tables,funcs m.funcs],.agg [str f.name,bool f.out,ints f.params,int f.result,blocks f.blocks],.agg [int x.op,int x.type,int x.to,int x.sym,int x.num,ints x.args,ints x.into],ints got],[]⟩) = some (r,h') ∧ view true h' depth r = some (bool (fitG m f x got)) := by
 rw [show fitG m f x got = (decide (x.type = 1) && allT 1 got) by unfold fitG; rw [hop]; rfl]
 obtain ⟨a,b,rfl⟩ := len2 hl
 rw [all2]
 cases q1 : decide (x.type = 1) <;> cases q2 : decide (a = 1) <;> cases q3 : decide (b = 1) <;> (simp +decide -implicitDefEqProofs only [k106,go_sem,hop,q1,q2,q3,in0,in1,in2,at0,at1,at2]; exact ⟨_,_,rfl,rfl⟩)
set_option maxHeartbeats 2000000 in
theorem rfit_8 {vals : FuncId → Bool} {call : CallF} {n : Nat} (m : Tm.Module) (f : Tm.Func) (got : List Int) (x : Ins) (hop : x.op = 8) (hl : got.length = 2) : ∃ r h',fin Try.prog [.tmp 8] (exec Try.prog vals call n k106 ⟨enterE 0 [.agg [externs m.externs,globals m.globals,tables m.tables,funcs m.funcs],.agg [str f.name,bool f.out,ints f.params,int f.result,blocks f.blocks],.agg [int x.op,int x.type,int x.to,int x.sym,int x.num,ints x.args,ints x.into],ints got],[]⟩) = some (r,h') ∧ view true h' depth r = some (bool (fitG m f x got)) := by
 rw [show fitG m f x got = (decide (x.type = 1) && allT 1 got) by unfold fitG; rw [hop]; rfl]
 obtain ⟨a,b,rfl⟩ := len2 hl
 rw [all2]
 cases q1 : decide (x.type = 1) <;> cases q2 : decide (a = 1) <;> cases q3 : decide (b = 1) <;> (simp +decide -implicitDefEqProofs only [k106,go_sem,hop,q1,q2,q3,in0,in1,in2,at0,at1,at2]; exact ⟨_,_,rfl,rfl⟩)
set_option maxHeartbeats 2000000 in
theorem rfit_9 {vals : FuncId → Bool} {call : CallF} {n : Nat} (m : Tm.Module) (f : Tm.Func) (got : List Int) (x : Ins) (hop : x.op = 9) (hl : got.length = 2) : ∃ r h',fin Try.prog [.tmp 8] (exec Try.prog vals call n k106 ⟨enterE 0 [.agg [externs m.externs,globals m.globals,tables m.tables,funcs m.funcs],.agg [str f.name,bool f.out,ints f.params,int f.result,blocks f.blocks],.agg [int x.op,int x.type,int x.to,int x.sym,int x.num,ints x.args,ints x.into],ints got],[]⟩) = some (r,h') ∧ view true h' depth r = some (bool (fitG m f x got)) := by
 rw [show fitG m f x got = (decide (x.type = 1) && allT 1 got) by unfold fitG; rw [hop]; rfl]
 obtain ⟨a,b,rfl⟩ := len2 hl
 rw [all2]
 cases q1 : decide (x.type = 1) <;> cases q2 : decide (a = 1) <;> cases q3 : decide (b = 1) <;> (simp +decide -implicitDefEqProofs only [k106,go_sem,hop,q1,q2,q3,in0,in1,in2,at0,at1,at2]; exact ⟨_,_,rfl,rfl⟩)
end Go.Proofs.Ytkcimaibaicdcaa.Tk
namespace Go.Proofs.Ytkcimaibaicdcaa.Tk
open Go.Tm Go.Tm.Tab
set_option maxRecDepth 100000
set_option maxHeartbeats 2000000 in
theorem rfit_10 {vals : FuncId → Bool} {call : CallF} {n : Nat} (m : Tm.Module) (f : Tm.Func) (got : List Int) (x : Ins) (hop : x.op = 10) (hl : got.length = 2) : ∃ r h',fin Try.prog [.tmp 8] (exec Try.prog vals call n k106 ⟨enterE 0 [.agg [externs m.externs,globals m.globals,tables m.tables,funcs m.funcs],.agg [str f.name,bool f.out,ints f.params,int f.result,blocks f.blocks],.agg [int x.op,int x.type,int x.to,int x.sym,int x.num,ints x.args,ints x.into],ints got],[]⟩) = some (r,h') ∧ view true h' depth r = some (bool (fitG m f x got)) := by
 rw [show fitG m f x got = (decide (x.type = 1) && allT 1 got) by unfold fitG; rw [hop]; rfl]
 obtain ⟨a,b,rfl⟩ := len2 hl
 rw [all2]
 cases q1 : decide (x.type = 1) <;> cases q2 : decide (a = 1) <;> cases q3 : decide (b = 1) <;> (simp +decide -implicitDefEqProofs only [k106,go_sem,hop,q1,q2,q3,in0,in1,in2,at0,at1,at2]; exact ⟨_,_,rfl,rfl⟩)
set_option maxHeartbeats 2000000 in
theorem rfit_11 {vals : FuncId → Bool} {call : CallF} {n : Nat} (m : Tm.Module) (f : Tm.Func) (got : List Int) (x : Ins) (hop : x.op = 11) (hl : got.length = 2) : ∃ r h',fin Try.prog [.tmp 8] (exec Try.prog vals call n k106 ⟨enterE 0 [.agg [externs m.externs,globals m.globals,tables m.tables,funcs m.funcs],.agg [str f.name,bool f.out,ints f.params,int f.result,blocks f.blocks],.agg [int x.op,int x.type,int x.to,int x.sym,int x.num,ints x.args,ints x.into],ints got],[]⟩) = some (r,h') ∧ view true h' depth r = some (bool (fitG m f x got)) := by
 rw [show fitG m f x got = (decide (x.type = 1) && allT 1 got) by unfold fitG; rw [hop]; rfl]
 obtain ⟨a,b,rfl⟩ := len2 hl
 rw [all2]
 cases q1 : decide (x.type = 1) <;> cases q2 : decide (a = 1) <;> cases q3 : decide (b = 1) <;> (simp +decide -implicitDefEqProofs only [k106,go_sem,hop,q1,q2,q3,in0,in1,in2,at0,at1,at2]; exact ⟨_,_,rfl,rfl⟩)
set_option maxHeartbeats 2000000 in
theorem rfit_12 {vals : FuncId → Bool} {call : CallF} {n : Nat} (m : Tm.Module) (f : Tm.Func) (got : List Int) (x : Ins) (hop : x.op = 12) (hl : got.length = 2) : ∃ r h',fin Try.prog [.tmp 8] (exec Try.prog vals call n k106 ⟨enterE 0 [.agg [externs m.externs,globals m.globals,tables m.tables,funcs m.funcs],.agg [str f.name,bool f.out,ints f.params,int f.result,blocks f.blocks],.agg [int x.op,int x.type,int x.to,int x.sym,int x.num,ints x.args,ints x.into],ints got],[]⟩) = some (r,h') ∧ view true h' depth r = some (bool (fitG m f x got)) := by
 rw [show fitG m f x got = (decide (x.type = 1) && allT 1 got) by unfold fitG; rw [hop]; rfl]
 obtain ⟨a,b,rfl⟩ := len2 hl
 rw [all2]
 cases q1 : decide (x.type = 1) <;> cases q2 : decide (a = 1) <;> cases q3 : decide (b = 1) <;> (simp +decide -implicitDefEqProofs only [k106,go_sem,hop,q1,q2,q3,in0,in1,in2,at0,at1,at2]; exact ⟨_,_,rfl,rfl⟩)
set_option maxHeartbeats 2000000 in
theorem rfit_13 {vals : FuncId → Bool} {call : CallF} {n : Nat} (m : Tm.Module) (f : Tm.Func) (got : List Int) (x : Ins) (hop : x.op = 13) (hl : got.length = 2) : ∃ r h',fin Try.prog [.tmp 8] (exec Try.prog vals call n k106 ⟨enterE 0 [.agg [externs m.externs,globals m.globals,tables m.tables,funcs m.funcs],.agg [str f.name,bool f.out,ints f.params,int f.result,blocks f.blocks],.agg [int x.op,int x.type,int x.to,int x.sym,int x.num,ints x.args,ints x.into],ints got],[]⟩) = some (r,h') ∧ view true h' depth r = some (bool (fitG m f x got)) := by
 rw [show fitG m f x got = (decide (x.type = 1) && allT 1 got) by unfold fitG; rw [hop]; rfl]
 obtain ⟨a,b,rfl⟩ := len2 hl
 rw [all2]
 cases q1 : decide (x.type = 1) <;> cases q2 : decide (a = 1) <;> cases q3 : decide (b = 1) <;> (simp +decide -implicitDefEqProofs only [k106,go_sem,hop,q1,q2,q3,in0,in1,in2,at0,at1,at2]; exact ⟨_,_,rfl,rfl⟩)
set_option maxHeartbeats 2000000 in
theorem rfit_14 {vals : FuncId → Bool} {call : CallF} {n : Nat} (m : Tm.Module) (f : Tm.Func) (got : List Int) (x : Ins) (hop : x.op = 14) (hl : got.length = 2) : ∃ r h',fin Try.prog [.tmp 8] (exec Try.prog vals call n k106 ⟨enterE 0 [.agg [externs m.externs,globals m.globals,tables m.tables,funcs m.funcs],.agg [str f.name,bool f.out,ints f.params,int f.result,blocks f.blocks],.agg [int x.op,int x.type,int x.to,int x.sym,int x.num,ints x.args,ints x.into],ints got],[]⟩) = some (r,h') ∧ view true h' depth r = some (bool (fitG m f x got)) := by
 rw [show fitG m f x got = (decide (x.type = 2) && allT 1 got) by unfold fitG; rw [hop]; rfl]
 obtain ⟨a,b,rfl⟩ := len2 hl
 rw [all2]
 cases q1 : decide (x.type = 2) <;> cases q2 : decide (a = 1) <;> cases q3 : decide (b = 1) <;> (simp +decide -implicitDefEqProofs only [k106,go_sem,hop,q1,q2,q3,in0,in1,in2,at0,at1,at2]; exact ⟨_,_,rfl,rfl⟩)
set_option maxHeartbeats 2000000 in
theorem rfit_15 {vals : FuncId → Bool} {call : CallF} {n : Nat} (m : Tm.Module) (f : Tm.Func) (got : List Int) (x : Ins) (hop : x.op = 15) (hl : got.length = 2) : ∃ r h',fin Try.prog [.tmp 8] (exec Try.prog vals call n k106 ⟨enterE 0 [.agg [externs m.externs,globals m.globals,tables m.tables,funcs m.funcs],.agg [str f.name,bool f.out,ints f.params,int f.result,blocks f.blocks],.agg [int x.op,int x.type,int x.to,int x.sym,int x.num,ints x.args,ints x.into],ints got],[]⟩) = some (r,h') ∧ view true h' depth r = some (bool (fitG m f x got)) := by
 rw [show fitG m f x got = (decide (x.type = 2) && allT 1 got) by unfold fitG; rw [hop]; rfl]
 obtain ⟨a,b,rfl⟩ := len2 hl
 rw [all2]
 cases q1 : decide (x.type = 2) <;> cases q2 : decide (a = 1) <;> cases q3 : decide (b = 1) <;> (simp +decide -implicitDefEqProofs only [k106,go_sem,hop,q1,q2,q3,in0,in1,in2,at0,at1,at2]; exact ⟨_,_,rfl,rfl⟩)
set_option maxHeartbeats 2000000 in
theorem rfit_16 {vals : FuncId → Bool} {call : CallF} {n : Nat} (m : Tm.Module) (f : Tm.Func) (got : List Int) (x : Ins) (hop : x.op = 16) (hl : got.length = 1) : ∃ r h',fin Try.prog [.tmp 8] (exec Try.prog vals call n k106 ⟨enterE 0 [.agg [externs m.externs,globals m.globals,tables m.tables,funcs m.funcs],.agg [str f.name,bool f.out,ints f.params,int f.result,blocks f.blocks],.agg [int x.op,int x.type,int x.to,int x.sym,int x.num,ints x.args,ints x.into],ints got],[]⟩) = some (r,h') ∧ view true h' depth r = some (bool (fitG m f x got)) := by
 rw [show fitG m f x got = (decide (x.type = 2) && allT 2 got) by unfold fitG; rw [hop]; rfl]
 obtain ⟨a,rfl⟩ := len1 hl
 rw [all1]
 cases q1 : decide (x.type = 2) <;> cases q2 : decide (a = 2) <;> (simp +decide -implicitDefEqProofs only [k106,go_sem,hop,q1,q2,in0,in1,in2,at0,at1,at2]; exact ⟨_,_,rfl,rfl⟩)
set_option maxHeartbeats 2000000 in
theorem rfit_17 {vals : FuncId → Bool} {call : CallF} {n : Nat} (m : Tm.Module) (f : Tm.Func) (got : List Int) (x : Ins) (hop : x.op = 17) (hl : got.length = 3) : ∃ r h',fin Try.prog [.tmp 8] (exec Try.prog vals call n k106 ⟨enterE 0 [.agg [externs m.externs,globals m.globals,tables m.tables,funcs m.funcs],.agg [str f.name,bool f.out,ints f.params,int f.result,blocks f.blocks],.agg [int x.op,int x.type,int x.to,int x.sym,int x.num,ints x.args,ints x.into],ints got],[]⟩) = some (r,h') ∧ view true h' depth r = some (bool (fitG m f x got)) := by
 rw [show fitG m f x got = (decide (got = [2,x.type,x.type])) by unfold fitG; rw [hop]; rfl]
 obtain ⟨a,b,c,rfl⟩ := len3 hl
 rw [dec3]
 cases q1 : decide (a = 2) <;> cases q2 : decide (b = x.type) <;> cases q3 : decide (c = x.type) <;> (simp +decide -implicitDefEqProofs only [k106,go_sem,hop,q1,q2,q3,in0,in1,in2,at0,at1,at2]; exact ⟨_,_,rfl,rfl⟩)
set_option maxHeartbeats 2000000 in
theorem rfit_19 {vals : FuncId → Bool} {call : CallF} {n : Nat} (m : Tm.Module) (f : Tm.Func) (got : List Int) (x : Ins) (hop : x.op = 19) (hl : got.length = 2) : ∃ r h',fin Try.prog [.tmp 8] (exec Try.prog vals call n k106 ⟨enterE 0 [.agg [externs m.externs,globals m.globals,tables m.tables,funcs m.funcs],.agg [str f.name,bool f.out,ints f.params,int f.result,blocks f.blocks],.agg [int x.op,int x.type,int x.to,int x.sym,int x.num,ints x.args,ints x.into],ints got],[]⟩) = some (r,h') ∧ view true h' depth r = some (bool (fitG m f x got)) := by
 rw [show fitG m f x got = (decide (x.type = 3) && decide (got = [3,1])) by unfold fitG; rw [hop]; rfl]
 obtain ⟨a,b,rfl⟩ := len2 hl
 rw [dec2]
 cases q1 : decide (x.type = 3) <;> cases q2 : decide (a = 3) <;> cases q3 : decide (b = 1) <;> (simp +decide -implicitDefEqProofs only [k106,go_sem,hop,q1,q2,q3,in0,in1,in2,at0,at1,at2]; exact ⟨_,_,rfl,rfl⟩)
set_option maxHeartbeats 2000000 in
theorem rfit_20 {vals : FuncId → Bool} {call : CallF} {n : Nat} (m : Tm.Module) (f : Tm.Func) (got : List Int) (x : Ins) (hop : x.op = 20) (hl : got.length = 1) : ∃ r h',fin Try.prog [.tmp 8] (exec Try.prog vals call n k106 ⟨enterE 0 [.agg [externs m.externs,globals m.globals,tables m.tables,funcs m.funcs],.agg [str f.name,bool f.out,ints f.params,int f.result,blocks f.blocks],.agg [int x.op,int x.type,int x.to,int x.sym,int x.num,ints x.args,ints x.into],ints got],[]⟩) = some (r,h') ∧ view true h' depth r = some (bool (fitG m f x got)) := by
 rw [show fitG m f x got = (decide (x.type = 1) && decide (got = [3])) by unfold fitG; rw [hop]; rfl]
 obtain ⟨a,rfl⟩ := len1 hl
 rw [dec1]
 cases q1 : decide (x.type = 1) <;> cases q2 : decide (a = 3) <;> (simp +decide -implicitDefEqProofs only [k106,go_sem,hop,q1,q2,in0,in1,in2,at0,at1,at2]; exact ⟨_,_,rfl,rfl⟩)
end Go.Proofs.Ytkcimaibaicdcaa.Tk
namespace Go.Proofs.Ytkcimaibaicdcaa.Tk
open Go.Tm Go.Tm.Tab
set_option maxRecDepth 100000
set_option maxHeartbeats 2000000 in
theorem rfit_21 {vals : FuncId → Bool} {call : CallF} {n : Nat} (m : Tm.Module) (f : Tm.Func) (got : List Int) (x : Ins) (hop : x.op = 21) (hl : got.length = 2) : ∃ r h',fin Try.prog [.tmp 8] (exec Try.prog vals call n k106 ⟨enterE 0 [.agg [externs m.externs,globals m.globals,tables m.tables,funcs m.funcs],.agg [str f.name,bool f.out,ints f.params,int f.result,blocks f.blocks],.agg [int x.op,int x.type,int x.to,int x.sym,int x.num,ints x.args,ints x.into],ints got],[]⟩) = some (r,h') ∧ view true h' depth r = some (bool (fitG m f x got)) := by
 rw [show fitG m f x got = (decide (got = [3,1])) by unfold fitG; rw [hop]; rfl]
 obtain ⟨a,b,rfl⟩ := len2 hl
 rw [dec2]
 cases q2 : decide (a = 3) <;> cases q3 : decide (b = 1) <;> (simp +decide -implicitDefEqProofs only [k106,go_sem,hop,q2,q3,in0,in1,in2,at0,at1,at2]; exact ⟨_,_,rfl,rfl⟩)
set_option maxHeartbeats 2000000 in
theorem rfit_22 {vals : FuncId → Bool} {call : CallF} {n : Nat} (m : Tm.Module) (f : Tm.Func) (got : List Int) (x : Ins) (hop : x.op = 22) (hs : 0 ≤ x.sym ∧ x.sym < m.funcs.length) (hv : vals 18 = true) (h18 : ∀ (w : List Int) h,call 18 [ints got,ints w] h = some (bool (decide (got = w)),h)) : ∃ r h',fin Try.prog [.tmp 8] (exec Try.prog vals call n k106 ⟨enterE 0 [.agg [externs m.externs,globals m.globals,tables m.tables,funcs m.funcs],.agg [str f.name,bool f.out,ints f.params,int f.result,blocks f.blocks],.agg [int x.op,int x.type,int x.to,int x.sym,int x.num,ints x.args,ints x.into],ints got],[]⟩) = some (r,h') ∧ view true h' depth r = some (bool (fitG m f x got)) := by
 rw [show fitG m f x got = (decide (x.type = (fnAt m.funcs x.sym).result) && decide (got = (fnAt m.funcs x.sym).params)) by unfold fitG; rw [hop]; rfl]
 cases q1 : decide (x.type = (fnAt m.funcs x.sym).result) <;> cases q2 : decide (got = (fnAt m.funcs x.sym).params) <;> (simp +decide -implicitDefEqProofs only [k106,go_sem,hop,hs,hv,h18,q1,q2]; exact ⟨_,_,rfl,rfl⟩)
set_option maxHeartbeats 2000000 in
theorem rfit_23 {vals : FuncId → Bool} {call : CallF} {n : Nat} (m : Tm.Module) (f : Tm.Func) (got : List Int) (x : Ins) (hop : x.op = 23) (hs : 0 ≤ x.sym ∧ x.sym < m.externs.length) (hv : vals 18 = true) (h18 : ∀ (w : List Int) h,call 18 [ints got,ints w] h = some (bool (decide (got = w)),h)) : ∃ r h',fin Try.prog [.tmp 8] (exec Try.prog vals call n k106 ⟨enterE 0 [.agg [externs m.externs,globals m.globals,tables m.tables,funcs m.funcs],.agg [str f.name,bool f.out,ints f.params,int f.result,blocks f.blocks],.agg [int x.op,int x.type,int x.to,int x.sym,int x.num,ints x.args,ints x.into],ints got],[]⟩) = some (r,h') ∧ view true h' depth r = some (bool (fitG m f x got)) := by
 rw [show fitG m f x got = (decide (x.type = (extAt m.externs x.sym).result) && decide (got = (extAt m.externs x.sym).params)) by unfold fitG; rw [hop]; rfl]
 cases q1 : decide (x.type = (extAt m.externs x.sym).result) <;> cases q2 : decide (got = (extAt m.externs x.sym).params) <;> (simp +decide -implicitDefEqProofs only [k106,go_sem,hop,hs,hv,h18,q1,q2]; exact ⟨_,_,rfl,rfl⟩)
set_option maxHeartbeats 2000000 in
theorem rfit_24 {vals : FuncId → Bool} {call : CallF} {n : Nat} (m : Tm.Module) (f : Tm.Func) (got : List Int) (x : Ins) (hop : x.op = 24) (hl : got.length = 1) : ∃ r h',fin Try.prog [.tmp 8] (exec Try.prog vals call n k106 ⟨enterE 0 [.agg [externs m.externs,globals m.globals,tables m.tables,funcs m.funcs],.agg [str f.name,bool f.out,ints f.params,int f.result,blocks f.blocks],.agg [int x.op,int x.type,int x.to,int x.sym,int x.num,ints x.args,ints x.into],ints got],[]⟩) = some (r,h') ∧ view true h' depth r = some (bool (fitG m f x got)) := by
 rw [show fitG m f x got = (decide (x.type = 4) && decide (got = [1])) by unfold fitG; rw [hop]; rfl]
 obtain ⟨a,rfl⟩ := len1 hl
 rw [dec1]
 cases q1 : decide (x.type = 4) <;> cases q2 : decide (a = 1) <;> (simp +decide -implicitDefEqProofs only [k106,go_sem,hop,q1,q2,in0,in1,in2,at0,at1,at2]; exact ⟨_,_,rfl,rfl⟩)
set_option maxHeartbeats 2000000 in
theorem rfit_25 {vals : FuncId → Bool} {call : CallF} {n : Nat} (m : Tm.Module) (f : Tm.Func) (got : List Int) (x : Ins) (hop : x.op = 25) (hl : 1 ≤ got.length) : ∃ r h',fin Try.prog [.tmp 8] (exec Try.prog vals call n k106 ⟨enterE 0 [.agg [externs m.externs,globals m.globals,tables m.tables,funcs m.funcs],.agg [str f.name,bool f.out,ints f.params,int f.result,blocks f.blocks],.agg [int x.op,int x.type,int x.to,int x.sym,int x.num,ints x.args,ints x.into],ints got],[]⟩) = some (r,h') ∧ view true h' depth r = some (bool (fitG m f x got)) := by
 rw [show fitG m f x got = (decide (rd got 0 = 4) && !decide (x.type = 3)) by unfold fitG; rw [hop]; rfl]
 have e0 : (0 : Int) ≤ 0 ∧ (0 : Int) < got.length := by omega
 cases q1 : decide (rd got 0 = 4) <;> cases q2 : decide (x.type = 3) <;> (simp +decide -implicitDefEqProofs only [k106,go_sem,hop,e0,q1,q2]; exact ⟨_,_,rfl,rfl⟩)
set_option maxHeartbeats 2000000 in
theorem rfit_26 {vals : FuncId → Bool} {call : CallF} {n : Nat} (m : Tm.Module) (f : Tm.Func) (got : List Int) (x : Ins) (hop : x.op = 26) (hl : got.length < 2 ^ 50) (hn : got.length < n) : ∃ r h',fin Try.prog [.tmp 8] (exec Try.prog vals call n k106 ⟨enterE 0 [.agg [externs m.externs,globals m.globals,tables m.tables,funcs m.funcs],.agg [str f.name,bool f.out,ints f.params,int f.result,blocks f.blocks],.agg [int x.op,int x.type,int x.to,int x.sym,int x.num,ints x.args,ints x.into],ints got],[]⟩) = some (r,h') ∧ view true h' depth r = some (bool (fitG m f x got)) := by
 rw [show fitG m f x got = (allT x.type got) by unfold fitG; rw [hop]; rfl]
 have L := fit_phi (vals := vals) (call := call) (n := n) got x 2 hl [.row 0 [externs m.externs,globals m.globals,tables m.tables,funcs m.funcs],.row 0 [str f.name,bool f.out,ints f.params,int f.result,blocks f.blocks],.row 0 [int x.op,int x.type,int x.to,int x.sym,int x.num,ints x.args,ints x.into]] rfl n hn
 rw [any_all,hop] at L
 cases q2 : allT x.type got with
 | true =>
  rw [q2,if_neg (by decide)] at L
  simp +decide -implicitDefEqProofs only [k106,go_sem,hop,L]; exact ⟨_,_,rfl,rfl⟩
 | false =>
  rw [q2,if_pos (by decide)] at L
  simp +decide -implicitDefEqProofs only [k106,go_sem,hop,L]; exact ⟨_,_,rfl,rfl⟩
set_option maxHeartbeats 2000000 in
theorem rfit_27 {vals : FuncId → Bool} {call : CallF} {n : Nat} (m : Tm.Module) (f : Tm.Func) (got : List Int) (x : Ins) (hop : x.op = 27) : ∃ r h',fin Try.prog [.tmp 8] (exec Try.prog vals call n k106 ⟨enterE 0 [.agg [externs m.externs,globals m.globals,tables m.tables,funcs m.funcs],.agg [str f.name,bool f.out,ints f.params,int f.result,blocks f.blocks],.agg [int x.op,int x.type,int x.to,int x.sym,int x.num,ints x.args,ints x.into],ints got],[]⟩) = some (r,h') ∧ view true h' depth r = some (bool (fitG m f x got)) := by
 rw [show fitG m f x got = (true) by unfold fitG; rw [hop]; rfl]
 simp +decide -implicitDefEqProofs only [k106,go_sem,hop]; exact ⟨_,_,rfl,rfl⟩
set_option maxHeartbeats 2000000 in
theorem rfit_28 {vals : FuncId → Bool} {call : CallF} {n : Nat} (m : Tm.Module) (f : Tm.Func) (got : List Int) (x : Ins) (hop : x.op = 28) (hl : got.length = 1) : ∃ r h',fin Try.prog [.tmp 8] (exec Try.prog vals call n k106 ⟨enterE 0 [.agg [externs m.externs,globals m.globals,tables m.tables,funcs m.funcs],.agg [str f.name,bool f.out,ints f.params,int f.result,blocks f.blocks],.agg [int x.op,int x.type,int x.to,int x.sym,int x.num,ints x.args,ints x.into],ints got],[]⟩) = some (r,h') ∧ view true h' depth r = some (bool (fitG m f x got)) := by
 rw [show fitG m f x got = (decide (got = [2])) by unfold fitG; rw [hop]; rfl]
 obtain ⟨a,rfl⟩ := len1 hl
 rw [dec1]
 cases q2 : decide (a = 2) <;> (simp +decide -implicitDefEqProofs only [k106,go_sem,hop,q2,in0,in1,in2,at0,at1,at2]; exact ⟨_,_,rfl,rfl⟩)
set_option maxHeartbeats 2000000 in
theorem rfit_29 {vals : FuncId → Bool} {call : CallF} {n : Nat} (m : Tm.Module) (f : Tm.Func) (got : List Int) (x : Ins) (hop : x.op = 29) : ∃ r h',fin Try.prog [.tmp 8] (exec Try.prog vals call n k106 ⟨enterE 0 [.agg [externs m.externs,globals m.globals,tables m.tables,funcs m.funcs],.agg [str f.name,bool f.out,ints f.params,int f.result,blocks f.blocks],.agg [int x.op,int x.type,int x.to,int x.sym,int x.num,ints x.args,ints x.into],ints got],[]⟩) = some (r,h') ∧ view true h' depth r = some (bool (fitG m f x got)) := by
 rw [show fitG m f x got = (if f.result = 0 then decide (got = []) else decide (got = [f.result])) by unfold fitG; rw [hop]; rfl]
 have hl : decide ((got.length : Int) = 0) = decide (got = []) := by
  rw [decide_eq_decide,← List.length_eq_zero_iff]
  omega
 cases q1 : decide (f.result = 0) with
 | true =>
  rw [if_pos (of_decide_eq_true q1),← hl]
  cases q2 : decide ((got.length : Int) = 0) <;> (simp +decide -implicitDefEqProofs only [k106,go_sem,hop,q1,q2]; exact ⟨_,_,rfl,rfl⟩)
 | false =>
  rw [if_neg (of_decide_eq_false q1)]
  cases q2 : decide ((got.length : Int) = 1) with
  | true =>
   obtain ⟨a,rfl⟩ := len1 (got := got) (by have := of_decide_eq_true q2; omega)
   rw [dec1]
   cases q3 : decide (a = f.result) <;> (simp +decide -implicitDefEqProofs only [k106,go_sem,hop,q1,q2,q3,in0,in1,in2,at0,at1,at2]; exact ⟨_,_,rfl,rfl⟩)
  | false =>
   rw [show decide (got = [f.result]) = false from decide_eq_false (fun e => of_decide_eq_false q2 (by rw [e]; rfl))]
   simp +decide -implicitDefEqProofs only [k106,go_sem,hop,q1,q2]; exact ⟨_,_,rfl,rfl⟩
set_option maxHeartbeats 2000000 in
theorem rfit_30 {vals : FuncId → Bool} {call : CallF} {n : Nat} (m : Tm.Module) (f : Tm.Func) (got : List Int) (x : Ins) (hop : x.op = 30) : ∃ r h',fin Try.prog [.tmp 8] (exec Try.prog vals call n k106 ⟨enterE 0 [.agg [externs m.externs,globals m.globals,tables m.tables,funcs m.funcs],.agg [str f.name,bool f.out,ints f.params,int f.result,blocks f.blocks],.agg [int x.op,int x.type,int x.to,int x.sym,int x.num,ints x.args,ints x.into],ints got],[]⟩) = some (r,h') ∧ view true h' depth r = some (bool (fitG m f x got)) := by
 rw [show fitG m f x got = (true) by unfold fitG; rw [hop]; rfl]
 simp +decide -implicitDefEqProofs only [k106,go_sem,hop]; exact ⟨_,_,rfl,rfl⟩
end Go.Proofs.Ytkcimaibaicdcaa.Tk
namespace Go.Proofs.Ytkcimaibaicdcaa.Tk
open Go.Tm Go.Tm.Tab
set_option maxRecDepth 100000
theorem rows_own {k : Nat} (hk : 200 ≤ k) (ty a : List Int) (hx : a.length < 100) (hin : ∀ v ∈ a,0 ≤ v ∧ v < (ty.length : Int)) (w : List Int) (l : Nat) (h : Heap) (hl : h[l]? = some (.row 1 (w.map int))) : callAt Try.prog tab k 119 [ints ty,ints a,.os l 0 w.length (some w.length)] h = some (bool (decide (gotOf ty a = w)),h) :=
 wrows_runs ty a w hx hin k hk _ h (by
  have h1 := view_os_ints (cl := false) (n := 10) (cap := some w.length) hl
  have h2 : view false h depth (ints ty) = some (ints ty) := by simp +decide -implicitDefEqProofs only [depth,go_sem]
  have h3 : view false h depth (ints a) = some (ints a) := by simp +decide -implicitDefEqProofs only [depth,go_sem]
  have h4 : view false h depth (.os l 0 w.length (some w.length)) = some (ints w) := h1
  simp only [mapC_cons,mapC_nil,h2,h3,h4,Option.bind_some])
structure SymOk (m : Tm.Module) (x : Ins) : Prop where
 fn : x.op = 22 → 0 ≤ x.sym ∧ x.sym < m.funcs.length
 ext : x.op = 23 → 0 ≤ x.sym ∧ x.sym < m.externs.length
theorem fitB_is (m : Tm.Module) (f : Tm.Func) (ty : List Int) (x : Ins) : fitB m f ty x = fitG m f x (gotOf ty x.args) := rfl
@[go_sem] theorem view_externs (h : Heap) (n : Nat) (l : List Extern) : view false h (n + 1) (externs l) = some (externs l) := view_fs _ l
@[go_sem] theorem view_globals (h : Heap) (n : Nat) (l : List Tm.Global) : view false h (n + 1) (globals l) = some (globals l) := view_fs _ l
@[go_sem] theorem view_tables (h : Heap) (n : Nat) (l : List Table) : view false h (n + 1) (tables l) = some (tables l) := view_fs _ l
@[go_sem] theorem view_funcs (h : Heap) (n : Nat) (l : List Tm.Func) : view false h (n + 1) (funcs l) = some (funcs l) := view_fs _ l
theorem wfit_runs (m : Tm.Module) (f : Tm.Func) (ty : List Int) (x : Ins) (H : ShapeOk x) (S : SymOk m x) (hx : x.args.length < 100) (hin : ∀ v ∈ x.args,0 ≤ v ∧ v < (ty.length : Int)) : Runs Try.prog tab 300 114 [.agg [externs m.externs,globals m.globals,tables m.tables,funcs m.funcs],.agg [str f.name,bool f.out,ints f.params,int f.result,blocks f.blocks],ints ty,.agg [int x.op,int x.type,int x.to,int x.sym,int x.num,ints x.args,ints x.into]] (bool (fitB m f ty x)) := by
  refine Runs.by (rs := [.tmp 8]) (N := 229) rfl Try.func114 rfl rfl (by simp) fun k hk => ?_
  have hall : ∀ t h,callAt Try.prog tab k 118 [ints ty,ints x.args,int t] h = some (bool (allT t (gotOf ty x.args)),h) := fun t h => wall_runs ty x.args t hx hin k (by omega) _ h (by simp +decide -implicitDefEqProofs only [depth,go_sem])
  have hfrz : ∀ (w : List Int) h,callAt Try.prog tab k 119 [ints ty,ints x.args,ints w] h = some (bool (decide (gotOf ty x.args = w)),h) := fun w h => wrows_runs ty x.args w hx hin k (by omega) _ h (by simp +decide -implicitDefEqProofs only [depth,go_sem])
  have hrow := fun (w : List Int) (l : Nat) (h : Heap) hl => rows_own (k := k) (by omega) ty x.args hx hin w l h hl
  rcases ops_of H.lo H.hi with hop | hop | hop | hop | hop | hop | hop | hop | hop | hop | hop | hop | hop | hop | hop | hop | hop | hop | hop | hop | hop | hop | hop | hop | hop | hop | hop | hop | hop | hop
  · exact fit_1 m f ty x hop hall hrow hfrz
  · exact fit_2 m f ty x hop hall hrow hfrz
  · exact fit_3 m f ty x hop hall hrow hfrz
  · exact fit_4 m f ty x hop hall hrow hfrz
  · exact fit_5 m f ty x hop hall hrow hfrz
  · exact fit_6 m f ty x hop hall hrow hfrz
  · exact fit_7 m f ty x hop hall hrow hfrz
  · exact fit_8 m f ty x hop hall hrow hfrz
  · exact fit_9 m f ty x hop hall hrow hfrz
  · exact fit_10 m f ty x hop hall hrow hfrz
  · exact fit_11 m f ty x hop hall hrow hfrz
  · exact fit_12 m f ty x hop hall hrow hfrz
  · exact fit_13 m f ty x hop hall hrow hfrz
  · exact fit_14 m f ty x hop hall hrow hfrz
  · exact fit_15 m f ty x hop hall hrow hfrz
  · exact fit_16 m f ty x hop hall hrow hfrz
  · exact fit_17 m f ty x hop hall hrow hfrz
  · exact fit_18 m f ty x hop hall hrow hfrz
  · exact fit_19 m f ty x hop hall hrow hfrz
  · exact fit_20 m f ty x hop hall hrow hfrz
  · exact fit_21 m f ty x hop hall hrow hfrz
  · exact fit_22 m f ty x hop hall hrow hfrz (S.fn hop)
  · exact fit_23 m f ty x hop hall hrow hfrz (S.ext hop)
  · exact fit_24 m f ty x hop hall hrow hfrz
  · exact fit_25 m f ty x hop hall hrow hfrz (H.via hop) hin
  · exact fit_26 m f ty x hop hall hrow hfrz
  · exact fit_27 m f ty x hop hall hrow hfrz
  · exact fit_28 m f ty x hop hall hrow hfrz
  · exact fit_29 m f ty x hop hall hrow hfrz
  · exact fit_30 m f ty x hop hall hrow hfrz
theorem rfit_runs (m : Tm.Module) (f : Tm.Func) (got : List Int) (x : Ins) (H : ShapeOk x) (S : SymOk m x) (hx : x.args.length < 100) (hgl : got.length = x.args.length) : Runs Try.prog tab 300 106 [.agg [externs m.externs,globals m.globals,tables m.tables,funcs m.funcs],.agg [str f.name,bool f.out,ints f.params,int f.result,blocks f.blocks],.agg [int x.op,int x.type,int x.to,int x.sym,int x.num,ints x.args,ints x.into],ints got] (bool (fitG m f x got)) := by
  refine Runs.by (rs := [.tmp 8]) (N := 268) rfl Try.func106 rfl rfl (by simp) fun k hk => ?_
  have hv : valsOf tab 18 = true := by decide
  have h18 : ∀ (w : List Int) h,callAt Try.prog tab k 18 [ints got,ints w] h = some (bool (decide (got = w)),h) := fun w h => requal_runs got w (by omega) k (by omega) _ h (by simp +decide -implicitDefEqProofs only [depth,go_sem])
  have hlen : ∀ n : Nat,x.op ≠ 26 → (markOf x.op).args = n → got.length = n := fun n h1 h2 => by
    have := H.args h1
    rw [h2] at this
    omega
  rcases ops_of H.lo H.hi with hop | hop | hop | hop | hop | hop | hop | hop | hop | hop | hop | hop | hop | hop | hop | hop | hop | hop | hop | hop | hop | hop | hop | hop | hop | hop | hop | hop | hop | hop
  · exact rfit_1 m f got x hop
  · exact rfit_2 m f got x hop
  · exact rfit_3 m f got x hop
  · exact rfit_4 m f got x hop (hlen 2 (by omega) (by rw [hop]; rfl))
  · exact rfit_5 m f got x hop (hlen 2 (by omega) (by rw [hop]; rfl))
  · exact rfit_6 m f got x hop (hlen 2 (by omega) (by rw [hop]; rfl))
  · exact rfit_7 m f got x hop (hlen 2 (by omega) (by rw [hop]; rfl))
  · exact rfit_8 m f got x hop (hlen 2 (by omega) (by rw [hop]; rfl))
  · exact rfit_9 m f got x hop (hlen 2 (by omega) (by rw [hop]; rfl))
  · exact rfit_10 m f got x hop (hlen 2 (by omega) (by rw [hop]; rfl))
  · exact rfit_11 m f got x hop (hlen 2 (by omega) (by rw [hop]; rfl))
  · exact rfit_12 m f got x hop (hlen 2 (by omega) (by rw [hop]; rfl))
  · exact rfit_13 m f got x hop (hlen 2 (by omega) (by rw [hop]; rfl))
  · exact rfit_14 m f got x hop (hlen 2 (by omega) (by rw [hop]; rfl))
  · exact rfit_15 m f got x hop (hlen 2 (by omega) (by rw [hop]; rfl))
  · exact rfit_16 m f got x hop (hlen 1 (by omega) (by rw [hop]; rfl))
  · exact rfit_17 m f got x hop (hlen 3 (by omega) (by rw [hop]; rfl))
  · exact rfit_18 m f got x hop
  · exact rfit_19 m f got x hop (hlen 2 (by omega) (by rw [hop]; rfl))
  · exact rfit_20 m f got x hop (hlen 1 (by omega) (by rw [hop]; rfl))
  · exact rfit_21 m f got x hop (hlen 2 (by omega) (by rw [hop]; rfl))
  · exact rfit_22 m f got x hop (S.fn hop) hv h18
  · exact rfit_23 m f got x hop (S.ext hop) hv h18
  · exact rfit_24 m f got x hop (hlen 1 (by omega) (by rw [hop]; rfl))
  · exact rfit_25 m f got x hop (by have := H.via hop; omega)
  · exact rfit_26 m f got x hop (by omega) (by omega)
  · exact rfit_27 m f got x hop
  · exact rfit_28 m f got x hop (hlen 1 (by omega) (by rw [hop]; rfl))
  · exact rfit_29 m f got x hop
  · exact rfit_30 m f got x hop
def badFI (m : Tm.Module) (f : Tm.Func) (x : Ins) : Bool := !fitB m f (typesOf f) x
def badFB (m : Tm.Module) (f : Tm.Func) (b : Block) : Bool := b.ins.any (badFI m f)
def typedB (m : Tm.Module) (f : Tm.Func) : Bool := !f.blocks.any (badFB m f)
set_option maxHeartbeats 2000000 in
theorem typed_l0 {vals : FuncId → Bool} {call : CallF} {n : Nat} (a b c : C) (m : Tm.Module) (f : Tm.Func) (l : List Ins) (hl : l.length < 2 ^ 50) (I : Heap → Prop) (hp : ∀ h x,I h → I (h ++ [x])) (hg : ∀ h,I h → h[0]? = some (.row 0 [externs m.externs,globals m.globals,tables m.tables,funcs m.funcs])) (hg1 : ∀ h,I h → h[1]? = some (.row 0 [str f.name,bool f.out,ints f.params,int f.result,blocks f.blocks])) (hc : ∀ x ∈ l,∀ h,call 114 [.agg [externs m.externs,globals m.globals,tables m.tables,funcs m.funcs],.agg [str f.name,bool f.out,ints f.params,int f.result,blocks f.blocks],ints (typesOf f),.agg [int x.op,int x.type,int x.to,int x.sym,int x.num,ints x.args,ints x.into]] h = some (bool (fitB m f (typesOf f) x),h)) (mm : Nat) (hm : l.length < mm) (h : Heap) (hI : I h) : ∃ h1,I h1 ∧ Tm.Loop Try.prog vals call n [2,3,5,13,14,15,20,21,22] k93b0 mm ⟨[(2,.op 0 0),(3,.op 1 0),(5,ints (typesOf f)),(13,a),(14,b),(15,c),(20,inss l),(21,int l.length),(22,int 0)],h⟩ = some (if l.any (badFI m f) = true then (.ret,⟨[(4,bool false)],h1⟩) else (.exit 2,⟨[(2,.op 0 0),(3,.op 1 0),(5,ints (typesOf f)),(13,a),(14,b),(15,c),(20,inss l),(21,int l.length),(22,int l.length),(23,bool false)],h1⟩)) := by
 obtain ⟨h1,J,L⟩ := Loop_any (P := Try.prog) (vals := vals) (call := call) (n := n) (ks := [2,3,5,13,14,15,20,21,22]) (K := k93b0) (id := 2) l.length (fun i => badFI m f (insAt l i)) (fun i => [(2,.op 0 0),(3,.op 1 0),(5,ints (typesOf f)),(13,a),(14,b),(15,c),(20,inss l),(21,int l.length),(22,int i)]) [(4,bool false)] [(2,.op 0 0),(3,.op 1 0),(5,ints (typesOf f)),(13,a),(14,b),(15,c),(20,inss l),(21,int l.length),(22,int l.length),(23,bool false)] I
  (fun i h hi hI => by
   have e1 : decide ((i : Int) < l.length) = true := by simp; omega
   have e2 : 0 ≤ (i : Int) ∧ (i : Int) < l.length := by omega
   have e3 := wrap_next (n := l.length) (i := i) (by omega) (by omega)
   have I1 := hp _ (.row 0 (encIns (insAt l i))) hI
   have hc1 := hc _ (insAt_mem e2)
   have g0 := hg _ I1
   have g1 := hg1 _ I1
   simp only [encIns] at I1 g0 g1
   refine ⟨_,I1,?_⟩
   unfold badFI
   cases c1 : fitB m f (typesOf f) (insAt l i) <;> simp +decide -implicitDefEqProofs only [k93b0,go_sem,e1,e2,e3,set_new,encIns,g0,g1,hc1,c1])
  (fun h hI => by
   exact ⟨h,hI,by simp +decide -implicitDefEqProofs only [k93b0,go_sem,Int.lt_irrefl,decide_false]⟩) l.length 0 mm h (by omega) hm hI
 simp only [show ((0 : Nat) : Int) = 0 from rfl] at L
 rw [any_inss] at L
 exact ⟨h1,J,L⟩
theorem typed_l1 {vals : FuncId → Bool} {call : CallF} {n : Nat} (m : Tm.Module) (f : Tm.Func) (l : List Block) (hl2 : l.length < 2 ^ 50) (hb : ∀ b ∈ l,b.ins.length < n ∧ b.ins.length < 2 ^ 50) (I : Heap → Prop) (hp : ∀ h x,I h → I (h ++ [x])) (hg : ∀ h,I h → h[0]? = some (.row 0 [externs m.externs,globals m.globals,tables m.tables,funcs m.funcs])) (hg1 : ∀ h,I h → h[1]? = some (.row 0 [str f.name,bool f.out,ints f.params,int f.result,blocks f.blocks])) (hc : ∀ b ∈ l,∀ x ∈ b.ins,∀ h,call 114 [.agg [externs m.externs,globals m.globals,tables m.tables,funcs m.funcs],.agg [str f.name,bool f.out,ints f.params,int f.result,blocks f.blocks],ints (typesOf f),.agg [int x.op,int x.type,int x.to,int x.sym,int x.num,ints x.args,ints x.into]] h = some (bool (fitB m f (typesOf f) x),h)) (mm : Nat) (hm : l.length < mm) (h : Heap) (hI : I h) : ∃ h1,I h1 ∧ Tm.Loop Try.prog vals call n [2,3,5,13,14,15] k93b1 mm ⟨[(2,.op 0 0),(3,.op 1 0),(5,ints (typesOf f)),(13,blocks l),(14,int l.length),(15,int 0)],h⟩ = some (if l.any (badFB m f) = true then (.ret,⟨[(4,bool false)],h1⟩) else (.exit 0,⟨[(2,.op 0 0),(3,.op 1 0),(5,ints (typesOf f)),(13,blocks l),(14,int l.length),(15,int l.length),(16,bool false)],h1⟩)) := by
 obtain ⟨h1,J,L⟩ := Loop_any (P := Try.prog) (vals := vals) (call := call) (n := n) (ks := [2,3,5,13,14,15]) (K := k93b1) (id := 0) l.length (fun i => badFB m f (blkAt l i)) (fun i => [(2,.op 0 0),(3,.op 1 0),(5,ints (typesOf f)),(13,blocks l),(14,int l.length),(15,int i)]) [(4,bool false)] [(2,.op 0 0),(3,.op 1 0),(5,ints (typesOf f)),(13,blocks l),(14,int l.length),(15,int l.length),(16,bool false)] I
  (fun i h hi hI => by
   have e1 : decide ((i : Int) < l.length) = true := by simp; omega
   have e2 : 0 ≤ (i : Int) ∧ (i : Int) < l.length := by omega
   have e3 := wrap_next (n := l.length) (i := i) (by omega) (by omega)
   have hx := blkAt_mem e2
   obtain ⟨hb1,hb2⟩ := hb _ hx
   obtain ⟨h1,J1,L1⟩ := typed_l0 (vals := vals) (call := call) (n := n) (blocks l) (int l.length) (int i) m f (blkAt l i).ins hb2 I hp hg hg1 (hc _ hx) n hb1 _ (hp _ (.row 0 [inss (blkAt l i).ins]) hI)
   unfold badFB
   refine ⟨h1,J1,?_⟩
   cases c1 : (blkAt l i).ins.any (badFI m f) with
   | true =>
    rw [c1,if_pos rfl] at L1
    simp +decide -implicitDefEqProofs only [k93b1,go_sem,e1,e2,e3,set_new,L1]
   | false =>
    rw [c1,if_neg (by decide)] at L1
    simp +decide -implicitDefEqProofs only [k93b1,go_sem,e1,e2,e3,set_new,L1])
  (fun h hI => by
   exact ⟨h,hI,by simp +decide -implicitDefEqProofs only [k93b1,go_sem,Int.lt_irrefl,decide_false]⟩) l.length 0 mm h (by omega) hm hI
 simp only [show ((0 : Nat) : Int) = 0 from rfl] at L
 rw [any_blks] at L
 exact ⟨h1,J,L⟩
set_option maxHeartbeats 2000000 in
theorem wtyped_runs (m : Tm.Module) (f : Tm.Func) (F : Fine f) (hpar : f.params.length ≤ 20) (hsh : ∀ b ∈ f.blocks,∀ x ∈ b.ins,ShapeOk x) (hsy : ∀ b ∈ f.blocks,∀ x ∈ b.ins,SymOk m x) (hin : ∀ b ∈ f.blocks,∀ x ∈ b.ins,∀ v ∈ x.args,0 ≤ v ∧ v < ((typesOf f).length : Int)) : Runs Try.prog tab 400 93 [.agg (encModule m),.agg (encFunc f)] (bool (typedB m f)) := by
 refine Runs.by (rs := [.tmp 4]) (N := 34) rfl Try.func93 rfl rfl (by simp) fun k hk => ?_
 have b1 := F.blocks
 have hty : ∀ h,callAt Try.prog tab k 113 [.agg (encFunc f)] h = some (ints (typesOf f),h) := fun h => wtypes_runs f F hpar k (by omega) _ h (by simp only [mapC_cons,mapC_nil,depth,view_func,Option.bind_some])
 have hfit : ∀ b ∈ f.blocks,∀ x ∈ b.ins,∀ h,callAt Try.prog tab k 114 [.agg [externs m.externs,globals m.globals,tables m.tables,funcs m.funcs],.agg [str f.name,bool f.out,ints f.params,int f.result,blocks f.blocks],ints (typesOf f),.agg [int x.op,int x.type,int x.to,int x.sym,int x.num,ints x.args,ints x.into]] h = some (bool (fitB m f (typesOf f) x),h) := fun b hb x hx h => by
  have := (F.into b hb x hx).1
  exact wfit_runs m f (typesOf f) x (hsh b hb x hx) (hsy b hb x hx) (by omega) (hin b hb x hx) k (by omega) _ h (by simp +decide -implicitDefEqProofs only [depth,go_sem])
 generalize hc' : callAt Try.prog tab k = call at *
 generalize hv' : valsOf tab = vals at *
 rw [enc_func,enc_module] at *
 have hp : ∀ (h : Heap) (x : Tm.Node),(h[0]? = some (.row 0 [externs m.externs,globals m.globals,tables m.tables,funcs m.funcs]) ∧ h[1]? = some (.row 0 [str f.name,bool f.out,ints f.params,int f.result,blocks f.blocks])) → ((h ++ [x])[0]? = some (.row 0 [externs m.externs,globals m.globals,tables m.tables,funcs m.funcs]) ∧ (h ++ [x])[1]? = some (.row 0 [str f.name,bool f.out,ints f.params,int f.result,blocks f.blocks])) := fun h x H => ⟨by rw [List.getElem?_append_left (List.getElem?_eq_some_iff.1 H.1).1]; exact H.1,by rw [List.getElem?_append_left (List.getElem?_eq_some_iff.1 H.2).1]; exact H.2⟩
 obtain ⟨h1,I1,L1⟩ := typed_l1 (vals := vals) (call := call) (n := k) m f f.blocks (by omega) (fun b hb => by have := F.ins b hb; omega) (fun h => h[0]? = some (.row 0 [externs m.externs,globals m.globals,tables m.tables,funcs m.funcs]) ∧ h[1]? = some (.row 0 [str f.name,bool f.out,ints f.params,int f.result,blocks f.blocks])) hp (fun h H => H.1) (fun h H => H.2) hfit k (by omega) [.row 0 [externs m.externs,globals m.globals,tables m.tables,funcs m.funcs],.row 0 [str f.name,bool f.out,ints f.params,int f.result,blocks f.blocks]] ⟨rfl,rfl⟩
 unfold typedB
 cases x1 : f.blocks.any (badFB m f) with
 | true =>
  rw [x1,if_pos rfl] at L1
  simp +decide -implicitDefEqProofs only [k93,go_sem,hty,L1]; exact ⟨_,_,rfl,rfl⟩
 | false =>
  rw [x1,if_neg (by decide)] at L1
  simp +decide -implicitDefEqProofs only [k93,go_sem,hty,L1]; exact ⟨_,_,rfl,rfl⟩
end Go.Proofs.Ytkcimaibaicdcaa.Tk
namespace Go.Tm
theorem GrowG.viewI {h : Heap} {c : C} {out : List Int} (H : GrowG int h c out) {cl : Bool} {n : Nat} : view cl h (n + 2) c = some (ints out) := by
  rcases H with ⟨rfl,rfl⟩ | ⟨l,rfl,hl⟩
  · rfl
  · exact view_os_ints hl
end Go.Tm
namespace Go.Proofs.Ytkcimaibaicdcaa.Tk
open Go.Tm Go.Tm.Tab
set_option maxRecDepth 100000
theorem rgot_loop {vals : FuncId → Bool} {call : CallF} {n : Nat} (ty : List Int) (x : Ins) (hxa : x.args.length < 100) (hin : ∀ v ∈ x.args,0 ≤ v ∧ v < (ty.length : Int)) (x6 x7 : C) (p : Nat) (h0 : Heap) (hp : h0[p]? = some (.row 0 [int x.op,int x.type,int x.to,int x.sym,int x.num,ints x.args,ints x.into])) (m : Nat) (hm : x.args.length < m) :
    ∃ c h,Tm.Loop Try.prog vals call n [2,3,5,6,7,8,9,10] k85b0 m ⟨[(2,.op 0 0),(3,.op 1 0),(5,ints ty),(6,x6),(7,x7),(8,.op p 0),(9,.v (.slice none 0 0)),(10,int 0)],h0⟩ = some (.exit 4,⟨[(2,.op 0 0),(3,.op 1 0),(5,ints ty),(6,x6),(7,x7),(8,.op p 0),(9,c),(10,int x.args.length),(44,bool false)],h⟩) ∧ GrowG int h c (gotOf ty x.args) ∧ (∀ (l : Nat) (nd : Tm.Node),h0[l]? = some nd → h[l]? = some nd) ∧ ∀ l o k,c = .os l 0 o k → h0.length ≤ l := by
  have hmr : (2 : Nat) ^ 22 < maxRow := by decide
  obtain ⟨s,⟨c',h',rfl,g1,g2,g3⟩,L⟩ := Loop_run (P := Try.prog) (vals := vals) (call := call) (n := n) (ks := [2,3,5,6,7,8,9,10]) (K := k85b0) (id := 4) x.args.length
    (fun i s => ∃ c h,s = ⟨[(2,.op 0 0),(3,.op 1 0),(5,ints ty),(6,x6),(7,x7),(8,.op p 0),(9,c),(10,int i)],h⟩ ∧ GrowG int h c (gotOf ty (x.args.take i)) ∧ (∀ (l : Nat) (nd : Tm.Node),h0[l]? = some nd → h[l]? = some nd) ∧ ∀ l o k,c = .os l 0 o k → h0.length ≤ l)
    (fun s => ∃ c h,s = ⟨[(2,.op 0 0),(3,.op 1 0),(5,ints ty),(6,x6),(7,x7),(8,.op p 0),(9,c),(10,int x.args.length),(44,bool false)],h⟩ ∧ GrowG int h c (gotOf ty x.args) ∧ (∀ (l : Nat) (nd : Tm.Node),h0[l]? = some nd → h[l]? = some nd) ∧ ∀ l o k,c = .os l 0 o k → h0.length ≤ l)
    (fun i e h hi ⟨c,h2,hs,g1,g2,g3⟩ => by
      cases hs
      have e1 : decide ((i : Int) < x.args.length) = true := by simp; omega
      have e2 : 0 ≤ (i : Int) ∧ (i : Int) < x.args.length := by omega
      have e3 := wrap_next (n := x.args.length) (i := i) (by omega) (by omega)
      have hr := hin _ (mem_of_rd hi)
      have gp := g2 p _ hp
      obtain ⟨c',h',a1,a2,a3,a4⟩ := (g1.push (x := .row 1 [int (rd ty (rd x.args i))])).append (rd ty (rd x.args i)) (by simp [gotOf]; omega)
      refine ⟨_,⟨c',h',rfl,?_,fun l nd hl => ?_,fun l o k hk => ?_⟩,by simp +decide -implicitDefEqProofs only [k85b0,go_sem,e1,e2,e3,gp,hr,a1]⟩
      · unfold gotOf at a2 ⊢
        rw [List.take_add_one,List.getElem?_eq_getElem hi,List.map_append]
        simpa [rd,List.getD_eq_getElem?_getD,List.getElem?_eq_getElem hi] using a2
      · have hl0 := (List.getElem?_eq_some_iff.1 hl).1
        refine a4 l nd (by rw [List.getElem?_append_left (List.getElem?_eq_some_iff.1 (g2 l nd hl)).1]; exact g2 l nd hl) fun o k hk => ?_
        have := g3 _ _ _ hk
        omega
      · rw [a3] at hk
        injection hk with q1
        have hle : h0.length ≤ h.length := by
          refine Classical.byContradiction fun hn => ?_
          have hq : h.length < h0.length := by omega
          have := (List.getElem?_eq_some_iff.1 (g2 h.length _ (List.getElem?_eq_getElem hq))).1
          omega
        simp at q1
        omega)
    (fun e h ⟨c,h2,hs,g1,g2,g3⟩ => by
      cases hs
      have gp := g2 p _ hp
      refine ⟨_,⟨c,h,rfl,?_,g2,g3⟩,by simp +decide -implicitDefEqProofs only [k85b0,go_sem,gp,Int.lt_irrefl,decide_false]⟩
      rw [List.take_length] at g1; exact g1)
    x.args.length 0 m _ h0 (by omega) hm ⟨.v (.slice none 0 0),h0,rfl,.inl ⟨by simp [gotOf],rfl⟩,fun l nd h => h,fun l o k h => by simp at h⟩
  exact ⟨c',h',L,g1,g2,g3⟩
set_option maxHeartbeats 2000000 in
theorem rtyped_l1 {vals : FuncId → Bool} {call : CallF} {n : Nat} (m : Tm.Module) (f : Tm.Func) (q : Int) (hq : 0 ≤ q ∧ q < f.blocks.length) (hl : (blkAt f.blocks q).ins.length < 2 ^ 50) (hxs : ∀ x ∈ (blkAt f.blocks q).ins,x.args.length < 100 ∧ x.args.length < n) (hin : ∀ x ∈ (blkAt f.blocks q).ins,∀ v ∈ x.args,0 ≤ v ∧ v < ((typesOf f).length : Int)) (I : Heap → Prop) (hmo : ∀ h h2,I h → (∀ (l : Nat) (nd : Tm.Node),h[l]? = some nd → h2[l]? = some nd) → I h2) (hg : ∀ h,I h → h[0]? = some (.row 0 [externs m.externs,globals m.globals,tables m.tables,funcs m.funcs])) (hg1 : ∀ h,I h → h[1]? = some (.row 0 [str f.name,bool f.out,ints f.params,int f.result,blocks f.blocks])) (hc : ∀ x ∈ (blkAt f.blocks q).ins,∀ c h,GrowG int h c (gotOf (typesOf f) x.args) → call 106 [.agg [externs m.externs,globals m.globals,tables m.tables,funcs m.funcs],.agg [str f.name,bool f.out,ints f.params,int f.result,blocks f.blocks],.agg [int x.op,int x.type,int x.to,int x.sym,int x.num,ints x.args,ints x.into],c] h = some (bool (fitB m f (typesOf f) x),h)) (mm : Nat) (hm : (blkAt f.blocks q).ins.length < mm) (h : Heap) (hI : I h) : ∃ h1,I h1 ∧ Tm.Loop Try.prog vals call n [2,3,5,6,7] k85b1 mm ⟨[(2,.op 0 0),(3,.op 1 0),(5,ints (typesOf f)),(6,int q),(7,int 0)],h⟩ = some (if (blkAt f.blocks q).ins.any (badFI m f) = true then (.ret,⟨[(4,bool false)],h1⟩) else (.exit 2,⟨[(2,.op 0 0),(3,.op 1 0),(5,ints (typesOf f)),(6,int q),(7,int (blkAt f.blocks q).ins.length),(28,bool false)],h1⟩)) := by
 obtain ⟨h1,J,L⟩ := Loop_any (P := Try.prog) (vals := vals) (call := call) (n := n) (ks := [2,3,5,6,7]) (K := k85b1) (id := 2) (blkAt f.blocks q).ins.length (fun i => badFI m f (insAt (blkAt f.blocks q).ins i)) (fun i => [(2,.op 0 0),(3,.op 1 0),(5,ints (typesOf f)),(6,int q),(7,int i)]) [(4,bool false)] [(2,.op 0 0),(3,.op 1 0),(5,ints (typesOf f)),(6,int q),(7,int (blkAt f.blocks q).ins.length),(28,bool false)] I
  (fun i h hi hI => by
   have e1 : decide ((i : Int) < (blkAt f.blocks q).ins.length) = true := by simp; omega
   have e2 : 0 ≤ (i : Int) ∧ (i : Int) < (blkAt f.blocks q).ins.length := by omega
   have e3 := wrap_next (n := (blkAt f.blocks q).ins.length) (i := i) (by omega) (by omega)
   have hxm := insAt_mem e2
   obtain ⟨hx1,hx2⟩ := hxs _ hxm
   have I1 := hmo _ (h ++ [.row 0 (encIns (insAt (blkAt f.blocks q).ins i))]) hI fun l nd hl => by rw [List.getElem?_append_left (List.getElem?_eq_some_iff.1 hl).1]; exact hl
   have j0 := hg _ hI
   have j1 := hg1 _ hI
   obtain ⟨c,h2,L0,G,fr,_⟩ := rgot_loop (vals := vals) (call := call) (n := n) (typesOf f) (insAt (blkAt f.blocks q).ins i) hx1 (hin _ hxm) (int q) (int i) h.length (h ++ [.row 0 (encIns (insAt (blkAt f.blocks q).ins i))]) (by rw [get_new]; rfl) n hx2
   have I2 := hmo _ h2 I1 fr
   have hc1 := hc _ hxm c h2 G
   have g0 := hg _ I2
   have g1 := hg1 _ I2
   have g2 := fr h.length _ (get_new h (.row 0 (encIns (insAt (blkAt f.blocks q).ins i))))
   simp only [encIns] at L0 g2
   refine ⟨h2,I2,?_⟩
   unfold badFI
   cases c1 : fitB m f (typesOf f) (insAt (blkAt f.blocks q).ins i) <;> (rw [c1] at hc1; simp +decide -implicitDefEqProofs only [k85b1,go_sem,e1,e2,e3,set_new,encIns,hq,j0,j1,g0,g1,g2,L0,hc1]))
  (fun h hI => by
   have j1 := hg1 _ hI
   exact ⟨h,hI,by simp +decide -implicitDefEqProofs only [k85b1,go_sem,Int.lt_irrefl,decide_false,j1,hq]⟩) (blkAt f.blocks q).ins.length 0 mm h (by omega) hm hI
 simp only [show ((0 : Nat) : Int) = 0 from rfl] at L
 rw [any_inss] at L
 exact ⟨h1,J,L⟩
theorem rtyped_l2 {vals : FuncId → Bool} {call : CallF} {n : Nat} (m : Tm.Module) (f : Tm.Func) (hl2 : f.blocks.length < 2 ^ 50) (hb : ∀ b ∈ f.blocks,b.ins.length < n ∧ b.ins.length < 2 ^ 50) (hxs : ∀ b ∈ f.blocks,∀ x ∈ b.ins,x.args.length < 100 ∧ x.args.length < n) (hin : ∀ b ∈ f.blocks,∀ x ∈ b.ins,∀ v ∈ x.args,0 ≤ v ∧ v < ((typesOf f).length : Int)) (I : Heap → Prop) (hmo : ∀ h h2,I h → (∀ (l : Nat) (nd : Tm.Node),h[l]? = some nd → h2[l]? = some nd) → I h2) (hg : ∀ h,I h → h[0]? = some (.row 0 [externs m.externs,globals m.globals,tables m.tables,funcs m.funcs])) (hg1 : ∀ h,I h → h[1]? = some (.row 0 [str f.name,bool f.out,ints f.params,int f.result,blocks f.blocks])) (hc : ∀ b ∈ f.blocks,∀ x ∈ b.ins,∀ c h,GrowG int h c (gotOf (typesOf f) x.args) → call 106 [.agg [externs m.externs,globals m.globals,tables m.tables,funcs m.funcs],.agg [str f.name,bool f.out,ints f.params,int f.result,blocks f.blocks],.agg [int x.op,int x.type,int x.to,int x.sym,int x.num,ints x.args,ints x.into],c] h = some (bool (fitB m f (typesOf f) x),h)) (mm : Nat) (hm : f.blocks.length < mm) (h : Heap) (hI : I h) : ∃ h1,I h1 ∧ Tm.Loop Try.prog vals call n [2,3,5,6] k85b2 mm ⟨[(2,.op 0 0),(3,.op 1 0),(5,ints (typesOf f)),(6,int 0)],h⟩ = some (if f.blocks.any (badFB m f) = true then (.ret,⟨[(4,bool false)],h1⟩) else (.exit 0,⟨[(2,.op 0 0),(3,.op 1 0),(5,ints (typesOf f)),(6,int f.blocks.length),(17,bool false)],h1⟩)) := by
 obtain ⟨h1,J,L⟩ := Loop_any (P := Try.prog) (vals := vals) (call := call) (n := n) (ks := [2,3,5,6]) (K := k85b2) (id := 0) f.blocks.length (fun i => badFB m f (blkAt f.blocks i)) (fun i => [(2,.op 0 0),(3,.op 1 0),(5,ints (typesOf f)),(6,int i)]) [(4,bool false)] [(2,.op 0 0),(3,.op 1 0),(5,ints (typesOf f)),(6,int f.blocks.length),(17,bool false)] I
  (fun i h hi hI => by
   have e1 : decide ((i : Int) < f.blocks.length) = true := by simp; omega
   have e2 : 0 ≤ (i : Int) ∧ (i : Int) < f.blocks.length := by omega
   have e3 := wrap_next (n := f.blocks.length) (i := i) (by omega) (by omega)
   have hx := blkAt_mem e2
   obtain ⟨hb1,hb2⟩ := hb _ hx
   have j1 := hg1 _ hI
   obtain ⟨h1,J1,L1⟩ := rtyped_l1 (vals := vals) (call := call) (n := n) m f i e2 hb2 (hxs _ hx) (hin _ hx) I hmo hg hg1 (hc _ hx) n hb1 _ hI
   unfold badFB
   refine ⟨h1,J1,?_⟩
   cases c1 : (blkAt f.blocks i).ins.any (badFI m f) with
   | true =>
    rw [c1,if_pos rfl] at L1
    simp +decide -implicitDefEqProofs only [k85b2,go_sem,e1,e2,e3,set_new,j1,L1]
   | false =>
    rw [c1,if_neg (by decide)] at L1
    simp +decide -implicitDefEqProofs only [k85b2,go_sem,e1,e2,e3,set_new,j1,L1])
  (fun h hI => by
   have j1 := hg1 _ hI
   exact ⟨h,hI,by simp +decide -implicitDefEqProofs only [k85b2,go_sem,Int.lt_irrefl,decide_false,j1]⟩) f.blocks.length 0 mm h (by omega) hm hI
 simp only [show ((0 : Nat) : Int) = 0 from rfl] at L
 rw [any_blks] at L
 exact ⟨h1,J,L⟩
set_option maxHeartbeats 2000000 in
theorem rtyped_runs (m : Tm.Module) (f : Tm.Func) (F : Fine f) (hpar : f.params.length ≤ 20) (hsh : ∀ b ∈ f.blocks,∀ x ∈ b.ins,ShapeOk x) (hsy : ∀ b ∈ f.blocks,∀ x ∈ b.ins,SymOk m x) (hin : ∀ b ∈ f.blocks,∀ x ∈ b.ins,∀ v ∈ x.args,0 ≤ v ∧ v < ((typesOf f).length : Int)) : Runs Try.prog tab 400 85 [.agg (encModule m),.agg (encFunc f)] (bool (typedB m f)) := by
 refine Runs.by (rs := [.tmp 4]) (N := 64) rfl Try.func85 rfl rfl (by simp) fun k hk => ?_
 have b1 := F.blocks
 have hty : ∀ h,callAt Try.prog tab k 94 [.agg (encFunc f)] h = some (ints (typesOf f),h) := fun h => rtypes_runs f F hpar k (by omega) _ h (by simp only [mapC_cons,mapC_nil,depth,view_func,Option.bind_some])
 have hfit : ∀ b ∈ f.blocks,∀ x ∈ b.ins,∀ c h,GrowG int h c (gotOf (typesOf f) x.args) → callAt Try.prog tab k 106 [.agg [externs m.externs,globals m.globals,tables m.tables,funcs m.funcs],.agg [str f.name,bool f.out,ints f.params,int f.result,blocks f.blocks],.agg [int x.op,int x.type,int x.to,int x.sym,int x.num,ints x.args,ints x.into],c] h = some (bool (fitB m f (typesOf f) x),h) := fun b hb x hx c h G => by
  have := (F.into b hb x hx).1
  rw [fitB_is]
  have v1 : view false h depth (.agg [externs m.externs,globals m.globals,tables m.tables,funcs m.funcs]) = some (.agg [externs m.externs,globals m.globals,tables m.tables,funcs m.funcs]) := by simp +decide -implicitDefEqProofs only [depth,go_sem]
  have v2 : view false h depth (.agg [str f.name,bool f.out,ints f.params,int f.result,blocks f.blocks]) = some (.agg [str f.name,bool f.out,ints f.params,int f.result,blocks f.blocks]) := by simp +decide -implicitDefEqProofs only [depth,go_sem]
  have v3 : view false h depth (.agg [int x.op,int x.type,int x.to,int x.sym,int x.num,ints x.args,ints x.into]) = some (.agg [int x.op,int x.type,int x.to,int x.sym,int x.num,ints x.args,ints x.into]) := by simp +decide -implicitDefEqProofs only [depth,go_sem]
  have v4 : view false h depth c = some (ints (gotOf (typesOf f) x.args)) := G.viewI
  exact rfit_runs m f (gotOf (typesOf f) x.args) x (hsh b hb x hx) (hsy b hb x hx) (by omega) (by simp [gotOf]) k (by omega) _ h (by simp only [mapC_cons,mapC_nil,v1,v2,v3,v4,Option.bind_some])
 generalize hc' : callAt Try.prog tab k = call at *
 generalize hv' : valsOf tab = vals at *
 rw [enc_func,enc_module] at *
 obtain ⟨h1,I1,L1⟩ := rtyped_l2 (vals := vals) (call := call) (n := k) m f (by omega) (fun b hb => by have := F.ins b hb; omega) (fun b hb x hx => by have := (F.into b hb x hx).1; omega) hin (fun (h : Heap) => h[0]? = some (.row 0 [externs m.externs,globals m.globals,tables m.tables,funcs m.funcs]) ∧ h[1]? = some (.row 0 [str f.name,bool f.out,ints f.params,int f.result,blocks f.blocks])) (fun h h2 H e => ⟨e 0 (.row 0 [externs m.externs,globals m.globals,tables m.tables,funcs m.funcs]) H.1,e 1 (.row 0 [str f.name,bool f.out,ints f.params,int f.result,blocks f.blocks]) H.2⟩) (fun h H => H.1) (fun h H => H.2) hfit k (by omega) [.row 0 [externs m.externs,globals m.globals,tables m.tables,funcs m.funcs],.row 0 [str f.name,bool f.out,ints f.params,int f.result,blocks f.blocks]] ⟨rfl,rfl⟩
 unfold typedB
 cases x1 : f.blocks.any (badFB m f) with
 | true =>
  rw [x1,if_pos rfl] at L1
  simp +decide -implicitDefEqProofs only [k85,go_sem,hty,L1]; exact ⟨_,_,rfl,rfl⟩
 | false =>
  rw [x1,if_neg (by decide)] at L1
  simp +decide -implicitDefEqProofs only [k85,go_sem,hty,L1]; exact ⟨_,_,rfl,rfl⟩
end Go.Proofs.Ytkcimaibaicdcaa.Tk
namespace Go.Proofs.Ytkcimaibaicdcaa.Tk
open Go.Tm Go.Tm.Tab
set_option maxRecDepth 100000
noncomputable def checkN (m : Tm.Module) : Int :=
 if limitsB m = false then 2 else if formedB m = false then 1 else if namedB m = false then 3 else if knownB m = false then 4
 else if (m.funcs.any fun f => !flowsB f.blocks) = true then 5 else if (m.funcs.any fun f => !usedB f) = true then 6 else if (m.funcs.any fun f => !typedB m f) = true then 7 else 0
theorem limits_blocks {m : Tm.Module} (h : limitsB m = true) : ∀ f ∈ m.funcs,0 < f.blocks.length := by
 intro f hf
 unfold limitsB at h
 rw [Bool.and_eq_true,Bool.and_eq_true,Bool.and_eq_true,Bool.and_eq_true] at h
 have h1 := h.2.2.2.2
 rw [Bool.not_eq_true',List.any_eq_false] at h1
 have h2 := h1 f hf
 unfold moreF at h2
 rw [Bool.not_eq_true,Bool.or_eq_false_iff,Bool.or_eq_false_iff,Bool.or_eq_false_iff] at h2
 have := of_decide_eq_false h2.1.1.2
 omega
theorem formed_shape {m : Tm.Module} (h : formedB m = true) : ∀ f ∈ m.funcs,∀ b ∈ f.blocks,∀ x ∈ b.ins,ShapeOk x := by
 intro f hf b hb x hx
 unfold formedB at h
 rw [Bool.and_eq_true] at h
 have h1 := h.2
 rw [Bool.not_eq_true',List.any_eq_false] at h1
 have h2 := h1 f hf
 unfold badF at h2
 rw [Bool.not_eq_true,Bool.or_eq_false_iff,Bool.or_eq_false_iff,List.any_eq_false,List.any_eq_false] at h2
 have h3 := h2.2.2 b hb
 unfold badB2 at h3
 rw [Bool.not_eq_true,List.any_eq_false] at h3
 have h4 := h3 x hx
 unfold badI at h4
 exact shape_ok (by simpa using h4)
theorem known_sym {m : Tm.Module} (h : knownB m = true) : ∀ f ∈ m.funcs,∀ b ∈ f.blocks,∀ x ∈ b.ins,SymOk m x := by
  intro f hf b hb x hx
  unfold knownB at h
  rw [Bool.and_eq_true] at h
  have h1 := h.2
  rw [Bool.not_eq_true',List.any_eq_false] at h1
  have h2 := h1 f hf
  unfold badSF at h2
  rw [Bool.not_eq_true,List.any_eq_false] at h2
  have h3 := h2 b hb
  unfold badSB at h3
  rw [Bool.not_eq_true,List.any_eq_false] at h3
  have h4 := h3 x hx
  unfold badSI at h4
  rw [Bool.not_eq_true,Bool.or_eq_false_iff] at h4
  have a1 := of_decide_eq_false h4.1
  have a2 := of_decide_eq_false h4.2
  constructor
  · intro e
    have : boundI m.externs.length m.globals.length m.tables.length m.funcs.length x = (m.funcs.length : Int) := by unfold boundI; rw [e]; rfl
    rw [this] at a2
    omega
  · intro e
    have : boundI m.externs.length m.globals.length m.tables.length m.funcs.length x = (m.externs.length : Int) := by unfold boundI; rw [e]; rfl
    rw [this] at a2
    omega
theorem blk_of_mem {l : List Block} {b : Block} (h : b ∈ l) : ∃ i : Nat,i < l.length ∧ blkAt l i = b := by
 obtain ⟨i,hi,e⟩ := List.getElem_of_mem h
 exact ⟨i,hi,by simp [blkAt,List.getD_eq_getElem?_getD,List.getElem?_eq_getElem hi,e]⟩
theorem ins_of_mem {l : List Ins} {b : Ins} (h : b ∈ l) : ∃ i : Nat,i < l.length ∧ insAt l i = b := by
 obtain ⟨i,hi,e⟩ := List.getElem_of_mem h
 exact ⟨i,hi,by rw [insAt_get hi]; exact e⟩
structure FlowOk (l : List Block) : Prop where
 ins : ∀ b ∈ l,0 < b.ins.length
 met : ∀ b : Nat,b < l.length → Rc (nextOf l) (fun _ => True) 0 b
 phi : ∀ b ∈ l,∀ x ∈ b.ins,phiB x = true → ∀ t ∈ x.into,0 ≤ t ∧ t < (l.length : Int)
theorem flow_ok {l : List Block} (h : flowsB l = true) : FlowOk l := by
  unfold flowsB at h
  rw [Bool.and_eq_true,Bool.and_eq_true,Bool.not_eq_true',Bool.not_eq_true',Bool.not_eq_true',any_no,any_no,reach_all] at h
  obtain ⟨h1,h2,h3⟩ := h
  refine ⟨fun b hb => ?_,fun b hb => (reach_at (by omega) (by omega)).1 (h2 b hb),fun b hb x hx hp t ht => ?_⟩
  · obtain ⟨i,hi,rfl⟩ := blk_of_mem hb
    have := h1 i hi
    unfold badBW badW at this
    rw [Bool.or_eq_false_iff] at this
    have := of_decide_eq_false this.1
    omega
  · obtain ⟨i,hi,rfl⟩ := blk_of_mem hb
    have := h3 i hi
    unfold badBP at this
    rw [List.any_eq_false] at this
    have := this x hx
    unfold badPhi at this
    rw [hp,Bool.true_and] at this
    have e : x.into = rowOfL (prevOf l) i := by simpa using this
    rw [e] at ht
    have := (prev_mem (l := l) (b := (i : Int)) (by omega)).1 ht
    exact ⟨this.1,this.2.1⟩
theorem used_args {f : Tm.Func} (h : usedB f = true) : ∀ b ∈ f.blocks,∀ x ∈ b.ins,∀ v ∈ x.args,1 ≤ v ∧ v ≤ ((f.params.length + (posOf f.blocks).length : Nat) : Int) := by
 intro b hb x hx v hv
 unfold usedB at h
 rw [Bool.and_eq_true,Bool.not_eq_true',Bool.not_eq_true',any_no,any_no] at h
 obtain ⟨i,hi,rfl⟩ := blk_of_mem hb
 have h1 := h.2 i hi
 unfold badUB at h1
 rw [any_no] at h1
 obtain ⟨k,hk,rfl⟩ := ins_of_mem hx
 have h2 := h1 k hk
 unfold badUX at h2
 rw [any_no] at h2
 obtain ⟨j,hj,e⟩ := List.getElem_of_mem hv
 have h3 := h2 j hj
 unfold badA at h3
 rw [Bool.or_eq_false_iff,Bool.or_eq_false_iff] at h3
 have e2 : rd (insAt (blkAt f.blocks i).ins k).args j = v := by rw [rd,Int.toNat_natCast,List.getD_eq_getElem?_getD,List.getElem?_eq_getElem hj,Option.getD_some,e]
 rw [e2] at h3
 have a1 := of_decide_eq_false h3.1.1
 have a2 := of_decide_eq_false h3.1.2
 omega
theorem types_len (f : Tm.Func) : (typesOf f).length = f.params.length + 1 + (posOf f.blocks).length := by rw [posOf_len]; simp [typesOf]; omega
set_option maxHeartbeats 2000000 in
theorem wcheck_l0 {vals : FuncId → Bool} {call : CallF} {n : Nat} (m : Tm.Module) (hl : m.funcs.length < 2 ^ 50) (I : Heap → Prop) (hp : ∀ h x,I h → I (h ++ [x])) (hg : ∀ h,I h → h[0]? = some (.row 0 [externs m.externs,globals m.globals,tables m.tables,funcs m.funcs])) (hc : ∀ f ∈ m.funcs,∀ h,call 91 [.agg [str f.name,bool f.out,ints f.params,int f.result,blocks f.blocks]] h = some (bool (flowsB f.blocks),h)) (mm : Nat) (hm : m.funcs.length < mm) (h : Heap) (hI : I h) : ∃ h1,I h1 ∧ Tm.Loop Try.prog vals call n [1,26,27,28] k53b0 mm ⟨[(1,.op 0 0),(26,funcs m.funcs),(27,int m.funcs.length),(28,int 0)],h⟩ = some (if (m.funcs.any fun f => !flowsB f.blocks) = true then (.ret,⟨[(2,int 5)],h1⟩) else (.exit 1,⟨[(1,.op 0 0),(26,funcs m.funcs),(27,int m.funcs.length),(28,int m.funcs.length),(29,bool false)],h1⟩)) := by
 obtain ⟨h1,J,L⟩ := Loop_any (P := Try.prog) (vals := vals) (call := call) (n := n) (ks := [1,26,27,28]) (K := k53b0) (id := 1) m.funcs.length (fun i => !flowsB (fnAt m.funcs i).blocks) (fun i => [(1,.op 0 0),(26,funcs m.funcs),(27,int m.funcs.length),(28,int i)]) [(2,int 5)] [(1,.op 0 0),(26,funcs m.funcs),(27,int m.funcs.length),(28,int m.funcs.length),(29,bool false)] I
  (fun i h hi hI => by
   have e1 : decide ((i : Int) < m.funcs.length) = true := by simp; omega
   have e2 : 0 ≤ (i : Int) ∧ (i : Int) < m.funcs.length := by omega
   have e3 := wrap_next (n := m.funcs.length) (i := i) (by omega) (by omega)
   have hx : fnAt m.funcs i ∈ m.funcs := getD_mem hi
   have hc1 := hc _ hx
   have g0 := hg _ hI
   have I1 := hp _ (.row 0 (encFunc (fnAt m.funcs i))) hI
   have g1 := hg _ I1
   simp only [enc_func] at I1 g1
   refine ⟨_,I1,?_⟩
   cases c1 : flowsB (fnAt m.funcs i).blocks <;> simp +decide -implicitDefEqProofs only [k53b0,go_sem,e1,e2,e3,set_new,enc_func,g0,g1,hc1,c1])
  (fun h hI => by
   exact ⟨h,hI,by simp +decide -implicitDefEqProofs only [k53b0,go_sem,Int.lt_irrefl,decide_false]⟩) m.funcs.length 0 mm h (by omega) hm hI
 simp only [show ((0 : Nat) : Int) = 0 from rfl] at L
 rw [any_fns (fun f => !flowsB f.blocks)] at L
 exact ⟨h1,J,L⟩
set_option maxHeartbeats 2000000 in
theorem wcheck_l1 {vals : FuncId → Bool} {call : CallF} {n : Nat} (m : Tm.Module) (hl : m.funcs.length < 2 ^ 50) (I : Heap → Prop) (hp : ∀ h x,I h → I (h ++ [x])) (hg : ∀ h,I h → h[0]? = some (.row 0 [externs m.externs,globals m.globals,tables m.tables,funcs m.funcs])) (hc : ∀ f ∈ m.funcs,∀ h,call 92 [.agg [str f.name,bool f.out,ints f.params,int f.result,blocks f.blocks]] h = some (bool (usedB f),h)) (mm : Nat) (hm : m.funcs.length < mm) (h : Heap) (hI : I h) : ∃ h1,I h1 ∧ Tm.Loop Try.prog vals call n [1,37,38,39] k53b1 mm ⟨[(1,.op 0 0),(37,funcs m.funcs),(38,int m.funcs.length),(39,int 0)],h⟩ = some (if (m.funcs.any fun f => !usedB f) = true then (.ret,⟨[(2,int 6)],h1⟩) else (.exit 3,⟨[(1,.op 0 0),(37,funcs m.funcs),(38,int m.funcs.length),(39,int m.funcs.length),(40,bool false)],h1⟩)) := by
 obtain ⟨h1,J,L⟩ := Loop_any (P := Try.prog) (vals := vals) (call := call) (n := n) (ks := [1,37,38,39]) (K := k53b1) (id := 3) m.funcs.length (fun i => !usedB (fnAt m.funcs i)) (fun i => [(1,.op 0 0),(37,funcs m.funcs),(38,int m.funcs.length),(39,int i)]) [(2,int 6)] [(1,.op 0 0),(37,funcs m.funcs),(38,int m.funcs.length),(39,int m.funcs.length),(40,bool false)] I
  (fun i h hi hI => by
   have e1 : decide ((i : Int) < m.funcs.length) = true := by simp; omega
   have e2 : 0 ≤ (i : Int) ∧ (i : Int) < m.funcs.length := by omega
   have e3 := wrap_next (n := m.funcs.length) (i := i) (by omega) (by omega)
   have hx : fnAt m.funcs i ∈ m.funcs := getD_mem hi
   have hc1 := hc _ hx
   have g0 := hg _ hI
   have I1 := hp _ (.row 0 (encFunc (fnAt m.funcs i))) hI
   have g1 := hg _ I1
   simp only [enc_func] at I1 g1
   refine ⟨_,I1,?_⟩
   cases c1 : usedB (fnAt m.funcs i) <;> simp +decide -implicitDefEqProofs only [k53b1,go_sem,e1,e2,e3,set_new,enc_func,g0,g1,hc1,c1])
  (fun h hI => by
   exact ⟨h,hI,by simp +decide -implicitDefEqProofs only [k53b1,go_sem,Int.lt_irrefl,decide_false]⟩) m.funcs.length 0 mm h (by omega) hm hI
 simp only [show ((0 : Nat) : Int) = 0 from rfl] at L
 rw [any_fns (fun f => !usedB f)] at L
 exact ⟨h1,J,L⟩
set_option maxHeartbeats 2000000 in
theorem wcheck_l2 {vals : FuncId → Bool} {call : CallF} {n : Nat} (m : Tm.Module) (hl : m.funcs.length < 2 ^ 50) (I : Heap → Prop) (hp : ∀ h x,I h → I (h ++ [x])) (hg : ∀ h,I h → h[0]? = some (.row 0 [externs m.externs,globals m.globals,tables m.tables,funcs m.funcs])) (hc : ∀ f ∈ m.funcs,∀ h,call 93 [.agg [externs m.externs,globals m.globals,tables m.tables,funcs m.funcs],.agg [str f.name,bool f.out,ints f.params,int f.result,blocks f.blocks]] h = some (bool (typedB m f),h)) (mm : Nat) (hm : m.funcs.length < mm) (h : Heap) (hI : I h) : ∃ h1,I h1 ∧ Tm.Loop Try.prog vals call n [1,48,49,50] k53b2 mm ⟨[(1,.op 0 0),(48,funcs m.funcs),(49,int m.funcs.length),(50,int 0)],h⟩ = some (if (m.funcs.any fun f => !typedB m f) = true then (.ret,⟨[(2,int 7)],h1⟩) else (.exit 5,⟨[(1,.op 0 0),(48,funcs m.funcs),(49,int m.funcs.length),(50,int m.funcs.length),(51,bool false)],h1⟩)) := by
 obtain ⟨h1,J,L⟩ := Loop_any (P := Try.prog) (vals := vals) (call := call) (n := n) (ks := [1,48,49,50]) (K := k53b2) (id := 5) m.funcs.length (fun i => !typedB m (fnAt m.funcs i)) (fun i => [(1,.op 0 0),(48,funcs m.funcs),(49,int m.funcs.length),(50,int i)]) [(2,int 7)] [(1,.op 0 0),(48,funcs m.funcs),(49,int m.funcs.length),(50,int m.funcs.length),(51,bool false)] I
  (fun i h hi hI => by
   have e1 : decide ((i : Int) < m.funcs.length) = true := by simp; omega
   have e2 : 0 ≤ (i : Int) ∧ (i : Int) < m.funcs.length := by omega
   have e3 := wrap_next (n := m.funcs.length) (i := i) (by omega) (by omega)
   have hx : fnAt m.funcs i ∈ m.funcs := getD_mem hi
   have hc1 := hc _ hx
   have g0 := hg _ hI
   have I1 := hp _ (.row 0 (encFunc (fnAt m.funcs i))) hI
   have g1 := hg _ I1
   simp only [enc_func] at I1 g1
   refine ⟨_,I1,?_⟩
   cases c1 : typedB m (fnAt m.funcs i) <;> simp +decide -implicitDefEqProofs only [k53b2,go_sem,e1,e2,e3,set_new,enc_func,g0,g1,hc1,c1])
  (fun h hI => by
   exact ⟨h,hI,by simp +decide -implicitDefEqProofs only [k53b2,go_sem,Int.lt_irrefl,decide_false]⟩) m.funcs.length 0 mm h (by omega) hm hI
 simp only [show ((0 : Nat) : Int) = 0 from rfl] at L
 rw [any_fns (fun f => !typedB m f)] at L
 exact ⟨h1,J,L⟩
set_option maxHeartbeats 2000000 in
theorem rcheck_l0 {vals : FuncId → Bool} {call : CallF} {n : Nat} (m : Tm.Module) (hl : m.funcs.length < 2 ^ 50) (I : Heap → Prop) (hp : ∀ h x,I h → I (h ++ [x])) (hg : ∀ h,I h → h[0]? = some (.row 0 [externs m.externs,globals m.globals,tables m.tables,funcs m.funcs])) (hc : ∀ f ∈ m.funcs,∀ h,call 83 [.agg [str f.name,bool f.out,ints f.params,int f.result,blocks f.blocks]] h = some (bool (flowsB f.blocks),h)) (mm : Nat) (hm : m.funcs.length < mm) (h : Heap) (hI : I h) : ∃ h1,I h1 ∧ Tm.Loop Try.prog vals call n [1,3] k48b0 mm ⟨[(1,.op 0 0),(3,int 0)],h⟩ = some (if (m.funcs.any fun f => !flowsB f.blocks) = true then (.ret,⟨[(2,int 5)],h1⟩) else (.exit 0,⟨[(1,.op 0 0),(3,int m.funcs.length),(22,bool false)],h1⟩)) := by
 obtain ⟨h1,J,L⟩ := Loop_any (P := Try.prog) (vals := vals) (call := call) (n := n) (ks := [1,3]) (K := k48b0) (id := 0) m.funcs.length (fun i => !flowsB (fnAt m.funcs i).blocks) (fun i => [(1,.op 0 0),(3,int i)]) [(2,int 5)] [(1,.op 0 0),(3,int m.funcs.length),(22,bool false)] I
  (fun i h hi hI => by
   have e1 : decide ((i : Int) < m.funcs.length) = true := by simp; omega
   have e2 : 0 ≤ (i : Int) ∧ (i : Int) < m.funcs.length := by omega
   have e3 := wrap_next (n := m.funcs.length) (i := i) (by omega) (by omega)
   have hx : fnAt m.funcs i ∈ m.funcs := getD_mem hi
   have hc1 := hc _ hx
   have g0 := hg _ hI
   refine ⟨_,hI,?_⟩
   cases c1 : flowsB (fnAt m.funcs i).blocks <;> simp +decide -implicitDefEqProofs only [k48b0,go_sem,e1,e2,e3,set_new,g0,hc1,c1])
  (fun h hI => by
   have g0 := hg h hI
   exact ⟨h,hI,by simp +decide -implicitDefEqProofs only [k48b0,go_sem,Int.lt_irrefl,decide_false,g0]⟩) m.funcs.length 0 mm h (by omega) hm hI
 simp only [show ((0 : Nat) : Int) = 0 from rfl] at L
 rw [any_fns (fun f => !flowsB f.blocks)] at L
 exact ⟨h1,J,L⟩
set_option maxHeartbeats 2000000 in
theorem rcheck_l1 {vals : FuncId → Bool} {call : CallF} {n : Nat} (m : Tm.Module) (hl : m.funcs.length < 2 ^ 50) (I : Heap → Prop) (hp : ∀ h x,I h → I (h ++ [x])) (hg : ∀ h,I h → h[0]? = some (.row 0 [externs m.externs,globals m.globals,tables m.tables,funcs m.funcs])) (hc : ∀ f ∈ m.funcs,∀ h,call 84 [.agg [str f.name,bool f.out,ints f.params,int f.result,blocks f.blocks]] h = some (bool (usedB f),h)) (mm : Nat) (hm : m.funcs.length < mm) (h : Heap) (hI : I h) : ∃ h1,I h1 ∧ Tm.Loop Try.prog vals call n [1,4] k48b1 mm ⟨[(1,.op 0 0),(4,int 0)],h⟩ = some (if (m.funcs.any fun f => !usedB f) = true then (.ret,⟨[(2,int 6)],h1⟩) else (.exit 2,⟨[(1,.op 0 0),(4,int m.funcs.length),(36,bool false)],h1⟩)) := by
 obtain ⟨h1,J,L⟩ := Loop_any (P := Try.prog) (vals := vals) (call := call) (n := n) (ks := [1,4]) (K := k48b1) (id := 2) m.funcs.length (fun i => !usedB (fnAt m.funcs i)) (fun i => [(1,.op 0 0),(4,int i)]) [(2,int 6)] [(1,.op 0 0),(4,int m.funcs.length),(36,bool false)] I
  (fun i h hi hI => by
   have e1 : decide ((i : Int) < m.funcs.length) = true := by simp; omega
   have e2 : 0 ≤ (i : Int) ∧ (i : Int) < m.funcs.length := by omega
   have e3 := wrap_next (n := m.funcs.length) (i := i) (by omega) (by omega)
   have hx : fnAt m.funcs i ∈ m.funcs := getD_mem hi
   have hc1 := hc _ hx
   have g0 := hg _ hI
   refine ⟨_,hI,?_⟩
   cases c1 : usedB (fnAt m.funcs i) <;> simp +decide -implicitDefEqProofs only [k48b1,go_sem,e1,e2,e3,set_new,g0,hc1,c1])
  (fun h hI => by
   have g0 := hg h hI
   exact ⟨h,hI,by simp +decide -implicitDefEqProofs only [k48b1,go_sem,Int.lt_irrefl,decide_false,g0]⟩) m.funcs.length 0 mm h (by omega) hm hI
 simp only [show ((0 : Nat) : Int) = 0 from rfl] at L
 rw [any_fns (fun f => !usedB f)] at L
 exact ⟨h1,J,L⟩
set_option maxHeartbeats 2000000 in
theorem rcheck_l2 {vals : FuncId → Bool} {call : CallF} {n : Nat} (m : Tm.Module) (hl : m.funcs.length < 2 ^ 50) (I : Heap → Prop) (hp : ∀ h x,I h → I (h ++ [x])) (hg : ∀ h,I h → h[0]? = some (.row 0 [externs m.externs,globals m.globals,tables m.tables,funcs m.funcs])) (hc : ∀ f ∈ m.funcs,∀ h,call 85 [.agg [externs m.externs,globals m.globals,tables m.tables,funcs m.funcs],.agg [str f.name,bool f.out,ints f.params,int f.result,blocks f.blocks]] h = some (bool (typedB m f),h)) (hv : vals 85 = true) (mm : Nat) (hm : m.funcs.length < mm) (h : Heap) (hI : I h) : ∃ h1,I h1 ∧ Tm.Loop Try.prog vals call n [1,5] k48b2 mm ⟨[(1,.op 0 0),(5,int 0)],h⟩ = some (if (m.funcs.any fun f => !typedB m f) = true then (.ret,⟨[(2,int 7)],h1⟩) else (.exit 4,⟨[(1,.op 0 0),(5,int m.funcs.length),(50,bool false)],h1⟩)) := by
 obtain ⟨h1,J,L⟩ := Loop_any (P := Try.prog) (vals := vals) (call := call) (n := n) (ks := [1,5]) (K := k48b2) (id := 4) m.funcs.length (fun i => !typedB m (fnAt m.funcs i)) (fun i => [(1,.op 0 0),(5,int i)]) [(2,int 7)] [(1,.op 0 0),(5,int m.funcs.length),(50,bool false)] I
  (fun i h hi hI => by
   have e1 : decide ((i : Int) < m.funcs.length) = true := by simp; omega
   have e2 : 0 ≤ (i : Int) ∧ (i : Int) < m.funcs.length := by omega
   have e3 := wrap_next (n := m.funcs.length) (i := i) (by omega) (by omega)
   have hx : fnAt m.funcs i ∈ m.funcs := getD_mem hi
   have hc1 := hc _ hx
   have g0 := hg _ hI
   refine ⟨_,hI,?_⟩
   cases c1 : typedB m (fnAt m.funcs i) <;> simp +decide -implicitDefEqProofs only [k48b2,go_sem,e1,e2,e3,set_new,g0,hc1,c1,hv])
  (fun h hI => by
   have g0 := hg h hI
   exact ⟨h,hI,by simp +decide -implicitDefEqProofs only [k48b2,go_sem,Int.lt_irrefl,decide_false,g0]⟩) m.funcs.length 0 mm h (by omega) hm hI
 simp only [show ((0 : Nat) : Int) = 0 from rfl] at L
 rw [any_fns (fun f => !typedB m f)] at L
 exact ⟨h1,J,L⟩
end Go.Proofs.Ytkcimaibaicdcaa.Tk
namespace Go.Proofs.Ytkcimaibaicdcaa.Tk
open Go.Tm Go.Tm.Tab
set_option maxRecDepth 100000
theorem any_not {α : Type} {p : α → Bool} {l : List α} (h : (l.any fun x => !p x) = false) : ∀ x ∈ l,p x = true := by
 intro x hx
 rw [List.any_eq_false] at h
 have := h x hx
 simpa using this
set_option maxHeartbeats 4000000 in
theorem wcheck_runs (m : Tm.Module) (F : FineM m) : Runs Try.prog tab (2 ^ 36 + 200) 53 [.agg (encModule m)] (int (checkN m)) := by
 refine Runs.by (rs := [.tmp 2]) (N := 59) rfl Try.func53 rfl rfl (by simp) fun k hk => ?_
 have b4 := F.funcs
 rw [enc_module]
 have h87 : ∀ h,callAt Try.prog tab k 87 [.agg [externs m.externs,globals m.globals,tables m.tables,funcs m.funcs]] h = some (bool (limitsB m),h) := fun h => wsmall_runs m F k (by omega) _ h (by rw [enc_module]; simp +decide -implicitDefEqProofs only [depth,go_sem])
 have h88 : ∀ h,callAt Try.prog tab k 88 [.agg [externs m.externs,globals m.globals,tables m.tables,funcs m.funcs]] h = some (bool (formedB m),h) := fun h => wformed_runs m F k (by omega) _ h (by rw [enc_module]; simp +decide -implicitDefEqProofs only [depth,go_sem])
 have h89 : ∀ h,callAt Try.prog tab k 89 [.agg [externs m.externs,globals m.globals,tables m.tables,funcs m.funcs]] h = some (bool (namedB m),h) := fun h => wnamed_runs m F k (by omega) _ h (by rw [enc_module]; simp +decide -implicitDefEqProofs only [depth,go_sem])
 have hp : ∀ (h : Heap) (x : Tm.Node),h[0]? = some (.row 0 [externs m.externs,globals m.globals,tables m.tables,funcs m.funcs]) → (h ++ [x])[0]? = some (.row 0 [externs m.externs,globals m.globals,tables m.tables,funcs m.funcs]) := fun h x H => by rw [List.getElem?_append_left (List.getElem?_eq_some_iff.1 H).1]; exact H
 unfold checkN
 cases c1 : limitsB m with
 | false => rw [if_pos rfl]; rw [c1] at h87; (simp +decide -implicitDefEqProofs only [k53,go_sem,h87]; exact ⟨_,_,rfl,rfl⟩)
 | true =>
 rw [if_neg (by decide)]
 rw [c1] at h87
 cases c2 : formedB m with
 | false => rw [if_pos rfl]; rw [c2] at h88; (simp +decide -implicitDefEqProofs only [k53,go_sem,h87,h88]; exact ⟨_,_,rfl,rfl⟩)
 | true =>
 rw [if_neg (by decide)]
 rw [c2] at h88
 cases c3 : namedB m with
 | false => rw [if_pos rfl]; rw [c3] at h89; (simp +decide -implicitDefEqProofs only [k53,go_sem,h87,h88,h89]; exact ⟨_,_,rfl,rfl⟩)
 | true =>
 rw [if_neg (by decide)]
 rw [c3] at h89
 have hpos := limits_blocks c1
 have hsh := formed_shape c2
 have h90 : ∀ h,callAt Try.prog tab k 90 [.agg [externs m.externs,globals m.globals,tables m.tables,funcs m.funcs]] h = some (bool (knownB m),h) := fun h => wknown_runs m F (fun f hf b hb x hx => (hsh f hf b hb x hx).noSym) k (by omega) _ h (by rw [enc_module]; simp +decide -implicitDefEqProofs only [depth,go_sem])
 cases c4 : knownB m with
 | false => rw [if_pos rfl]; rw [c4] at h90; (simp +decide -implicitDefEqProofs only [k53,go_sem,h87,h88,h89,h90]; exact ⟨_,_,rfl,rfl⟩)
 | true =>
 rw [if_neg (by decide)]
 rw [c4] at h90
 have hsy := known_sym c4
 have q5 : ∀ f ∈ m.funcs,∀ h,callAt Try.prog tab k 91 [.agg [str f.name,bool f.out,ints f.params,int f.result,blocks f.blocks]] h = some (bool (flowsB f.blocks),h) := fun f hf h => wflows_runs f (F.fn f hf).1 k (by omega) _ h (by rw [enc_func]; simp +decide -implicitDefEqProofs only [depth,go_sem])
 obtain ⟨g1,I1,L1⟩ := wcheck_l0 (vals := valsOf tab) (call := callAt Try.prog tab k) (n := k) m (by omega) (fun (h : Heap) => h[0]? = some (.row 0 [externs m.externs,globals m.globals,tables m.tables,funcs m.funcs])) hp (fun h H => H) q5 k (by omega) [.row 0 [externs m.externs,globals m.globals,tables m.tables,funcs m.funcs]] rfl
 cases c5 : (m.funcs.any fun f => !flowsB f.blocks) with
 | true => rw [if_pos rfl]; rw [c5,if_pos rfl] at L1; (simp +decide -implicitDefEqProofs only [k53,go_sem,h87,h88,h89,h90,L1]; exact ⟨_,_,rfl,rfl⟩)
 | false =>
 rw [if_neg (by decide)]
 rw [c5,if_neg (by decide)] at L1
 have hfl : ∀ f ∈ m.funcs,FlowOk f.blocks := fun f hf => flow_ok (any_not c5 f hf)
 have hph : ∀ f ∈ m.funcs,∀ b ∈ f.blocks,∀ x ∈ b.ins,PhiOk f.blocks.length x := fun f hf b hb x hx => ⟨fun hq => ((hsh f hf b hb x hx).phi (of_decide_eq_true hq)).1,fun hq => (hfl f hf).phi b hb x hx hq⟩
 have q6 : ∀ f ∈ m.funcs,∀ h,callAt Try.prog tab k 92 [.agg [str f.name,bool f.out,ints f.params,int f.result,blocks f.blocks]] h = some (bool (usedB f),h) := fun f hf h => wused_runs f (F.fn f hf).1 (by have := (F.fn f hf).2.2; omega) (hpos f hf) (hfl f hf).ins (hph f hf) (hfl f hf).met k (by omega) _ h (by rw [enc_func]; simp +decide -implicitDefEqProofs only [depth,go_sem])
 obtain ⟨g2,I2,L2⟩ := wcheck_l1 (vals := valsOf tab) (call := callAt Try.prog tab k) (n := k) m (by omega) (fun (h : Heap) => h[0]? = some (.row 0 [externs m.externs,globals m.globals,tables m.tables,funcs m.funcs])) hp (fun h H => H) q6 k (by omega) g1 I1
 cases c6 : (m.funcs.any fun f => !usedB f) with
 | true => rw [if_pos rfl]; rw [c6,if_pos rfl] at L2; (simp +decide -implicitDefEqProofs only [k53,go_sem,h87,h88,h89,h90,L1,I1,L2]; exact ⟨_,_,rfl,rfl⟩)
 | false =>
 rw [if_neg (by decide)]
 rw [c6,if_neg (by decide)] at L2
 have q7 : ∀ f ∈ m.funcs,∀ h,callAt Try.prog tab k 93 [.agg [externs m.externs,globals m.globals,tables m.tables,funcs m.funcs],.agg [str f.name,bool f.out,ints f.params,int f.result,blocks f.blocks]] h = some (bool (typedB m f),h) := fun f hf h => wtyped_runs m f (F.fn f hf).1 (by have := (F.fn f hf).2.2; omega) (hsh f hf) (hsy f hf) (fun b hb x hx v hv => by have := used_args (any_not c6 f hf) b hb x hx v hv; have := types_len f; omega) k (by omega) _ h (by rw [enc_func,enc_module]; simp +decide -implicitDefEqProofs only [depth,go_sem])
 obtain ⟨g3,I3,L3⟩ := wcheck_l2 (vals := valsOf tab) (call := callAt Try.prog tab k) (n := k) m (by omega) (fun (h : Heap) => h[0]? = some (.row 0 [externs m.externs,globals m.globals,tables m.tables,funcs m.funcs])) hp (fun h H => H) q7 k (by omega) g2 I2
 cases c7 : (m.funcs.any fun f => !typedB m f) with
 | true => rw [if_pos rfl]; rw [c7,if_pos rfl] at L3; (simp +decide -implicitDefEqProofs only [k53,go_sem,h87,h88,h89,h90,L1,I1,L2,I2,L3]; exact ⟨_,_,rfl,rfl⟩)
 | false => rw [if_neg (by decide)]; rw [c7,if_neg (by decide)] at L3; (simp +decide -implicitDefEqProofs only [k53,go_sem,h87,h88,h89,h90,L1,I1,L2,I2,L3]; exact ⟨_,_,rfl,rfl⟩)
set_option maxHeartbeats 4000000 in
theorem rcheck_runs (m : Tm.Module) (F : FineM m) : Runs Try.prog tab (2 ^ 36 + 200) 48 [.agg (encModule m)] (int (checkN m)) := by
 refine Runs.by (rs := [.tmp 2]) (N := 61) rfl Try.func48 rfl rfl (by simp) fun k hk => ?_
 have b4 := F.funcs
 rw [enc_module]
 have h79 : ∀ h,callAt Try.prog tab k 79 [.agg [externs m.externs,globals m.globals,tables m.tables,funcs m.funcs]] h = some (bool (limitsB m),h) := fun h => rlimits_runs m F k (by omega) _ h (by rw [enc_module]; simp +decide -implicitDefEqProofs only [depth,go_sem])
 have h80 : ∀ h,callAt Try.prog tab k 80 [.agg [externs m.externs,globals m.globals,tables m.tables,funcs m.funcs]] h = some (bool (formedB m),h) := fun h => rforms_runs m F k (by omega) _ h (by rw [enc_module]; simp +decide -implicitDefEqProofs only [depth,go_sem])
 have h81 : ∀ h,callAt Try.prog tab k 81 [.agg [externs m.externs,globals m.globals,tables m.tables,funcs m.funcs]] h = some (bool (namedB m),h) := fun h => rnames_runs m F k (by omega) _ h (by rw [enc_module]; simp +decide -implicitDefEqProofs only [depth,go_sem])
 have hp : ∀ (h : Heap) (x : Tm.Node),h[0]? = some (.row 0 [externs m.externs,globals m.globals,tables m.tables,funcs m.funcs]) → (h ++ [x])[0]? = some (.row 0 [externs m.externs,globals m.globals,tables m.tables,funcs m.funcs]) := fun h x H => by rw [List.getElem?_append_left (List.getElem?_eq_some_iff.1 H).1]; exact H
 unfold checkN
 cases c1 : limitsB m with
 | false => rw [if_pos rfl]; rw [c1] at h79; (simp +decide -implicitDefEqProofs only [k48,go_sem,h79]; exact ⟨_,_,rfl,rfl⟩)
 | true =>
 rw [if_neg (by decide)]
 rw [c1] at h79
 cases c2 : formedB m with
 | false => rw [if_pos rfl]; rw [c2] at h80; (simp +decide -implicitDefEqProofs only [k48,go_sem,h79,h80]; exact ⟨_,_,rfl,rfl⟩)
 | true =>
 rw [if_neg (by decide)]
 rw [c2] at h80
 cases c3 : namedB m with
 | false => rw [if_pos rfl]; rw [c3] at h81; (simp +decide -implicitDefEqProofs only [k48,go_sem,h79,h80,h81]; exact ⟨_,_,rfl,rfl⟩)
 | true =>
 rw [if_neg (by decide)]
 rw [c3] at h81
 have hpos := limits_blocks c1
 have hsh := formed_shape c2
 have h82 : ∀ h,callAt Try.prog tab k 82 [.agg [externs m.externs,globals m.globals,tables m.tables,funcs m.funcs]] h = some (bool (knownB m),h) := fun h => rsyms_runs m F k (by omega) _ h (by rw [enc_module]; simp +decide -implicitDefEqProofs only [depth,go_sem])
 cases c4 : knownB m with
 | false => rw [if_pos rfl]; rw [c4] at h82; (simp +decide -implicitDefEqProofs only [k48,go_sem,h79,h80,h81,h82]; exact ⟨_,_,rfl,rfl⟩)
 | true =>
 rw [if_neg (by decide)]
 rw [c4] at h82
 have hsy := known_sym c4
 have q5 : ∀ f ∈ m.funcs,∀ h,callAt Try.prog tab k 83 [.agg [str f.name,bool f.out,ints f.params,int f.result,blocks f.blocks]] h = some (bool (flowsB f.blocks),h) := fun f hf h => rflows_runs f (F.fn f hf).1 (hpos f hf) (fun b hb x hx => (hsh f hf b hb x hx).intoOk) k (by omega) _ h (by rw [enc_func]; simp +decide -implicitDefEqProofs only [depth,go_sem])
 obtain ⟨g1,I1,L1⟩ := rcheck_l0 (vals := valsOf tab) (call := callAt Try.prog tab k) (n := k) m (by omega) (fun (h : Heap) => h[0]? = some (.row 0 [externs m.externs,globals m.globals,tables m.tables,funcs m.funcs])) hp (fun h H => H) q5 k (by omega) [.row 0 [externs m.externs,globals m.globals,tables m.tables,funcs m.funcs]] rfl
 cases c5 : (m.funcs.any fun f => !flowsB f.blocks) with
 | true => rw [if_pos rfl]; rw [c5,if_pos rfl] at L1; (simp +decide -implicitDefEqProofs only [k48,go_sem,h79,h80,h81,h82,L1]; exact ⟨_,_,rfl,rfl⟩)
 | false =>
 rw [if_neg (by decide)]
 rw [c5,if_neg (by decide)] at L1
 have hfl : ∀ f ∈ m.funcs,FlowOk f.blocks := fun f hf => flow_ok (any_not c5 f hf)
 have hph : ∀ f ∈ m.funcs,∀ b ∈ f.blocks,∀ x ∈ b.ins,PhiOk f.blocks.length x := fun f hf b hb x hx => ⟨fun hq => ((hsh f hf b hb x hx).phi (of_decide_eq_true hq)).1,fun hq => (hfl f hf).phi b hb x hx hq⟩
 have q6 : ∀ f ∈ m.funcs,∀ h,callAt Try.prog tab k 84 [.agg [str f.name,bool f.out,ints f.params,int f.result,blocks f.blocks]] h = some (bool (usedB f),h) := fun f hf h => ruses_runs f (F.fn f hf).1 (by have := (F.fn f hf).2.2; omega) (hpos f hf) (hph f hf) k (by omega) _ h (by rw [enc_func]; simp +decide -implicitDefEqProofs only [depth,go_sem])
 obtain ⟨g2,I2,L2⟩ := rcheck_l1 (vals := valsOf tab) (call := callAt Try.prog tab k) (n := k) m (by omega) (fun (h : Heap) => h[0]? = some (.row 0 [externs m.externs,globals m.globals,tables m.tables,funcs m.funcs])) hp (fun h H => H) q6 k (by omega) g1 I1
 cases c6 : (m.funcs.any fun f => !usedB f) with
 | true => rw [if_pos rfl]; rw [c6,if_pos rfl] at L2; (simp +decide -implicitDefEqProofs only [k48,go_sem,h79,h80,h81,h82,L1,I1,L2]; exact ⟨_,_,rfl,rfl⟩)
 | false =>
 rw [if_neg (by decide)]
 rw [c6,if_neg (by decide)] at L2
 have q7 : ∀ f ∈ m.funcs,∀ h,callAt Try.prog tab k 85 [.agg [externs m.externs,globals m.globals,tables m.tables,funcs m.funcs],.agg [str f.name,bool f.out,ints f.params,int f.result,blocks f.blocks]] h = some (bool (typedB m f),h) := fun f hf h => rtyped_runs m f (F.fn f hf).1 (by have := (F.fn f hf).2.2; omega) (hsh f hf) (hsy f hf) (fun b hb x hx v hv => by have := used_args (any_not c6 f hf) b hb x hx v hv; have := types_len f; omega) k (by omega) _ h (by rw [enc_func,enc_module]; simp +decide -implicitDefEqProofs only [depth,go_sem])
 obtain ⟨g3,I3,L3⟩ := rcheck_l2 (vals := valsOf tab) (call := callAt Try.prog tab k) (n := k) m (by omega) (fun (h : Heap) => h[0]? = some (.row 0 [externs m.externs,globals m.globals,tables m.tables,funcs m.funcs])) hp (fun h H => H) q7 (by decide) k (by omega) g2 I2
 cases c7 : (m.funcs.any fun f => !typedB m f) with
 | true => rw [if_pos rfl]; rw [c7,if_pos rfl] at L3; (simp +decide -implicitDefEqProofs only [k48,go_sem,h79,h80,h81,h82,L1,I1,L2,I2,L3]; exact ⟨_,_,rfl,rfl⟩)
 | false => rw [if_neg (by decide)]; rw [c7,if_neg (by decide)] at L3; (simp +decide -implicitDefEqProofs only [k48,go_sem,h79,h80,h81,h82,L1,I1,L2,I2,L3]; exact ⟨_,_,rfl,rfl⟩)
end Go.Proofs.Ytkcimaibaicdcaa.Tk
namespace Go.Proofs.Ytkcimaibaicdcaa.Tk
open Go.Tm Go.Tm.Tab
set_option maxRecDepth 100000
theorem light2_runs (f : Tm.Func) (hl : ∀ b ∈ f.blocks,b.ins.length < 2 ^ 45) : ∃ t,Runs Try.prog tab (2 ^ 36 + 1) 17 [.agg (encFunc f)] (bool t) ∧ (t = true → Fine f ∧ f.name.size ≤ 40 ∧ f.params.length ≤ 8) := by
  by_cases c1 : (f.name.size : Int) > 40
  · refine ⟨false,Runs.by (rs := [.tmp 2]) (N := 77) rfl Try.func17 rfl rfl (by simp) fun k hk => ?_,fun h => by cases h⟩
    rw [enc_func]
    simp +decide -implicitDefEqProofs only [bind_ite,andThen_ite,leaves_ite,k17,go_sem,decide_eq_true c1]
    exact ⟨_,_,rfl,rfl⟩
  by_cases c2 : (f.params.length : Int) > 8
  · refine ⟨false,Runs.by (rs := [.tmp 2]) (N := 77) rfl Try.func17 rfl rfl (by simp) fun k hk => ?_,fun h => by cases h⟩
    rw [enc_func]
    simp +decide -implicitDefEqProofs only [bind_ite,andThen_ite,leaves_ite,k17,go_sem,decide_eq_false c1,decide_eq_true c2]
    exact ⟨_,_,rfl,rfl⟩
  by_cases c3 : (f.blocks.length : Int) > 16
  · refine ⟨false,Runs.by (rs := [.tmp 2]) (N := 77) rfl Try.func17 rfl rfl (by simp) fun k hk => ?_,fun h => by cases h⟩
    rw [enc_func]
    simp +decide -implicitDefEqProofs only [bind_ite,andThen_ite,leaves_ite,k17,go_sem,decide_eq_false c1,decide_eq_false c2,decide_eq_true c3]
    exact ⟨_,_,rfl,rfl⟩
  refine ⟨lightB f.blocks 0,Runs.by (rs := [.tmp 2]) (N := 77) rfl Try.func17 rfl rfl (by simp) fun k hk => ?_,fun ht => ⟨⟨by omega,fun b hb => (lightB_ins (Int.le_refl 0) ht b hb).1,fun b hb => (lightB_ins (Int.le_refl 0) ht b hb).2⟩,by omega,by omega⟩⟩
  obtain ⟨e,h⟩ := light_out (vals := valsOf tab) (call := callAt Try.prog tab k) (n := k) f (by omega) hl hk f.blocks.length 0 k 0 (by omega) (by omega) (by omega)
  rw [show ((0 : Nat) : Int) = 0 from rfl,List.drop_zero] at h
  rw [enc_func] at h ⊢
  cases hb : lightB f.blocks 0 with
  | true =>
    rw [if_pos hb] at h
    simp +decide -implicitDefEqProofs only [bind_ite,andThen_ite,leaves_ite,k17,go_sem,decide_eq_false c1,decide_eq_false c2,decide_eq_false c3,h]
    exact ⟨_,_,rfl,rfl⟩
  | false =>
    rw [if_neg (by rw [hb]; decide)] at h
    simp +decide -implicitDefEqProofs only [bind_ite,andThen_ite,leaves_ite,k17,go_sem,decide_eq_false c1,decide_eq_false c2,decide_eq_false c3,h]
    exact ⟨_,_,rfl,rfl⟩
open Classical in
noncomputable def lightT (f : Tm.Func) : Bool := if h : ∃ t,Runs Try.prog tab (2 ^ 36 + 1) 17 [.agg (encFunc f)] (bool t) ∧ (t = true → Fine f ∧ f.name.size ≤ 40 ∧ f.params.length ≤ 8) then Classical.choose h else false
theorem light_is (f : Tm.Func) (hl : ∀ b ∈ f.blocks,b.ins.length < 2 ^ 45) : Runs Try.prog tab (2 ^ 36 + 1) 17 [.agg (encFunc f)] (bool (lightT f)) ∧ (lightT f = true → Fine f ∧ f.name.size ≤ 40 ∧ f.params.length ≤ 8) := by
 have h := light2_runs f hl
 unfold lightT
 rw [dif_pos h]
 exact Classical.choose_spec h
def sumS (l : List Tm.Func) : Nat := (l.map fun f => sizeOfL f.blocks).sum
theorem sumS_next {l : List Tm.Func} {i : Nat} (h : i < l.length) : sumS (l.take (i + 1)) = sumS (l.take i) + sizeOfL (fnAt l i).blocks := by
 unfold sumS
 rw [List.take_add_one,List.getElem?_eq_getElem h,List.map_append,List.sum_append]
 simp [fnAt,List.getD_eq_getElem?_getD,List.getElem?_eq_getElem h]
def bigX (x : Extern) : Bool := decide ((x.name.size : Int) > 40) || decide ((x.params.length : Int) > 10)
def bigG (x : Tm.Global) : Bool := decide ((x.name.size : Int) > 40) || decide ((x.cells.length : Int) > 20)
def bigT (x : Table) : Bool := decide ((x.name.size : Int) > 40) || decide ((x.funcs.length : Int) > 16)
theorem small_l0 {vals : FuncId → Bool} {call : CallF} {n : Nat} (m : Tm.Module) (hl : m.externs.length < 2 ^ 50) (h : Heap) (h0 : h[0]? = some (.row 0 [externs m.externs,globals m.globals,tables m.tables,funcs m.funcs])) (mm : Nat) (hm : m.externs.length < mm) : Tm.Loop Try.prog vals call n [1,3] k50b0 mm ⟨[(1,.op 0 0),(3,int 0)],h⟩ = some (if m.externs.any bigX = true then (.ret,⟨[(2,bool false)],h⟩) else (.exit 0,⟨[(1,.op 0 0),(3,int m.externs.length),(34,bool false)],h⟩)) := by
 obtain ⟨h1,e,L⟩ := Loop_any (P := Try.prog) (vals := vals) (call := call) (n := n) (ks := [1,3]) (K := k50b0) (id := 0) m.externs.length (fun i => bigX (extAt m.externs i)) (fun i => [(1,.op 0 0),(3,int i)]) [(2,bool false)] [(1,.op 0 0),(3,int m.externs.length),(34,bool false)] (fun g => g = h)
  (fun i g hi hg => ⟨h,rfl,by
   rw [hg]
   have e1 : decide ((i : Int) < m.externs.length) = true := by simp; omega
   have e2 : 0 ≤ (i : Int) ∧ (i : Int) < m.externs.length := by omega
   have e3 := wrap_next (n := m.externs.length) (i := i) (by omega) (by omega)
   unfold bigX
   cases c1 : decide (((extAt m.externs i).name.size : Int) > 40) <;> cases c2 : decide (((extAt m.externs i).params.length : Int) > 10) <;> simp +decide -implicitDefEqProofs only [k50b0,go_sem,e1,e2,e3,set_new,c1,c2,h0]⟩)
  (fun g hg => ⟨h,rfl,by rw [hg]; simp +decide -implicitDefEqProofs only [k50b0,go_sem,Int.lt_irrefl,decide_false,h0]⟩) m.externs.length 0 mm h (by omega) hm rfl
 rw [e] at L
 simp only [show ((0 : Nat) : Int) = 0 from rfl] at L
 rw [any_exts] at L
 exact L
theorem small_l1 {vals : FuncId → Bool} {call : CallF} {n : Nat} (m : Tm.Module) (hl : m.globals.length < 2 ^ 50) (h : Heap) (h0 : h[0]? = some (.row 0 [externs m.externs,globals m.globals,tables m.tables,funcs m.funcs])) (mm : Nat) (hm : m.globals.length < mm) : Tm.Loop Try.prog vals call n [1,4] k50b1 mm ⟨[(1,.op 0 0),(4,int 0)],h⟩ = some (if m.globals.any bigG = true then (.ret,⟨[(2,bool false)],h⟩) else (.exit 2,⟨[(1,.op 0 0),(4,int m.globals.length),(59,bool false)],h⟩)) := by
 obtain ⟨h1,e,L⟩ := Loop_any (P := Try.prog) (vals := vals) (call := call) (n := n) (ks := [1,4]) (K := k50b1) (id := 2) m.globals.length (fun i => bigG (gloAt m.globals i)) (fun i => [(1,.op 0 0),(4,int i)]) [(2,bool false)] [(1,.op 0 0),(4,int m.globals.length),(59,bool false)] (fun g => g = h)
  (fun i g hi hg => ⟨h,rfl,by
   rw [hg]
   have e1 : decide ((i : Int) < m.globals.length) = true := by simp; omega
   have e2 : 0 ≤ (i : Int) ∧ (i : Int) < m.globals.length := by omega
   have e3 := wrap_next (n := m.globals.length) (i := i) (by omega) (by omega)
   unfold bigG
   cases c1 : decide (((gloAt m.globals i).name.size : Int) > 40) <;> cases c2 : decide (((gloAt m.globals i).cells.length : Int) > 20) <;> simp +decide -implicitDefEqProofs only [k50b1,go_sem,e1,e2,e3,set_new,c1,c2,h0]⟩)
  (fun g hg => ⟨h,rfl,by rw [hg]; simp +decide -implicitDefEqProofs only [k50b1,go_sem,Int.lt_irrefl,decide_false,h0]⟩) m.globals.length 0 mm h (by omega) hm rfl
 rw [e] at L
 simp only [show ((0 : Nat) : Int) = 0 from rfl] at L
 rw [any_glos] at L
 exact L
theorem small_l2 {vals : FuncId → Bool} {call : CallF} {n : Nat} (m : Tm.Module) (hl : m.tables.length < 2 ^ 50) (h : Heap) (h0 : h[0]? = some (.row 0 [externs m.externs,globals m.globals,tables m.tables,funcs m.funcs])) (mm : Nat) (hm : m.tables.length < mm) : Tm.Loop Try.prog vals call n [1,5] k50b2 mm ⟨[(1,.op 0 0),(5,int 0)],h⟩ = some (if m.tables.any bigT = true then (.ret,⟨[(2,bool false)],h⟩) else (.exit 4,⟨[(1,.op 0 0),(5,int m.tables.length),(84,bool false)],h⟩)) := by
 obtain ⟨h1,e,L⟩ := Loop_any (P := Try.prog) (vals := vals) (call := call) (n := n) (ks := [1,5]) (K := k50b2) (id := 4) m.tables.length (fun i => bigT (tblAt m.tables i)) (fun i => [(1,.op 0 0),(5,int i)]) [(2,bool false)] [(1,.op 0 0),(5,int m.tables.length),(84,bool false)] (fun g => g = h)
  (fun i g hi hg => ⟨h,rfl,by
   rw [hg]
   have e1 : decide ((i : Int) < m.tables.length) = true := by simp; omega
   have e2 : 0 ≤ (i : Int) ∧ (i : Int) < m.tables.length := by omega
   have e3 := wrap_next (n := m.tables.length) (i := i) (by omega) (by omega)
   unfold bigT
   cases c1 : decide (((tblAt m.tables i).name.size : Int) > 40) <;> cases c2 : decide (((tblAt m.tables i).funcs.length : Int) > 16) <;> simp +decide -implicitDefEqProofs only [k50b2,go_sem,e1,e2,e3,set_new,c1,c2,h0]⟩)
  (fun g hg => ⟨h,rfl,by rw [hg]; simp +decide -implicitDefEqProofs only [k50b2,go_sem,Int.lt_irrefl,decide_false,h0]⟩) m.tables.length 0 mm h (by omega) hm rfl
 rw [e] at L
 simp only [show ((0 : Nat) : Int) = 0 from rfl] at L
 rw [any_tbls] at L
 exact L
theorem small_l3 {vals : FuncId → Bool} {call : CallF} {n : Nat} (m : Tm.Module) (hl : m.funcs.length ≤ 26) (h : Heap) (h0 : h[0]? = some (.row 0 [externs m.externs,globals m.globals,tables m.tables,funcs m.funcs])) (hc : ∀ f ∈ m.funcs,∀ h,call 17 [.agg [str f.name,bool f.out,ints f.params,int f.result,blocks f.blocks]] h = some (bool (lightT f),h)) (hz : ∀ f ∈ m.funcs,Fine f → ∀ h,call 86 [.agg [str f.name,bool f.out,ints f.params,int f.result,blocks f.blocks]] h = some (int (sizeOfL f.blocks),h)) (hf : ∀ f ∈ m.funcs,lightT f = true → Fine f) (hs : ∀ f,Fine f → sizeOfL f.blocks ≤ 1440) (mm : Nat) (hm : m.funcs.length < mm) :
  ((List.range' 0 m.funcs.length).any (fun i => !lightT (fnAt m.funcs i)) = true ∧ ∃ h',Tm.Loop Try.prog vals call n [1,6,7] k50b3 mm ⟨[(1,.op 0 0),(6,int 0),(7,int 0)],h⟩ = some (.ret,⟨[(2,bool false)],h'⟩)) ∨ ((List.range' 0 m.funcs.length).any (fun i => !lightT (fnAt m.funcs i)) = false ∧ ∃ s,(s = ⟨[(1,.op 0 0),(6,int (sumS m.funcs : Nat)),(7,int m.funcs.length),(109,bool false)],h⟩) ∧ Tm.Loop Try.prog vals call n [1,6,7] k50b3 mm ⟨[(1,.op 0 0),(6,int 0),(7,int 0)],h⟩ = some (.exit 6,s)) := by
 refine Loop_anyS (P := Try.prog) (vals := vals) (call := call) (n := n) (ks := [1,6,7]) (K := k50b3) (id := 6) m.funcs.length (fun i => !lightT (fnAt m.funcs i))
  (fun i s => ∃ z : Nat,s = ⟨[(1,.op 0 0),(6,int z),(7,int i)],h⟩ ∧ z ≤ i * 1440 ∧ z = sumS (m.funcs.take i))
  (fun s => s = ⟨[(1,.op 0 0),(6,int (sumS m.funcs : Nat)),(7,int m.funcs.length),(109,bool false)],h⟩) [(2,bool false)]
  (fun i e g hi ⟨z,hq,hzz,hzs⟩ hbad => by
   cases hq
   have e1 : decide ((i : Int) < m.funcs.length) = true := by simp; omega
   have e2 : 0 ≤ (i : Int) ∧ (i : Int) < m.funcs.length := by omega
   have hx : fnAt m.funcs i ∈ m.funcs := getD_mem hi
   have hc1 := hc _ hx
   have hb : lightT (fnAt m.funcs i) = false := by simpa using hbad
   rw [hb] at hc1
   refine ⟨h,?_⟩
   simp +decide -implicitDefEqProofs only [k50b3,go_sem,e1,e2,h0,hc1])
  (fun i e g hi ⟨z,hq,hzz,hzs⟩ hbad => by
   cases hq
   have e1 : decide ((i : Int) < m.funcs.length) = true := by simp; omega
   have e2 : 0 ≤ (i : Int) ∧ (i : Int) < m.funcs.length := by omega
   have e3 := wrap_next (n := m.funcs.length) (i := i) (by omega) (by omega)
   have hx : fnAt m.funcs i ∈ m.funcs := getD_mem hi
   have hc1 := hc _ hx
   have hb : lightT (fnAt m.funcs i) = true := by simpa using hbad
   rw [hb] at hc1
   have hF := hf _ hx hb
   have hz1 := hz _ hx hF
   have hsz := hs _ hF
   have hw : IntKind.i64.wrap ((z : Int) + (sizeOfL (fnAt m.funcs i).blocks : Int)) = ((z + sizeOfL (fnAt m.funcs i).blocks : Nat) : Int) := by rw [wrap_in (by omega) (by omega)]; omega
   refine ⟨_,⟨z + sizeOfL (fnAt m.funcs i).blocks,rfl,by omega,by rw [sumS_next hi,hzs]⟩,?_⟩
   simp +decide -implicitDefEqProofs only [k50b3,go_sem,e1,e2,e3,h0,hc1,hz1,hw])
  (fun e g ⟨z,hq,hzz,hzs⟩ => by
   cases hq
   rw [List.take_length] at hzs
   refine ⟨_,rfl,?_⟩
   rw [hzs]
   simp +decide -implicitDefEqProofs only [k50b3,go_sem,h0,Int.lt_irrefl,decide_false])
  m.funcs.length 0 mm _ h (by omega) hm ⟨0,rfl,by omega,rfl⟩
theorem size_le (f : Tm.Func) (F : Fine f) : sizeOfL f.blocks ≤ 1440 := by
 have h1 : ∀ l : List Block,(∀ b ∈ l,b.ins.length ≤ 90) → sizeOfL l ≤ l.length * 90 := by
  intro l
  induction l with
  | nil => intro _; exact Nat.le_refl _
  | cons b l ih =>
   intro h
   have h2 := ih fun b hb => h b (List.mem_cons_of_mem _ hb)
   have h3 := h b (List.mem_cons_self ..)
   simp only [sizeOfL,List.map_cons,List.sum_cons,List.length_cons,Nat.add_mul] at h2 ⊢
   omega
 have := h1 f.blocks F.ins
 have := F.blocks
 have : f.blocks.length * 90 ≤ 16 * 90 := Nat.mul_le_mul_right _ F.blocks
 omega
set_option maxHeartbeats 4000000 in
theorem small_runs (m : Tm.Module) (hl : ∀ f ∈ m.funcs,∀ b ∈ f.blocks,b.ins.length < 2 ^ 45) : ∃ t,Runs Try.prog tab (2 ^ 36 + 20) 50 [.agg (encModule m)] (bool t) ∧ (t = true → FineM m) := by
  obtain ⟨d1,q1⟩ : ∃ d,decide ((m.externs.length : Int) > 14) = d := ⟨_,rfl⟩
  obtain ⟨d2,q2⟩ : ∃ d,decide ((m.globals.length : Int) > 14) = d := ⟨_,rfl⟩
  obtain ⟨d3,q3⟩ : ∃ d,decide ((m.tables.length : Int) > 8) = d := ⟨_,rfl⟩
  obtain ⟨d4,q4⟩ : ∃ d,decide ((m.funcs.length : Int) > 26) = d := ⟨_,rfl⟩
  have hRby : ∀ t,(∀ k,2 ^ 36 + 19 ≤ k → ∃ c h,fin Try.prog [.tmp 2] (exec Try.prog (valsOf tab) (callAt Try.prog tab k) k k50 ⟨enterE 0 [.agg (encModule m)],[]⟩) = some (c,h) ∧ view true h depth c = some (bool t)) → Runs Try.prog tab (2 ^ 36 + 20) 50 [.agg (encModule m)] (bool t) := fun t H => Runs.by (rs := [.tmp 2]) (N := 129) rfl Try.func50 rfl rfl (by simp) H
  cases hd : ((d1 || d2) || d3) || d4 with
  | true =>
    refine ⟨false,hRby _ fun k hk => ?_,fun h => by cases h⟩
    rw [enc_module]
    cases d1 <;> cases d2 <;> cases d3 <;> cases d4 <;> first | (exact absurd hd (by decide)) | (simp +decide -implicitDefEqProofs only [k50,go_sem,q1,q2,q3,q4]; exact ⟨_,_,rfl,rfl⟩)
  | false =>
    obtain ⟨⟨⟨rfl,rfl⟩,rfl⟩,rfl⟩ : ((d1 = false ∧ d2 = false) ∧ d3 = false) ∧ d4 = false := by simpa only [Bool.or_eq_false_iff] using hd
    have b1 := of_decide_eq_false q1
    have b2 := of_decide_eq_false q2
    have b3 := of_decide_eq_false q3
    have b4 := of_decide_eq_false q4
    have L0 := fun (k : Nat) (hk : 2 ^ 36 + 19 ≤ k) => small_l0 (vals := valsOf tab) (call := callAt Try.prog tab k) (n := k) m (by omega) [.row 0 [externs m.externs,globals m.globals,tables m.tables,funcs m.funcs]] rfl k (by omega)
    have L1 := fun (k : Nat) (hk : 2 ^ 36 + 19 ≤ k) => small_l1 (vals := valsOf tab) (call := callAt Try.prog tab k) (n := k) m (by omega) [.row 0 [externs m.externs,globals m.globals,tables m.tables,funcs m.funcs]] rfl k (by omega)
    have L2 := fun (k : Nat) (hk : 2 ^ 36 + 19 ≤ k) => small_l2 (vals := valsOf tab) (call := callAt Try.prog tab k) (n := k) m (by omega) [.row 0 [externs m.externs,globals m.globals,tables m.tables,funcs m.funcs]] rfl k (by omega)
    have L3 := fun (k : Nat) (hk : 2 ^ 36 + 19 ≤ k) => small_l3 (vals := valsOf tab) (call := callAt Try.prog tab k) (n := k) m (by omega) [.row 0 [externs m.externs,globals m.globals,tables m.tables,funcs m.funcs]] rfl
      (fun f hf h => (light_is f (hl f hf)).1 k (by omega) _ h (by rw [enc_func]; simp +decide -implicitDefEqProofs only [depth,go_sem]))
      (fun f hf F h => rsize_runs f F k (by omega) _ h (by rw [enc_func]; simp +decide -implicitDefEqProofs only [depth,go_sem]))
      (fun f hf h => ((light_is f (hl f hf)).2 h).1) size_le k (by omega)
    cases x1 : m.externs.any bigX with
    | true =>
      refine ⟨false,hRby _ fun k hk => ?_,fun h => by cases h⟩
      have L0 := L0 k hk
      rw [x1,if_pos rfl] at L0
      rw [enc_module]
      simp +decide -implicitDefEqProofs only [k50,go_sem,q1,q2,q3,q4,L0]; exact ⟨_,_,rfl,rfl⟩
    | false =>
    cases x2 : m.globals.any bigG with
    | true =>
      refine ⟨false,hRby _ fun k hk => ?_,fun h => by cases h⟩
      have L0 := L0 k hk
      have L1 := L1 k hk
      rw [x1,if_neg (by decide)] at L0
      rw [x2,if_pos rfl] at L1
      rw [enc_module]
      simp +decide -implicitDefEqProofs only [k50,go_sem,q1,q2,q3,q4,L0,L1]; exact ⟨_,_,rfl,rfl⟩
    | false =>
    cases x3 : m.tables.any bigT with
    | true =>
      refine ⟨false,hRby _ fun k hk => ?_,fun h => by cases h⟩
      have L0 := L0 k hk
      have L1 := L1 k hk
      have L2 := L2 k hk
      rw [x1,if_neg (by decide)] at L0
      rw [x2,if_neg (by decide)] at L1
      rw [x3,if_pos rfl] at L2
      rw [enc_module]
      simp +decide -implicitDefEqProofs only [k50,go_sem,q1,q2,q3,q4,L0,L1,L2]; exact ⟨_,_,rfl,rfl⟩
    | false =>
    cases x4 : (List.range' 0 m.funcs.length).any (fun i => !lightT (fnAt m.funcs i)) with
    | true =>
      refine ⟨false,hRby _ fun k hk => ?_,fun h => by cases h⟩
      have L0 := L0 k hk
      have L1 := L1 k hk
      have L2 := L2 k hk
      rw [x1,if_neg (by decide)] at L0
      rw [x2,if_neg (by decide)] at L1
      rw [x3,if_neg (by decide)] at L2
      rw [enc_module]
      rcases L3 k hk with ⟨_,h',L3⟩ | ⟨L3,_⟩
      · simp +decide -implicitDefEqProofs only [k50,go_sem,q1,q2,q3,q4,L0,L1,L2,L3]; exact ⟨_,_,rfl,rfl⟩
      · rw [x4] at L3; exact absurd L3 (by decide)
    | false =>
      have fine : FineM m := by
        refine ⟨by omega,by omega,by omega,by omega,fun x hx => ?_,fun x hx => ?_,fun x hx => ?_,fun x hx => ?_⟩
        · rw [List.any_eq_false] at x1
          have := x1 x hx
          unfold bigX at this
          rw [Bool.not_eq_true,Bool.or_eq_false_iff] at this
          have a1 := of_decide_eq_false this.1
          have a2 := of_decide_eq_false this.2
          omega
        · rw [List.any_eq_false] at x2
          have := x2 x hx
          unfold bigG at this
          rw [Bool.not_eq_true,Bool.or_eq_false_iff] at this
          have a1 := of_decide_eq_false this.1
          have a2 := of_decide_eq_false this.2
          omega
        · rw [List.any_eq_false] at x3
          have := x3 x hx
          unfold bigT at this
          rw [Bool.not_eq_true,Bool.or_eq_false_iff] at this
          have a1 := of_decide_eq_false this.1
          have a2 := of_decide_eq_false this.2
          omega
        · rw [any_fns (fun f => !lightT f),List.any_eq_false] at x4
          have := x4 x hx
          exact (light_is x (hl x hx)).2 (by simpa using this)
      refine ⟨decide ((sumS m.funcs : Int) ≤ 160),hRby _ fun k hk => ?_,fun _ => fine⟩
      have L0 := L0 k hk
      have L1 := L1 k hk
      have L2 := L2 k hk
      rw [x1,if_neg (by decide)] at L0
      rw [x2,if_neg (by decide)] at L1
      rw [x3,if_neg (by decide)] at L2
      rw [enc_module]
      rcases L3 k hk with ⟨L3,_⟩ | ⟨_,s,rfl,L3⟩
      · rw [x4] at L3; exact absurd L3 (by decide)
      · simp +decide -implicitDefEqProofs only [k50,go_sem,q1,q2,q3,q4,L0,L1,L2,L3]
        cases decide ((sumS m.funcs : Int) ≤ 160) <;> exact ⟨_,_,rfl,rfl⟩
theorem first6 : Runs Try.prog tab 1000 49 [] (bool true) := Runs.known (K := k49) rfl (by kernel_rfl)
end Go.Proofs.Ytkcimaibaicdcaa.Tk
namespace Go.Proofs.Ytkcimaibaicdcaa.Tk
open Go.Tm Go.Tm.Tab
set_option maxRecDepth 100000
theorem tup0 (a b c d : C) : tupAt (.tup [a,b,c,d]) 0 = some a := rfl
theorem tup1 (a b c d : C) : tupAt (.tup [a,b,c,d]) 1 = some b := rfl
theorem tup2 (a b c d : C) : tupAt (.tup [a,b,c,d]) 2 = some c := rfl
theorem tup3 (a b c d : C) : tupAt (.tup [a,b,c,d]) 3 = some d := rfl
set_option maxHeartbeats 4000000 in
theorem wfTells (m : Tm.Module) (hl : ∀ f ∈ m.funcs,∀ b ∈ f.blocks,b.ins.length < 2 ^ 45) (s : ByteArray) (op : Int) : Runs Try.prog tab (2 ^ 36 + 300) 11 [.agg (encModule m),str s,int op] (bool true) := by
 refine Runs.by (rs := [.tmp 6]) (N := 79) rfl Try.func11 rfl rfl (by simp) fun k hk => ?_
 have h49 : ∀ h,callAt Try.prog tab k 49 [] h = some (bool true,h) := fun h => first6 k (by omega) [] h rfl
 obtain ⟨t,hsm,hF⟩ := small_runs m hl
 have h50 : ∀ h,callAt Try.prog tab k 50 [.agg [externs m.externs,globals m.globals,tables m.tables,funcs m.funcs]] h = some (bool t,h) := fun h => hsm k (by omega) _ h (by rw [enc_module]; simp +decide -implicitDefEqProofs only [depth,go_sem])
 rw [enc_module]
 cases t with
 | false =>
  simp +decide -implicitDefEqProofs only [k11,go_sem,h49,h50]; exact ⟨_,_,rfl,rfl⟩
 | true =>
  have F := hF rfl
  cases c1 : decide ((s.size : Int) > 60) with
  | true => simp +decide -implicitDefEqProofs only [k11,go_sem,h49,h50,c1]; exact ⟨_,_,rfl,rfl⟩
  | false =>
   have h51 : ∀ h,callAt Try.prog tab k 51 [int op] h = some (markC (markOf op),h) := fun h => mark51_runs op k (by omega) _ h (by simp only [mapC_cons,mapC_nil,depth,view_int,Option.bind_some])
   have h52 : ∀ h,callAt Try.prog tab k 52 [int op] h = some (markC (markOf op),h) := fun h => mark52_runs op k (by omega) _ h (by simp only [mapC_cons,mapC_nil,depth,view_int,Option.bind_some])
   have h53 : ∀ h,callAt Try.prog tab k 53 [.agg [externs m.externs,globals m.globals,tables m.tables,funcs m.funcs]] h = some (int (checkN m),h) := fun h => wcheck_runs m F k (by omega) _ h (by rw [enc_module]; simp +decide -implicitDefEqProofs only [depth,go_sem])
   have h48 : ∀ h,callAt Try.prog tab k 48 [.agg [externs m.externs,globals m.globals,tables m.tables,funcs m.funcs]] h = some (int (checkN m),h) := fun h => rcheck_runs m F k (by omega) _ h (by rw [enc_module]; simp +decide -implicitDefEqProofs only [depth,go_sem])
   have h54 : ∀ h,callAt Try.prog tab k 54 [str s] h = some (bool (nameB s),h) := fun h => name_runs s k (by omega) _ h (by simp only [mapC_cons,mapC_nil,depth,view_str,Option.bind_some])
   have h55 : ∀ h,callAt Try.prog tab k 55 [str s] h = some (bool (nameB s),h) := fun h => rname_runs s k (by omega) _ h (by simp only [mapC_cons,mapC_nil,depth,view_str,Option.bind_some])
   have h56 : ∀ h,callAt Try.prog tab k 56 [int op] h = some (bool (endsB op),h) := fun h => ends_runs op k (by omega) _ h (by simp only [mapC_cons,mapC_nil,depth,view_int,Option.bind_some])
   have h57 : ∀ h,callAt Try.prog tab k 57 [int op] h = some (bool (endsB op),h) := fun h => rends_runs op k (by omega) _ h (by simp only [mapC_cons,mapC_nil,depth,view_int,Option.bind_some])
   have v1 : valsOf tab 53 = true := by decide
   have v2 : valsOf tab 48 = true := by decide
   have v3 : valsOf tab 54 = true := by decide
   have v4 : valsOf tab 55 = true := by decide
   have v5 : valsOf tab 56 = true := by decide
   have v6 : valsOf tab 57 = true := by decide
   generalize markOf op = mk at h51 h52
   obtain ⟨ma,mi,ms,mn⟩ := mk
   generalize checkN m = ck at h53 h48
   generalize nameB s = nb at h54 h55
   generalize endsB op = eb at h56 h57
   have e1 : decide (ck = ck) = true := by simp
   have e2 : decide (nb = nb) = true := by simp
   have e3 : decide (eb = eb) = true := by simp
   have e4 : decide (ma = ma) = true := by simp
   have e5 : decide (mi = mi) = true := by simp
   have e6 : decide (ms = ms) = true := by simp
   have e7 : decide (mn = mn) = true := by simp
   simp only [markC] at h51 h52
   simp +decide -implicitDefEqProofs only [k11,go_sem,h49,h50,c1,h51,h52,tup0,tup1,tup2,tup3,h53,h48,h54,h55,h56,h57,v1,v2,v3,v4,v5,v6,e1,e2,e3,e4,e5,e6,e7]
   exact ⟨_,_,rfl,rfl⟩
end Go.Proofs.Ytkcimaibaicdcaa.Tk
