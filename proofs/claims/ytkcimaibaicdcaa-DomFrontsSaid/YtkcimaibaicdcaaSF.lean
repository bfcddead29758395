import Derived.Test.YtkcimaibaicdcaaSE
set_option linter.unusedSimpArgs false
namespace Go.Tm
@[go_sem] theorem resC_cell {P : Program} {e : Env} {h : Heap} (x : Nat) (t : TypeId) (r : List ResultVar) : resC P e h (.cell x t :: r) = (look e x).bind fun p => (loadC P h t p).bind fun c => (resC P e h r).bind fun cs => some (c :: cs) := rfl
theorem view_tup {cl : Bool} {h : Heap} {n : Nat} (cs : List C) : view cl h (n + 1) (.tup cs) = (mapC (view cl h n) cs).map .tup := rfl
end Go.Tm
namespace Go.Proofs.Ytkcimaibaicdcaa.Tk
open Go.Tm Go.Tm.Tab
set_option maxRecDepth 100000
def noIns : Ins := ⟨0, 0, 0, 0, 0, [], []⟩
def hasLast (l : List Block) (b : Int) : Prop := 0 ≤ b ∧ b < (l.length : Int) ∧ (blkAt l b).ins ≠ []
/-- plnref3.Last. -/
theorem last_runs (f : Tm.Func) (F : Fine f) (b : Int) (hb : hasLast f.blocks b) : RunsF Try.prog tab 1 63 [.agg (encFunc f), int b] (.tup [.agg (encIns (lastI f.blocks b)), bool true]) := by
  refine RunsF.by (rs := [.cell 4 56, .tmp 5]) (N := 39) rfl Try.func63 rfl rfl (by simp) (by simp only [mapC_cons, mapC_nil, depth, view_func f, view_int, Option.bind_some]) fun k hk => ?_
  obtain ⟨b0, b1, b2⟩ := hb
  have hlen := F.ins _ (blkAt_mem ⟨b0, b1⟩)
  have c3 := ins_ne.1 b2
  have e2 : 0 ≤ b ∧ b < (f.blocks.length : Int) := ⟨b0, b1⟩
  have c1 : decide (b < 0) = false := decide_eq_false (by omega)
  have c2 : decide (b ≥ (f.blocks.length : Int)) = false := decide_eq_false (by omega)
  have e3 : IntKind.i64.wrap (((blkAt f.blocks b).ins.length : Int) - 1) = ((blkAt f.blocks b).ins.length : Int) - 1 := wrap_in (by omega) (by omega)
  have e4 : 0 ≤ ((blkAt f.blocks b).ins.length : Int) - 1 ∧ ((blkAt f.blocks b).ins.length : Int) - 1 < ((blkAt f.blocks b).ins.length : Int) := by omega
  rw [enc_func]
  simp (decide := true) (implicitDefEqProofs := false) only [k63, go_sem, c1, c2, e2, decide_eq_false c3, e3, e4]
  refine ⟨_, _, rfl, ?_⟩
  unfold lastI encIns
  simp only [depth, view_tup, view_agg, mapC_cons, mapC_nil, view_int, view_ints, view_bool, Option.bind_some, Option.map_some]
end Go.Proofs.Ytkcimaibaicdcaa.Tk
