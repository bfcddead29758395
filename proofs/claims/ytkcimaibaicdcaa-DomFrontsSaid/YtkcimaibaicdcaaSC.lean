import Derived.Test.YtkcimaibaicdcaaSB
set_option linter.unusedSimpArgs false
namespace Go.Tm
section
variable {P : Program} {call : CallF} {e : Env} {h : Heap} {al : Option Nat}
theorem op_callv (t : Nat) (args : List Operand) (ats : Array TypeId) : stepOp P call al e h (.call ⟨.value (.tmp t), args.toArray, ats⟩) = (look e t).bind fun c => (fnOf c).bind fun q => (evs e args).bind fun cs => call q.1 (cs ++ q.2) h := by
  simp only [stepOp, calleeOf, ev, Option.bind_eq_bind]
  cases look e t with
  | none => rfl
  | some c => simp only [Option.bind_some]
theorem fnOf_fn (f : FuncId) (caps : List C) : fnOf (.fn f caps) = some (f, caps) := rfl
theorem op_makeFunc (f : FuncId) (caps : List Operand) : stepOp P call al e h (.makeFunc (.func f) #[] caps.toArray) = (evs e caps).bind fun cs => some (.fn f cs, h) := by
  simp only [stepOp, Option.bind_eq_bind]; rfl
theorem view_fn {cl : Bool} {n : Nat} (f : FuncId) (caps : List C) : view cl h (n + 1) (.fn f caps) = (mapC (view cl h n) caps).map (.fn f) := rfl
def viewP (f : C → Option C) (off : Nat) : Option Node → Option C
  | some (.row _ cs) => (mapC f (cs.drop off)).map .fp
  | _ => none
theorem view_op {cl : Bool} {n l off : Nat} : view cl h (n + 1) (.op l off) = viewP (view cl h n) off h[l]? := by simp only [view, viewP]; rfl
theorem view_fp {n : Nat} (xs : List C) : view false h (n + 1) (.fp xs) = some (.fp xs) := rfl
end
end Go.Tm
namespace Go.Proofs.Ytkcimaibaicdcaa.Tk
open Go.Tm Go.Tm.Tab
set_option maxRecDepth 100000
/-- The function that dom.Front hands to ContainsFunc. -/
theorem front1_runs (l : List Block) (a p : Int) (ha : 0 ≤ a ∧ a < (l.length : Int)) (hp : 0 ≤ p ∧ p < (l.length : Int)) : Runs Try.prog tab 1 70 [int p, .fp [rowsB (overOf l)], .fp [int a]] (bool (rdOf false (rowOv l a) p)) := by
  refine Runs.by (rs := [.tmp 4]) (N := 12) rfl Try.func70 rfl rfl (by simp) fun k hk => ?_
  have ea : 0 ≤ a ∧ a < ((overOf l).length : Int) := by rw [over_len]; exact ha
  have hrow := over_at (l := l) ha.1 ha.2
  have ep : 0 ≤ p ∧ p < ((rowOv l a).length : Int) := by rw [rowOv_len]; exact hp
  simp (decide := true) (implicitDefEqProofs := false) only [k70, go_sem, ea, hrow, ep]
  exact ⟨_, _, rfl, rfl⟩
/-- slices.IndexFunc's loop with it. -/
theorem indexF_loop (l : List Block) (a : Int) (ha : 0 ≤ a ∧ a < (l.length : Int)) (xs : List Int) (hx : xs.length < 2 ^ 62) (hin : ∀ p ∈ xs, 0 ≤ p ∧ p < (l.length : Int)) {vals : FuncId → Bool} {n k : Nat} (hk : 1 ≤ k) (d : Nat) : ∀ (i m : Nat), i + d = xs.length → d < m →
    Tm.Loop Try.prog vals (callAt Try.prog tab k) n [0, 1, 7, 8] k99b0 m ⟨[(0, ints xs), (1, .fn 70 [.fp [rowsB (overOf l)], .fp [int a]]), (7, int xs.length), (8, int i)], []⟩ = some (match (xs.drop i).findIdx? (fun p => rdOf false (rowOv l a) p) with | some j => (.ret, ⟨[(4, int (i + j : Nat))], []⟩) | none => (.exit 0, ⟨[(0, ints xs), (1, .fn 70 [.fp [rowsB (overOf l)], .fp [int a]]), (7, int xs.length), (8, int xs.length), (9, bool false)], []⟩)) := by
  induction d with
  | zero =>
    intro i m hi hm
    obtain ⟨m, rfl⟩ : ∃ p, m = p + 1 := ⟨m - 1, by omega⟩
    obtain rfl : i = xs.length := by omega
    rw [Tm.Loop_succ]
    simp (implicitDefEqProofs := false) only [k99b0, go_sem, Int.lt_irrefl, decide_false, List.drop_length, List.findIdx?_nil]
  | succ d ih =>
    intro i m hi hm
    obtain ⟨m, rfl⟩ : ∃ p, m = p + 1 := ⟨m - 1, by omega⟩
    replace ih := ih (i + 1) m (by omega) (by omega)
    rw [Tm.Loop_succ]
    generalize Tm.Loop Try.prog vals (callAt Try.prog tab k) n [0, 1, 7, 8] k99b0 m = L at ih ⊢
    have e1 : decide ((i : Int) < xs.length) = true := by simp; omega
    have e2 : 0 ≤ (i : Int) ∧ (i : Int) < xs.length := by omega
    have e3 := wrap_next (n := xs.length) (i := i) (by omega) hx
    have hcall := front1_runs l a (rd xs i) ha (hin _ (rd_mem e2.1 e2.2)) k hk [int (rd xs i), .fp [rowsB (overOf l)], .fp [int a]] [] (by simp only [mapC_cons, mapC_nil, depth, view_fp, view_int, Option.bind_some])
    rw [drop_rd (xs := xs) (i := i) (by omega), List.findIdx?_cons]
    cases c : rdOf false (rowOv l a) (rd xs i) with
    | true =>
      rw [c] at hcall
      simp (decide := true) (implicitDefEqProofs := false) only [k99b0, go_sem, op_callv, fnOf_fn, e1, e2, e3, hcall, c]
    | false =>
      rw [c] at hcall
      simp (decide := true) (implicitDefEqProofs := false) only [k99b0, go_sem, op_callv, fnOf_fn, e1, e2, e3, hcall, c]
      rw [ih]
      cases (xs.drop (i + 1)).findIdx? (fun p => rdOf false (rowOv l a) p) with
      | none => rfl
      | some j => simp; omega
theorem fn_view {h : Heap} {n : Nat} (xs ys : List C) : view false h (n + 2) (.fn 70 [.fp xs, .fp ys]) = some (.fn 70 [.fp xs, .fp ys]) := by
  rw [view_fn]
  simp only [mapC_cons, mapC_nil, view_fp, Option.bind_some, Option.map_some]
theorem indexF_runs (l : List Block) (a : Int) (ha : 0 ≤ a ∧ a < (l.length : Int)) (xs : List Int) (hx : xs.length < 2 ^ 20) (hin : ∀ p ∈ xs, 0 ≤ p ∧ p < (l.length : Int)) : Runs Try.prog tab (2 ^ 20 + 1) 99 [ints xs, .fn 70 [.fp [rowsB (overOf l)], .fp [int a]]] (int (match xs.findIdx? (fun p => rdOf false (rowOv l a) p) with | some j => ((j : Nat) : Int) | none => -1)) := by
  refine Runs.by (rs := [.tmp 4]) (N := 19) rfl Try.func99 rfl rfl (by simp) fun k hk => ?_
  have h := indexF_loop l a ha xs (by omega) hin (vals := valsOf tab) (n := k) (k := k) (by omega) xs.length 0 k (by omega) (by omega)
  rw [show ((0 : Nat) : Int) = 0 from rfl, List.drop_zero] at h
  cases hf : xs.findIdx? (fun p => rdOf false (rowOv l a) p) with
  | none =>
    rw [hf] at h
    simp (decide := true) (implicitDefEqProofs := false) only [k99, go_sem, h]
    exact ⟨_, _, rfl, rfl⟩
  | some j =>
    rw [hf] at h
    simp (decide := true) (implicitDefEqProofs := false) only [k99, go_sem, h]
    exact ⟨_, _, rfl, rfl⟩
theorem containsF_runs (l : List Block) (a : Int) (ha : 0 ≤ a ∧ a < (l.length : Int)) (xs : List Int) (hx : xs.length < 2 ^ 20) (hin : ∀ p ∈ xs, 0 ≤ p ∧ p < (l.length : Int)) : Runs Try.prog tab (2 ^ 20 + 2) 69 [ints xs, .fn 70 [.fp [rowsB (overOf l)], .fp [int a]]] (bool (xs.any fun p => rdOf false (rowOv l a) p)) := by
  refine Runs.by (rs := [.tmp 4]) (N := 9) rfl Try.func69 rfl rfl (by simp) fun k hk => ?_
  have h := indexF_runs l a ha xs hx hin k hk [ints xs, .fn 70 [.fp [rowsB (overOf l)], .fp [int a]]] [] (by simp only [mapC_cons, mapC_nil, depth, fn_view, view_ints, Option.bind_some])
  cases hf : xs.findIdx? (fun p => rdOf false (rowOv l a) p) with
  | none =>
    rw [hf] at h
    have hany : (xs.any fun p => rdOf false (rowOv l a) p) = false := by
      rw [List.findIdx?_eq_none_iff] at hf
      rw [List.any_eq_false]
      intro p hp
      rw [hf p hp]; decide
    rw [hany]
    simp (decide := true) (implicitDefEqProofs := false) only [k69, go_sem, h]
    exact ⟨_, _, rfl, rfl⟩
  | some j =>
    rw [hf] at h
    have hany : (xs.any fun p => rdOf false (rowOv l a) p) = true := by
      obtain ⟨hj, h1, _⟩ := List.findIdx?_eq_some_iff_getElem.1 hf
      rw [List.any_eq_true]
      exact ⟨xs[j], List.getElem_mem _, h1⟩
    have hj0 : decide (((j : Nat) : Int) ≥ 0) = true := decide_eq_true (by omega)
    rw [hany]
    simp (decide := true) (implicitDefEqProofs := false) only [k69, go_sem, h, hj0]
    exact ⟨_, _, rfl, rfl⟩
end Go.Proofs.Ytkcimaibaicdcaa.Tk
