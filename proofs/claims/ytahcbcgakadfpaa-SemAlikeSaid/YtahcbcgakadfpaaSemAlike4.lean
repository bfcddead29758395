import Derived.Test.YtahcbcgakadfpaaSemAlike3
set_option linter.unusedSimpArgs false
namespace Go.Tm
section
variable {P : Program} {call : CallF} {e : Env} {h : Heap} {al : Option Nat}
def minC (P : Program) (h : Heap) (a b : C) : Option (C × Heap) := (scalars [a, b]).bind fun xs => (pureV P (Builtin.min_ #[] 0 xs.toArray)).bind fun r => some (r, h)
theorem op_min (x y : Operand) (ts : Array TypeId) : stepOp P call al e h (.call ⟨.builtin .min, #[x, y], ts⟩) = (ev e x).bind fun a => (ev e y).bind fun b => minC P h a b := by
  simp only [stepOp, evs, minC, Option.bind_eq_bind]
  cases ev e x with
  | none => rfl
  | some a => cases ev e y <;> rfl
theorem min_int (p q : Nat) : minC P h (int p) (int q) = some (int ((min p q : Nat) : Int), h) := by
  have e : minC P h (int p) (int q) = some (int (if (q : Int) < p then (q : Int) else p), h) := rfl
  rw [e]
  by_cases c : q < p
  · rw [if_pos (by omega), Nat.min_eq_right (by omega)]
  · rw [if_neg (by omega), Nat.min_eq_left (by omega)]
end
theorem view_fn0 {cl : Bool} {h : Heap} {n : Nat} (f : FuncId) : view cl h (n + 1) (.fn f []) = some (.fn f []) := rfl
theorem take_flat {α : Type} {f : α → List C} {s : Nat} (hs : ∀ x, (f x).length = s) : ∀ (l : List α) (k : Nat), (l.flatMap f).take (k * s) = (l.take k).flatMap f
  | [], k => by simp
  | x :: l, 0 => by simp
  | x :: l, k + 1 => by
    rw [List.flatMap_cons, Nat.add_mul, Nat.one_mul, List.take_succ_cons, List.flatMap_cons, ← take_flat hs l k, Nat.add_comm, ← hs x, List.take_length_add_append]
end Go.Tm
namespace Go.Proofs.Ytahcbcgakadfpaa.Ts
open Go.Tm Go.Tm.Tab
set_option maxRecDepth 100000
theorem sl_events {h : Heap} (l : List Evt) (k : Nat) (hk : k ≤ l.length) : sliceC Try.prog h 47 (events l) none (some (int k)) none = some (events (l.take k)) := by
  rw [slice_fact (e := 58) (s := 3) (by kernel_rfl) (by kernel_rfl)]
  have hb : bnds none (some (int (k : Int))) none l.length l.length = some (0, k, none) := by
    have hi : intOf (int (k : Int)) = some (.i64, (k : Int)) := rfl
    simp [bnds, bound, hk, hi]
  simp only [events, hb, Option.map_some, Nat.zero_mul, List.drop_zero, Nat.sub_zero, take_flat (f := encEvent) (s := 3) (fun _ => rfl), List.length_take, Nat.min_eq_left hk]
  rfl
theorem sem_runs (a b : Sto) (bound : Int) (la : a.trace.length ≤ 20) (lb : b.trace.length ≤ 20) (ha : ∀ e ∈ a.trace, e.args.length ≤ 10) :
    Runs Try.prog tab 50 26 [.agg (encTold a), .agg (encTold b), int bound] (bool (semB (decide (a.kind = 2)) (decide (a.trap = 6)) (decide (b.kind = 2)) (decide (b.trap = 6)) (decide (a.kind = 3)) (decide (b.kind = 3)) (decide (a.kind = b.kind)) (decide (a.trap = b.trap)) (decide (a.value = b.value)) (decide ((a.trace.length : Int) = b.trace.length)) (decide (b.steps < bound)) (decide (a.trace.take (min a.trace.length b.trace.length) = b.trace.take (min a.trace.length b.trace.length))))) := by
  refine Runs.by (rs := [.tmp 6]) (N := 92) rfl Try.func26 rfl rfl (by simp) fun k hk => ?_
  have s1 : ∀ h, sliceC Try.prog h 47 (events a.trace) none (some (int ((min a.trace.length b.trace.length : Nat) : Int))) none = some (events (a.trace.take (min a.trace.length b.trace.length))) := fun h => sl_events _ _ (Nat.min_le_left ..)
  have s2 : ∀ h, sliceC Try.prog h 47 (events b.trace) none (some (int ((min a.trace.length b.trace.length : Nat) : Int))) none = some (events (b.trace.take (min a.trace.length b.trace.length))) := fun h => sl_events _ _ (Nat.min_le_right ..)
  have hE : ∀ h, callAt Try.prog tab k 56 [events (a.trace.take (min a.trace.length b.trace.length)), events (b.trace.take (min a.trace.length b.trace.length)), .fn 57 []] h = some (bool (decide (a.trace.take (min a.trace.length b.trace.length) = b.trace.take (min a.trace.length b.trace.length))), h) := fun h =>
    equalF_runs _ _ (fun e he => ha e (List.mem_of_mem_take he)) (by rw [List.length_take]; omega) k (by omega) _ h (by simp only [mapC_cons, mapC_nil, depth, view_events, view_fn0, Option.bind_some]; rfl)
  have hm : ∀ h, minC Try.prog h (int (a.trace.length : Int)) (int (b.trace.length : Int)) = some (int ((min a.trace.length b.trace.length : Nat) : Int), h) := fun h => min_int _ _
  generalize decide (a.trace.take (min a.trace.length b.trace.length) = b.trace.take (min a.trace.length b.trace.length)) = eq at hE ⊢
  obtain ⟨ka2, h1⟩ : ∃ q, decide (a.kind = 2) = q := ⟨_, rfl⟩
  obtain ⟨ta6, h2⟩ : ∃ q, decide (a.trap = 6) = q := ⟨_, rfl⟩
  obtain ⟨kb2, h3⟩ : ∃ q, decide (b.kind = 2) = q := ⟨_, rfl⟩
  obtain ⟨tb6, h4⟩ : ∃ q, decide (b.trap = 6) = q := ⟨_, rfl⟩
  obtain ⟨ka3, h5⟩ : ∃ q, decide (a.kind = 3) = q := ⟨_, rfl⟩
  obtain ⟨kb3, h6⟩ : ∃ q, decide (b.kind = 3) = q := ⟨_, rfl⟩
  obtain ⟨kk, h7⟩ : ∃ q, decide (a.kind = b.kind) = q := ⟨_, rfl⟩
  obtain ⟨tt, h8⟩ : ∃ q, decide (a.trap = b.trap) = q := ⟨_, rfl⟩
  obtain ⟨vv, h9⟩ : ∃ q, decide (a.value = b.value) = q := ⟨_, rfl⟩
  obtain ⟨ll, h10⟩ : ∃ q, decide ((a.trace.length : Int) = b.trace.length) = q := ⟨_, rfl⟩
  obtain ⟨lt, h11⟩ : ∃ q, decide (b.steps < bound) = q := ⟨_, rfl⟩
  rw [h1, h2, h3, h4, h5, h6, h7, h8, h9, h10, h11]
  refine fin_six (h := [.row 0 (encTold a), .row 0 (encTold b)]) ?_
  unfold k26
  rw [enc_told, enc_told]
  generalize hH : ([.row 0 [int a.kind, int a.trap, int a.value, int a.steps, events a.trace], .row 0 [int b.kind, int b.trap, int b.value, int b.steps, events b.trace]] : Heap) = H
  have g0 : H[0]? = some (.row 0 [int a.kind, int a.trap, int a.value, int a.steps, events a.trace]) := by rw [← hH]; rfl
  have g1 : H[1]? = some (.row 0 [int b.kind, int b.trap, int b.value, int b.steps, events b.trace]) := by rw [← hH]; rfl
  refine (seq_n (t := ⟨[(2, int bound), (3, .op 0 0), (4, .op 1 0)], H⟩) (by rw [← hH]; simp (decide := true) (implicitDefEqProofs := false) only [go_sem, cells_events, isCell_events])).trans ?_
  refine (seq_n (t := ⟨[(2, int bound), (3, .op 0 0), (4, .op 1 0), (7, int ((min a.trace.length b.trace.length : Nat) : Int))], H⟩) (by simp (decide := true) (implicitDefEqProofs := false) only [go_sem, g0, g1, op_min, len_events, hm])).trans ?_
  refine seq_seq.trans ?_
  refine (seq_n (t := ⟨[(2, int bound), (3, .op 0 0), (4, .op 1 0), (25, bool (!eq))], H⟩) (by simp (decide := true) (implicitDefEqProofs := false) only [go_sem, g0, g1, s1, s2, hE])).trans ?_
  refine (seq_cond (q := !eq) rfl).trans ?_
  unfold semB
  cases hq1 : (!eq) with
  | true => rw [if_pos rfl, if_pos rfl]; rfl
  | false =>
    rw [if_neg (by decide), if_neg (by decide)]
    refine seq_skip.trans ?_
    refine (seq_n (t := ⟨[(2, int bound), (3, .op 0 0), (4, .op 1 0), (8, bool (ka2 && ta6))], H⟩) (by cases ka2 <;> cases ta6 <;> simp (decide := true) (implicitDefEqProofs := false) only [go_sem, g0, g1, h1, h2])).trans ?_
    refine seq_seq.trans ?_
    refine (seq_n (t := ⟨[(2, int bound), (3, .op 0 0), (4, .op 1 0), (8, bool (ka2 && ta6)), (40, bool (!ka3 && !(ka2 && ta6)))], H⟩) (by generalize (ka2 && ta6) = q1; cases ka3 <;> cases q1 <;> simp (decide := true) (implicitDefEqProofs := false) only [go_sem, g0, g1, h5])).trans ?_
    refine (seq_cond (q := (!ka3 && !(ka2 && ta6))) rfl).trans ?_
    unfold semE
    cases hq2 : (!ka3 && !(ka2 && ta6)) with
    | true =>
      rw [if_pos rfl, if_pos rfl]
      refine seq_seq.trans ?_
      refine seq_seq.trans ?_
      generalize (ka2 && ta6) = q1
      refine (seq_n (t := ⟨[(2, int bound), (3, .op 0 0), (4, .op 1 0), (8, bool q1), (43, bool kb3)], H⟩) (by simp (decide := true) (implicitDefEqProofs := false) only [go_sem, g0, g1, h6])).trans ?_
      refine (seq_cond (q := kb3) rfl).trans ?_
      cases kb3 with
      | true =>
        rw [if_pos rfl, if_pos rfl]
        simp (decide := true) (implicitDefEqProofs := false) only [go_sem, g0, g1, h11]
      | false =>
        rw [if_neg (by decide), if_neg (by decide)]
        refine seq_skip.trans ?_
        refine seq_seq.trans ?_
        refine (seq_n (t := ⟨[(3, .op 0 0), (4, .op 1 0), (8, bool q1), (75, bool (((!kk || !tt) || !vv) || !ll))], H⟩) (by cases kk <;> cases tt <;> cases vv <;> cases ll <;> simp (decide := true) (implicitDefEqProofs := false) only [go_sem, g0, g1, h7, h8, h9, h10, len_events])).trans ?_
        refine (seq_cond (q := (((!kk || !tt) || !vv) || !ll)) rfl).trans ?_
        cases hq3 : (((!kk || !tt) || !vv) || !ll) with
        | true => rw [if_pos rfl, if_pos rfl]; rfl
        | false =>
          rw [if_neg (by decide), if_neg (by decide)]
          refine seq_skip.trans ?_
          cases kb2 <;> cases tb6 <;> cases ka3 <;> cases q1 <;> simp (decide := true) (implicitDefEqProofs := false) only [go_sem, g0, g1, h3, h4, h5]
    | false =>
      rw [if_neg (by decide), if_neg (by decide)]
      refine seq_skip.trans ?_
      generalize (ka2 && ta6) = q1
      cases kb2 <;> cases tb6 <;> cases ka3 <;> cases q1 <;> simp (decide := true) (implicitDefEqProofs := false) only [go_sem, g0, g1, h3, h4, h5]
end Go.Proofs.Ytahcbcgakadfpaa.Ts
