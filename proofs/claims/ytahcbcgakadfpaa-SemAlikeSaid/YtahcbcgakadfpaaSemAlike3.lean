import Derived.Test.YtahcbcgakadfpaaSemAlike2
set_option linter.unusedSimpArgs false
namespace Go.Tm
section
variable {P : Program} {vals : FuncId → Bool} {call : CallF} {n : Nat} {A B X Y Z : K} {s t : St}
theorem seq_n (h : exec P vals call n A s = some (.normal, t)) : exec P vals call n (.seq A B) s = exec P vals call n B t := by
  simp only [exec, h, andThen]
theorem seq_seq : exec P vals call n (.seq (.seq A X) B) s = exec P vals call n (.seq A (.seq X B)) s := by
  simp only [exec]
  rcases exec P vals call n A s with _ | ⟨c, u⟩
  · rfl
  · cases c <;> rfl
theorem seq_cond {c : Operand} {q : Bool} (h : ev s.env c = some (bool q)) : exec P vals call n (.seq (.cond c X Y) B) s = if q = true then exec P vals call n (.seq X B) s else exec P vals call n (.seq Y B) s := by
  simp only [exec, h, Option.bind_some, boolOf]
  cases q <;> rfl
theorem seq_skip : exec P vals call n (.seq .skip B) s = exec P vals call n B s := rfl
theorem seq_ret (h : exec P vals call n A s = some (.ret, t)) : exec P vals call n (.seq A B) s = some (.ret, t) := by
  simp only [exec, h, andThen]
theorem fin_six {h : Heap} {q : Bool} {r : Option (Ctl × St)} (e : r = some (.ret, ⟨[(6, bool q)], h⟩)) : ∃ c h', fin P [.tmp 6] r = some (c, h') ∧ view true h' depth c = some (bool q) := by
  subst e
  exact ⟨_, _, rfl, rfl⟩
end
/-- What plnref10.Alike says, of its conditions. -/
def refE (ka2 ta6 kb2 tb6 ka3 kb3 ge : Bool) : Bool :=
  if (((!ka3 && !(ka2 && ta6)) && kb3) && ge) = true then false else ((!(kb2 && tb6) || ka3) || (ka2 && ta6))
def refB (ka2 ta6 kb2 tb6 ka3 kb3 kk tt vv ll ge bA bB : Bool) : Bool :=
  if (!bA && !bB) = true then false else
  if ((!ka3 && !kb3) && !(ka2 && ta6)) = true then (if (((!kk || !tt) || !vv) || !ll) = true then false else refE ka2 ta6 kb2 tb6 ka3 kb3 ge)
  else refE ka2 ta6 kb2 tb6 ka3 kb3 ge
/-- What sem.Alike says, of its conditions. -/
def semE (ka2 ta6 kb2 tb6 ka3 : Bool) : Bool := ((!kb2 || !tb6) || ka3) || (ka2 && ta6)
def semB (ka2 ta6 kb2 tb6 ka3 kb3 kk tt vv ll lt eq : Bool) : Bool :=
  if (!eq) = true then false else
  if (!ka3 && !(ka2 && ta6)) = true then (if kb3 = true then lt else if (((!kk || !tt) || !vv) || !ll) = true then false else semE ka2 ta6 kb2 tb6 ka3)
  else semE ka2 ta6 kb2 tb6 ka3
theorem sem_ref (ka2 ta6 kb2 tb6 ka3 kb3 kk tt vv ll lt bA bB : Bool) (h : kb3 = true → kb2 = false) : semB ka2 ta6 kb2 tb6 ka3 kb3 kk tt vv ll lt (bA || bB) = refB ka2 ta6 kb2 tb6 ka3 kb3 kk tt vv ll (!lt) bA bB := by
  cases kb3
  · unfold semB refB semE refE
    cases bA <;> cases bB <;> cases ka3 <;> cases ka2 <;> cases ta6 <;> cases kb2 <;> cases tb6 <;> cases lt <;> rfl
  · rw [h rfl]
    unfold semB refB semE refE
    cases bA <;> cases bB <;> cases ka3 <;> cases ka2 <;> cases ta6 <;> cases tb6 <;> cases lt <;> rfl
theorem take_begins (a b : List Evt) : decide (a.take (min a.length b.length) = b.take (min a.length b.length)) = (decide (b.take a.length = a) || decide (a.take b.length = b)) := by
  rw [← Bool.decide_or, decide_eq_decide]
  rcases Nat.le_total a.length b.length with h | h
  · rw [Nat.min_eq_left h, List.take_of_length_le (Nat.le_refl _)]
    constructor
    · intro e; exact .inl e.symm
    · rintro (e | e)
      · exact e.symm
      · rw [List.take_of_length_le h] at e
        rw [e, List.take_of_length_le (Nat.le_refl _)]
  · rw [Nat.min_eq_right h, List.take_of_length_le (l := b) (Nat.le_refl _)]
    constructor
    · intro e; exact .inr e
    · rintro (e | e)
      · rw [List.take_of_length_le h] at e
        rw [e, List.take_of_length_le (Nat.le_refl _)]
      · exact e
end Go.Tm
namespace Go.Proofs.Ytahcbcgakadfpaa.Ts
open Go.Tm Go.Tm.Tab
set_option maxRecDepth 100000
theorem ref_runs (a b : Sto) (bound : Int) (la : a.trace.length ≤ 20) (lb : b.trace.length ≤ 20) (ha : ∀ e ∈ a.trace, e.args.length ≤ 10) (hb : ∀ e ∈ b.trace, e.args.length ≤ 10) :
    Runs Try.prog tab 50 27 [.agg (encTold a), .agg (encTold b), int bound] (bool (refB (decide (a.kind = 2)) (decide (a.trap = 6)) (decide (b.kind = 2)) (decide (b.trap = 6)) (decide (a.kind = 3)) (decide (b.kind = 3)) (decide (a.kind = b.kind)) (decide (a.trap = b.trap)) (decide (a.value = b.value)) (decide ((a.trace.length : Int) = b.trace.length)) (decide (b.steps ≥ bound)) (begins a.trace b.trace) (begins b.trace a.trace))) := by
  refine Runs.by (rs := [.tmp 6]) (N := 107) rfl Try.func27 rfl rfl (by simp) fun k hk => ?_
  have hA : ∀ h, callAt Try.prog tab k 58 [events a.trace, events b.trace] h = some (bool (begins a.trace b.trace), h) := fun h => begins_runs _ _ ha la k (by omega) _ h (by simp only [mapC_cons, mapC_nil, depth, view_events, Option.bind_some])
  have hB : ∀ h, callAt Try.prog tab k 58 [events b.trace, events a.trace] h = some (bool (begins b.trace a.trace), h) := fun h => begins_runs _ _ hb lb k (by omega) _ h (by simp only [mapC_cons, mapC_nil, depth, view_events, Option.bind_some])
  generalize begins a.trace b.trace = bA at hA ⊢
  generalize begins b.trace a.trace = bB at hB ⊢
  obtain ⟨ka2, h1⟩ : ∃ q, decide (a.kind = 2) = q := ⟨_, rfl⟩
  obtain ⟨ta6, h2⟩ : ∃ q, decide (a.trap = 6) = q := ⟨_, rfl⟩
  obtain ⟨kb2, h3⟩ : ∃ q, decide (b.kind = 2) = q := ⟨_, rfl⟩
  obtain ⟨tb6, h4⟩ : ∃ q, decide (b.trap = 6) = q := ⟨_, rfl⟩
  obtain ⟨ka3, h5⟩ : ∃ q, decide (a.kind = 3) = q := ⟨_, rfl⟩
  obtain ⟨kb3, h6⟩ : ∃ q, decide (b.kind = 3) = q := ⟨_, rfl⟩
  obtain ⟨kk, h7⟩ : ∃ q, decide (a.kind = b.kind) = q := ⟨_, rfl⟩
  obtain ⟨tt, h8⟩ : ∃ q, decide (a.trap = b.trap) = q := ⟨_, rfl⟩
  obtain ⟨vv, h9⟩ : ∃ q, decide (a.value = b.value) = q := ⟨_, rfl⟩
  obtain ⟨ll, h10⟩ : ∃ q, decide ((a.trace.length : Int) = b.trace.length) = q := ⟨_, rfl⟩
  obtain ⟨ge, h11⟩ : ∃ q, decide (b.steps ≥ bound) = q := ⟨_, rfl⟩
  rw [h1, h2, h3, h4, h5, h6, h7, h8, h9, h10, h11]
  refine fin_six (h := [.row 0 (encTold a), .row 0 (encTold b)]) ?_
  unfold k27
  rw [enc_told, enc_told]
  generalize hH : ([.row 0 [int a.kind, int a.trap, int a.value, int a.steps, events a.trace], .row 0 [int b.kind, int b.trap, int b.value, int b.steps, events b.trace]] : Heap) = H
  have g0 : H[0]? = some (.row 0 [int a.kind, int a.trap, int a.value, int a.steps, events a.trace]) := by rw [← hH]; rfl
  have g1 : H[1]? = some (.row 0 [int b.kind, int b.trap, int b.value, int b.steps, events b.trace]) := by rw [← hH]; rfl
  refine (seq_n (t := ⟨[(2, int bound), (3, .op 0 0), (4, .op 1 0)], H⟩) (by rw [← hH]; simp (decide := true) (implicitDefEqProofs := false) only [go_sem, cells_events, isCell_events])).trans ?_
  refine seq_seq.trans ?_
  refine (seq_n (t := ⟨[(2, int bound), (3, .op 0 0), (4, .op 1 0), (22, bool (!bA && !bB))], H⟩) (by cases bA <;> cases bB <;> simp (decide := true) (implicitDefEqProofs := false) only [go_sem, g0, g1, hA, hB])).trans ?_
  refine (seq_cond (q := (!bA && !bB)) rfl).trans ?_
  unfold refB
  cases hq1 : (!bA && !bB) with
  | true => rw [if_pos rfl, if_pos rfl]; rfl
  | false =>
    rw [if_neg (by decide), if_neg (by decide)]
    refine seq_skip.trans ?_
    refine (seq_n (t := ⟨[(2, int bound), (3, .op 0 0), (4, .op 1 0), (7, bool (ka2 && ta6)), (8, bool (kb2 && tb6))], H⟩) (by cases ka2 <;> cases ta6 <;> cases kb2 <;> cases tb6 <;> simp (decide := true) (implicitDefEqProofs := false) only [go_sem, g0, g1, h1, h2, h3, h4])).trans ?_
    refine seq_seq.trans ?_
    refine (seq_n (t := ⟨[(2, int bound), (3, .op 0 0), (4, .op 1 0), (7, bool (ka2 && ta6)), (8, bool (kb2 && tb6)), (50, bool ((!ka3 && !kb3) && !(ka2 && ta6)))], H⟩) (by generalize (ka2 && ta6) = q1; generalize (kb2 && tb6) = q2; cases ka3 <;> cases kb3 <;> cases q1 <;> simp (decide := true) (implicitDefEqProofs := false) only [go_sem, g0, g1, h5, h6])).trans ?_
    refine (seq_cond (q := ((!ka3 && !kb3) && !(ka2 && ta6))) rfl).trans ?_
    unfold refE
    cases hq2 : ((!ka3 && !kb3) && !(ka2 && ta6)) with
    | true =>
      rw [if_pos rfl, if_pos rfl]
      refine seq_seq.trans ?_
      generalize (ka2 && ta6) = q1
      generalize (kb2 && tb6) = q2
      refine (seq_n (t := ⟨[(2, int bound), (3, .op 0 0), (4, .op 1 0), (7, bool q1), (8, bool q2), (78, bool (((!kk || !tt) || !vv) || !ll))], H⟩) (by cases kk <;> cases tt <;> cases vv <;> cases ll <;> simp (decide := true) (implicitDefEqProofs := false) only [go_sem, g0, g1, h7, h8, h9, h10, len_events])).trans ?_
      refine (seq_cond (q := (((!kk || !tt) || !vv) || !ll)) rfl).trans ?_
      cases hq3 : (((!kk || !tt) || !vv) || !ll) with
      | true => rw [if_pos rfl, if_pos rfl]; rfl
      | false =>
        rw [if_neg (by decide), if_neg (by decide)]
        refine seq_skip.trans ?_
        refine seq_seq.trans ?_
        refine (seq_n (t := ⟨[(3, .op 0 0), (7, bool q1), (8, bool q2), (96, bool (((!ka3 && !q1) && kb3) && ge))], H⟩) (by cases ka3 <;> cases q1 <;> cases kb3 <;> cases ge <;> simp (decide := true) (implicitDefEqProofs := false) only [go_sem, g0, g1, h5, h6, h11])).trans ?_
        refine (seq_cond (q := (((!ka3 && !q1) && kb3) && ge)) rfl).trans ?_
        cases hq4 : (((!ka3 && !q1) && kb3) && ge) with
        | true => rw [if_pos rfl, if_pos rfl]; rfl
        | false =>
          rw [if_neg (by decide), if_neg (by decide)]
          refine seq_skip.trans ?_
          cases ka3 <;> cases q1 <;> cases q2 <;> simp (decide := true) (implicitDefEqProofs := false) only [go_sem, g0, g1, h5]
    | false =>
      rw [if_neg (by decide), if_neg (by decide)]
      refine seq_skip.trans ?_
      generalize (ka2 && ta6) = q1
      generalize (kb2 && tb6) = q2
      refine seq_seq.trans ?_
      refine (seq_n (t := ⟨[(3, .op 0 0), (7, bool q1), (8, bool q2), (96, bool (((!ka3 && !q1) && kb3) && ge))], H⟩) (by cases ka3 <;> cases q1 <;> cases kb3 <;> cases ge <;> simp (decide := true) (implicitDefEqProofs := false) only [go_sem, g0, g1, h5, h6, h11])).trans ?_
      refine (seq_cond (q := (((!ka3 && !q1) && kb3) && ge)) rfl).trans ?_
      cases hq4 : (((!ka3 && !q1) && kb3) && ge) with
      | true => rw [if_pos rfl, if_pos rfl]; rfl
      | false =>
        rw [if_neg (by decide), if_neg (by decide)]
        refine seq_skip.trans ?_
        cases ka3 <;> cases q1 <;> cases q2 <;> simp (decide := true) (implicitDefEqProofs := false) only [go_sem, g0, g1, h5]
end Go.Proofs.Ytahcbcgakadfpaa.Ts
