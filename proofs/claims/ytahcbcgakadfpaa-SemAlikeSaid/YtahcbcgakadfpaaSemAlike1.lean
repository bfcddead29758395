import Derived.Test.YtahcbcgakadfpaaTs
import Derived.Test.YtahcbcgakadfpaaTV
import Derived.Laws.Strings
set_option linter.unusedSimpArgs false
namespace Go.Tm
/-! ### Events and runs -/
structure Evt where
  name : ByteArray
  args : List Int
  answer : Int
  deriving DecidableEq, Inhabited
structure Sto where
  kind : Int
  trap : Int
  value : Int
  steps : Int
  trace : List Evt
  deriving Inhabited
def encEvent (e : Evt) : List C := [str e.name, ints e.args, int e.answer]
def events (l : List Evt) : C := .fs (l.flatMap encEvent) l.length none
def encTold (r : Sto) : List C := [int r.kind, int r.trap, int r.value, int r.steps, events r.trace]
def evAt (l : List Evt) (i : Int) : Evt := l.getD i.toNat default
theorem idx_events (l : List Evt) (i : Int) : idxC 3 (events l) i = if 0 ≤ i ∧ i < l.length then some (.fp (str (evAt l i).name :: ints (evAt l i).args :: int (evAt l i).answer :: restOf encEvent l i)) else none := by
  simp only [events, idxC]
  split
  · rename_i h; rw [at_flat (f := encEvent) (s := 3) (fun _ => rfl) default h]; rfl
  · rfl
theorem len_events (l : List Evt) : lenS (events l) = some (int l.length) := rfl
theorem cells_events (l : List Evt) : (events l).cells = [events l] := rfl
theorem view_events {h : Heap} {n : Nat} (l : List Evt) : view false h (n + 1) (events l) = some (events l) := view_fs _ l
theorem enc_event (e : Evt) : encEvent e = [str e.name, ints e.args, int e.answer] := rfl
theorem enc_told (r : Sto) : encTold r = [int r.kind, int r.trap, int r.value, int r.steps, events r.trace] := rfl
theorem view_event {h : Heap} {n : Nat} (e : Evt) : view false h (n + 2) (.agg (encEvent e)) = some (.agg (encEvent e)) := by
  simp [encEvent, go_sem]
theorem view_told {h : Heap} {n : Nat} (r : Sto) : view false h (n + 2) (.agg (encTold r)) = some (.agg (encTold r)) := by
  simp [encTold, go_sem, view_events]
theorem isCell_events (l : List Evt) : C.isCell (events l) = true := rfl
theorem drop_ev {l : List Evt} {i : Nat} (h : i < l.length) : l.drop i = evAt l i :: l.drop (i + 1) := by
  rw [List.drop_eq_getElem_cons h]
  unfold evAt
  rw [Int.toNat_natCast, List.getD_eq_getElem?_getD, List.getElem?_eq_getElem h]
  rfl
section
variable {P : Program} {t : TypeId} {x y : Operand}
theorem bytes_beq (a b : ByteArray) : (a.toList == b.toList) = decide (a = b) := by
  rw [ByteArray.toList_eq, ByteArray.toList_eq]
  by_cases h : a = b
  · subst h; simp
  · rw [decide_eq_false h]
    refine Bool.eq_false_iff.2 fun e => h ?_
    exact ByteArray.ext (Array.ext' (by simpa using e))
theorem bin_eqs (a b : ByteArray) : binC P .eql t x y (.v (.string a)) (.v (.string b)) = some (.v (.bool (decide (a = b)))) := by
  rw [← bytes_beq]; rfl
theorem bin_nes (a b : ByteArray) : binC P .neq t x y (.v (.string a)) (.v (.string b)) = some (.v (.bool (!decide (a = b)))) := by
  rw [← bytes_beq]; rfl
end
end Go.Tm
namespace Go.Proofs.Ytahcbcgakadfpaa.Ts
open Go.Tm Go.Tm.Tab
set_option maxRecDepth 100000
theorem bin_eqb {x y : Operand} (a b : Bool) : binC Try.prog .eql 4 x y (.v (.bool a)) (.v (.bool b)) = some (.v (.bool (a == b))) := by cases a <;> cases b <;> kernel_rfl
section
variable {vals : FuncId → Bool} {call : CallF} {n : Nat}
/-- The loop of plnref10.SameEvent. -/
theorem same_loop (a b : Evt) (hl : a.args.length = b.args.length) (hx : a.args.length < 2 ^ 62) (h : Heap) (h0 : h[0]? = some (.row 0 (encEvent a))) (h1 : h[1]? = some (.row 0 (encEvent b))) : ∀ (d i m : Nat), i + d = a.args.length → d < m →
    Tm.Loop Try.prog vals call n [2, 3, 5] k99b0 m ⟨[(2, .op 0 0), (3, .op 1 0), (5, int i)], h⟩ = some (if a.args.drop i = b.args.drop i then (.exit 0, ⟨[(2, .op 0 0), (3, .op 1 0), (5, int a.args.length), (31, bool false)], h⟩) else (.ret, ⟨[(4, bool false)], h⟩))
  | 0, i, m, hi, hm => by
    obtain ⟨m, rfl⟩ : ∃ p, m = p + 1 := ⟨m - 1, by omega⟩
    obtain rfl : i = a.args.length := by omega
    rw [Tm.Loop_succ, if_pos (by rw [List.drop_eq_nil_of_le (Nat.le_refl _), hl, List.drop_eq_nil_of_le (Nat.le_refl _)])]
    rw [enc_event] at *
    simp (implicitDefEqProofs := false) only [k99b0, go_sem, h0, h1, Int.lt_irrefl, decide_false]
  | d + 1, i, m, hi, hm => by
    obtain ⟨m, rfl⟩ : ∃ p, m = p + 1 := ⟨m - 1, by omega⟩
    have ih := same_loop a b hl hx h h0 h1 d (i + 1) m (by omega) (by omega)
    rw [Tm.Loop_succ]
    generalize Tm.Loop Try.prog vals call n [2, 3, 5] k99b0 m = L at ih ⊢
    have e1 : decide ((i : Int) < a.args.length) = true := by simp; omega
    have e2 : 0 ≤ (i : Int) ∧ (i : Int) < a.args.length := by omega
    have e3 : 0 ≤ (i : Int) ∧ (i : Int) < b.args.length := by omega
    have e4 := wrap_next (n := a.args.length) (i := i) (by omega) hx
    rw [drop_rd (xs := a.args) (i := i) (by omega), drop_rd (xs := b.args) (i := i) (by omega)]
    rw [enc_event] at *
    by_cases e : rd a.args i = rd b.args i
    · simp (decide := true) (implicitDefEqProofs := false) only [k99b0, go_sem, h0, h1, e1, e2, e3, e4, e, decide_true, Bool.not_true, List.cons.injEq, true_and]
      exact ih
    · simp (decide := true) (implicitDefEqProofs := false) only [k99b0, go_sem, h0, h1, e1, e2, e3, decide_eq_false e, Bool.not_false, List.cons.injEq, e, false_and, if_false]
end
theorem ev_ext {a b : Evt} : a = b ↔ a.name = b.name ∧ a.answer = b.answer ∧ a.args = b.args := by
  cases a; cases b; simp only [Evt.mk.injEq]; exact ⟨fun h => ⟨h.1, h.2.2, h.2.1⟩, fun h => ⟨h.1, h.2.2, h.2.1⟩⟩
theorem same_runs (a b : Evt) (hx : a.args.length < 2 ^ 62) : Runs Try.prog tab (a.args.length + 3) 99 [.agg (encEvent a), .agg (encEvent b)] (bool (decide (a = b))) := by
  refine Runs.by (rs := [.tmp 4]) (N := 45) rfl Try.func99 rfl rfl (by simp) fun k hk => ?_
  rw [show decide (a = b) = decide (a.name = b.name ∧ a.answer = b.answer ∧ a.args = b.args) from decide_eq_decide.2 ev_ext]
  by_cases c1 : a.name = b.name
  · by_cases c2 : a.answer = b.answer
    · by_cases c3 : a.args.length = b.args.length
      · have h := same_loop (vals := valsOf tab) (call := callAt Try.prog tab k) (n := k) a b c3 hx [.row 0 (encEvent a), .row 0 (encEvent b)] rfl rfl a.args.length 0 k (by omega) (by omega)
        have c3' : decide ((a.args.length : Int) = b.args.length) = true := by simp [c3]
        rw [show ((0 : Nat) : Int) = 0 from rfl, List.drop_zero, List.drop_zero] at h
        rw [enc_event, enc_event] at *
        by_cases c4 : a.args = b.args
        · rw [if_pos c4] at h
          rw [decide_eq_true (show a.name = b.name ∧ a.answer = b.answer ∧ a.args = b.args from ⟨c1, c2, c4⟩)]
          simp (decide := true) (implicitDefEqProofs := false) only [k99, go_sem, h, bin_nes, decide_eq_true c1, decide_eq_true c2, c3', Bool.not_true]
          exact ⟨_, _, rfl, rfl⟩
        · rw [if_neg c4] at h
          rw [decide_eq_false (show ¬ (a.name = b.name ∧ a.answer = b.answer ∧ a.args = b.args) from fun q => c4 q.2.2)]
          simp (decide := true) (implicitDefEqProofs := false) only [k99, go_sem, h, bin_nes, decide_eq_true c1, decide_eq_true c2, c3', Bool.not_true]
          exact ⟨_, _, rfl, rfl⟩
      · have c3' : ¬ ((a.args.length : Int) = b.args.length) := by omega
        rw [decide_eq_false (show ¬ (a.name = b.name ∧ a.answer = b.answer ∧ a.args = b.args) from fun q => c3 (by rw [q.2.2]))]
        rw [enc_event, enc_event]
        simp (decide := true) (implicitDefEqProofs := false) only [k99, go_sem, bin_nes, decide_eq_true c1, decide_eq_true c2, decide_eq_false c3', Bool.not_true, Bool.not_false]
        exact ⟨_, _, rfl, rfl⟩
    · rw [decide_eq_false (show ¬ (a.name = b.name ∧ a.answer = b.answer ∧ a.args = b.args) from fun q => c2 q.2.1)]
      rw [enc_event, enc_event]
      simp (decide := true) (implicitDefEqProofs := false) only [k99, go_sem, bin_nes, decide_eq_true c1, decide_eq_false c2, Bool.not_true, Bool.not_false]
      exact ⟨_, _, rfl, rfl⟩
  · rw [decide_eq_false (show ¬ (a.name = b.name ∧ a.answer = b.answer ∧ a.args = b.args) from fun q => c1 q.1)]
    rw [enc_event, enc_event]
    simp (decide := true) (implicitDefEqProofs := false) only [k99, go_sem, bin_nes, decide_eq_false c1, Bool.not_false]
    exact ⟨_, _, rfl, rfl⟩
/-- Is the one the beginning of the other? -/
def begins (a b : List Evt) : Bool := decide (b.take a.length = a)
section
variable {vals : FuncId → Bool} {call : CallF} {n : Nat}
theorem begins_loop (hcall : ∀ (a b : Evt) (h : Heap), a.args.length ≤ 10 → call 99 [.agg (encEvent a), .agg (encEvent b)] h = some (bool (decide (a = b)), h)) (hv : vals 99 = true) (a b : List Evt) (ha : ∀ e ∈ a, e.args.length ≤ 10) (hl : a.length ≤ b.length) (hx : a.length < 2 ^ 62) (h : Heap) : ∀ (d i m : Nat), i + d = a.length → d < m →
    Tm.Loop Try.prog vals call n [0, 1, 5] k58b0 m ⟨[(0, events a), (1, events b), (5, int i)], h⟩ = some (if (b.drop i).take d = a.drop i then (.exit 0, ⟨[(0, events a), (1, events b), (5, int a.length), (14, bool false)], h⟩) else (.ret, ⟨[(4, bool false)], h⟩))
  | 0, i, m, hi, hm => by
    obtain ⟨m, rfl⟩ : ∃ p, m = p + 1 := ⟨m - 1, by omega⟩
    obtain rfl : i = a.length := by omega
    rw [Tm.Loop_succ, if_pos (by rw [List.drop_eq_nil_of_le (Nat.le_refl _), List.take_zero])]
    simp (implicitDefEqProofs := false) only [k58b0, go_sem, len_events, Int.lt_irrefl, decide_false]
  | d + 1, i, m, hi, hm => by
    obtain ⟨m, rfl⟩ : ∃ p, m = p + 1 := ⟨m - 1, by omega⟩
    have ih := begins_loop hcall hv a b ha hl hx h d (i + 1) m (by omega) (by omega)
    rw [Tm.Loop_succ]
    generalize Tm.Loop Try.prog vals call n [0, 1, 5] k58b0 m = L at ih ⊢
    have e1 : decide ((i : Int) < a.length) = true := by simp; omega
    have e2 : 0 ≤ (i : Int) ∧ (i : Int) < a.length := by omega
    have e3 : 0 ≤ (i : Int) ∧ (i : Int) < b.length := by omega
    have e4 := wrap_next (n := a.length) (i := i) (by omega) hx
    have hm1 : evAt a i ∈ a := by
      have := drop_ev (l := a) (i := i) (by omega)
      exact List.mem_of_mem_drop (i := i) (by rw [this]; exact List.mem_cons_self ..)
    have hc := hcall (evAt a i) (evAt b i) h (ha _ hm1)
    rw [enc_event, enc_event] at hc
    rw [drop_ev (l := a) (i := i) (by omega), drop_ev (l := b) (i := i) (by omega), List.take_succ_cons]
    by_cases e : evAt a i = evAt b i
    · rw [decide_eq_true e] at hc
      simp (decide := true) (implicitDefEqProofs := false) only [k58b0, go_sem, idx_events, len_events, e1, e2, e3, e4, hc, hv, Bool.not_true]
      simp only [List.cons.injEq, e, true_and]
      exact ih
    · rw [decide_eq_false e] at hc
      have e' : ¬ evAt b i = evAt a i := fun h => e h.symm
      simp (decide := true) (implicitDefEqProofs := false) only [k58b0, go_sem, idx_events, len_events, e1, e2, e3, hc, hv, Bool.not_false]
      rw [if_neg (fun q => e' (List.cons.inj q).1)]
end
theorem begins_runs (a b : List Evt) (ha : ∀ e ∈ a, e.args.length ≤ 10) (hx : a.length ≤ 20) : Runs Try.prog tab 40 58 [events a, events b] (bool (begins a b)) := by
  refine Runs.by (rs := [.tmp 4]) (N := 27) rfl Try.func58 rfl rfl (by simp) fun k hk => ?_
  unfold begins
  by_cases c : a.length ≤ b.length
  · have h := begins_loop (vals := valsOf tab) (call := callAt Try.prog tab k) (n := k) (fun x y h hx => same_runs x y (by omega) k (by omega) _ h (by simp only [mapC_cons, mapC_nil, depth, view_event, Option.bind_some])) rfl a b ha c (by omega) [] a.length 0 k (by omega) (by omega)
    rw [show ((0 : Nat) : Int) = 0 from rfl, List.drop_zero, List.drop_zero] at h
    have c' : decide ((a.length : Int) > b.length) = false := by simp; omega
    by_cases e : b.take a.length = a
    · rw [if_pos e] at h
      simp (decide := true) (implicitDefEqProofs := false) only [k58, go_sem, len_events, c', h, decide_eq_true e]
      exact ⟨_, _, rfl, rfl⟩
    · rw [if_neg e] at h
      simp (decide := true) (implicitDefEqProofs := false) only [k58, go_sem, len_events, c', h, decide_eq_false e]
      exact ⟨_, _, rfl, rfl⟩
  · have e : ¬ b.take a.length = a := fun e => by
      have := congrArg List.length e
      rw [List.length_take] at this
      omega
    have c' : decide ((a.length : Int) > b.length) = true := by simp; omega
    simp (decide := true) (implicitDefEqProofs := false) only [k58, go_sem, len_events, c', decide_eq_false e]
    exact ⟨_, _, rfl, rfl⟩
end Go.Proofs.Ytahcbcgakadfpaa.Ts
