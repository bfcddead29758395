import Derived.Test.YtahcbcgakadfpaaTN
namespace Go.Tm
/-! ### Regions whose order is open, step by step -/
inductive Seen where
  | row (a : Nat)
  | frozen
  | other
def seenP : Option C → Seen
  | some (.op a _) => .row a
  | some (.fp _) => .frozen
  | _ => .other
@[go_sem] theorem seenP_op (a o : Nat) : seenP (some (.op a o)) = .row a := rfl
@[go_sem] theorem seenP_fp (xs : List C) : seenP (some (.fp xs)) = .frozen := rfl
def seenS : Option C → Seen
  | some (.os a _ _ _) => .row a
  | some (.fs _ _ _) => .frozen
  | some (.v _) => .frozen
  | _ => .other
@[go_sem] theorem seenS_os (a o n : Nat) (c : Option Nat) : seenS (some (.os a o n c)) = .row a := rfl
@[go_sem] theorem seenS_fs (xs : List C) (n : Nat) (c : Option Nat) : seenS (some (.fs xs n c)) = .frozen := rfl
@[go_sem] theorem seenS_v (x : Value) : seenS (some (.v x)) = .frozen := rfl
def seenOf (env : Env) : Op → Seen
  | .load _ p => seenP (ev env p)
  | .slice _ x _ _ _ => seenS (ev env x)
  | .call c => if scalCall env c = true then .frozen else .other
  | _ => .other
@[go_sem] theorem seenOf_load (e : Env) (t : TypeId) (p : Operand) : seenOf e (.load t p) = seenP (ev e p) := rfl
@[go_sem] theorem seenOf_slice (e : Env) (t : TypeId) (x : Operand) (l h m : Option Operand) : seenOf e (.slice t x l h m) = seenS (ev e x) := rfl
@[go_sem] theorem seenOf_call (e : Env) (c : Call) : seenOf e (.call c) = if scalCall e c = true then .frozen else .other := rfl
def isV : Option C → Bool
  | some (.v _) => true
  | _ => false
@[go_sem] theorem isV_v (v : Value) : isV (some (.v v)) = true := rfl
@[go_sem] theorem isV_os (a o n : Nat) (c : Option Nat) : isV (some (.os a o n c)) = false := rfl
@[go_sem] theorem isV_op (a o : Nat) : isV (some (.op a o)) = false := rfl
@[go_sem] theorem isV_om (a : Nat) : isV (some (.om a)) = false := rfl
@[go_sem] theorem isV_fs (xs : List C) (n : Nat) (c : Option Nat) : isV (some (.fs xs n c)) = false := rfl
@[go_sem] theorem isV_fp (xs : List C) : isV (some (.fp xs)) = false := rfl
@[go_sem] theorem isV_agg (xs : List C) : isV (some (.agg xs)) = false := rfl
@[go_sem] theorem isV_fn (f : FuncId) (xs : List C) : isV (some (.fn f xs)) = false := rfl
@[go_sem] theorem scalE_nil (e : Env) : scalE e [] = true := rfl
@[go_sem] theorem scalE_cons (e : Env) (x : Operand) (r : List Operand) : scalE e (x :: r) = (isV (ev e x) && scalE e r) := by
  simp only [scalE]
  cases ev e x with
  | none => rfl
  | some c => cases c <;> first | rfl | (simp [isV])
@[go_sem] theorem scalCall_func (e : Env) (f : FuncId) (xs : Array Operand) (ts : Array TypeId) : scalCall e ⟨.value (.func f), xs, ts⟩ = scalE e xs.toList := rfl
@[go_sem] theorem scalCall_tmp (e : Env) (t : Nat) (xs : Array Operand) (ts : Array TypeId) : scalCall e ⟨.value (.tmp t), xs, ts⟩ = false := rfl
@[go_sem] theorem scalCall_builtin (e : Env) (b : Builtin) (xs : Array Operand) (ts : Array TypeId) : scalCall e ⟨.builtin b, xs, ts⟩ = false := rfl
def apartS : Seen → Option Nat → Bool
  | .row a, t => decide (t ≠ some a)
  | .frozen, _ => true
  | .other, _ => false
@[go_sem] theorem apartS_none (a : Nat) : apartS (.row a) none = true := rfl
@[go_sem] theorem apartS_some (a b : Nat) : apartS (.row a) (some b) = !(Nat.beq b a) := by
  unfold apartS
  by_cases h : b = a
  · subst h; simp
  · cases hb : Nat.beq b a with
    | true => exact absurd (Nat.eq_of_beq_eq_true hb) h
    | false => simpa using h
@[go_sem] theorem apartS_frozen (t : Option Nat) : apartS .frozen t = true := rfl
@[go_sem] theorem apartS_other (t : Option Nat) : apartS .other t = false := rfl
def rowP : Option C → Option Nat
  | some (.op l _) => some l
  | _ => none
@[go_sem] theorem rowP_op (l o : Nat) : rowP (some (.op l o)) = some l := rfl
def rowS : Option C → Option Nat
  | some (.os l _ _ _) => some l
  | _ => none
@[go_sem] theorem rowS_os (l o n : Nat) (c : Option Nat) : rowS (some (.os l o n c)) = some l := rfl
@[go_sem] theorem rowS_fs (xs : List C) (n : Nat) (c : Option Nat) : rowS (some (.fs xs n c)) = none := rfl
@[go_sem] theorem rowS_v (x : Value) : rowS (some (.v x)) = none := rfl
@[go_sem] theorem touches_store (e : Env) (t : TypeId) (p x : Operand) : touches e (.store t p x) = rowP (ev e p) := by
  simp only [touches, rowP]; rfl
@[go_sem] theorem touches_append (e : Env) (x y : Operand) (ts : Array TypeId) : touches e (.call ⟨.builtin .append, #[x, y], ts⟩) = rowS (ev e x) := by
  simp [touches, rowS]; rfl
@[go_sem] theorem touches_alloc (e : Env) (t : TypeId) : touches e (.alloc t) = none := rfl
@[go_sem] theorem touches_box (e : Env) (t : TypeId) (x : Operand) : touches e (.box t x) = none := rfl
@[go_sem] theorem touches_buildSlice (e : Env) (t : TypeId) (n : Nat) (ps : Array (Nat × Operand)) : touches e (.buildSlice t n ps) = none := rfl
@[go_sem] theorem touches_makeSlice (e : Env) (t : TypeId) (x y : Operand) : touches e (.makeSlice t x y) = none := rfl
/-- All of them are among those ahead. -/
def allIn (anc : List Nat) (cs : List Nat) : Bool := cs.all fun c => anc.contains c
@[go_sem] theorem allIn_nil (anc : List Nat) : allIn anc [] = true := rfl
@[go_sem] theorem allIn_cons (anc : List Nat) (c : Nat) (cs : List Nat) : allIn anc (c :: cs) = (anc.contains c && allIn anc cs) := rfl
def lsOk (anc : List Nat) (t : Option Nat) : List (Nat × Seen) → Bool
  | [] => true
  | (i, s) :: r => (anc.contains i || apartS s t) && lsOk anc t r
@[go_sem] theorem lsOk_nil (anc : List Nat) (t : Option Nat) : lsOk anc t [] = true := rfl
@[go_sem] theorem lsOk_cons (anc : List Nat) (t : Option Nat) (i : Nat) (s : Seen) (r : List (Nat × Seen)) : lsOk anc t ((i, s) :: r) = ((anc.contains i || apartS s t) && lsOk anc t r) := rfl
@[go_sem] theorem loadOk_slice (vals : FuncId → Bool) (e : Env) (t : TypeId) (x : Operand) (l h m : Option Operand) : loadOk vals e (.slice t x l h m) = true := rfl
@[go_sem] theorem loadOk_load (vals : FuncId → Bool) (e : Env) (t : TypeId) (p : Operand) : loadOk vals e (.load t p) = true := rfl
@[go_sem] theorem loadOk_call (vals : FuncId → Bool) (e : Env) (f : FuncId) (args : Array Operand) (ats : Array TypeId) : loadOk vals e (.call ⟨.value (.func f), args, ats⟩) = vals f := rfl

def lsOkC (anc : List Nat) (h h' : Heap) : List (Nat × Seen) → Bool
  | [] => true
  | (i, s) :: r => (anc.contains i || (match s with | .row a => sameRow h h' a | .frozen => true | .other => false)) && lsOkC anc h h' r
/-- May the operation stand behind what has been loaded? -/
def fine (anc : List Nat) (env : Env) (o : Op) (h h' : Heap) (ls : List (Nat × Seen)) : Bool :=
  if isCallV o = true then lsOkC anc h h' ls && Nat.ble h.length h'.length else lsOk anc (touches env o) ls
section
variable (anc : List Nat) (e : Env) (h h' : Heap) (ls : List (Nat × Seen))
@[go_sem] theorem fine_store (t : TypeId) (p x : Operand) : fine anc e (.store t p x) h h' ls = lsOk anc (touches e (.store t p x)) ls := rfl
@[go_sem] theorem fine_alloc (t : TypeId) : fine anc e (.alloc t) h h' ls = lsOk anc (touches e (.alloc t)) ls := rfl
@[go_sem] theorem fine_box (t : TypeId) (x : Operand) : fine anc e (.box t x) h h' ls = lsOk anc (touches e (.box t x)) ls := rfl
@[go_sem] theorem fine_buildSlice (t : TypeId) (n : Nat) (ps : Array (Nat × Operand)) : fine anc e (.buildSlice t n ps) h h' ls = lsOk anc (touches e (.buildSlice t n ps)) ls := rfl
@[go_sem] theorem fine_makeSlice (t : TypeId) (x y : Operand) : fine anc e (.makeSlice t x y) h h' ls = lsOk anc (touches e (.makeSlice t x y)) ls := rfl
@[go_sem] theorem fine_builtin (b : Builtin) (xs : Array Operand) (ts : Array TypeId) : fine anc e (.call ⟨.builtin b, xs, ts⟩) h h' ls = lsOk anc (touches e (.call ⟨.builtin b, xs, ts⟩)) ls := rfl
end

def goD (P : Program) (vals : FuncId → Bool) (call : CallF) : List D → St → List (Nat × Seen) → List Nat → Option St
  | [], s, _, _ => some s
  | d :: ds, s, ls, cs => (wantedC s.env d.i.g).bind fun b =>
    if b = true then (stepOp P call none s.env s.heap d.i.op).bind fun r =>
      match d.cls with
      | .pure => goD P vals call ds (St.put ⟨s.env, r.2⟩ d.i.dst r.1) ls cs
      | .load => if (allIn d.anc cs && loadOk vals s.env d.i.op) = true then goD P vals call ds (St.put ⟨s.env, r.2⟩ d.i.dst r.1) ((d.ix, seenOf s.env d.i.op) :: ls) cs else none
      | .chain => if (allIn d.anc cs && fine d.anc s.env d.i.op s.heap r.2 ls) = true then goD P vals call ds (St.put ⟨s.env, r.2⟩ d.i.dst r.1) ls (d.ix :: cs) else none
    else goD P vals call ds (St.put s d.i.dst undefC) ls cs

theorem seen_read (env : Env) (o : Op) : seenOf env o = (match readRow env o with | some (some a) => .row a | some none => .frozen | none => .other) := by
  unfold seenOf readRow
  cases o <;> try rfl
  · rename_i t p
    simp only
    cases ev env p with
    | none => rfl
    | some c => cases c <;> rfl
  · rename_i t x lo hi mx
    simp only
    cases ev env x with
    | none => rfl
    | some c => cases c <;> rfl
  · rename_i q
    simp only
    split <;> rfl
theorem apart_seen {l r : Rec} (hv : isCallV r.d.i.op = false) : apart l r = apartS (seenOf l.env l.d.i.op) (touches r.env r.d.i.op) := by
  unfold apart rowStays
  rw [seen_read]
  cases readRow l.env l.d.i.op with
  | none => rfl
  | some o => cases o <;> simp only [hv, Bool.false_eq_true, if_false] <;> rfl
theorem apart_call {l r : Rec} (hv : isCallV r.d.i.op = true) : apart l r = (match seenOf l.env l.d.i.op with | .row a => sameRow r.heap r.heap' a | .frozen => true | .other => false) := by
  unfold apart rowStays
  rw [seen_read]
  cases readRow l.env l.d.i.op with
  | none => rfl
  | some o => cases o <;> simp only [hv, if_true]
theorem lsOk_all (r : Rec) (anc : List Nat) (hv : isCallV r.d.i.op = false) : ∀ ls : List Rec, ls.all (fun l => anc.contains l.d.ix || apart l r) = lsOk anc (touches r.env r.d.i.op) (ls.map fun l => (l.d.ix, seenOf l.env l.d.i.op))
  | [] => rfl
  | l :: ls => by
    simp only [List.all_cons, List.map_cons, lsOk, apart_seen hv, ← lsOk_all r anc hv ls]
theorem lsOkC_all (r : Rec) (anc : List Nat) (hv : isCallV r.d.i.op = true) : ∀ ls : List Rec, ls.all (fun l => anc.contains l.d.ix || apart l r) = lsOkC anc r.heap r.heap' (ls.map fun l => (l.d.ix, seenOf l.env l.d.i.op))
  | [] => rfl
  | l :: ls => by
    simp only [List.all_cons, List.map_cons, lsOkC, apart_call hv, ← lsOkC_all r anc hv ls]
theorem fine_all (r : Rec) (anc : List Nat) (ls : List Rec) : (ls.all (fun l => anc.contains l.d.ix || apart l r) && (!isCallV r.d.i.op || Nat.ble r.heap.length r.heap'.length)) = fine anc r.env r.d.i.op r.heap r.heap' (ls.map fun l => (l.d.ix, seenOf l.env l.d.i.op)) := by
  unfold fine
  cases hv : isCallV r.d.i.op with
  | true => rw [lsOkC_all r anc hv, if_pos rfl]; rfl
  | false => rw [lsOk_all r anc hv, if_neg (by decide)]; simp

theorem goD_eq {P : Program} {vals : FuncId → Bool} {call : CallF} : ∀ (ds : List D) (s : St) (ls : List Rec) (cs : List Nat),
    ((recsD P call ds s).bind fun r => if chk vals r.1 ls cs = true then some r.2 else none) = goD P vals call ds s (ls.map fun l => (l.d.ix, seenOf l.env l.d.i.op)) cs
  | [], s, ls, cs => by simp [recsD, chk, goD]
  | d :: ds, s, ls, cs => by
    simp only [recsD, recD, goD, Option.bind_eq_bind]
    cases wantedC s.env d.i.g with
    | none => rfl
    | some b =>
      simp only [Option.bind_some]
      cases b with
      | false =>
        simp only [Bool.false_eq_true, if_false, Option.bind_some]
        rw [← goD_eq ds _ ls cs]
        have e : (⟨s.env, s.heap⟩ : St) = s := rfl
        simp only [e]
        cases hr : recsD P call ds (s.put d.i.dst undefC) with
        | none => rfl
        | some r => obtain ⟨rs, s'⟩ := r; simp only [Option.bind_some, chk, Bool.false_eq_true, if_false]
      | true =>
        simp only [if_true]
        cases stepOp P call none s.env s.heap d.i.op with
        | none => rfl
        | some r =>
          simp only [Option.map_some, Option.bind_some]
          cases hc : d.cls with
          | pure =>
            simp only
            rw [← goD_eq ds _ ls cs]
            cases hr : recsD P call ds (St.put ⟨s.env, r.2⟩ d.i.dst r.1) with
            | none => rfl
            | some q => obtain ⟨rs, s'⟩ := q; simp only [Option.bind_some, chk, if_true, hc]
          | load =>
            simp only
            have := goD_eq (P := P) (call := call) (vals := vals) ds (St.put ⟨s.env, r.2⟩ d.i.dst r.1) (⟨d, s.env, s.heap, r.1, r.2, true⟩ :: ls) cs
            rw [List.map_cons] at this
            rw [← this]
            cases hr : recsD P call ds (St.put ⟨s.env, r.2⟩ d.i.dst r.1) with
            | none => simp
            | some q =>
              obtain ⟨rs, s'⟩ := q
              simp only [Option.bind_some, chk, if_true, hc, allIn, Bool.and_eq_true]
              by_cases h1 : (cs.all fun c => d.anc.contains c) = true ∧ loadOk vals s.env d.i.op = true
              · rw [if_pos h1]
                by_cases h2 : chk vals rs (⟨d, s.env, s.heap, r.1, r.2, true⟩ :: ls) cs = true
                · rw [if_pos ⟨h1, h2⟩, if_pos h2]
                · rw [if_neg (fun h => h2 h.2), if_neg h2]
              · rw [if_neg h1, if_neg (fun h => h1 h.1)]
          | chain =>
            simp only
            rw [← goD_eq ds _ ls (d.ix :: cs)]
            cases hr : recsD P call ds (St.put ⟨s.env, r.2⟩ d.i.dst r.1) with
            | none => simp
            | some q =>
              obtain ⟨rs, s'⟩ := q
              have e := fine_all ⟨d, s.env, s.heap, r.1, r.2, true⟩ d.anc ls
              simp only at e
              simp only [Option.bind_some, chk, if_true, hc, allIn, Bool.and_assoc]
              rw [← Bool.and_assoc (ls.all _), e]
              simp only [Bool.and_eq_true]
              by_cases h1 : (cs.all fun c => d.anc.contains c) = true ∧ fine d.anc s.env d.i.op s.heap r.2 (ls.map fun l => (l.d.ix, seenOf l.env l.d.i.op)) = true
              · rw [if_pos h1]
                by_cases h2 : chk vals rs ls (d.ix :: cs) = true
                · rw [if_pos ⟨h1.1, h1.2, h2⟩, if_pos h2]
                · rw [if_neg (fun h => h2 h.2.2), if_neg h2]
              · rw [if_neg h1, if_neg (fun h => h1 ⟨h.1, h.2.1⟩)]

section
variable {P : Program} {vals : FuncId → Bool} {call : CallF} {n : Nat} {e : Env} {h : Heap}
@[go_sem] theorem exec_draw' (ds : List D) (keep : List Nat) : exec P vals call n (.draw ds keep) ⟨e, h⟩ = (goD P vals call ds ⟨e, h⟩ [] []).bind fun s => some (.normal, ⟨keepE s.env keep, s.heap⟩) := by
  have := goD_eq (P := P) (vals := vals) (call := call) ds ⟨e, h⟩ [] []
  rw [List.map_nil] at this
  rw [← this]
  simp only [exec]
  cases recsD P call ds ⟨e, h⟩ with
  | none => rfl
  | some r => simp only [Option.bind_some]; split <;> rfl
@[go_sem] theorem goD_nil (s : St) (ls : List (Nat × Seen)) (cs : List Nat) : goD P vals call [] s ls cs = some s := rfl
@[go_sem] theorem goD_pure (ix : Nat) (d : Option Nat) (o : Op) (anc : List Nat) (ds : List D) (ls : List (Nat × Seen)) (cs : List Nat) : goD P vals call (⟨ix, ⟨d, o, none⟩, anc, .pure⟩ :: ds) ⟨e, h⟩ ls cs = (stepOp P call none e h o).bind fun r => goD P vals call ds (St.put ⟨e, r.2⟩ d r.1) ls cs := rfl
@[go_sem] theorem goD_load (ix : Nat) (d : Option Nat) (o : Op) (anc : List Nat) (ds : List D) (ls : List (Nat × Seen)) (cs : List Nat) : goD P vals call (⟨ix, ⟨d, o, none⟩, anc, .load⟩ :: ds) ⟨e, h⟩ ls cs = (stepOp P call none e h o).bind fun r => if (allIn anc cs && loadOk vals e o) = true then goD P vals call ds (St.put ⟨e, r.2⟩ d r.1) ((ix, seenOf e o) :: ls) cs else none := rfl
@[go_sem] theorem goD_chain (ix : Nat) (d : Option Nat) (o : Op) (anc : List Nat) (ds : List D) (ls : List (Nat × Seen)) (cs : List Nat) : goD P vals call (⟨ix, ⟨d, o, none⟩, anc, .chain⟩ :: ds) ⟨e, h⟩ ls cs = (stepOp P call none e h o).bind fun r => if (allIn anc cs && fine anc e o h r.2 ls) = true then goD P vals call ds (St.put ⟨e, r.2⟩ d r.1) ls (ix :: cs) else none := rfl
@[go_sem] theorem goD_pureg (ix : Nat) (d : Option Nat) (o : Op) (t : Nat) (b : Bool) (anc : List Nat) (ds : List D) (ls : List (Nat × Seen)) (cs : List Nat) : goD P vals call (⟨ix, ⟨d, o, some (t, b)⟩, anc, .pure⟩ :: ds) ⟨e, h⟩ ls cs = (wantedC e (some (t, b))).bind fun w => if w = true then (stepOp P call none e h o).bind fun r => goD P vals call ds (St.put ⟨e, r.2⟩ d r.1) ls cs else goD P vals call ds (St.put ⟨e, h⟩ d undefC) ls cs := rfl
@[go_sem] theorem goD_loadg (ix : Nat) (d : Option Nat) (o : Op) (t : Nat) (b : Bool) (anc : List Nat) (ds : List D) (ls : List (Nat × Seen)) (cs : List Nat) : goD P vals call (⟨ix, ⟨d, o, some (t, b)⟩, anc, .load⟩ :: ds) ⟨e, h⟩ ls cs = (wantedC e (some (t, b))).bind fun w => if w = true then (stepOp P call none e h o).bind fun r => if (allIn anc cs && loadOk vals e o) = true then goD P vals call ds (St.put ⟨e, r.2⟩ d r.1) ((ix, seenOf e o) :: ls) cs else none else goD P vals call ds (St.put ⟨e, h⟩ d undefC) ls cs := rfl
@[go_sem] theorem goD_chaing (ix : Nat) (d : Option Nat) (o : Op) (t : Nat) (b : Bool) (anc : List Nat) (ds : List D) (ls : List (Nat × Seen)) (cs : List Nat) : goD P vals call (⟨ix, ⟨d, o, some (t, b)⟩, anc, .chain⟩ :: ds) ⟨e, h⟩ ls cs = (wantedC e (some (t, b))).bind fun w => if w = true then (stepOp P call none e h o).bind fun r => if (allIn anc cs && fine anc e o h r.2 ls) = true then goD P vals call ds (St.put ⟨e, r.2⟩ d r.1) ls (ix :: cs) else none else goD P vals call ds (St.put ⟨e, h⟩ d undefC) ls cs := rfl
end
end Go.Tm
namespace Go.Tm
/-! ### A body's end -/
def fin (P : Program) (rs : List ResultVar) : Option (Ctl × St) → Option (C × Heap)
  | some (.exit _, _) => none
  | some (.normal, st) => (resC P st.env st.heap rs).map fun r => (oneOr r, st.heap)
  | some (.ret, st) => (resC P st.env st.heap rs).map fun r => (oneOr r, st.heap)
  | none => none
section
variable {P : Program} {rs : List ResultVar} {e : Env} {h : Heap}
@[go_sem] theorem fin_ret : fin P rs (some (.ret, ⟨e, h⟩)) = (resC P e h rs).map fun r => (oneOr r, h) := rfl
@[go_sem] theorem fin_normal : fin P rs (some (.normal, ⟨e, h⟩)) = (resC P e h rs).map fun r => (oneOr r, h) := rfl
@[go_sem] theorem resC_nil : resC P e h [] = some [] := rfl
@[go_sem] theorem resC_tmp (t : Nat) (r : List ResultVar) : resC P e h (.tmp t :: r) = (look e t).bind fun c => (resC P e h r).bind fun cs => some (c :: cs) := rfl
@[go_sem] theorem oneOr_one (c : C) : oneOr [c] = c := rfl
@[go_sem] theorem oneOr_none : oneOr [] = .tup [] := rfl
@[go_sem] theorem oneOr_two (a b : C) (r : List C) : oneOr (a :: b :: r) = .tup (a :: b :: r) := rfl
@[go_sem] theorem enterE_nil (i : Nat) : enterE i [] = [] := rfl
@[go_sem] theorem enterE_cons (i : Nat) (c : C) (r : List C) : enterE i (c :: r) = (i, c) :: enterE (i + 1) r := rfl
@[go_sem] theorem view_undef {cl : Bool} {n : Nat} : view cl h (n + 1) (.tup []) = some (.tup []) := rfl
end
theorem body_fin {P : Program} {vals : FuncId → Bool} {call : CallF} {n : Nat} {fn : Go.Func} {K : K} {cs : List C} {h : Heap} {N : Nat} {rs : List ResultVar} (hN : fn.ntmps = N) (hr : fn.results.toList = rs) (hl : cs.length ≤ N) :
    body P vals call n fn K cs h = fin P rs (exec P vals call n K ⟨enterE 0 cs, h⟩) := by
  unfold body
  rw [if_pos (by rw [hN]; exact hl), hr]
  cases exec P vals call n K ⟨enterE 0 cs, h⟩ with
  | none => rfl
  | some r => obtain ⟨c, st⟩ := r; cases c <;> rfl
theorem Runs.by {P : Program} {tab : Tab} {f : FuncId} {fn : Go.Func} {K : K} {vs : List C} {r : C} {N : Nat} {rs : List ResultVar} (h1 : tab f = some (K, .val)) (h2 : P.funcs[f]? = some fn) (hN : fn.ntmps = N) (hr : fn.results.toList = rs) (hl : vs.length ≤ N)
    {k0 : Nat} (h : ∀ k, k0 ≤ k → ∃ c h, fin P rs (exec P (valsOf tab) (callAt P tab k) k K ⟨enterE 0 vs, []⟩) = some (c, h) ∧ view true h depth c = some r) : Runs P tab (k0 + 1) f vs r :=
  Runs.of h1 h2 fun k hk => by
    obtain ⟨c, h', e, hv⟩ := h k hk
    exact ⟨c, h', by rw [body_fin hN hr hl]; exact e, hv⟩
end Go.Tm
attribute [go_sem] Go.Tm.Tab.t Go.Tm.Tab.n Go.Tm.Tab.T Go.Tm.Tab.F Go.Tm.Tab.nil Go.Tm.Tab.i Go.Tm.Tab.j Go.Tm.Tab.g Go.Tm.Tab.mv Go.Tm.Tab.sv Go.Tm.Tab.gv Go.Tm.Tab.bn Go.Tm.Tab.bt Go.Tm.Tab.lo Go.Tm.Tab.fl Go.Tm.Tab.xa Go.Tm.Tab.ln if_true if_false Option.bind_some Option.map_some Option.bind_none Option.map_none Bool.and_true Bool.true_and Bool.or_true Bool.true_or Bool.and_self Bool.or_self Bool.false_or Bool.or_false
attribute [go_sem] List.set_cons_zero List.set_cons_succ
