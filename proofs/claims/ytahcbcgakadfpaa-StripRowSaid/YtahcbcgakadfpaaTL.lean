import Derived.Test.YtahcbcgakadfpaaTK
namespace Go.Tm

/-! ### Facts of the types, in the form in which a run uses them -/
section
variable {P : Program} {h : Heap} {al : Option Nat}

def shiftC (p : C) (off : Nat) : Option C :=
  match p with
  | .op l o => some (.op l (o + off))
  | .fp xs => some (.fp (xs.drop off))
  | _ => none
@[go_sem] theorem shiftC_op (l o off : Nat) : shiftC (.op l o) off = some (.op l (o + off)) := rfl
@[go_sem] theorem shiftC_fp (xs : List C) (off : Nat) : shiftC (.fp xs) off = some (.fp (xs.drop off)) := rfl

theorem fieldAddr_fact {t : TypeId} {f off n : Nat} (hf : (structF P t f).bind (fun fd => (sz P fd.type).map fun n => (fd.offset, n)) = some (off, n + 1)) (p : C) : fieldAddrC P t p f = shiftC p off := by
  simp only [Option.bind_eq_some_iff, Option.map_eq_some_iff, Prod.mk.injEq] at hf
  obtain ⟨fd, h1, m, h2, h3, h4⟩ := hf
  unfold fieldAddrC
  simp only [h1, h2, Option.bind_eq_bind, Option.bind_some, h4]
  rw [if_neg (by omega)]
  cases p <;> simp [shiftC, h3]

theorem loadS_fact {t : TypeId} {n : Nat} (h1 : sz P t = some n) (h2 : aggT P t = some false) (p : C) : loadC P h t p = (cellsAt h p).bind List.head? := by
  unfold loadC fieldOf
  simp only [h1, h2, Option.bind_eq_bind, Option.bind_some, Bool.false_eq_true, if_false]
theorem loadA_fact {t : TypeId} {n : Nat} (h1 : sz P t = some n) (h2 : aggT P t = some true) (p : C) : loadC P h t p = (cellsAt h p).bind fun cs => (takeN n cs).bind fun xs => some (.agg xs) := by
  unfold loadC fieldOf
  simp only [h1, h2, Option.bind_eq_bind, Option.bind_some, if_true]
  congr 1
  funext cs
  cases takeN n cs <;> rfl
@[go_sem] theorem cellsAt_fp (xs : List C) : cellsAt h (.fp xs) = some xs := rfl
/-- A row's cells from a place on. -/
def rowAt (nd : Option Node) (off : Nat) : Option (List C) :=
  match nd with
  | some (.row _ cs) => some (cs.drop off)
  | _ => none
@[go_sem] theorem cellsAt_op (l off : Nat) : cellsAt h (.op l off) = rowAt h[l]? off := rfl
@[go_sem] theorem rowAt_row (e off : Nat) (cs : List C) : rowAt (some (.row e cs)) off = some (cs.drop off) := rfl

theorem fieldS_fact {t : TypeId} {f off n : Nat} (hf : (structF P t f).bind (fun fd => (sz P fd.type).bind fun n => (aggT P fd.type).map fun b => (fd.offset, n, b)) = some (off, n, false)) (cs : List C) : fieldC P t (.agg cs) f = (cs.drop off).head? := by
  simp only [Option.bind_eq_some_iff, Option.map_eq_some_iff, Prod.mk.injEq] at hf
  obtain ⟨fd, h1, m, h2, b, h3, h4, h5, h6⟩ := hf
  unfold fieldC fieldOf
  simp [h1, h2, h3, h4, h6]
theorem fieldA_fact {t : TypeId} {f off n : Nat} (hf : (structF P t f).bind (fun fd => (sz P fd.type).bind fun n => (aggT P fd.type).map fun b => (fd.offset, n, b)) = some (off, n, true)) (cs : List C) : fieldC P t (.agg cs) f = (takeN n (cs.drop off)).map .agg := by
  simp only [Option.bind_eq_some_iff, Option.map_eq_some_iff, Prod.mk.injEq] at hf
  obtain ⟨fd, h1, m, h2, b, h3, h4, h5, h6⟩ := hf
  unfold fieldC fieldOf
  simp [h1, h2, h3, h4, h5, h6]

/-- An element's place. -/
def idxC (s : Nat) (x : C) (n : Int) : Option C :=
  match x with
  | .os l off len _ => if 0 ≤ n ∧ n < len then some (.op l (off + n.toNat * s)) else none
  | .fs xs len _ => if 0 ≤ n ∧ n < len then some (.fp (xs.drop (n.toNat * s))) else none
  | _ => none
@[go_sem] theorem idxC_os (s l off len : Nat) (cap : Option Nat) (n : Int) : idxC s (.os l off len cap) n = if 0 ≤ n ∧ n < len then some (.op l (off + n.toNat * s)) else none := rfl
@[go_sem] theorem idxC_fs (s len : Nat) (xs : List C) (cap : Option Nat) (n : Int) : idxC s (.fs xs len cap) n = if 0 ≤ n ∧ n < len then some (.fp (xs.drop (n.toNat * s))) else none := rfl
theorem index_fact {t e : TypeId} {s : Nat} (hu : sliceE P t = some e) (hs : sz P e = some s) (x : C) (k : IntKind) (n : Int) : indexAddrC P t x (.v (.int k n)) = idxC s x n := by
  unfold indexAddrC
  simp only [intOf, Option.bind_eq_bind, Option.bind_some, sliceE_some hu, hs]
  cases x <;> rfl

def lenS : C → Option C
  | .os _ _ len _ => some (int len)
  | .fs _ len _ => some (int len)
  | .v (.slice none 0 0) => some (int 0)
  | _ => none
@[go_sem] theorem lenS_os (l off len : Nat) (cap : Option Nat) : lenS (.os l off len cap) = some (int len) := rfl
@[go_sem] theorem lenS_fs (xs : List C) (len : Nat) (cap : Option Nat) : lenS (.fs xs len cap) = some (int len) := rfl
@[go_sem] theorem lenS_nil : lenS (.v (.slice none 0 0)) = some (int 0) := rfl
theorem len_fact {t e : TypeId} (hu : sliceE P t = some e) (x : C) : lenC P t x = lenS x := by
  unfold lenC lenS
  rw [sliceE_some hu]
  cases x <;> try rfl
  rename_i v
  cases v <;> try rfl
  rename_i a l c
  cases a <;> try rfl
  cases l <;> cases c <;> rfl
theorem lenStr_fact {t : TypeId} (hu : P.underlying t = some .string) (s : ByteArray) : lenC P t (str s) = some (int s.size) := by
  unfold lenC; rw [hu]

theorem append_fact {t u e e' : TypeId} {s : Nat} {z : List C} {b : Nat} (ht : sliceE P t = some e) (hu : sliceE P u = some e') (hs : sz P e = some (s + 1)) (hz : zeroC P e = some z) (hl : z.length = s + 1) (hb : (P.info? e).map (·.bytes) = some b) (hb' : b ≤ 2 ^ 10) (d x : C) :
    appendC P h al t u d x = (srcOf h (s + 1) x).bind fun r => appendTo h al (s + 1) r.1 r.2 d := by
  simp only [Option.map_eq_some_iff] at hb
  obtain ⟨i, hi, rfl⟩ := hb
  unfold appendC
  simp only [ht, hu, hs, hz, hi, Option.bind_eq_bind, Option.bind_some]
  congr 1
  funext r
  obtain ⟨k, ys⟩ := r
  simp only
  rw [if_pos ⟨by omega, hl, hb'⟩]

theorem buildSlice_fact {t e : TypeId} {s : Nat} {z : List C} (ht : sliceE P t = some e) (hs : sz P e = some (s + 1)) (hz : zeroC P e = some z) (hl : z.length = s + 1) (n : Nat) (qs : List (Nat × C)) :
    buildSliceC P h al t n qs = (fillC (fun i => some (i * (s + 1), s + 1)) (rep n z) qs).bind fun cs => if n * (s + 1) ≤ 2 ^ 24 then some (.os (new h al (.row (s + 1) cs)).1 0 n (some n), (new h al (.row (s + 1) cs)).2) else none := by
  unfold buildSliceC rowOf
  simp only [ht, hs, hz, Option.bind_eq_bind, Option.bind_some]
  rw [if_pos ⟨by omega, hl⟩]
  rfl

theorem makeSlice_fact {t e : TypeId} {s : Nat} {z : List C} {b : Nat} (ht : sliceE P t = some e) (hs : sz P e = some (s + 1)) (hz : zeroC P e = some z) (hl : z.length = s + 1) (hb : (P.info? e).map (·.bytes) = some b) (hb' : b ≤ 2 ^ 10) (k k' : IntKind) (n c : Int) :
    makeSliceC P h al t (.v (.int k n)) (.v (.int k' c)) = if 0 ≤ n ∧ n ≤ c ∧ c ≤ maxRow then some (.os (new h al (.row (s + 1) (rep c.toNat z))).1 0 n.toNat (some c.toNat), (new h al (.row (s + 1) (rep c.toNat z))).2) else none := by
  simp only [Option.map_eq_some_iff] at hb
  obtain ⟨i, hi, rfl⟩ := hb
  unfold makeSliceC rowOf
  simp only [ht, hs, hz, hi, intOf, Option.bind_eq_bind, Option.bind_some]
  rw [if_pos (show 0 < s + 1 ∧ z.length = s + 1 from ⟨by omega, hl⟩)]
  simp only [Option.bind_some]
  by_cases hc : 0 ≤ n ∧ n ≤ c ∧ c ≤ maxRow
  · rw [if_pos ⟨hc.1, hc.2.1, hc.2.2, hb'⟩, if_pos hc]
  · rw [if_neg (fun h => hc ⟨h.1, h.2.1, h.2.2.1⟩), if_neg hc]

/-- A row with some cells written over. -/
def storeR (h : Heap) (l off n : Nat) (nd : Option Node) (ys : List C) : Option Heap :=
  match nd with
  | some (.row e cs) => if ys.length = n ∧ off + ys.length ≤ cs.length ∧ ys.all C.isCell = true then some (h.set l (.row e (put cs off ys))) else none
  | _ => none
@[go_sem] theorem storeR_row (l off n e : Nat) (cs ys : List C) : storeR h l off n (some (.row e cs)) ys = if ys.length = n ∧ off + ys.length ≤ cs.length ∧ ys.all C.isCell = true then some (h.set l (.row e (put cs off ys))) else none := rfl
theorem store_fact {t : TypeId} {n : Nat} (hs : sz P t = some n) (l off : Nat) (x : C) : storeC P h t (.op l off) x = storeR h l off n h[l]? x.cells := by
  unfold storeC storeR
  simp only [hs, Option.some.injEq]
  rfl
theorem slice_fact {t e : TypeId} {s : Nat} (hu : sliceE P t = some e) (hs : sz P e = some s) (x : C) (lo hi mx : Option C) : sliceC P h t x lo hi mx = (match x with
    | .v (.slice none 0 0) => (bnds lo hi mx 0 0).map fun _ => x
    | .os a off len cap => match h[a]? with
      | some (.row e' cs) => if e' = s then (bnds lo hi mx len (capk cap len off s cs)).map fun b => .os a (off + b.1 * s) (b.2.1 - b.1) (capLeft cap b.2.2 b.1) else none
      | _ => none
    | .fs xs len cap => (bnds lo hi mx len len).map fun b => .fs ((xs.drop (b.1 * s)).take ((b.2.1 - b.1) * s)) (b.2.1 - b.1) (capLeft cap b.2.2 b.1)
    | _ => none) := by
  unfold sliceC
  rw [sliceE_some hu]
  simp only [hs, Option.bind_some]
  cases x <;> rfl

theorem fillC_congr {p q : Nat → Option (Nat × Nat)} (h : ∀ i, p i = q i) (cells : List C) (qs : List (Nat × C)) : fillC p cells qs = fillC q cells qs := by
  have : p = q := funext h
  rw [this]
theorem build_fact {t : TypeId} {fs : Array Field} {z : List C} {pl : List (Nat × Nat)} (hu : P.underlying t = some (.struct fs)) (hz : zeroC P t = some z) (hp : fs.toList.map (fun f => (f.offset, sz P f.type)) = pl.map (fun p => (p.1, some p.2))) (qs : List (Nat × C)) :
    buildC P t qs = (fillC (fun i => pl[i]?) z qs).bind fun cs => some (.agg cs) := by
  have hall : fs.toList.all (fun f => (sz P f.type).isSome) = true := by
    rw [List.all_eq_true]
    intro f hf
    have : (f.offset, sz P f.type) ∈ fs.toList.map (fun f => (f.offset, sz P f.type)) := List.mem_map_of_mem hf
    rw [hp] at this
    obtain ⟨p, _, hp2⟩ := List.mem_map.1 this
    simp only [Prod.mk.injEq] at hp2
    rw [← hp2.2]
    rfl
  have hpl : ∀ i, places P fs.toList i = pl[i]? := fun i => by
    have := congrArg (fun l => l[i]?) hp
    simp only [List.getElem?_map] at this
    unfold places
    cases hf : fs.toList[i]? with
    | none =>
      rw [hf] at this
      cases hpi : pl[i]? with
      | none => rfl
      | some p => rw [hpi] at this; cases this
    | some f =>
      rw [hf] at this
      cases hpi : pl[i]? with
      | none => rw [hpi] at this; cases this
      | some p =>
        rw [hpi] at this
        simp only [Option.map_some, Option.some.injEq, Prod.mk.injEq] at this
        simp [this.1, this.2]
  unfold buildC
  simp only [hz, hu, Option.bind_eq_bind, Option.bind_some]
  rw [if_pos hall, fillC_congr hpl]
  cases fillC (fun i => pl[i]?) z qs <;> rfl

@[go_sem] theorem fillC_nil (p : Nat → Option (Nat × Nat)) (cells : List C) : fillC p cells [] = some cells := rfl
/-- One part. -/
def fill1 (o : Option (Nat × Nat)) (cells : List C) (x : C) : Option (List C) :=
  match o with
  | none => none
  | some (off, size) => if x.cells.length = size ∧ off + size ≤ cells.length ∧ x.cells.all C.isCell = true then some (put cells off x.cells) else none
@[go_sem] theorem fill1_some (off size : Nat) (cells : List C) (x : C) : fill1 (some (off, size)) cells x = if x.cells.length = size ∧ off + size ≤ cells.length ∧ x.cells.all C.isCell = true then some (put cells off x.cells) else none := rfl
@[go_sem] theorem fillC_cons (p : Nat → Option (Nat × Nat)) (cells : List C) (i : Nat) (x : C) (r : List (Nat × C)) : fillC p cells ((i, x) :: r) = (fill1 (p i) cells x).bind fun cs => fillC p cs r := by
  simp only [fillC, fill1]
  cases p i with
  | none => rfl
  | some q => obtain ⟨off, size⟩ := q; simp only; split <;> rfl

@[go_sem] theorem cells_v (x : Value) : (C.v x).cells = [.v x] := rfl
@[go_sem] theorem cells_fs (xs : List C) (len : Nat) (cap : Option Nat) : (C.fs xs len cap).cells = [.fs xs len cap] := rfl
@[go_sem] theorem cells_os (l off len : Nat) (cap : Option Nat) : (C.os l off len cap).cells = [.os l off len cap] := rfl
@[go_sem] theorem cells_op (l off : Nat) : (C.op l off).cells = [.op l off] := rfl
@[go_sem] theorem cells_agg (cs : List C) : (C.agg cs).cells = cs := rfl
@[go_sem] theorem isCell_v (x : Value) : (C.v x).isCell = true := rfl
@[go_sem] theorem isCell_fs (xs : List C) (len : Nat) (cap : Option Nat) : (C.fs xs len cap).isCell = true := rfl
@[go_sem] theorem isCell_os (l off len : Nat) (cap : Option Nat) : (C.os l off len cap).isCell = true := rfl
@[go_sem] theorem isCell_op (l off : Nat) : (C.op l off).isCell = true := rfl
@[go_sem] theorem isCell_ints (l : List Int) : (ints l).isCell = true := rfl
@[go_sem] theorem isCell_inss (l : List Ins) : (inss l).isCell = true := rfl
@[go_sem] theorem isCell_blocks (l : List Block) : (blocks l).isCell = true := rfl

@[go_sem] theorem new_none_1 (nd : Node) : (new h none nd).1 = h.length := rfl
@[go_sem] theorem new_none_2 (nd : Node) : (new h none nd).2 = h ++ [nd] := rfl
end

/-! ### Loops -/
section
variable {P : Program} {vals : FuncId → Bool} {call : CallF} {n : Nat}
/-- A loop's rounds. -/
def Loop (P : Program) (vals : FuncId → Bool) (call : CallF) (n : Nat) (keep : List Nat) (a : K) : Nat → St → Option (Ctl × St) :=
  iter fun s => exec P vals call n a ⟨keepE s.env keep, s.heap⟩
@[go_sem] theorem exec_loop (keep : List Nat) (a : K) (e : Env) (h : Heap) : exec P vals call n (.loop keep a) ⟨e, h⟩ = Loop P vals call n keep a n ⟨e, h⟩ := rfl
theorem Loop_succ (keep : List Nat) (a : K) (m : Nat) (e : Env) (h : Heap) : Loop P vals call n keep a (m + 1) ⟨e, h⟩ = andThen (exec P vals call n a ⟨keepE e keep, h⟩) (Loop P vals call n keep a m) := rfl

/-- What a round comes to. -/
inductive Rd (σ : Type) where
  | go (a : σ)
  | stop (r : Ctl × St)

def foldR {σ : Type} (F : Nat → σ → Rd σ) : Nat → Nat → σ → Rd σ
  | 0, _, a => .go a
  | k + 1, i, a => match F i a with
    | .go b => foldR F k (i + 1) b
    | .stop r => .stop r

/-- A loop of N rounds at most: from round i on it comes to what the fold comes to. -/
theorem Loop_fold {σ : Type} {keep : List Nat} {a : K} (s : Nat → σ → St) (I : Nat → σ → Prop) (F : Nat → σ → Rd σ) (N : Nat) (T : σ → Ctl × St) (hT : ∀ x, (T x).1 ≠ .normal)
    (step : ∀ i x, i < N → I i x → (∃ y, F i x = .go y ∧ exec P vals call n a ⟨keepE (s i x).env keep, (s i x).heap⟩ = some (.normal, s (i + 1) y) ∧ I (i + 1) y) ∨ (∃ r, F i x = .stop r ∧ r.1 ≠ .normal ∧ exec P vals call n a ⟨keepE (s i x).env keep, (s i x).heap⟩ = some r))
    (last : ∀ x, I N x → exec P vals call n a ⟨keepE (s N x).env keep, (s N x).heap⟩ = some (T x)) : ∀ (k i m : Nat) (x : σ), i + k = N → k < m → I i x →
    Loop P vals call n keep a m (s i x) = (match foldR F k i x with | .go y => some (T y) | .stop r => some r) ∧ (∀ y, foldR F k i x = .go y → I N y)
  | 0, i, m, x, hi, hm, hI => by
    obtain ⟨m, rfl⟩ : ∃ p, m = p + 1 := ⟨m - 1, by omega⟩
    obtain rfl : i = N := by omega
    have h1 := last x hI
    refine ⟨?_, fun y hy => by cases hy; exact hI⟩
    show andThen (exec P vals call n a ⟨keepE (s i x).env keep, (s i x).heap⟩) _ = _
    rw [show exec P vals call n a ⟨keepE (s i x).env keep, (s i x).heap⟩ = some (T x) from h1]
    have h2 := hT x
    show _ = some (T x)
    cases hc : T x with
    | mk c st => rw [hc] at h2; cases c <;> first | exact absurd rfl h2 | rfl
  | k + 1, i, m, x, hi, hm, hI => by
    obtain ⟨m, rfl⟩ : ∃ p, m = p + 1 := ⟨m - 1, by omega⟩
    rcases step i x (by omega) hI with ⟨y, hF, he, hI'⟩ | ⟨r, hF, hr, he⟩
    · have ih := Loop_fold s I F N T hT step last k (i + 1) m y (by omega) (by omega) hI'
      simp only [foldR, hF]
      refine ⟨?_, ih.2⟩
      rw [← ih.1]
      show andThen (exec P vals call n a ⟨keepE (s i x).env keep, (s i x).heap⟩) _ = _
      rw [show exec P vals call n a ⟨keepE (s i x).env keep, (s i x).heap⟩ = some (.normal, s (i + 1) y) from he]
      rfl
    · simp only [foldR, hF]
      refine ⟨?_, fun y hy => by cases hy⟩
      show andThen (exec P vals call n a ⟨keepE (s i x).env keep, (s i x).heap⟩) _ = _
      rw [show exec P vals call n a ⟨keepE (s i x).env keep, (s i x).heap⟩ = some r from he]
      obtain ⟨c, st⟩ := r
      cases c <;> first | exact absurd rfl hr | rfl
end
end Go.Tm
