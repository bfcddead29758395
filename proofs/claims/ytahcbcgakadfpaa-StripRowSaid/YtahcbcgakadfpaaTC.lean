import Derived.Test.YtahcbcgakadfpaaTA
namespace Go.Tm

/-! ### Regions whose order is open -/
def opTmps (l : List Operand) : List Nat := l.filterMap fun | .tmp t => some t | _ => none
/-- The tmps that an operation looks at. -/
def uses (i : I) : List Nat := opTmps i.op.operands.toList ++ (match i.g with | some (t, _) => [t] | none => [])

def agree (l : List Nat) (e e' : Env) : Prop := ∀ t ∈ l, look e t = look e' t

theorem ev_agree {l : List Operand} {e e' : Env} (h : agree (opTmps l) e e') {x : Operand} (hx : x ∈ l) : ev e x = ev e' x := by
  cases x with
  | tmp t => exact h t (List.mem_filterMap.2 ⟨_, hx, rfl⟩)
  | _ => rfl

theorem evs_agree {l : List Operand} {e e' : Env} (h : agree (opTmps l) e e') : ∀ {xs : List Operand}, (∀ x ∈ xs, x ∈ l) → evs e xs = evs e' xs
  | [], _ => rfl
  | x :: xs, hx => by
    simp only [evs, ev_agree h (hx x (by simp)), evs_agree h (xs := xs) (fun y hy => hx y (List.mem_cons_of_mem _ hy))]

theorem evParts_agree {l : List Operand} {e e' : Env} (h : agree (opTmps l) e e') : ∀ {xs : List (Nat × Operand)}, (∀ x ∈ xs, x.2 ∈ l) → evParts e xs = evParts e' xs
  | [], _ => rfl
  | (i, x) :: xs, hx => by
    simp only [evParts, ev_agree h (hx (i, x) (by simp)), evParts_agree h (xs := xs) (fun y hy => hx y (List.mem_cons_of_mem _ hy))]

theorem evo_agree {l : List Operand} {e e' : Env} (h : agree (opTmps l) e e') {x : Option Operand} (hx : ∀ y, x = some y → y ∈ l) : evo e x = evo e' x := by
  cases x with
  | none => rfl
  | some x => simp only [evo, ev_agree h (hx x rfl)]

theorem stepOp_agree {P : Program} {call : CallF} {al : Option Nat} {h : Heap} {o : Op} {e e' : Env} (ha : agree (opTmps o.operands.toList) e e') : stepOp P call al e h o = stepOp P call al e' h o := by
  have E : ∀ x, x ∈ o.operands.toList → ev e x = ev e' x := fun x hx => ev_agree ha hx
  cases o with
  | move x => simp only [stepOp, E x (by simp [Op.operands])]
  | assign x => simp only [stepOp, E x (by simp [Op.operands])]
  | pick c a b => simp only [stepOp, E c (by simp [Op.operands]), E a (by simp [Op.operands]), E b (by simp [Op.operands])]
  | box t x => simp only [stepOp, E x (by simp [Op.operands])]
  | build t ps => simp only [stepOp, evParts_agree ha (xs := ps.toList) (fun x hx => by simp [Op.operands]; exact ⟨x.1, by simpa using hx⟩)]
  | buildSlice t n ps => simp only [stepOp, evParts_agree ha (xs := ps.toList) (fun x hx => by simp [Op.operands]; exact ⟨x.1, by simpa using hx⟩)]
  | load t x => simp only [stepOp, E x (by simp [Op.operands])]
  | store t x y => simp only [stepOp, E x (by simp [Op.operands]), E y (by simp [Op.operands])]
  | nilCheck x => simp only [stepOp, E x (by simp [Op.operands])]
  | binOp b t x y u => simp only [stepOp, E x (by simp [Op.operands]), E y (by simp [Op.operands])]
  | unOp b t x => simp only [stepOp, E x (by simp [Op.operands])]
  | convert s d x => simp only [stepOp, E x (by simp [Op.operands])]
  | makeFunc f first caps => simp only [stepOp, evs_agree ha (xs := caps.toList) (fun x hx => by simp [Op.operands]; exact .inr (by simpa using hx))]
  | makeSlice t x y => simp only [stepOp, E x (by simp [Op.operands]), E y (by simp [Op.operands])]
  | slice t x lo hi mx =>
    simp only [stepOp, E x (by simp [Op.operands]), evo_agree ha (x := lo) (fun y hy => by subst hy; simp [Op.operands]), evo_agree ha (x := hi) (fun y hy => by subst hy; simp [Op.operands]), evo_agree ha (x := mx) (fun y hy => by subst hy; simp [Op.operands])]
  | fieldAddr t x f => simp only [stepOp, E x (by simp [Op.operands])]
  | field t x f => simp only [stepOp, E x (by simp [Op.operands])]
  | indexAddr t x y => simp only [stepOp, E x (by simp [Op.operands]), E y (by simp [Op.operands])]
  | index t x y => simp only [stepOp, E x (by simp [Op.operands]), E y (by simp [Op.operands])]
  | extract x i => simp only [stepOp, E x (by simp [Op.operands])]
  | makeMap t r => cases r <;> simp only [stepOp]
  | lookup t x i b => simp only [stepOp, E x (by simp [Op.operands]), E i (by simp [Op.operands])]
  | mapUpdate t m k v => simp only [stepOp, E m (by simp [Op.operands]), E k (by simp [Op.operands]), E v (by simp [Op.operands])]
  | call c =>
    obtain ⟨cal, args, ats⟩ := c
    have harg : ∀ x, x ∈ args.toList → x ∈ (Op.call { callee := cal, args := args, argTypes := ats }).operands.toList := fun x hx => by
      simp only [Op.operands, Call.operands, Array.toList_append, List.mem_append]
      exact .inr hx
    have hat : ∀ (i : Nat) (x : Operand), args[i]? = some x → ev e x = ev e' x := fun i x hx => E x (harg x (Array.mem_toList_iff.2 (Array.mem_of_getElem? hx)))
    have hargs := evs_agree ha (xs := args.toList) harg
    cases cal with
    | builtin b =>
      cases b <;> simp only [stepOp, hargs]
      case len =>
        cases h0 : args[0]? with
        | none => rfl
        | some x => simp only [Option.bind_eq_bind, Option.bind_some, hat 0 x h0]
      case append =>
        cases h0 : args[0]? with
        | none => rfl
        | some x => cases h1 : args[1]? with
          | none => rfl
          | some y => simp only [Option.bind_eq_bind, Option.bind_some, hat 0 x h0, hat 1 y h1]
      case copy =>
        cases h0 : args[0]? with
        | none => rfl
        | some x => cases h1 : args[1]? with
          | none => rfl
          | some y => simp only [Option.bind_eq_bind, Option.bind_some, hat 0 x h0, hat 1 y h1]
      case clear =>
        cases h0 : args[0]? with
        | none => rfl
        | some x => simp only [Option.bind_eq_bind, Option.bind_some, hat 0 x h0]
    | invoke r m => simp only [stepOp, calleeOf]; rfl
    | value f =>
      have hf : ev e f = ev e' f := E f (by simp [Op.operands, Call.operands])
      simp only [stepOp, calleeOf, hf, hargs]
  | _ => rfl

theorem wantedC_agree {e e' : Env} {g : Option (Nat × Bool)} (h : ∀ t b, g = some (t, b) → look e t = look e' t) : wantedC e g = wantedC e' g := by
  cases g with
  | none => rfl
  | some x => obtain ⟨t, b⟩ := x; simp only [wantedC, h t b rfl]

/-! #### Who looks at the heap -/
/-- An operation that has nothing to do with the heap. -/
def pureOk : Op → Bool
  | .move _ | .assign _ | .pick .. | .build .. | .nilCheck _ | .binOp .. | .unOp .. | .makeFunc .. | .fieldAddr .. | .field .. | .indexAddr .. | .index .. | .extract .. => true
  | .call c => match c.callee with
    | .builtin .len | .builtin .min | .builtin .max => true
    | _ => false
  | _ => false

/-- An operation that turns the heap, in a way that 'touches' tells. -/
def chainOk0 : Op → Bool
  | .alloc _ | .box .. | .buildSlice .. | .makeSlice .. | .store .. => true
  | .call c => match c.callee with
    | .builtin .append | .builtin .copy => true
    | _ => false
  | _ => false

/-- .. or a call, of which the check itself asks what it has done. -/
def chainOk (o : Op) : Bool := chainOk0 o || isCallV o

theorem pure_any {P : Program} {call : CallF} {al : Option Nat} {env : Env} {h h' : Heap} {o : Op} (ho : pureOk o = true) {c : C} (hs : stepOp P call al env h o = some (c, h')) : h' = h ∧ ∀ k, stepOp P call al env k o = some (c, k) := by
  cases o <;> simp only [pureOk, Bool.false_eq_true] at ho
  case call k =>
    obtain ⟨cal, args, ats⟩ := k
    cases cal with
    | builtin b =>
      cases b <;> simp only [Bool.false_eq_true] at ho
      all_goals simp only [stepOp, Option.bind_eq_bind, Option.bind_eq_some_iff, Option.some.injEq, Prod.mk.injEq] at hs
      case len =>
        obtain ⟨t, h1, x, h2, d, h3, r, h4, rfl, rfl⟩ := hs
        exact ⟨rfl, fun k => by simp [stepOp, h1, h2, h3, h4]⟩
      case max =>
        obtain ⟨t, h1, x, h2, r, h3, rfl, rfl⟩ := hs
        exact ⟨rfl, fun k => by simp [stepOp, h1, h2, h3]⟩
      case min =>
        obtain ⟨t, h1, x, h2, r, h3, rfl, rfl⟩ := hs
        exact ⟨rfl, fun k => by simp [stepOp, h1, h2, h3]⟩
    | invoke r m => cases ho
    | value f => cases ho
  case pick x y z =>
    simp only [stepOp, Option.bind_eq_bind, Option.bind_eq_some_iff] at hs
    obtain ⟨t, h1, b, h2, h3⟩ := hs
    cases b with
    | true =>
      simp only [if_true, Option.bind_eq_some_iff, Option.some.injEq, Prod.mk.injEq] at h3
      obtain ⟨r, h3, rfl, rfl⟩ := h3
      exact ⟨rfl, fun k => by simp [stepOp, h1, h2, h3]⟩
    | false =>
      simp only [Bool.false_eq_true, if_false, Option.bind_eq_some_iff, Option.some.injEq, Prod.mk.injEq] at h3
      obtain ⟨r, h3, rfl, rfl⟩ := h3
      exact ⟨rfl, fun k => by simp [stepOp, h1, h2, h3]⟩
  case nilCheck x =>
    simp only [stepOp, Option.bind_eq_bind, Option.bind_eq_some_iff] at hs
    obtain ⟨t, h1, h2⟩ := hs
    split at h2
    · rename_i hc
      cases h2
      exact ⟨rfl, fun k => by simp [stepOp, h1, hc]⟩
    · cases h2
  case makeFunc f first caps =>
    simp only [stepOp, Option.bind_eq_bind, Option.bind_eq_some_iff] at hs
    obtain ⟨t, h1, h2⟩ := hs
    split at h2
    · split at h2
      · rename_i hc
        cases h2
        exact ⟨rfl, fun k => by simp [stepOp, h1, hc]⟩
      · cases h2
    · cases h2
  all_goals
    simp only [stepOp, Option.bind_eq_bind, Option.bind_eq_some_iff, Option.some.injEq, Prod.mk.injEq] at hs
    first
    | (obtain ⟨t, h1, rfl, rfl⟩ := hs; exact ⟨rfl, fun k => by simp [stepOp, h1]⟩)
    | (obtain ⟨t, h1, u, h2, rfl, rfl⟩ := hs; exact ⟨rfl, fun k => by simp [stepOp, h1, h2]⟩)
    | (obtain ⟨t, h1, u, h2, v, h3, rfl, rfl⟩ := hs; exact ⟨rfl, fun k => by simp [stepOp, h1, h2, h3]⟩)

/-- Calls by value leave the heap as it is. -/
def ValsOk (vals : FuncId → Bool) (call : CallF) : Prop := ∀ f cs h c h', vals f = true → call f cs h = some (c, h') → h' = h ∧ ∀ k, ((∀ x ∈ cs, ∃ v, x = .v v) ∨ ∀ (l : Nat) (nd : Node), h[l]? = some nd → k[l]? = some nd) → call f cs k = some (c, k)

theorem load_any {P : Program} {call : CallF} {vals : FuncId → Bool} (hv : ValsOk vals call) {al : Option Nat} {env : Env} {h h' : Heap} {o : Op} (ho : loadOk vals env o = true) {c : C} (hs : stepOp P call al env h o = some (c, h')) : h' = h := by
  cases o <;> simp only [loadOk, Bool.false_eq_true, reduceCtorEq] at ho
  case load t x =>
    simp only [stepOp, Option.bind_eq_bind, Option.bind_eq_some_iff, Option.some.injEq, Prod.mk.injEq] at hs
    obtain ⟨_, _, _, _, _, rfl⟩ := hs
    rfl
  case slice t x lo hi mx =>
    simp only [stepOp, Option.bind_eq_bind, Option.bind_eq_some_iff, Option.some.injEq, Prod.mk.injEq] at hs
    obtain ⟨_, _, _, _, _, _, _, _, _, _, _, rfl⟩ := hs
    rfl
  case call k =>
    obtain ⟨cal, args, ats⟩ := k
    cases cal with
    | builtin b => simp [calleeOf] at ho
    | invoke r m => simp [calleeOf] at ho
    | value f =>
      simp only [stepOp, Option.bind_eq_bind, Option.bind_eq_some_iff] at hs
      obtain ⟨⟨g, caps⟩, hg, cs, hc, hcall⟩ := hs
      simp only [hg] at ho
      exact (hv _ _ _ _ _ ho hcall).1

theorem cellsAt_row {h k : Heap} {l off : Nat} (e : h[l]? = k[l]?) : cellsAt h (.op l off) = cellsAt k (.op l off) := by simp only [cellsAt, e]

/-- What is loaded hangs on one row alone. -/
theorem load_row {P : Program} {call : CallF} {al : Option Nat} {env : Env} {h k : Heap} {t : TypeId} {x : Operand} {p c : C} {h' : Heap} (hp : ev env x = some p) (hrow : ∀ l off, p = .op l off → h[l]? = k[l]?)
    (hs : stepOp P call al env h (.load t x) = some (c, h')) : stepOp P call al env k (.load t x) = some (c, k) := by
  simp only [stepOp, hp, Option.bind_eq_bind, Option.bind_some, Option.bind_eq_some_iff, Option.some.injEq, Prod.mk.injEq] at hs
  obtain ⟨r, hr, rfl, rfl⟩ := hs
  have hr2 : loadC P k t p = some r := by
    unfold loadC at hr ⊢
    cases p with
    | op l off => rw [← cellsAt_row (hrow l off rfl)]; exact hr
    | fp xs => exact hr
    | _ => simp [cellsAt] at hr
  simp [stepOp, hp, hr2]

theorem sliceC_row {P : Program} {h k : Heap} {t : TypeId} {x : C} {lo hi mx : Option C} (hrow : ∀ l off len cap, x = .os l off len cap → h[l]? = k[l]?) : sliceC P h t x lo hi mx = sliceC P k t x lo hi mx := by
  by_cases hx : ∃ l off len cap, x = .os l off len cap
  · obtain ⟨l, off, len, cap, rfl⟩ := hx
    have e := hrow l off len cap rfl
    unfold sliceC
    simp only [e]
  · unfold sliceC
    cases P.underlying t with
    | none => rfl
    | some d =>
      cases d <;> try rfl
      simp only
      congr 1
      funext s
      cases x with
      | os l off len cap => exact absurd ⟨_, _, _, _, rfl⟩ hx
      | v y =>
        cases y <;> try rfl
        rename_i a l c
        cases a <;> try rfl
        cases l <;> cases c <;> rfl
      | _ => rfl
theorem scalE_evs {env : Env} : ∀ {xs : List Operand} {cs : List C}, scalE env xs = true → evs env xs = some cs → ∀ x ∈ cs, ∃ v, x = C.v v
  | [], cs, _, h => by cases h; intro x hx; cases hx
  | y :: xs, cs, hsc, h => by
    simp only [evs, Option.bind_eq_bind, Option.bind_eq_some_iff, Option.some.injEq] at h
    obtain ⟨c, h1, ds, h2, rfl⟩ := h
    simp only [scalE, h1] at hsc
    split at hsc
    · rename_i v hv
      cases hv
      intro x hx
      rcases List.mem_cons.1 hx with rfl | hx
      · exact ⟨_, rfl⟩
      · exact scalE_evs hsc h2 x hx
    · cases hsc
theorem read_row {P : Program} {call : CallF} {vals : FuncId → Bool} (hv : ValsOk vals call) {al : Option Nat} {env : Env} {h k : Heap} {o : Op} {ro : Option Nat} {c : C} {h' : Heap} (ho : loadOk vals env o = true) (hr : readRow env o = some ro) (hrow : ∀ a, ro = some a → h[a]? = k[a]?)
    (hs : stepOp P call al env h o = some (c, h')) : stepOp P call al env k o = some (c, k) := by
  cases o <;> simp only [readRow, reduceCtorEq] at hr
  case load t x =>
    cases hp : ev env x with
    | none => simp [stepOp, hp] at hs
    | some p =>
      refine load_row hp (fun l off e => ?_) hs
      subst e
      rw [hp] at hr
      exact hrow l (by simpa using hr.symm)
  case slice t x lo hi mx =>
    simp only [stepOp, Option.bind_eq_bind, Option.bind_eq_some_iff, Option.some.injEq, Prod.mk.injEq] at hs ⊢
    obtain ⟨p, hp, l, hl, m, hm, n, hn, r, hq, rfl, rfl⟩ := hs
    refine ⟨p, hp, l, hl, m, hm, n, hn, r, ?_, rfl, trivial⟩
    rw [← hq]
    refine (sliceC_row fun l off len cap e => ?_).symm
    subst e
    rw [hp] at hr
    exact hrow l (by simpa using hr.symm)
  case call q =>
    split at hr
    · rename_i hsc
      obtain ⟨cal, args, ats⟩ := q
      unfold scalCall at hsc
      split at hsc
      · rename_i f hcal
        simp only at hcal
        subst hcal
        simp only [stepOp, Option.bind_eq_bind, Option.bind_eq_some_iff] at hs ⊢
        obtain ⟨⟨g, caps⟩, hg, cs, hc, hcall⟩ := hs
        simp only [loadOk, hg] at ho
        have hg' : g = f ∧ caps = [] := by simp only [calleeOf, ev, fnOf, Option.bind_some, Option.some.injEq, Prod.mk.injEq] at hg; exact ⟨hg.1.symm, hg.2.symm⟩
        obtain ⟨rfl, rfl⟩ := hg'
        refine ⟨(g, []), hg, cs, hc, ?_⟩
        simp only [List.append_nil] at hcall ⊢
        exact (hv _ _ _ _ _ ho hcall).2 k (.inl (scalE_evs hsc hc))
      · cases hsc
    · cases hr
theorem read_lt {P : Program} {call : CallF} {al : Option Nat} {env : Env} {h : Heap} {o : Op} {a : Nat} {c : C} {h' : Heap} (hr : readRow env o = some (some a)) (hs : stepOp P call al env h o = some (c, h')) : a < h.length := by
  cases o <;> simp only [readRow, reduceCtorEq] at hr
  case load t x =>
    split at hr
    · rename_i l off hzl
      cases hr
      simp only [stepOp, hzl, Option.bind_eq_bind, Option.bind_some, Option.bind_eq_some_iff] at hs
      obtain ⟨c, hc, _⟩ := hs
      simp only [loadC, cellsAt, Option.bind_eq_bind, Option.bind_eq_some_iff] at hc
      obtain ⟨cs, hcs, _⟩ := hc
      split at hcs
      · rename_i e cs' hl; exact (List.getElem?_eq_some_iff.1 hl).1
      · cases hcs
    · cases hr
    · cases hr
  case call q =>
    split at hr
    · simp only [Option.some.injEq, reduceCtorEq] at hr
    · cases hr
  case slice t x lo hi mx =>
    split at hr
    · rename_i l off len cap hzl
      cases hr
      simp only [stepOp, hzl, Option.bind_eq_bind, Option.bind_some, Option.bind_eq_some_iff, Option.some.injEq, Prod.mk.injEq] at hs
      obtain ⟨l, hl, m, hm, n, hn, r, hq, rfl, rfl⟩ := hs
      unfold sliceC at hq
      split at hq
      · cases hq
      · simp only [Option.bind_eq_some_iff] at hq
        obtain ⟨s, _, hq⟩ := hq
        split at hq
        · rename_i e cs' hl'; exact (List.getElem?_eq_some_iff.1 hl').1
        · cases hq
      · cases hq
    · cases hr
    · cases hr
    · cases hr
theorem new_keeps (h : Heap) (nd : Node) {l : Nat} (hl : l < h.length) : (new h none nd).2[l]? = h[l]? := by
  simp only [new]; rw [List.getElem?_append_left hl]

theorem appendTo_keeps {h h' : Heap} {s k : Nat} {ys : List C} {d c : C} (ha : appendTo h none s k ys d = some (c, h')) {l : Nat} (hl : l < h.length) (hne : ∀ a off len cap, d = .os a off len cap → l ≠ a) : h'[l]? = h[l]? := by
  unfold appendTo at ha
  split at ha
  · split at ha
    · cases ha; rfl
    · split at ha
      · cases ha; exact new_keeps h _ hl
      · cases ha
  · rename_i a off len cap
    have hla := hne a off len cap rfl
    split at ha
    · split at ha
      · split at ha
        · split at ha
          · split at ha
            · cases ha; rw [List.getElem?_set_ne (fun e => hla e.symm)]
            · cases ha
          · split at ha
            · cases ha; exact new_keeps h _ hl
            · cases ha
        · split at ha
          · cases ha; rfl
          · split at ha
            · cases ha; rw [List.getElem?_set_ne (fun e => hla e.symm)]
            · split at ha
              · cases ha
                rw [new_keeps (h.set a .dead) _ (by simpa using hl), List.getElem?_set_ne (fun e => hla e.symm)]
              · cases ha
      · cases ha
    · cases ha
  · split at ha
    · cases ha; rfl
    · split at ha
      · split at ha
        · split at ha
          · cases ha; exact new_keeps h _ hl
          · cases ha
        · cases ha
      · cases ha
  · cases ha

/-- An operation of the chain turns one row alone. -/
theorem chain_keeps {P : Program} {call : CallF} {env : Env} {h h' : Heap} {o : Op} (ho : chainOk0 o = true) {c : C} (hs : stepOp P call none env h o = some (c, h')) {l : Nat} (hl : l < h.length) (hne : touches env o ≠ some l) : h'[l]? = h[l]? := by
  cases o <;> simp only [chainOk0, Bool.false_eq_true, reduceCtorEq] at ho
  case alloc t =>
    simp only [stepOp, Option.bind_eq_bind, Option.bind_eq_some_iff, Option.some.injEq, Prod.mk.injEq] at hs
    obtain ⟨z, _, _, rfl⟩ := hs
    exact new_keeps h _ hl
  case box t x =>
    simp only [stepOp, Option.bind_eq_bind, Option.bind_eq_some_iff] at hs
    obtain ⟨d, _, hs⟩ := hs
    split at hs
    · cases hs; exact new_keeps h _ hl
    · cases hs
  case buildSlice t n ps =>
    simp only [stepOp, buildSliceC, Option.bind_eq_bind, Option.bind_eq_some_iff] at hs
    obtain ⟨_, _, _, _, _, _, _, _, hs⟩ := hs
    split at hs
    · cases hs; exact new_keeps h _ hl
    · cases hs
  case makeSlice t x y =>
    simp only [stepOp, makeSliceC, Option.bind_eq_bind, Option.bind_eq_some_iff] at hs
    obtain ⟨_, _, _, _, _, _, _, _, _, _, _, _, _, _, hs⟩ := hs
    split at hs
    · cases hs; exact new_keeps h _ hl
    · cases hs
  case store t x y =>
    simp only [stepOp, Option.bind_eq_bind, Option.bind_eq_some_iff, Option.some.injEq, Prod.mk.injEq] at hs
    obtain ⟨p, hp, d, _, k, hst, _, rfl⟩ := hs
    unfold storeC at hst
    split at hst
    · rename_i a off
      simp only [touches, hp, ne_eq, Option.some.injEq] at hne
      split at hst
      · split at hst
        · cases hst
          rw [List.getElem?_set_ne hne]
        · cases hst
      · cases hst
    · cases hst
  case call k =>
    obtain ⟨cal, args, ats⟩ := k
    cases cal with
    | builtin b =>
      cases b <;> simp only [Bool.false_eq_true] at ho
      case append =>
        simp only [stepOp, appendC, Option.bind_eq_bind, Option.bind_eq_some_iff] at hs
        obtain ⟨_, _, _, _, x, hx, _, _, d, hd, _, _, _, _, _, _, _, _, _, _, _, _, _, _, hs⟩ := hs
        split at hs
        · refine appendTo_keeps hs hl fun a off len cap e => ?_
          subst e
          simp only [touches, hx, hd, ne_eq, Option.some.injEq] at hne
          exact fun e => hne e.symm
        · cases hs
      case copy =>
        simp only [stepOp, copyC, Option.bind_eq_bind, Option.bind_eq_some_iff] at hs
        obtain ⟨_, _, x, hx, _, _, d, hd, _, _, _, _, _, _, _, _, hs⟩ := hs
        split at hs
        · cases hs; rfl
        · rename_i a off len cap _
          simp only [touches, hx, hd, ne_eq, Option.some.injEq] at hne
          split at hs
          · split at hs
            · cases hs; rw [List.getElem?_set_ne hne]
            · cases hs
          · cases hs
        · cases hs
    | invoke r m => cases ho
    | value f => cases ho

theorem new_len_le (h : Heap) (nd : Node) : h.length ≤ (new h none nd).2.length := by simp [new]

theorem appendTo_len {h h' : Heap} {s k : Nat} {ys : List C} {d c : C} (ha : appendTo h none s k ys d = some (c, h')) : h.length ≤ h'.length := by
  unfold appendTo at ha
  repeat' split at ha
  all_goals first
    | cases ha; done
    | (cases ha; exact Nat.le_refl _)
    | (cases ha; exact new_len_le h _)
    | (cases ha; simp; done)
    | (cases ha; simp [newRow, new]; done)

theorem chain_len {P : Program} {call : CallF} {env : Env} {h h' : Heap} {o : Op} (ho : chainOk0 o = true) {c : C} (hs : stepOp P call none env h o = some (c, h')) : h.length ≤ h'.length := by
  cases o <;> simp only [chainOk0, Bool.false_eq_true] at ho
  case alloc t =>
    simp only [stepOp, Option.bind_eq_bind, Option.bind_eq_some_iff, Option.some.injEq, Prod.mk.injEq] at hs
    obtain ⟨z, _, _, rfl⟩ := hs
    exact new_len_le h _
  case box t x =>
    simp only [stepOp, Option.bind_eq_bind, Option.bind_eq_some_iff] at hs
    obtain ⟨d, _, hs⟩ := hs
    split at hs
    · cases hs; exact new_len_le h _
    · cases hs
  case buildSlice t n ps =>
    simp only [stepOp, buildSliceC, Option.bind_eq_bind, Option.bind_eq_some_iff] at hs
    obtain ⟨_, _, _, _, _, _, _, _, hs⟩ := hs
    split at hs
    · cases hs; exact new_len_le h _
    · cases hs
  case makeSlice t x y =>
    simp only [stepOp, makeSliceC, Option.bind_eq_bind, Option.bind_eq_some_iff] at hs
    obtain ⟨_, _, _, _, _, _, _, _, _, _, _, _, _, _, hs⟩ := hs
    split at hs
    · cases hs; exact new_len_le h _
    · cases hs
  case store t x y =>
    simp only [stepOp, Option.bind_eq_bind, Option.bind_eq_some_iff, Option.some.injEq, Prod.mk.injEq] at hs
    obtain ⟨p, hp, d, _, k, hst, _, rfl⟩ := hs
    unfold storeC at hst
    split at hst
    · split at hst
      · split at hst
        · cases hst; simp
        · cases hst
      · cases hst
    · cases hst
  case call k =>
    obtain ⟨cal, args, ats⟩ := k
    cases cal with
    | builtin b =>
      cases b <;> simp only [Bool.false_eq_true] at ho
      case append =>
        simp only [stepOp, appendC, Option.bind_eq_bind, Option.bind_eq_some_iff] at hs
        obtain ⟨_, _, _, _, x, hx, _, _, d, hd, _, _, _, _, _, _, _, _, _, _, _, _, _, _, hs⟩ := hs
        split at hs
        · exact appendTo_len hs
        · cases hs
      case copy =>
        simp only [stepOp, copyC, Option.bind_eq_bind, Option.bind_eq_some_iff] at hs
        obtain ⟨_, _, x, hx, _, _, d, hd, _, _, _, _, _, _, _, _, hs⟩ := hs
        split at hs
        · cases hs; exact Nat.le_refl _
        · split at hs
          · split at hs
            · cases hs; simp
            · cases hs
          · cases hs
        · cases hs
    | invoke r m => cases ho
    | value f => cases ho

theorem bytesEq (a b : ByteArray) : (a == b) = true ↔ a = b := MapKept.bytes_beq a b
theorem veq_eq {a b : Value} (h : veq a b = true) : a = b := by
  unfold veq at h
  split at h
  · simp only [Bool.and_eq_true, decide_eq_true_eq] at h
    rw [h.1, h.2]
  · rw [eq_of_beq h]
  · rw [(bytesEq _ _).1 h]
  · simp only [Bool.and_eq_true] at h
    rw [Nat.eq_of_beq_eq_true h.1, Nat.eq_of_beq_eq_true h.2]
  · rfl
  · cases h
theorem oeq_eq {a b : Option Nat} (h : oeq a b = true) : a = b := by
  unfold oeq at h
  split at h
  · rfl
  · rw [Nat.eq_of_beq_eq_true h]
  · cases h
mutual
theorem ceq_eq : ∀ {a b : C}, ceq a b = true → a = b
  | .v a, b, h => by
    cases b <;> simp only [ceq, Bool.false_eq_true] at h
    rw [veq_eq h]
  | .fs xs l c, b, h => by
    cases b <;> simp only [ceq, Bool.false_eq_true, Bool.and_eq_true] at h
    rw [ceqs_eq h.1, Nat.eq_of_beq_eq_true h.2.1, oeq_eq h.2.2]
  | .fp xs, b, h => by
    cases b <;> simp only [ceq, Bool.false_eq_true] at h
    rw [ceqs_eq h]
  | .os l o n c, b, h => by
    cases b <;> simp only [ceq, Bool.false_eq_true, Bool.and_eq_true] at h
    rw [Nat.eq_of_beq_eq_true h.1, Nat.eq_of_beq_eq_true h.2.1, Nat.eq_of_beq_eq_true h.2.2.1, oeq_eq h.2.2.2]
  | .op l o, b, h => by
    cases b <;> simp only [ceq, Bool.false_eq_true, Bool.and_eq_true] at h
    rw [Nat.eq_of_beq_eq_true h.1, Nat.eq_of_beq_eq_true h.2]
  | .om l, b, h => by
    cases b <;> simp only [ceq, Bool.false_eq_true] at h
    rw [Nat.eq_of_beq_eq_true h]
  | .fn f cs, b, h => by
    cases b <;> simp only [ceq, Bool.false_eq_true] at h
  | .agg xs, b, h => by
    cases b <;> simp only [ceq, Bool.false_eq_true] at h
    rw [ceqs_eq h]
  | .tup xs, b, h => by
    cases b <;> simp only [ceq, Bool.false_eq_true] at h
    rw [ceqs_eq h]
theorem ceqs_eq : ∀ {a b : List C}, ceqs a b = true → a = b
  | [], b, h => by
    cases b <;> simp only [ceqs, Bool.false_eq_true] at h
    rfl
  | x :: xs, b, h => by
    cases b <;> simp only [ceqs, Bool.false_eq_true, Bool.and_eq_true] at h
    rw [ceq_eq h.1, ceqs_eq h.2]
end
theorem sameRow_eq {h h' : Heap} {a : Nat} (H : sameRow h h' a = true) : h'[a]? = h[a]? := by
  unfold sameRow at H
  split at H
  · rename_i x y hx hy
    rw [hx, hy]
    unfold nodeEq at H
    split at H
    · rfl
    · simp only [Bool.and_eq_true] at H
      rw [Nat.eq_of_beq_eq_true H.1, ceqs_eq H.2]
    · cases H
  · cases H
theorem chain0_of {o : Op} (h : chainOk o = true) (hv : isCallV o = false) : chainOk0 o = true := by
  unfold chainOk at h
  rw [hv, Bool.or_false] at h
  exact h
/-! ### What makes a new row, and nothing else -/
def isNew : Op → Bool
  | .alloc _ | .box .. | .buildSlice .. | .makeSlice .. => true
  | _ => false
theorem new_step {P : Program} {call : CallF} {env : Env} {h h' : Heap} {o : Op} (ho : isNew o = true) {c : C} (hs : stepOp P call none env h o = some (c, h')) :
    ∃ nd, h' = h ++ [nd] ∧ ∀ al k, (new k al nd).1 = h.length → stepOp P call al env k o = some (c, (new k al nd).2) := by
  cases o <;> simp only [isNew, Bool.false_eq_true] at ho
  case alloc e =>
    simp only [stepOp, Option.bind_eq_bind, Option.bind_eq_some_iff, Option.some.injEq, Prod.mk.injEq] at hs
    obtain ⟨z, hz, rfl, rfl⟩ := hs
    refine ⟨.row 0 z, rfl, fun al k hk => ?_⟩
    simp only [stepOp, hz, Option.bind_eq_bind, Option.bind_some, hk]
    rfl
  case box e x =>
    simp only [stepOp, Option.bind_eq_bind, Option.bind_eq_some_iff] at hs
    obtain ⟨d, hd, hs⟩ := hs
    split at hs
    · rename_i hc
      simp only [Option.some.injEq, Prod.mk.injEq] at hs
      obtain ⟨rfl, rfl⟩ := hs
      refine ⟨.row 0 d.cells, rfl, fun al k hk => ?_⟩
      simp only [stepOp, hd, Option.bind_eq_bind, Option.bind_some, hk, if_pos hc]
      rfl
    · cases hs
  case buildSlice t n ps =>
    simp only [stepOp, Option.bind_eq_bind, Option.bind_eq_some_iff] at hs
    obtain ⟨qs, hq, hs⟩ := hs
    simp only [buildSliceC, Option.bind_eq_bind, Option.bind_eq_some_iff] at hs
    obtain ⟨e, he, ⟨s, cs⟩, hr, ds, hf, hs⟩ := hs
    split at hs
    · rename_i hc
      simp only [Option.some.injEq, Prod.mk.injEq] at hs
      obtain ⟨rfl, rfl⟩ := hs
      refine ⟨.row s ds, rfl, fun al k hk => ?_⟩
      simp only [stepOp, hq, buildSliceC, he, hr, hf, Option.bind_eq_bind, Option.bind_some, hk, if_pos hc]
      rfl
    · cases hs
  case makeSlice t x y =>
    simp only [stepOp, Option.bind_eq_bind, Option.bind_eq_some_iff] at hs
    obtain ⟨d, hd, e, he, hs⟩ := hs
    simp only [makeSliceC, Option.bind_eq_bind, Option.bind_eq_some_iff] at hs
    obtain ⟨t2, ht, ⟨k1, n1⟩, hn, ⟨k2, c1⟩, hc1, i, hi, ⟨s, cs⟩, hr, hs⟩ := hs
    split at hs
    · rename_i hc
      simp only [Option.some.injEq, Prod.mk.injEq] at hs
      obtain ⟨rfl, rfl⟩ := hs
      refine ⟨.row s cs, rfl, fun al k hk => ?_⟩
      simp only [stepOp, hd, he, makeSliceC, ht, hn, hc1, hi, hr, Option.bind_eq_bind, Option.bind_some, hk, if_pos hc]
      rfl
    · cases hs
/-- Such an operation's soundness, with the names that it gives. -/
theorem new_sound {P : Program} {w : World} {X S : Nat → Prop} {φ : Nat → Loc} {h : Heap} {al : Option Nat} {o : Oper} {a : Act} {next : Act → World → Prop} {Q : Exit → Act → World → Prop} {call : CallF} (G : Good w X S φ h) {env : Env} (hE : RelE w (badOf X φ h) S φ env a.tmps) (ok : AllocOk S h al) {op : Op} (ho : o.op = op) (hnew : isNew op = true) {c : C} {h' : Heap}
    (hs : stepOp P call al env h op = some (c, h')) (hn : ∀ u w' S' φ', Good w' X S' φ' h' → Ext w S φ h w' S' φ' h' → Rel w' (badOf X φ' h') S' φ' c u → Names S S' h h' al → next (a.put o.dst u) w') : o.wp P a w next Q := by
  have go : ∀ {s : Sem Value}, (execOp a.eval o).run P w = (do pure (.value (← s)) : Sem Next).run P w → Done w X S φ h al (s.run P w) c h' → o.wp P a w next Q := fun {s} he hd => by
    obtain ⟨u, w', S', φ', hr, G', E, hrel, hnm⟩ := hd
    exact wp_value (u := u) (w' := w') (by rw [he]; simp [hr]) (hn u w' S' φ' G' E hrel hnm)
  cases op <;> simp only [isNew, Bool.false_eq_true] at hnew
  case alloc e =>
    simp only [stepOp, Option.bind_eq_bind, Option.bind_eq_some_iff, Option.some.injEq, Prod.mk.injEq] at hs
    obtain ⟨z, hz, rfl, rfl⟩ := hs
    exact go (s := Instr.alloc e true (.tuple #[])) (by simp [execOp, ho]) (alloc_sound G ok hz)
  case box e x =>
    simp only [stepOp, Option.bind_eq_bind, Option.bind_eq_some_iff] at hs
    obtain ⟨d, hd, hs⟩ := hs
    split at hs
    · rename_i hc
      simp only [Option.some.injEq, Prod.mk.injEq] at hs
      obtain ⟨rfl, rfl⟩ := hs
      exact go (s := Instr.box e (a.eval x)) (by simp [execOp, ho]) (box_sound G ok (ev_rel hE hd) hc)
    · cases hs
  case buildSlice t n ps =>
    simp only [stepOp, Option.bind_eq_bind, Option.bind_eq_some_iff] at hs
    obtain ⟨qs, hq, hs⟩ := hs
    exact go (s := Instr.buildSlice t n (ps.map fun (i, x) => (i, a.eval x))) (by simp [execOp, ho]) (buildSlice_sound G ok (by rw [map_toList_parts]; exact evParts_rel hE hq) hs)
  case makeSlice t x y =>
    simp only [stepOp, Option.bind_eq_bind, Option.bind_eq_some_iff] at hs
    obtain ⟨d, hd, e, he, hs⟩ := hs
    exact go (s := Instr.makeSlice t (a.eval x) (a.eval y)) (by simp [execOp, ho]) (makeSlice_sound G ok (ev_rel hE hd) (ev_rel hE he) hs)

/-! ### A heap that grows -/
def Grows (h k : Heap) : Prop := ∀ (l : Nat) (nd : Node), h[l]? = some nd → k[l]? = some nd
theorem cellsAt_grow {h k : Heap} (g : Grows h k) {x : C} {cs : List C} (e : cellsAt h x = some cs) : cellsAt k x = some cs := by
  unfold cellsAt at e ⊢
  split at e
  · rename_i l off
    split at e
    · rename_i es cs' hl
      simp only [g _ _ hl]
      exact e
    · cases e
  · exact e
  · cases e
theorem load_grow {P : Program} {call : CallF} {vals : FuncId → Bool} (hv : ValsOk vals call) {al : Option Nat} {env : Env} {h k : Heap} {o : Op} (ho : loadOk vals env o = true) {c : C} {h' : Heap} (hs : stepOp P call al env h o = some (c, h')) (g : Grows h k) : stepOp P call al env k o = some (c, k) := by
  cases o <;> simp only [loadOk, Bool.false_eq_true, reduceCtorEq] at ho
  case load t x =>
    simp only [stepOp, Option.bind_eq_bind, Option.bind_eq_some_iff, Option.some.injEq, Prod.mk.injEq] at hs ⊢
    obtain ⟨p, hp, r, hr, rfl, rfl⟩ := hs
    refine ⟨p, hp, r, ?_, rfl, trivial⟩
    simp only [loadC, Option.bind_eq_bind, Option.bind_eq_some_iff] at hr ⊢
    obtain ⟨cs, hcs, hr⟩ := hr
    exact ⟨cs, cellsAt_grow g hcs, hr⟩
  case slice t x lo hi mx =>
    simp only [stepOp, Option.bind_eq_bind, Option.bind_eq_some_iff, Option.some.injEq, Prod.mk.injEq] at hs ⊢
    obtain ⟨p, hp, l, hl, m, hm, n, hn, r, hr, rfl, rfl⟩ := hs
    refine ⟨p, hp, l, hl, m, hm, n, hn, r, ?_, rfl, trivial⟩
    cases p with
    | os a off len cap =>
      have hn2 : ∃ nd, h[a]? = some nd := by
        unfold sliceC at hr
        split at hr
        · cases hr
        · simp only [Option.bind_eq_some_iff] at hr
          obtain ⟨s, _, hr⟩ := hr
          split at hr
          · rename_i hx; exact ⟨_, hx⟩
          · cases hr
        · cases hr
      obtain ⟨nd, hnd⟩ := hn2
      rw [← hr]
      exact (sliceC_row (fun a' _ _ _ e => by cases e; rw [hnd, g _ _ hnd])).symm
    | _ =>
      rw [← hr]
      exact (sliceC_row (fun a' _ _ _ e => by cases e)).symm
  case call q =>
    split at ho
    · rename_i f cs0 hg
      simp only [stepOp, Option.bind_eq_bind, Option.bind_eq_some_iff] at hs
      obtain ⟨cal, args, ats⟩ := q
      cases cal with
      | builtin b => cases hg
      | invoke r m => cases hg
      | value f0 =>
        simp only [stepOp, Option.bind_eq_bind, Option.bind_eq_some_iff] at hs ⊢
        obtain ⟨⟨f1, caps⟩, hg1, cs, hc, hcall⟩ := hs
        simp only at hg
        rw [hg] at hg1
        cases hg1
        exact ⟨_, hg, cs, hc, (hv _ _ _ _ _ ho hcall).2 k (.inr g)⟩
    · cases ho
end Go.Tm
