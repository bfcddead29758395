import Derived.Test.YtahcbcgakadfpaaTG
namespace Go.Tm

/-! ### Calls -/
inductive Mode where
  | ref  -- the callee works on the caller's heap
  | val  -- the callee is given frozen trees, and gives back a frozen one
  | keep -- the same, and nil stays nil
  deriving DecidableEq

def mapC (f : C → Option C) : List C → Option (List C)
  | [] => some []
  | c :: r => do
    let d ← f c
    let ds ← mapC f r
    some (d :: ds)

/-- A value as a frozen tree; cl: nothing in it may be frozen already. -/
def view (cl : Bool) (h : Heap) : Nat → C → Option C
  | 0, _ => none
  | n + 1, c =>
    match c with
    | .v (.slice none 0 0) => some (.fs [] 0 none)
    | .v x => some (.v x)
    | .fs xs len _ => if len = 0 then some (.fs [] 0 none) else if cl = true then none else some (.fs xs len none)
    | .fp xs => if cl = true then none else some (.fp xs)
    | .os l off len _ => if len = 0 then some (.fs [] 0 none) else match h[l]? with
      | some (.row e cs) => do
        let xs ← takeN (len * e) (cs.drop off)
        let ys ← mapC (view cl h n) xs
        some (.fs ys len none)
      | _ => none
    | .op l off => match h[l]? with
      | some (.row _ cs) => (mapC (view cl h n) (cs.drop off)).map .fp
      | _ => none
    | .om _ => none
    | .fn f caps => (mapC (view cl h n) caps).map (.fn f)
    | .agg cs => (mapC (view cl h n) cs).map .agg
    | .tup cs => (mapC (view cl h n) cs).map .tup

/-- A value as a frozen tree, nil being nil; cl: nothing in it may be frozen already. -/
def viewN (cl : Bool) (h : Heap) : Nat → C → Option C
  | 0, _ => none
  | n + 1, c =>
    match c with
    | .v x => some (.v x)
    | .fs xs len _ => if len = 0 then some (.fs [] 0 none) else if cl = true then none else some (.fs xs len none)
    | .fp xs => if cl = true then none else some (.fp xs)
    | .os l off len _ => if len = 0 then some (.fs [] 0 none) else match h[l]? with
      | some (.row e cs) => do
        let xs ← takeN (len * e) (cs.drop off)
        let ys ← mapC (viewN cl h n) xs
        some (.fs ys len none)
      | _ => none
    | .op l off => match h[l]? with
      | some (.row _ cs) => (mapC (viewN cl h n) (cs.drop off)).map .fp
      | _ => none
    | .om _ => none
    | .fn f caps => (mapC (viewN cl h n) caps).map (.fn f)
    | .agg cs => (mapC (viewN cl h n) cs).map .agg
    | .tup cs => (mapC (viewN cl h n) cs).map .tup

def depth : Nat := 12

def enterE : Nat → List C → Env
  | _, [] => []
  | i, c :: r => (i, c) :: enterE (i + 1) r

def resC (P : Program) (env : Env) (h : Heap) : List ResultVar → Option (List C)
  | [] => some []
  | .tmp t :: r => do
    let c ← look env t
    let cs ← resC P env h r
    some (c :: cs)
  | .cell x t :: r => do
    let p ← look env x
    let c ← loadC P h t p
    let cs ← resC P env h r
    some (c :: cs)

def oneOr : List C → C
  | [c] => c
  | cs => .tup cs

/-- A function's body, from its arguments on. -/
def body (P : Program) (vals : FuncId → Bool) (call : CallF) (n : Nat) (fn : Func) (k : K) (cs : List C) (h : Heap) : Option (C × Heap) :=
  if cs.length ≤ fn.ntmps then
    match exec P vals call n k ⟨enterE 0 cs, h⟩ with
    | some (.exit _, _) => none
    | some (_, st) => (resC P st.env st.heap fn.results.toList).map fun rs => (oneOr rs, st.heap)
    | none => none
  else none

/-- A call by value. -/
def byVal (run : List C → Heap → Option (C × Heap)) (cs : List C) (h : Heap) : Option C :=
  match mapC (view false [] depth) cs with
  | some vs => (run vs []).bind fun r => view false r.2 depth r.1
  | none => (mapC (view false h depth) cs).bind fun vs => (run vs []).bind fun r => view true r.2 depth r.1

/-- A call by value. -/
def byValN (run : List C → Heap → Option (C × Heap)) (cs : List C) (h : Heap) : Option C :=
  match mapC (viewN false [] depth) cs with
  | some vs => (run vs []).bind fun r => viewN false r.2 depth r.1
  | none => (mapC (viewN false h depth) cs).bind fun vs => (run vs []).bind fun r => viewN true r.2 depth r.1

abbrev Tab := FuncId → Option (K × Mode)
/-- The functions that are called by value. -/
def valsOf (tab : Tab) (f : FuncId) : Bool :=
  match tab f with
  | some (_, .val) => true
  | some (_, .keep) => true
  | _ => false

def callAt (P : Program) (tab : Tab) : Nat → CallF
  | 0 => fun _ _ _ => none
  | n + 1 => fun f cs h =>
    match tab f, P.funcs[f]? with
    | some (k, m), some fn => match m with
      | .ref => body P (valsOf tab) (callAt P tab n) n fn k cs h
      | .val => (byVal (body P (valsOf tab) (callAt P tab n) n fn k) cs h).map fun c => (c, h)
      | .keep => (byValN (body P (valsOf tab) (callAt P tab n) n fn k) cs h).map fun c => (c, h)
    | _, _ => none

/-- The table's code is the program's. -/
def TabOk (P : Program) (tab : Tab) : Prop :=
  ∀ f k m, tab f = some (k, m) → ∃ fn code ks ks', P.funcs[f]? = some fn ∧ (fn.name == "runtime.NumGoroutine") = false ∧ fn.body = some code ∧ ofCode fn.ntmps code ks = some (k, ks')

section
variable {P : Program} {w : World} {X S : Nat → Prop} {φ : Nat → Loc} {h : Heap}

theorem mapC_rel {w : World} {bad bad' S S' : Nat → Prop} {φ φ' : Nat → Loc} {f : C → Option C} (hf : ∀ c d u, f c = some d → Rel w bad S φ c u → Rel w bad' S' φ' d u) : ∀ {cs ds : List C} {us : List Value}, mapC f cs = some ds → RelL w bad S φ cs us → RelL w bad' S' φ' ds us
  | [], ds, us, h, hr => by simp only [mapC, Option.some.injEq] at h; subst h; simpa only [RelL] using hr
  | c :: cs, ds, us, h, hr => by
    simp only [mapC, Option.bind_eq_bind, Option.bind_eq_some_iff, Option.some.injEq] at h
    obtain ⟨d, hd, es, he, rfl⟩ := h
    simp only [RelL] at hr ⊢
    obtain ⟨u, r, rfl, hc, hr⟩ := hr
    exact ⟨u, r, rfl, hf _ _ _ hd hc, mapC_rel hf he hr⟩

theorem mapC_relAt {w : World} {bad bad' S S' : Nat → Prop} {φ φ' : Nat → Loc} {f : C → Option C} (hf : ∀ c d u, f c = some d → Rel w bad S φ c u → Rel w bad' S' φ' d u) : ∀ {cs ds : List C} {b o : Nat}, mapC f cs = some ds → RelAt w bad S φ cs b o → RelAt w bad' S' φ' ds b o
  | [], ds, b, o, h, hr => by simp only [mapC, Option.some.injEq] at h; subst h; simp [RelAt]
  | c :: cs, ds, b, o, h, hr => by
    simp only [mapC, Option.bind_eq_bind, Option.bind_eq_some_iff, Option.some.injEq] at h
    obtain ⟨d, hd, es, he, rfl⟩ := h
    simp only [RelAt] at hr ⊢
    obtain ⟨⟨u, hu, hc, h1⟩, hr⟩ := hr
    exact ⟨⟨u, hu, hf _ _ _ hd hc, h1⟩, mapC_relAt hf he hr⟩

/-- A frozen tree stays one under a smaller 'bad'. -/
theorem frozen_sub {bad Y : Nat → Prop} (hY : ∀ b, b < w.heap.size → Y b → bad b) {xs : List C} {b o : Nat} (hb : ¬ bad b) (hs : b < w.heap.size) (φ' : Nat → Loc) (hx : RelAt w bad noName φ xs b o) : RelAt w Y noName φ' xs b o :=
  RelAt.later (w' := w) (bad' := Y) (S' := noName) (φ' := φ') ⟨fun _ _ _ _ _ h => h, fun b hs hy => hY b hs hy, Nat.le_refl _, fun _ h => h.elim⟩ hb hs hx

theorem view_rel (G : Good w X S φ h) {Y : Nat → Prop} {cl : Bool} (hown : ∀ l, live h l → ¬ Y (φ l).block) (hfr : cl = false → ∀ b, b < w.heap.size → Y b → badOf X φ h b) (φ' : Nat → Loc) : ∀ (n : Nat) (c t : C) (u : Value), view cl h n c = some t → Rel w (badOf X φ h) S φ c u → Rel w Y noName φ' t u
  | 0, c, t, u, hv, _ => by simp [view] at hv
  | n + 1, c, t, u, hv, hr => by
    have ih := view_rel G hown hfr φ' n
    have hf : ∀ c d u, view cl h n c = some d → Rel w (badOf X φ h) S φ c u → Rel w Y noName φ' d u := ih
    unfold view at hv
    split at hv
    · cases hv
      simp only [Rel] at hr ⊢
      exact .inl ⟨⟨none, hr.1⟩, trivial, trivial, .inl trivial⟩
    · cases hv
      simpa only [Rel] using hr
    · rename_i xs len cap
      simp only [Rel] at hr
      split at hv
      · rename_i h0
        cases hv
        simp only [Rel]
        rcases hr with ⟨⟨_, rfl⟩, _⟩ | ⟨b, o, cap', rfl, hle, _⟩
        · exact .inl (by simp)
        · exact .inr ⟨b, o, cap', by rw [h0], Nat.zero_le _, fun c hc => (by cases hc), .inl trivial⟩
      · split at hv
        · cases hv
        · rename_i h0 hcl
          cases hv
          have hcl' : cl = false := by simpa using hcl
          simp only [Rel]
          rcases hr with ⟨_, _, rfl, _⟩ | ⟨b, o, cap', rfl, hle, _, hx⟩
          · exact absurd rfl h0
          · exact .inr ⟨b, o, cap', rfl, hle, fun c hc => (by cases hc), hx.imp id fun ⟨hb, hs, hx⟩ => ⟨fun hy => hb (hfr hcl' b hs hy), hs, frozen_sub (hfr hcl') hb hs φ' hx⟩⟩
    · split at hv
      · cases hv
      · rename_i xs hcl
        cases hv
        have hcl' : cl = false := by simpa using hcl
        simp only [Rel] at hr ⊢
        obtain ⟨b, o, rfl, hx⟩ := hr
        exact ⟨b, o, rfl, hx.imp id fun ⟨hb, hs, hx⟩ => ⟨fun hy => hb (hfr hcl' b hs hy), hs, frozen_sub (hfr hcl') hb hs φ' hx⟩⟩
    · rename_i l off len cap
      simp only [Rel] at hr
      obtain ⟨hS, b, o, cap', rfl, hle, _, hadr, _, _⟩ := hr
      split at hv
      · rename_i h0
        cases hv
        simp only [Rel]
        exact .inr ⟨b, o, cap', by rw [h0], Nat.zero_le _, fun c hc => (by cases hc), .inl trivial⟩
      · rename_i h0
        split at hv
        · rename_i e cs hl
          simp only [Option.bind_eq_bind, Option.bind_eq_some_iff, Option.some.injEq] at hv
          obtain ⟨xs, hxs, ys, hys, rfl⟩ := hv
          simp only [takeN] at hxs
          split at hxs
          · cases hxs
            simp only [Rel]
            have hok := G.node l _ hl
            simp only [OkNode] at hok
            have hlv := live_of_row hl
            obtain ⟨rfl, rfl⟩ := hadr.resolve_left (by omega)
            exact .inr ⟨_, _, cap', rfl, hle, fun c hc => (by cases hc), .inr ⟨hown l hlv, G.size l hlv, mapC_relAt hf hys (RelAt.take _ (RelAt.drop off hok.2.2.2.2))⟩⟩
          · cases hxs
        · cases hv
    · rename_i l off
      split at hv
      · rename_i e cs hl
        simp only [Option.map_eq_some_iff] at hv
        obtain ⟨ys, hys, rfl⟩ := hv
        simp only [Rel] at hr ⊢
        have hok := G.node l _ hl
        simp only [OkNode] at hok
        have hlv := live_of_row hl
        exact ⟨_, _, hr.2, .inr ⟨hown l hlv, G.size l hlv, mapC_relAt hf hys (RelAt.drop off hok.2.2.2.2)⟩⟩
      · cases hv
    · cases hv
    · simp only [Option.map_eq_some_iff] at hv
      obtain ⟨ys, hys, rfl⟩ := hv
      simp only [Rel] at hr ⊢
      obtain ⟨us, hu, hr⟩ := hr
      exact ⟨us, hu, mapC_rel hf hys hr⟩
    · simp only [Option.map_eq_some_iff] at hv
      obtain ⟨ys, hys, rfl⟩ := hv
      simp only [Rel] at hr ⊢
      obtain ⟨us, hu, hr, h1⟩ := hr
      exact ⟨us, hu, mapC_rel hf hys hr, h1⟩
    · simp only [Option.map_eq_some_iff] at hv
      obtain ⟨ys, hys, rfl⟩ := hv
      simp only [Rel] at hr ⊢
      obtain ⟨us, hu, hr⟩ := hr
      exact ⟨us, hu, mapC_rel hf hys hr⟩

theorem viewN_rel (G : Good w X S φ h) {Y : Nat → Prop} {cl : Bool} (hown : ∀ l, live h l → ¬ Y (φ l).block) (hfr : cl = false → ∀ b, b < w.heap.size → Y b → badOf X φ h b) (φ' : Nat → Loc) : ∀ (n : Nat) (c t : C) (u : Value), viewN cl h n c = some t → Rel w (badOf X φ h) S φ c u → Rel w Y noName φ' t u
  | 0, c, t, u, hv, _ => by simp [viewN] at hv
  | n + 1, c, t, u, hv, hr => by
    have ih := viewN_rel G hown hfr φ' n
    have hf : ∀ c d u, viewN cl h n c = some d → Rel w (badOf X φ h) S φ c u → Rel w Y noName φ' d u := ih
    unfold viewN at hv
    split at hv
    · cases hv
      simpa only [Rel] using hr
    · rename_i xs len cap
      simp only [Rel] at hr
      split at hv
      · rename_i h0
        cases hv
        simp only [Rel]
        rcases hr with ⟨⟨_, rfl⟩, _⟩ | ⟨b, o, cap', rfl, hle, _⟩
        · exact .inl (by simp)
        · exact .inr ⟨b, o, cap', by rw [h0], Nat.zero_le _, fun c hc => (by cases hc), .inl trivial⟩
      · split at hv
        · cases hv
        · rename_i h0 hcl
          cases hv
          have hcl' : cl = false := by simpa using hcl
          simp only [Rel]
          rcases hr with ⟨_, _, rfl, _⟩ | ⟨b, o, cap', rfl, hle, _, hx⟩
          · exact absurd rfl h0
          · exact .inr ⟨b, o, cap', rfl, hle, fun c hc => (by cases hc), hx.imp id fun ⟨hb, hs, hx⟩ => ⟨fun hy => hb (hfr hcl' b hs hy), hs, frozen_sub (hfr hcl') hb hs φ' hx⟩⟩
    · split at hv
      · cases hv
      · rename_i xs hcl
        cases hv
        have hcl' : cl = false := by simpa using hcl
        simp only [Rel] at hr ⊢
        obtain ⟨b, o, rfl, hx⟩ := hr
        exact ⟨b, o, rfl, hx.imp id fun ⟨hb, hs, hx⟩ => ⟨fun hy => hb (hfr hcl' b hs hy), hs, frozen_sub (hfr hcl') hb hs φ' hx⟩⟩
    · rename_i l off len cap
      simp only [Rel] at hr
      obtain ⟨hS, b, o, cap', rfl, hle, _, hadr, _, _⟩ := hr
      split at hv
      · rename_i h0
        cases hv
        simp only [Rel]
        exact .inr ⟨b, o, cap', by rw [h0], Nat.zero_le _, fun c hc => (by cases hc), .inl trivial⟩
      · rename_i h0
        split at hv
        · rename_i e cs hl
          simp only [Option.bind_eq_bind, Option.bind_eq_some_iff, Option.some.injEq] at hv
          obtain ⟨xs, hxs, ys, hys, rfl⟩ := hv
          simp only [takeN] at hxs
          split at hxs
          · cases hxs
            simp only [Rel]
            have hok := G.node l _ hl
            simp only [OkNode] at hok
            have hlv := live_of_row hl
            obtain ⟨rfl, rfl⟩ := hadr.resolve_left (by omega)
            exact .inr ⟨_, _, cap', rfl, hle, fun c hc => (by cases hc), .inr ⟨hown l hlv, G.size l hlv, mapC_relAt hf hys (RelAt.take _ (RelAt.drop off hok.2.2.2.2))⟩⟩
          · cases hxs
        · cases hv
    · rename_i l off
      split at hv
      · rename_i e cs hl
        simp only [Option.map_eq_some_iff] at hv
        obtain ⟨ys, hys, rfl⟩ := hv
        simp only [Rel] at hr ⊢
        have hok := G.node l _ hl
        simp only [OkNode] at hok
        have hlv := live_of_row hl
        exact ⟨_, _, hr.2, .inr ⟨hown l hlv, G.size l hlv, mapC_relAt hf hys (RelAt.drop off hok.2.2.2.2)⟩⟩
      · cases hv
    · cases hv
    · simp only [Option.map_eq_some_iff] at hv
      obtain ⟨ys, hys, rfl⟩ := hv
      simp only [Rel] at hr ⊢
      obtain ⟨us, hu, hr⟩ := hr
      exact ⟨us, hu, mapC_rel hf hys hr⟩
    · simp only [Option.map_eq_some_iff] at hv
      obtain ⟨ys, hys, rfl⟩ := hv
      simp only [Rel] at hr ⊢
      obtain ⟨us, hu, hr, h1⟩ := hr
      exact ⟨us, hu, mapC_rel hf hys hr, h1⟩
    · simp only [Option.map_eq_some_iff] at hv
      obtain ⟨ys, hys, rfl⟩ := hv
      simp only [Rel] at hr ⊢
      obtain ⟨us, hu, hr⟩ := hr
      exact ⟨us, hu, mapC_rel hf hys hr⟩

theorem enterE_look : ∀ (cs : List C) (i t : Nat) (c : C), look (enterE i cs) t = some c → i ≤ t ∧ cs[t - i]? = some c
  | [], i, t, c, h => by simp [enterE, look] at h
  | d :: cs, i, t, c, h => by
    unfold enterE look at h
    by_cases e : i = t
    · rw [if_pos e] at h
      cases h
      subst e
      simp
    · rw [if_neg e] at h
      obtain ⟨h1, h2⟩ := enterE_look cs (i + 1) t c h
      refine ⟨by omega, ?_⟩
      have e2 : t - i = (t - (i + 1)) + 1 := by omega
      rw [e2]
      simpa using h2

theorem enter_rel {w : World} {bad S : Nat → Prop} {φ : Nat → Loc} {cs : List C} {us : List Value} (hr : RelL w bad S φ cs us) (r : Array Value) : RelE w bad S φ (enterE 0 cs) (us.toArray ++ r) := fun t c hc => by
  obtain ⟨_, h2⟩ := enterE_look cs 0 t c hc
  obtain ⟨u, hu, hrel⟩ := RelL.get hr h2
  refine ⟨u, ?_, hrel⟩
  have hlt : t < us.length := (List.getElem?_eq_some_iff.1 hu).1
  rw [Array.getElem?_append_left (by simpa using hlt)]
  simpa using hu

theorem loadVar_asAddr {t : TypeId} {p c : C} {u : Value} (G : Good w X S φ h) (hp : Rel w (badOf X φ h) S φ p u) (hl : loadC P h t p = some c) :
    ∃ v, (do loadVar t (← asAddr u) : Sem Value).run P w = .ok v w ∧ Rel w (badOf X φ h) S φ c v := by
  obtain ⟨v, hv, hr⟩ := load_sound G hp hl
  refine ⟨v, ?_, hr⟩
  have hp2 : ∃ a, u = .pointer (some a) := by
    simp only [loadC, Option.bind_eq_bind, Option.bind_eq_some_iff] at hl
    obtain ⟨cs, hcs, _⟩ := hl
    obtain ⟨b, o, hu, _⟩ := cellsAt_rel G hp hcs
    exact ⟨_, hu⟩
  obtain ⟨a, rfl⟩ := hp2
  simpa [Instr.loadAt, Instr.sureAddr, asAddr] using hv

theorem resC_sound (G : Good w X S φ h) {env : Env} {tmps : Array Value} (hE : RelE w (badOf X φ h) S φ env tmps) : ∀ {rs : List ResultVar} {cs : List C}, resC P env h rs = some cs →
    ∃ vs, (rs.mapM (m := Sem) fun | .tmp t => pure (tmps.getD t undef) | .cell a t => do loadVar t (← asAddr (tmps.getD a undef))).run P w = .ok vs w ∧ RelL w (badOf X φ h) S φ cs vs
  | [], cs, h => by simp only [resC, Option.some.injEq] at h; subst h; exact ⟨[], by simp, by simp [RelL]⟩
  | .tmp t :: rs, cs, hh => by
    simp only [resC, Option.bind_eq_bind, Option.bind_eq_some_iff, Option.some.injEq] at hh
    obtain ⟨c, hc, ds, hd, rfl⟩ := hh
    obtain ⟨vs, hrun, hrel⟩ := resC_sound G hE hd
    obtain ⟨u, hu, hr⟩ := hE t c hc
    refine ⟨u :: vs, ?_, by simp only [RelL]; exact ⟨u, vs, rfl, hr, hrel⟩⟩
    simp only [List.mapM_cons, Sem.run_bind, Sem.run_pure, Result.andThen_ok]
    rw [hrun]
    simp [hu]
  | .cell x t :: rs, cs, hh => by
    simp only [resC, Option.bind_eq_bind, Option.bind_eq_some_iff, Option.some.injEq] at hh
    obtain ⟨p, hp, c, hc, ds, hd, rfl⟩ := hh
    obtain ⟨vs, hrun, hrel⟩ := resC_sound G hE hd
    obtain ⟨u, hu, hr⟩ := hE x p hp
    obtain ⟨v, hv, hr2⟩ := loadVar_asAddr (P := P) G hr hc
    refine ⟨v :: vs, ?_, by simp only [RelL]; exact ⟨v, vs, rfl, hr2, hrel⟩⟩
    have hg : tmps.getD x undef = u := by simp [hu]
    simp only [List.mapM_cons, Sem.run_bind, hg] at hv ⊢
    rw [hv]
    simp only [Result.andThen_ok]
    rw [hrun]
    simp

theorem results_sound (G : Good w X S φ h) {env : Env} {tmps : Array Value} (hE : RelE w (badOf X φ h) S φ env tmps) {fn : Func} {cs : List C} (hc : resC P env h fn.results.toList = some cs) :
    ∃ v, (results fn tmps).run P w = .ok v w ∧ Rel w (badOf X φ h) S φ (oneOr cs) v := by
  obtain ⟨vs, hrun, hrel⟩ := resC_sound (P := P) G hE hc
  refine ⟨if hh : vs.toArray.size = 1 then vs.toArray[0] else .tuple vs.toArray, ?_, ?_⟩
  · unfold results
    rw [Array.mapM_eq_mapM_toList]
    simp only [Sem.run_bind, Sem.run_map] at hrun ⊢
    erw [hrun]
    rfl
  · cases cs with
    | nil =>
      simp only [RelL] at hrel
      subst hrel
      simp only [oneOr, Rel]
      exact ⟨#[], rfl, by simp [RelL]⟩
    | cons c cs =>
      simp only [RelL] at hrel
      obtain ⟨u, r, rfl, hr, hrel⟩ := hrel
      cases cs with
      | nil =>
        simp only [RelL] at hrel
        subst hrel
        simpa [oneOr] using hr
      | cons d cs =>
        have hl := RelL.length hrel
        have hne : ¬ (u :: r).toArray.size = 1 := by simp at hl ⊢; intro h0; simp [h0] at hl
        rw [dif_neg hne]
        simp only [oneOr, Rel]
        refine ⟨_, rfl, ?_⟩
        simp only [RelL] at hrel ⊢
        exact ⟨u, r, rfl, hr, hrel⟩

theorem body_sound {call : CallF} {vals : FuncId → Bool} (hcall : CallOk P call) (hv : ValsOk vals call) (hvs : ValSound P vals call) (hmix : P.follows .mixedOrders = true) {n : Nat} {f : FuncId} {fn : Func} {code : Code} {k : K} {ks ks' : List Ann} (hf : P.funcs[f]? = some fn) (hb : fn.body = some code) (hk : ofCode fn.ntmps code ks = some (k, ks'))
    {cs : List C} {h : Heap} {c : C} {h' : Heap} (hbd : body P vals call n fn k cs h = some (c, h')) {w : World} {X S : Nat → Prop} {φ : Nat → Loc} {us : List Value} (G : Good w X S φ h) (sq : SeqOk S h) (hr : RelL w (badOf X φ h) S φ cs us) :
    Calls P f us.toArray w fun e w' => ∃ u S' φ', e = .returned u ∧ Good w' X S' φ' h' ∧ Ext w S φ h w' S' φ' h' ∧ Rel w' (badOf X φ' h') S' φ' c u ∧ SeqOk S' h' := by
  unfold body at hbd
  split at hbd
  · rename_i hle
    split at hbd
    · cases hbd
    · rename_i ctl st hne hex
      simp only [Option.map_eq_some_iff, Prod.mk.injEq] at hbd
      obtain ⟨rs, hrs, rfl, rfl⟩ := hbd
      have hl := RelL.length hr
      have A : At fn.ntmps X ⟨enterE 0 cs, h⟩ S φ { tmps := us.toArray ++ Array.replicate (fn.ntmps - us.toArray.size) undef, defers := [] } w :=
        ⟨G, sq, enter_rel hr _, by simp; omega, rfl⟩
      refine calls_of_wp hf hb (Code.wp_mono (fun e a' w' hq => ?_) (exec_sound hcall hv hvs hmix n code ks ks' k hk _ _ _ hex X S φ _ w A))
      obtain ⟨rfl, S', φ', A', E'⟩ := hq
      obtain ⟨v, hv, hrel⟩ := results_sound (P := P) A'.good A'.env hrs
      cases ctl with
      | normal => exact ⟨A'.defers, v, hv, v, S', φ', rfl, A'.good, E', hrel, A'.seq⟩
      | exit id => exact (hne _ rfl).elim
      | ret => exact ⟨A'.defers, v, hv, v, S', φ', rfl, A'.good, E', hrel, A'.seq⟩
    · cases hbd
  · cases hbd

/-- The empty heap. -/
theorem good_nil {w : World} {X : Nat → Prop} (hx : ∀ b, X b → b < w.heap.size) : Good w X noName φ [] :=
  ⟨fun l nd h => by simp at h, fun l ⟨_, h, _⟩ => by simp at h, fun l ⟨_, h, _⟩ => by simp at h, fun l _ ⟨_, h, _⟩ => by simp at h, hx, fun l ⟨_, h, _⟩ => by simp at h⟩
theorem own_nil {b : Nat} : ¬ Own φ [] b := fun ⟨_, ⟨_, h, _⟩, _⟩ => by simp at h

/-- The heap's world, where nothing of it has turned. -/
theorem good_same {w' : World} (G : Good w X S φ h) (E : Ext w S φ h w' S φ h) (hk : ∀ b, b < w.heap.size → w'.heap[b]? = w.heap[b]?) : Good w' X S φ h := by
  have L := E.later (X := X)
  refine ⟨fun l x hx => ?_, G.inS, fun l hl => Nat.lt_of_lt_of_le (G.size l hl) E.size, G.inj, fun b hb => Nat.lt_of_lt_of_le (G.xlt b hb) E.size, G.apart⟩
  have hok := G.node l x hx
  cases x with
  | dead => trivial
  | row ez cs =>
    simp only [OkNode] at hok ⊢
    obtain ⟨h1, h2, h3, h4, h5⟩ := hok
    have hs := G.size l (live_of_row hx)
    refine ⟨h1, h2, h3, fun j hj => ?_, RelAt.moved L h5 fun j u _ hu => ?_⟩
    · rw [cell_of_heap (hk _ hs), World.frozen?_of_block (a := ⟨(φ l).block, (φ l).base + j, none⟩) (hk _ hs)]
      exact h4 j hj
    · rw [cell_of_heap (hk _ hs)]; exact hu
  | map es clock =>
    simp only [OkNode] at hok ⊢
    rw [hk _ (G.size l ⟨_, hx, by simp⟩)]
    exact hok

theorem view_scal {cl : Bool} {h k : Heap} {n : Nat} (v : Value) : view cl h (n + 1) (.v v) = view cl k (n + 1) (.v v) := by
  cases v with
  | slice a b c => cases a <;> cases b <;> cases c <;> rfl
  | _ => rfl
theorem view_scal_some {h : Heap} {n : Nat} (v : Value) : ∃ c, view false h (n + 1) (.v v) = some c := by
  unfold view
  split
  all_goals first | exact ⟨_, rfl⟩ | (simp_all)
theorem mapC_scal {f : C → Option C} (hf : ∀ v, ∃ c, f (.v v) = some c) : ∀ {cs : List C}, (∀ x ∈ cs, ∃ v, x = C.v v) → ∃ vs, mapC f cs = some vs
  | [], _ => ⟨[], rfl⟩
  | x :: r, h => by
    obtain ⟨v, rfl⟩ := h x (List.mem_cons_self ..)
    obtain ⟨c, hc⟩ := hf v
    obtain ⟨vs, hvs⟩ := mapC_scal hf (cs := r) fun x hx => h x (List.mem_cons_of_mem _ hx)
    exact ⟨c :: vs, by simp [mapC, hc, hvs]⟩
theorem byVal_scal {run : List C → Heap → Option (C × Heap)} {cs : List C} {h : Heap} (k : Heap) (hc : ∀ x ∈ cs, ∃ v, x = C.v v) : byVal run cs h = byVal run cs k := by
  obtain ⟨vs, hvs⟩ := mapC_scal (f := view false [] depth) view_scal_some hc
  unfold byVal
  rw [hvs]
theorem byValN_scal {run : List C → Heap → Option (C × Heap)} {cs : List C} {h : Heap} (k : Heap) (hc : ∀ x ∈ cs, ∃ v, x = C.v v) : byValN run cs h = byValN run cs k := by
  obtain ⟨vs, hvs⟩ := mapC_scal (f := viewN false [] depth) (fun v => ⟨_, rfl⟩) hc
  unfold byValN
  rw [hvs]
theorem mapC_some {f g : C → Option C} (h : ∀ c d, f c = some d → g c = some d) : ∀ {cs ds : List C}, mapC f cs = some ds → mapC g cs = some ds
  | [], ds, e => e
  | c :: cs, ds, e => by
    simp only [mapC, Option.bind_eq_bind, Option.bind_eq_some_iff, Option.some.injEq] at e ⊢
    obtain ⟨d, h1, es, h2, rfl⟩ := e
    exact ⟨d, h _ _ h1, es, mapC_some h h2, rfl⟩
theorem view_more {cl : Bool} {h h' : Heap} (hh : ∀ (l : Nat) (nd : Node), h[l]? = some nd → h'[l]? = some nd) : ∀ (n : Nat) (c d : C), view cl h n c = some d → view false h' n c = some d
  | 0, c, d, e => by simp [view] at e
  | n + 1, c, d, e => by
    have ih := view_more (cl := cl) hh n
    unfold view at e
    split at e
    · exact e
    · rename_i x hx
      cases e
      unfold view
      split
      · rename_i heq; cases heq; exact absurd rfl hx
      · rename_i heq; cases heq; rfl
      all_goals (rename_i heq; cases heq)
    · rename_i xs len cap
      simp only [view]
      split at e
      · rename_i h0; cases e; rw [if_pos h0]
      · rename_i h0
        split at e
        · cases e
        · cases e; rw [if_neg h0]; rfl
    · split at e
      · cases e
      · cases e; rfl
    · rename_i l off len cap
      simp only [view]
      split at e
      · rename_i h0; cases e; rw [if_pos h0]
      · rename_i h0
        rw [if_neg h0]
        split at e
        · rename_i es cs hl
          simp only [hh _ _ hl]
          simp only [Option.bind_eq_bind, Option.bind_eq_some_iff] at e ⊢
          obtain ⟨xs, h1, ys, h2, h3⟩ := e
          exact ⟨xs, h1, ys, mapC_some ih h2, h3⟩
        · cases e
    · rename_i l off
      simp only [view]
      split at e
      · rename_i es cs hl
        simp only [hh _ _ hl]
        simp only [Option.map_eq_some_iff] at e ⊢
        obtain ⟨ys, h2, h3⟩ := e
        exact ⟨ys, mapC_some ih h2, h3⟩
      · cases e
    · cases e
    all_goals
      simp only [view]
      simp only [Option.map_eq_some_iff] at e ⊢
      obtain ⟨ys, h2, h3⟩ := e
      exact ⟨ys, mapC_some ih h2, h3⟩


theorem viewN_more {cl : Bool} {h h' : Heap} (hh : ∀ (l : Nat) (nd : Node), h[l]? = some nd → h'[l]? = some nd) : ∀ (n : Nat) (c d : C), viewN cl h n c = some d → viewN false h' n c = some d
  | 0, c, d, e => by simp [viewN] at e
  | n + 1, c, d, e => by
    have ih := viewN_more (cl := cl) hh n
    unfold viewN at e
    split at e
    · cases e; rfl
    · rename_i xs len cap
      simp only [viewN]
      split at e
      · rename_i h0; cases e; rw [if_pos h0]
      · rename_i h0
        split at e
        · cases e
        · cases e; rw [if_neg h0]; rfl
    · split at e
      · cases e
      · cases e; rfl
    · rename_i l off len cap
      simp only [viewN]
      split at e
      · rename_i h0; cases e; rw [if_pos h0]
      · rename_i h0
        rw [if_neg h0]
        split at e
        · rename_i es cs hl
          simp only [hh _ _ hl]
          simp only [Option.bind_eq_bind, Option.bind_eq_some_iff] at e ⊢
          obtain ⟨xs, h1, ys, h2, h3⟩ := e
          exact ⟨xs, h1, ys, mapC_some ih h2, h3⟩
        · cases e
    · rename_i l off
      simp only [viewN]
      split at e
      · rename_i es cs hl
        simp only [hh _ _ hl]
        simp only [Option.map_eq_some_iff] at e ⊢
        obtain ⟨ys, h2, h3⟩ := e
        exact ⟨ys, mapC_some ih h2, h3⟩
      · cases e
    · cases e
    all_goals
      simp only [viewN]
      simp only [Option.map_eq_some_iff] at e ⊢
      obtain ⟨ys, h2, h3⟩ := e
      exact ⟨ys, mapC_some ih h2, h3⟩


theorem byVal_grow {run : List C → Heap → Option (C × Heap)} {cs : List C} {h k : Heap} (g : ∀ (l : Nat) (nd : Node), h[l]? = some nd → k[l]? = some nd) {d : C} (hd : byVal run cs h = some d) : byVal run cs k = some d := by
  unfold byVal at hd ⊢
  split at hd
  · exact hd
  · simp only [Option.bind_eq_some_iff] at hd ⊢
    obtain ⟨vs, h1, h2⟩ := hd
    exact ⟨vs, mapC_some (view_more (cl := false) g depth) h1, h2⟩
theorem byValN_grow {run : List C → Heap → Option (C × Heap)} {cs : List C} {h k : Heap} (g : ∀ (l : Nat) (nd : Node), h[l]? = some nd → k[l]? = some nd) {d : C} (hd : byValN run cs h = some d) : byValN run cs k = some d := by
  unfold byValN at hd ⊢
  split at hd
  · exact hd
  · simp only [Option.bind_eq_some_iff] at hd ⊢
    obtain ⟨vs, h1, h2⟩ := hd
    exact ⟨vs, mapC_some (viewN_more (cl := false) g depth) h1, h2⟩
theorem vals_ok {tab : Tab} : ∀ n, ValsOk (valsOf tab) (callAt P tab n)
  | 0 => fun f cs h c h' _ hc => by simp [callAt] at hc
  | n + 1 => fun f cs h c h' hf hc => by
    unfold valsOf at hf
    split at hf
    · rename_i k hk
      simp only [callAt] at hc ⊢
      split at hc
      · rename_i k' m fn htab hfn
        rw [hk] at htab
        cases htab
        simp only [Option.map_eq_some_iff, Prod.mk.injEq] at hc
        obtain ⟨d, hd, rfl, rfl⟩ := hc
        refine ⟨rfl, fun q hq => ?_⟩
        have hd' : byVal (body P (valsOf tab) (callAt P tab n) n fn k) cs q = some d := by
          rcases hq with hq | hq
          · rw [← byVal_scal (h := h) q hq]; exact hd
          · exact byVal_grow hq hd
        simp only [hk, hfn, hd', Option.map_some]
      · cases hc
    · rename_i k hk
      simp only [callAt] at hc ⊢
      split at hc
      · rename_i k' m fn htab hfn
        rw [hk] at htab
        cases htab
        simp only [Option.map_eq_some_iff, Prod.mk.injEq] at hc
        obtain ⟨d, hd, rfl, rfl⟩ := hc
        refine ⟨rfl, fun q hq => ?_⟩
        have hd' : byValN (body P (valsOf tab) (callAt P tab n) n fn k) cs q = some d := by
          rcases hq with hq | hq
          · rw [← byValN_scal (h := h) q hq]; exact hd
          · exact byValN_grow hq hd
        simp only [hk, hfn, hd', Option.map_some]
      · cases hc
    · cases hf

theorem callAt_both {tab : Tab} (hmix : P.follows .mixedOrders = true) (ht : TabOk P tab) : ∀ n, CallOk P (callAt P tab n) ∧ ValSound P (valsOf tab) (callAt P tab n)
  | 0 => ⟨fun f cs h c h' hc => by simp [callAt] at hc, fun f cs h c h' _ hc => by simp [callAt] at hc⟩
  | n + 1 => by
    obtain ⟨ih, ihv⟩ := callAt_both hmix ht n
    have hvs : ValSound P (valsOf tab) (callAt P tab (n + 1)) := fun f cs h c h' hvf hc w X S φ us G sq hr => by
      simp only [callAt] at hc
      split at hc
      · rename_i k m fn htab hfn
        obtain ⟨fn', code, ks, ks', hfn', hname, hb, hk⟩ := ht f k m htab
        rw [hfn] at hfn'
        cases hfn'
        cases m with
        | ref => simp [valsOf, htab] at hvf
        | val =>
          simp only [Option.map_eq_some_iff, Prod.mk.injEq] at hc
          obtain ⟨c', hv, rfl, rfl⟩ := hc
          have hbad : ∀ b, badOf X φ h b → b < w.heap.size := fun b hb => by
            rcases hb with hb | ⟨l, hl, rfl⟩
            · exact G.xlt b hb
            · exact G.size l hl
          have sq0 : SeqOk noName [] := fun l hl => hl.elim
          have frame : ∀ {w' : World} {S' : Nat → Prop} {φ' : Nat → Loc} {h2 : Heap}, Ext w noName φ [] w' S' φ' h2 → Ext w S φ h w' S φ h := fun E =>
            ⟨E.os, E.tape, E.output, E.size, fun b hb _ => E.keep b hb own_nil, fun l hl => ⟨hl, rfl⟩, fun l hl => .inl ⟨l, hl, rfl⟩⟩
          have nil2 : ∀ {Y : Nat → Prop} {b : Nat}, badOf Y φ [] b → Y b := fun hb => hb.resolve_right own_nil
          unfold byVal at hv
          split at hv
          · rename_i vs hvs
            simp only [Option.bind_eq_some_iff] at hv
            obtain ⟨⟨r, h2⟩, hbd, hvr⟩ := hv
            -- the arguments, with no heap
            have G0 : Good w (badOf X φ h) noName φ [] := good_nil hbad
            have hargs : RelL w (badOf (badOf X φ h) φ []) noName φ vs us := by
              refine mapC_rel (bad := badOf X φ h) (S := S) (φ := φ) (fun c d u hcd hrel => ?_) hvs hr
              have G1 : Good w (badOf X φ h) S φ [] := ⟨fun l nd h => by simp at h, fun l ⟨_, h, _⟩ => by simp at h, fun l ⟨_, h, _⟩ => by simp at h, fun l _ ⟨_, h, _⟩ => by simp at h, hbad, fun l ⟨_, h, _⟩ => by simp at h⟩
              have hr1 : Rel w (badOf (badOf X φ h) φ []) S φ c u := Rel.later ⟨fun _ _ _ _ _ h => h, fun b _ hb => nil2 hb, Nat.le_refl _, fun _ h => ⟨h, rfl⟩⟩ hrel
              have hr2 := view_rel G1 (Y := badOf X φ h) (cl := false) (fun l ⟨_, h, _⟩ => by simp at h) (fun _ b _ hb => .inl hb) φ depth _ _ _ hcd hr1
              exact Rel.later ⟨fun _ _ _ _ _ h => h, fun b _ hb => nil2 hb, Nat.le_refl _, fun _ h => h.elim⟩ hr2
            refine (body_sound ih (vals_ok n) ihv hmix hfn hb hk hbd G0 sq0 hargs).mono fun e w' ⟨u, S', φ', he, G', E, hrel, sq'⟩ => ?_
            have E' := frame E
            refine ⟨u, he, good_same G E' (fun b hb => E.keep b hb own_nil), E', ?_⟩
            have hr2 := view_rel G' (Y := badOf X φ h) (cl := false) (fun l hl => G'.apart l hl) (fun _ b _ hb => .inl hb) φ depth _ _ _ hvr hrel
            exact Rel.later ⟨fun _ _ _ _ _ h => h, fun b _ hb => hb, Nat.le_refl _, fun _ h => h.elim⟩ hr2
          · simp only [Option.bind_eq_some_iff] at hv
            obtain ⟨vs, hvs, ⟨r, h2⟩, hbd, hvr⟩ := hv
            have G0 : Good w X noName φ [] := good_nil G.xlt
            have hargs : RelL w (badOf X φ []) noName φ vs us := by
              refine mapC_rel (bad := badOf X φ h) (S := S) (φ := φ) (fun c d u hcd hrel => ?_) hvs hr
              have hr2 := view_rel G (Y := X) (cl := false) G.apart (fun _ b _ hb => .inl hb) φ depth _ _ _ hcd hrel
              exact Rel.later ⟨fun _ _ _ _ _ h => h, fun b _ hb => nil2 hb, Nat.le_refl _, fun _ h => h.elim⟩ hr2
            refine (body_sound ih (vals_ok n) ihv hmix hfn hb hk hbd G0 sq0 hargs).mono fun e w' ⟨u, S', φ', he, G', E, hrel, sq'⟩ => ?_
            have E' := frame E
            refine ⟨u, he, good_same G E' (fun b hb => E.keep b hb own_nil), E', ?_⟩
            have hr2 := view_rel G' (Y := fun b => b < w.heap.size) (cl := true) (fun l hl hlt => ?_) (fun h => by cases h) φ depth _ _ _ hvr hrel
            · exact Rel.later ⟨fun _ _ _ _ _ h => h, fun b _ hb => hbad b hb, Nat.le_refl _, fun _ h => h.elim⟩ hr2
            · rcases E.own l hl with ho | ho
              · exact own_nil ho
              · omega
        | keep =>
          simp only [Option.map_eq_some_iff, Prod.mk.injEq] at hc
          obtain ⟨c', hv, rfl, rfl⟩ := hc
          have hbad : ∀ b, badOf X φ h b → b < w.heap.size := fun b hb => by
            rcases hb with hb | ⟨l, hl, rfl⟩
            · exact G.xlt b hb
            · exact G.size l hl
          have sq0 : SeqOk noName [] := fun l hl => hl.elim
          have frame : ∀ {w' : World} {S' : Nat → Prop} {φ' : Nat → Loc} {h2 : Heap}, Ext w noName φ [] w' S' φ' h2 → Ext w S φ h w' S φ h := fun E =>
            ⟨E.os, E.tape, E.output, E.size, fun b hb _ => E.keep b hb own_nil, fun l hl => ⟨hl, rfl⟩, fun l hl => .inl ⟨l, hl, rfl⟩⟩
          have nil2 : ∀ {Y : Nat → Prop} {b : Nat}, badOf Y φ [] b → Y b := fun hb => hb.resolve_right own_nil
          unfold byValN at hv
          split at hv
          · rename_i vs hvs
            simp only [Option.bind_eq_some_iff] at hv
            obtain ⟨⟨r, h2⟩, hbd, hvr⟩ := hv
            -- the arguments, with no heap
            have G0 : Good w (badOf X φ h) noName φ [] := good_nil hbad
            have hargs : RelL w (badOf (badOf X φ h) φ []) noName φ vs us := by
              refine mapC_rel (bad := badOf X φ h) (S := S) (φ := φ) (fun c d u hcd hrel => ?_) hvs hr
              have G1 : Good w (badOf X φ h) S φ [] := ⟨fun l nd h => by simp at h, fun l ⟨_, h, _⟩ => by simp at h, fun l ⟨_, h, _⟩ => by simp at h, fun l _ ⟨_, h, _⟩ => by simp at h, hbad, fun l ⟨_, h, _⟩ => by simp at h⟩
              have hr1 : Rel w (badOf (badOf X φ h) φ []) S φ c u := Rel.later ⟨fun _ _ _ _ _ h => h, fun b _ hb => nil2 hb, Nat.le_refl _, fun _ h => ⟨h, rfl⟩⟩ hrel
              have hr2 := viewN_rel G1 (Y := badOf X φ h) (cl := false) (fun l ⟨_, h, _⟩ => by simp at h) (fun _ b _ hb => .inl hb) φ depth _ _ _ hcd hr1
              exact Rel.later ⟨fun _ _ _ _ _ h => h, fun b _ hb => nil2 hb, Nat.le_refl _, fun _ h => h.elim⟩ hr2
            refine (body_sound ih (vals_ok n) ihv hmix hfn hb hk hbd G0 sq0 hargs).mono fun e w' ⟨u, S', φ', he, G', E, hrel, sq'⟩ => ?_
            have E' := frame E
            refine ⟨u, he, good_same G E' (fun b hb => E.keep b hb own_nil), E', ?_⟩
            have hr2 := viewN_rel G' (Y := badOf X φ h) (cl := false) (fun l hl => G'.apart l hl) (fun _ b _ hb => .inl hb) φ depth _ _ _ hvr hrel
            exact Rel.later ⟨fun _ _ _ _ _ h => h, fun b _ hb => hb, Nat.le_refl _, fun _ h => h.elim⟩ hr2
          · simp only [Option.bind_eq_some_iff] at hv
            obtain ⟨vs, hvs, ⟨r, h2⟩, hbd, hvr⟩ := hv
            have G0 : Good w X noName φ [] := good_nil G.xlt
            have hargs : RelL w (badOf X φ []) noName φ vs us := by
              refine mapC_rel (bad := badOf X φ h) (S := S) (φ := φ) (fun c d u hcd hrel => ?_) hvs hr
              have hr2 := viewN_rel G (Y := X) (cl := false) G.apart (fun _ b _ hb => .inl hb) φ depth _ _ _ hcd hrel
              exact Rel.later ⟨fun _ _ _ _ _ h => h, fun b _ hb => nil2 hb, Nat.le_refl _, fun _ h => h.elim⟩ hr2
            refine (body_sound ih (vals_ok n) ihv hmix hfn hb hk hbd G0 sq0 hargs).mono fun e w' ⟨u, S', φ', he, G', E, hrel, sq'⟩ => ?_
            have E' := frame E
            refine ⟨u, he, good_same G E' (fun b hb => E.keep b hb own_nil), E', ?_⟩
            have hr2 := viewN_rel G' (Y := fun b => b < w.heap.size) (cl := true) (fun l hl hlt => ?_) (fun h => by cases h) φ depth _ _ _ hvr hrel
            · exact Rel.later ⟨fun _ _ _ _ _ h => h, fun b _ hb => hbad b hb, Nat.le_refl _, fun _ h => h.elim⟩ hr2
            · rcases E.own l hl with ho | ho
              · exact own_nil ho
              · omega
      · cases hc
    refine ⟨fun f cs h c h' hc => ?_, hvs⟩
    have hc0 := hc
    simp only [callAt] at hc
    split at hc
    · rename_i k m fn htab hfn
      obtain ⟨fn', code, ks, ks', hfn', hname, hb, hk⟩ := ht f k m htab
      rw [hfn] at hfn'
      cases hfn'
      refine ⟨⟨fn, code, hfn, hname, hb⟩, fun w X S φ us G sq hr => ?_⟩
      cases m with
      | ref =>
        simp only at hc
        exact (body_sound ih (vals_ok n) ihv hmix hfn hb hk hc G sq hr).mono fun e w' ⟨u, S', φ', he, G', E, hrel, sq'⟩ => ⟨u, S', φ', he, G', E, hrel, .inr sq'⟩
      | val => exact (hvs f cs h c h' (by simp [valsOf, htab]) hc0 w X S φ us G sq hr).mono fun e w' ⟨u, he, G', E, hr⟩ => ⟨u, S, φ, he, by
          obtain rfl := (vals_ok (n + 1) f cs h c h' (by simp [valsOf, htab]) hc0).1; exact G', by
          obtain rfl := (vals_ok (n + 1) f cs h c h' (by simp [valsOf, htab]) hc0).1; exact E, by
          obtain rfl := (vals_ok (n + 1) f cs h c h' (by simp [valsOf, htab]) hc0).1; exact hr, .inl ⟨rfl, rfl, (vals_ok (n + 1) f cs h c h' (by simp [valsOf, htab]) hc0).1⟩⟩
      | keep => exact (hvs f cs h c h' (by simp [valsOf, htab]) hc0 w X S φ us G sq hr).mono fun e w' ⟨u, he, G', E, hr⟩ => ⟨u, S, φ, he, by
          obtain rfl := (vals_ok (n + 1) f cs h c h' (by simp [valsOf, htab]) hc0).1; exact G', by
          obtain rfl := (vals_ok (n + 1) f cs h c h' (by simp [valsOf, htab]) hc0).1; exact E, by
          obtain rfl := (vals_ok (n + 1) f cs h c h' (by simp [valsOf, htab]) hc0).1; exact hr, .inl ⟨rfl, rfl, (vals_ok (n + 1) f cs h c h' (by simp [valsOf, htab]) hc0).1⟩⟩
    · cases hc
theorem callAt_ok {tab : Tab} (hmix : P.follows .mixedOrders = true) (ht : TabOk P tab) (n : Nat) : CallOk P (callAt P tab n) := (callAt_both hmix ht n).1
end
end Go.Tm
