import Derived.Test.YtahcbcgakadfpaaTC
namespace Go.Tm

/-- What is asked of a region's operations as the machine keeps them: a function of the text. -/
structure DrawOk (N : Nat) (ops : Array Oper) (ds : List D) : Prop where
  cover : ∀ i, i < ops.size → ∃ (p : Nat) (d : D), ds[p]? = some d ∧ d.ix = i
  inj : ∀ (p q : Nat) (d e : D), ds[p]? = some d → ds[q]? = some e → d.ix = e.ix → p = q
  op : ∀ (p : Nat) (d : D), ds[p]? = some d → ∃ o, ops[d.ix]? = some o ∧ toI N ops o = some d.i ∧
    (∀ a ∈ d.anc, ∃ e ∈ o.after, Region.binds .any e = true ∧ (a = e.on ∨ ∃ (q : Nat) (d' : D), ds[q]? = some d' ∧ d'.ix = e.on ∧ a ∈ d'.anc)) ∧
    (∀ e ∈ o.after, Region.binds .any e = true → ∃ (q : Nat) (d' : D), q < p ∧ ds[q]? = some d' ∧ d'.ix = e.on)
  topo : ∀ (p : Nat) (d : D), ds[p]? = some d → ∀ a ∈ d.anc, ∃ (q : Nat) (d' : D), q < p ∧ ds[q]? = some d' ∧ d'.ix = a
  comp : ∀ (p q : Nat) (d e : D) (t : Nat), p < q → ds[p]? = some d → ds[q]? = some e → (d.i.dst = some t ∧ (t ∈ uses e.i ∨ e.i.dst = some t) ∨ e.i.dst = some t ∧ t ∈ uses d.i) → d.ix ∈ e.anc
  cls : ∀ (p : Nat) (d : D), ds[p]? = some d → (d.cls = .pure → pureOk d.i.op = true ∨ isNew d.i.op = true) ∧ (d.cls = .chain → chainOk d.i.op = true)
  fr : ∀ (p q : Nat) (d e : D), p < q → ds[p]? = some d → ds[q]? = some e → d.cls = .pure → isNew d.i.op = true → e.cls = .load ∨ e.cls = .chain → d.ix ∈ e.anc
  fr2 : ∀ (p q x : Nat) (d e g : D), p < q → ds[p]? = some d → ds[q]? = some e → ds[x]? = some g → d.cls = .chain → e.cls = .pure → isNew e.i.op = true → e.ix ∈ g.anc → d.ix ∈ g.anc

def putE (e : Env) (d : Option Nat) (c : C) : Env :=
  match d with
  | some t => (t, c) :: e
  | none => e
theorem St.put_eq (s : St) (d : Option Nat) (c : C) : s.put d c = ⟨putE s.env d c, s.heap⟩ := by cases d <;> rfl

section
variable {P : Program} {call : CallF}

/-- The run, place by place. -/
structure RunD (P : Program) (call : CallF) (ds : List D) (s s' : St) (rs : List Rec) : Prop where
  len : rs.length = ds.length
  at_ : ∀ (p : Nat) (r : Rec), rs[p]? = some r → ∃ d, ds[p]? = some d ∧ r.d = d ∧ recD P call d ⟨r.env, r.heap⟩ = some r
  first : ∀ r : Rec, rs[0]? = some r → r.env = s.env ∧ r.heap = s.heap
  next : ∀ (p : Nat) (r r' : Rec), rs[p]? = some r → rs[p + 1]? = some r' → r'.env = putE r.env r.d.i.dst r.c ∧ r'.heap = r.heap'
  last : ∀ r : Rec, rs[rs.length - 1]? = some r → s'.env = putE r.env r.d.i.dst r.c ∧ s'.heap = r.heap'
  none : rs = [] → s' = s

theorem recD_some {d : D} {s : St} {r : Rec} (h : recD P call d s = some r) : r.d = d ∧ r.env = s.env ∧ r.heap = s.heap ∧
    ∃ b, wantedC s.env d.i.g = some b ∧ r.on = b ∧ (b = true → stepOp P call Option.none s.env s.heap d.i.op = some (r.c, r.heap')) ∧ (b = false → r.c = undefC ∧ r.heap' = s.heap) := by
  simp only [recD, Option.bind_eq_bind, Option.bind_eq_some_iff] at h
  obtain ⟨b, hb, h⟩ := h
  cases b with
  | true =>
    simp only [if_true, Option.map_eq_some_iff] at h
    obtain ⟨x, hx, rfl⟩ := h
    exact ⟨rfl, rfl, rfl, true, hb, rfl, fun _ => hx, fun h => by cases h⟩
  | false =>
    simp only [Bool.false_eq_true, if_false, Option.some.injEq] at h
    subst h
    exact ⟨rfl, rfl, rfl, false, hb, rfl, fun h => (by cases h), fun _ => ⟨rfl, rfl⟩⟩

theorem recsD_run : ∀ {ds : List D} {s : St} {rs : List Rec} {s' : St}, recsD P call ds s = some (rs, s') → RunD P call ds s s' rs
  | [], s, rs, s', h => by
    simp only [recsD, Option.some.injEq, Prod.mk.injEq] at h
    obtain ⟨rfl, rfl⟩ := h
    exact ⟨rfl, fun p r h => by simp at h, fun r h => by simp at h, fun p r r' h => by simp at h, fun r h => by simp at h, fun _ => rfl⟩
  | d :: ds, s, rs, s', h => by
    simp only [recsD, Option.bind_eq_bind, Option.bind_eq_some_iff, Option.some.injEq, Prod.mk.injEq] at h
    obtain ⟨r, hr, ⟨qs, s2⟩, hq, rfl, rfl⟩ := h
    obtain ⟨h1, h2, h3, _⟩ := recD_some hr
    have R := recsD_run hq
    rw [St.put_eq] at R
    refine ⟨by simp [R.len], fun p x hx => ?_, fun x hx => ?_, fun p x y hx hy => ?_, fun x hx => ?_, fun h => by cases h⟩
    · cases p with
      | zero => simp at hx; subst hx; exact ⟨d, rfl, h1, by rw [h2, h3]; exact hr⟩
      | succ p => simpa using R.at_ p x (by simpa using hx)
    · simp at hx; subst hx; exact ⟨h2, h3⟩
    · cases p with
      | zero =>
        simp at hx; subst hx
        obtain ⟨e1, e2⟩ := R.first y (by simpa using hy)
        rw [h1, h2]
        exact ⟨e1, e2⟩
      | succ p => exact R.next p x y (by simpa using hx) (by simpa using hy)
    · cases qs with
      | nil =>
        simp at hx; subst hx
        have := R.none rfl
        simp only at this
        rw [this, h1, h2]
        exact ⟨rfl, rfl⟩
      | cons q qs =>
        refine R.last x ?_
        simpa using hx

/-- What the check says of two places. -/
structure ChkOk (vals : FuncId → Bool) (rs : List Rec) : Prop where
  load : ∀ (p : Nat) (r : Rec), rs[p]? = some r → r.on = true → r.d.cls = .load → loadOk vals r.env r.d.i.op = true
  pair : ∀ (p q : Nat) (r x : Rec), p < q → rs[p]? = some r → rs[q]? = some x → r.on = true → x.on = true → r.d.cls = .chain → (x.d.cls = .chain ∨ x.d.cls = .load) → r.d.ix ∈ x.d.anc
  apart : ∀ (p q : Nat) (r x : Rec), p < q → rs[p]? = some r → rs[q]? = some x → r.on = true → x.on = true → r.d.cls = .load → x.d.cls = .chain → r.d.ix ∈ x.d.anc ∨ Tm.apart r x = true
  len : ∀ (p : Nat) (r : Rec), rs[p]? = some r → r.on = true → r.d.cls = .chain → isCallV r.d.i.op = true → r.heap.length ≤ r.heap'.length

theorem chk_some {vals : FuncId → Bool} : ∀ {rs ls : List Rec} {cs : List Nat}, chk vals rs ls cs = true →
    ChkOk vals rs ∧ (∀ (q : Nat) (x : Rec), rs[q]? = some x → x.on = true → (x.d.cls = .chain ∨ x.d.cls = .load) → ∀ c ∈ cs, c ∈ x.d.anc) ∧ (∀ (q : Nat) (x : Rec), rs[q]? = some x → x.on = true → x.d.cls = .chain → ∀ l ∈ ls, l.d.ix ∈ x.d.anc ∨ Tm.apart l x = true)
  | [], ls, cs, _ => ⟨⟨fun p r h => by simp at h, fun p q r x _ h => by simp at h, fun p q r x _ h => by simp at h, fun p r h => by simp at h⟩, fun q x h => by simp at h, fun q x h => by simp at h⟩
  | r :: rs, ls, cs, h => by
    unfold chk at h
    by_cases hon : r.on = true
    · rw [if_pos hon] at h
      cases hc : r.d.cls with
      | pure =>
        rw [hc] at h
        obtain ⟨K, k1, k2⟩ := chk_some h
        refine ⟨⟨fun p x hx ho hl => ?_, fun p q x y hpq hx hy ho ho' hl hl' => ?_, fun p q x y hpq hx hy ho ho' hl hl' => ?_, fun p x hx ho hl hv => ?_⟩, fun q x hx ho hl => ?_, fun q x hx ho hl => ?_⟩
        · cases p with
          | zero => simp at hx; subst hx; rw [hc] at hl; cases hl
          | succ p => exact K.load p x (by simpa using hx) ho hl
        · cases q with
          | zero => omega
          | succ q => cases p with
            | zero => simp at hx; subst hx; rw [hc] at hl; cases hl
            | succ p => exact K.pair p q x y (by omega) (by simpa using hx) (by simpa using hy) ho ho' hl hl'
        · cases q with
          | zero => omega
          | succ q => cases p with
            | zero => simp at hx; subst hx; rw [hc] at hl; cases hl
            | succ p => exact K.apart p q x y (by omega) (by simpa using hx) (by simpa using hy) ho ho' hl hl'
        · cases p with
          | zero => simp at hx; subst hx; rw [hc] at hl; cases hl
          | succ p => exact K.len p x (by simpa using hx) ho hl hv
        · cases q with
          | zero => simp at hx; subst hx; rw [hc] at hl; rcases hl with hl | hl <;> cases hl
          | succ q => exact k1 q x (by simpa using hx) ho hl
        · cases q with
          | zero => simp at hx; subst hx; rw [hc] at hl; cases hl
          | succ q => exact k2 q x (by simpa using hx) ho hl
      | load =>
        rw [hc] at h
        simp only [Bool.and_eq_true, List.all_eq_true, List.contains_iff_mem] at h
        obtain ⟨⟨hcs, hlo⟩, h⟩ := h
        obtain ⟨K, k1, k2⟩ := chk_some h
        refine ⟨⟨fun p x hx ho hl => ?_, fun p q x y hpq hx hy ho ho' hl hl' => ?_, fun p q x y hpq hx hy ho ho' hl hl' => ?_, fun p x hx ho hl hv => ?_⟩, fun q x hx ho hl => ?_, fun q x hx ho hl => ?_⟩
        · cases p with
          | zero => simp at hx; subst hx; exact hlo
          | succ p => exact K.load p x (by simpa using hx) ho hl
        · cases q with
          | zero => omega
          | succ q => cases p with
            | zero => simp at hx; subst hx; rw [hc] at hl; cases hl
            | succ p => exact K.pair p q x y (by omega) (by simpa using hx) (by simpa using hy) ho ho' hl hl'
        · cases q with
          | zero => omega
          | succ q => cases p with
            | zero => simp at hx; subst hx; exact k2 q y (by simpa using hy) ho' hl' _ (by simp)
            | succ p => exact K.apart p q x y (by omega) (by simpa using hx) (by simpa using hy) ho ho' hl hl'
        · cases p with
          | zero => simp at hx; subst hx; rw [hc] at hl; cases hl
          | succ p => exact K.len p x (by simpa using hx) ho hl hv
        · cases q with
          | zero => simp at hx; subst hx; exact hcs
          | succ q => exact k1 q x (by simpa using hx) ho hl
        · cases q with
          | zero => simp at hx; subst hx; rw [hc] at hl; cases hl
          | succ q => exact fun l hl2 => k2 q x (by simpa using hx) ho hl l (by simp [hl2])
      | chain =>
        rw [hc] at h
        simp only [Bool.and_eq_true, List.all_eq_true, List.contains_iff_mem, Bool.or_eq_true (List.contains _ _)] at h
        obtain ⟨⟨⟨hcs, hls⟩, hlen⟩, h⟩ := h
        obtain ⟨K, k1, k2⟩ := chk_some h
        refine ⟨⟨fun p x hx ho hl => ?_, fun p q x y hpq hx hy ho ho' hl hl' => ?_, fun p q x y hpq hx hy ho ho' hl hl' => ?_, fun p x hx ho hl hv => ?_⟩, fun q x hx ho hl => ?_, fun q x hx ho hl => ?_⟩
        · cases p with
          | zero => simp at hx; subst hx; rw [hc] at hl; cases hl
          | succ p => exact K.load p x (by simpa using hx) ho hl
        · cases q with
          | zero => omega
          | succ q => cases p with
            | zero => simp at hx; subst hx; exact k1 q y (by simpa using hy) ho' hl' _ (by simp)
            | succ p => exact K.pair p q x y (by omega) (by simpa using hx) (by simpa using hy) ho ho' hl hl'
        · cases q with
          | zero => omega
          | succ q => cases p with
            | zero => simp at hx; subst hx; rw [hc] at hl; cases hl
            | succ p => exact K.apart p q x y (by omega) (by simpa using hx) (by simpa using hy) ho ho' hl hl'
        · cases p with
          | zero => simp at hx; subst hx; rw [hv] at hlen; simpa using hlen
          | succ p => exact K.len p x (by simpa using hx) ho hl hv
        · cases q with
          | zero => simp at hx; subst hx; exact hcs
          | succ q => exact fun c hc2 => k1 q x (by simpa using hx) ho hl c (by simp [hc2])
        · cases q with
          | zero => simp at hx; subst hx; exact hls
          | succ q => exact k2 q x (by simpa using hx) ho hl
    · rw [if_neg hon] at h
      obtain ⟨K, k1, k2⟩ := chk_some h
      refine ⟨⟨fun p x hx ho hl => ?_, fun p q x y hpq hx hy ho ho' hl hl' => ?_, fun p q x y hpq hx hy ho ho' hl hl' => ?_, fun p x hx ho hl hv => ?_⟩, fun q x hx ho hl => ?_, fun q x hx ho hl => ?_⟩
      · cases p with
        | zero => simp at hx; subst hx; exact absurd ho hon
        | succ p => exact K.load p x (by simpa using hx) ho hl
      · cases q with
        | zero => omega
        | succ q => cases p with
          | zero => simp at hx; subst hx; exact absurd ho hon
          | succ p => exact K.pair p q x y (by omega) (by simpa using hx) (by simpa using hy) ho ho' hl hl'
      · cases q with
        | zero => omega
        | succ q => cases p with
          | zero => simp at hx; subst hx; exact absurd ho hon
          | succ p => exact K.apart p q x y (by omega) (by simpa using hx) (by simpa using hy) ho ho' hl hl'
      · cases p with
        | zero => simp at hx; subst hx; exact absurd ho hon
        | succ p => exact K.len p x (by simpa using hx) ho hl hv
      · cases q with
        | zero => simp at hx; subst hx; exact absurd ho hon
        | succ q => exact k1 q x (by simpa using hx) ho hl
      · cases q with
        | zero => simp at hx; subst hx; exact absurd ho hon
        | succ q => exact k2 q x (by simpa using hx) ho hl
end
end Go.Tm
