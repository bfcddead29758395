import Derived.Test.YtahcbcgakadfpaaTF
import Derived.Scope
namespace Go.Tm

/-! ### Code as the machine keeps it -/
inductive Ann where
  | keep (l : List Nat)
  | draw (keep : List Nat) (ds : List (Nat × List Nat × Cls))

/-- What K itself says of its regions and loops. -/
def annOf : K → List Ann
  | .reg _ k => [.keep k]
  | .draw ds k => [.draw k (ds.map fun d => (d.ix, d.anc, d.cls))]
  | .seq a b => annOf a ++ annOf b
  | .cond _ a b => annOf a ++ annOf b
  | .block _ a => annOf a
  | .loop k a => .keep k :: annOf a
  | _ => []

def toIs (N : Nat) (ops : Array Oper) : List Oper → Option (List I)
  | [] => some []
  | o :: r => do
    let i ← toI N ops o
    let is ← toIs N ops r
    some (i :: is)

def toDs (N : Nat) (ops : Array Oper) : List (Nat × List Nat × Cls) → Option (List D)
  | [] => some []
  | (ix, anc, cls) :: r => do
    let o ← ops[ix]?
    let i ← toI N ops o
    let ds ← toDs N ops r
    some (⟨ix, i, anc, cls⟩ :: ds)

def clash (d e : D) : Bool :=
  (match d.i.dst with | some t => (uses e.i).contains t || e.i.dst == some t | none => false) ||
  (match e.i.dst with | some t => (uses d.i).contains t | none => false)

/-- Must the one be ahead of the other? -/
def frB (d e : D) : Bool :=
  match d.cls, e.cls with
  | .pure, .load => isNew d.i.op
  | .pure, .chain => isNew d.i.op
  | _, _ => false

/-- Whoever comes behind a new row comes behind all that turns the heap ahead of that row's place. -/
def chB (all : List D) (g : D) : Bool :=
  (List.range all.length).all fun q => match all[q]? with
    | some e => match e.cls with
      | .pure => !(isNew e.i.op && g.anc.contains e.ix) || (all.take q).all fun s => match s.cls with
        | .chain => g.anc.contains s.ix
        | _ => true
      | _ => true
    | none => true
def clsB (d : D) : Bool :=
  match d.cls with
  | .pure => pureOk d.i.op || isNew d.i.op
  | .load => true
  | .chain => chainOk d.i.op

def okAt (ops : Array Oper) (all : List D) (p : Nat) : Bool :=
  match all[p]? with
  | none => true
  | some d =>
    let seen := all.take p
    seen.all (fun s => s.ix != d.ix) &&
    (match ops[d.ix]? with
      | some o => d.anc.all (fun a => o.after.toList.any fun e => Region.binds .any e && (a == e.on || all.any fun s => s.ix == e.on && s.anc.contains a)) &&
          o.after.toList.all (fun e => !Region.binds .any e || seen.any (fun s => s.ix == e.on))
      | none => false) &&
    d.anc.all (fun a => seen.any fun s => s.ix == a) &&
    seen.all (fun s => !(clash s d || frB s d) || d.anc.contains s.ix) &&
    (chB all d && clsB d)

def okD (ops : Array Oper) (all : List D) : Bool :=
  (List.range ops.size).all (fun i => all.any fun d => d.ix == i) && (List.range all.length).all (okAt ops all)

theorem any_get {α : Type} {l : List α} {f : α → Bool} (h : l.any f = true) : ∃ (q : Nat) (x : α), l[q]? = some x ∧ f x = true := by
  obtain ⟨x, hx, hf⟩ := List.any_eq_true.1 h
  obtain ⟨q, hq⟩ := List.mem_iff_getElem?.1 hx
  exact ⟨q, x, hq, hf⟩

theorem toDs_get {N : Nat} {ops : Array Oper} : ∀ {l : List (Nat × List Nat × Cls)} {ds : List D}, toDs N ops l = some ds → ∀ (p : Nat) (d : D), ds[p]? = some d → ∃ o, ops[d.ix]? = some o ∧ toI N ops o = some d.i
  | [], ds, h, p, d, hd => by simp only [toDs, Option.some.injEq] at h; subst h; simp at hd
  | (ix, anc, cls) :: l, ds, h, p, d, hd => by
    simp only [toDs, Option.bind_eq_bind, Option.bind_eq_some_iff, Option.some.injEq] at h
    obtain ⟨o, ho, i, hi, es, he, rfl⟩ := h
    cases p with
    | zero => simp at hd; subst hd; exact ⟨o, ho, hi⟩
    | succ p => exact toDs_get he p d (by simpa using hd)

theorem drawOk_of {N : Nat} {ops : Array Oper} {l : List (Nat × List Nat × Cls)} {ds : List D} (h : toDs N ops l = some ds) (hok : okD ops ds = true) : DrawOk N ops ds := by
  unfold okD at hok
  rw [Bool.and_eq_true] at hok
  obtain ⟨hcov, hat⟩ := hok
  have at_ : ∀ (p : Nat) (d : D), ds[p]? = some d → okAt ops ds p = true := fun p d hd => List.all_eq_true.1 hat p (List.mem_range.2 (List.getElem?_eq_some_iff.1 hd).1)
  have tk : ∀ (p q : Nat) (d : D), (ds.take p)[q]? = some d → q < p ∧ ds[q]? = some d := fun p q d hq => by
    rw [List.getElem?_take] at hq
    split at hq
    · exact ⟨by assumption, hq⟩
    · cases hq
  have tk' : ∀ (p q : Nat) (d : D), q < p → ds[q]? = some d → d ∈ ds.take p := fun p q d hq hd => List.mem_iff_getElem?.2 ⟨q, by rw [List.getElem?_take, if_pos hq]; exact hd⟩
  refine ⟨fun i hi => ?_, fun p q d e hp hq hix => ?_, fun p d hd => ?_, fun p d hd a ha => ?_, fun p q d e t hpq hp hq hc => ?_, fun p d hd => ?_, fun p q d e hpq hp hq h3 h4 h5 => ?_, fun p q x d e g hpq hp hq hg hc1 hc2 hc3 ha => ?_⟩
  · obtain ⟨q, x, hq, hx⟩ := any_get (List.all_eq_true.1 hcov i (List.mem_range.2 hi))
    exact ⟨q, x, hq, by simpa using hx⟩
  · rcases Nat.lt_trichotomy p q with h | h | h
    · exfalso
      have := at_ q e hq
      simp only [okAt, hq, Bool.and_eq_true] at this
      have := List.all_eq_true.1 this.1.1.1.1 d (tk' q p d h hp)
      simp [hix] at this
    · exact h
    · exfalso
      have := at_ p d hp
      simp only [okAt, hp, Bool.and_eq_true] at this
      have := List.all_eq_true.1 this.1.1.1.1 e (tk' p q e h hq)
      simp [hix] at this
  · obtain ⟨o, ho, hi⟩ := toDs_get h p d hd
    have := at_ p d hd
    simp only [okAt, hd, ho, Bool.and_eq_true] at this
    obtain ⟨⟨⟨⟨_, hanc, hpre⟩, _⟩, _⟩, _⟩ := this
    refine ⟨o, ho, hi, fun a ha => ?_, fun e he hb => ?_⟩
    · obtain ⟨e, he, hb⟩ := List.any_eq_true.1 (List.all_eq_true.1 hanc a ha)
      simp only [Bool.and_eq_true, Bool.or_eq_true, beq_iff_eq] at hb
      refine ⟨e, Array.mem_toList_iff.1 he, hb.1, ?_⟩
      rcases hb.2 with h1 | h1
      · exact .inl h1
      · obtain ⟨q, x, hq, hx⟩ := any_get h1
        simp only [Bool.and_eq_true, beq_iff_eq, List.contains_iff_mem] at hx
        exact .inr ⟨q, x, hq, hx.1, hx.2⟩
    · have h2 := List.all_eq_true.1 hpre e (Array.mem_toList_iff.2 he)
      simp only [hb, Bool.not_true, Bool.false_or] at h2
      obtain ⟨q, x, hq, hx⟩ := any_get h2
      obtain ⟨h3, h4⟩ := tk p q x hq
      exact ⟨q, x, h3, h4, by simpa using hx⟩
  · have := at_ p d hd
    simp only [okAt, hd, Bool.and_eq_true] at this
    obtain ⟨q, x, hq, hx⟩ := any_get (List.all_eq_true.1 this.1.1.2 a ha)
    obtain ⟨h3, h4⟩ := tk p q x hq
    exact ⟨q, x, h3, h4, by simpa using hx⟩
  · have := at_ q e hq
    simp only [okAt, hq, Bool.and_eq_true] at this
    have h2 := List.all_eq_true.1 this.1.2 d (tk' q p d hpq hp)
    simp only [Bool.or_eq_true, Bool.not_eq_true', List.contains_iff_mem, Bool.or_eq_false_iff] at h2
    rcases h2 with ⟨h2, _⟩ | h2
    · exfalso
      have : clash d e = true := by
        unfold clash
        rcases hc with ⟨h3, h4⟩ | ⟨h3, h4⟩
        · rw [h3]
          rcases h4 with h4 | h4
          · simp [h4]
          · simp [h4]
        · rw [h3]; simp [h4]
      rw [this] at h2; cases h2
    · exact h2
  · have := at_ p d hd
    simp only [okAt, hd, Bool.and_eq_true] at this
    have hc := this.2.2
    unfold clsB at hc
    exact ⟨fun e => by rw [e] at hc; simpa using hc, fun e => by rw [e] at hc; exact hc⟩
  · have := at_ q e hq
    simp only [okAt, hq, Bool.and_eq_true] at this
    have h2 := List.all_eq_true.1 this.1.2 d (tk' q p d hpq hp)
    simp only [Bool.or_eq_true, Bool.not_eq_true', List.contains_iff_mem] at h2
    have key : frB d e = true → d.ix ∈ e.anc := fun hf => by
      rcases h2 with h2 | h2
      · rw [hf, Bool.or_true] at h2; cases h2
      · exact h2
    refine key ?_
    unfold frB
    rcases h5 with h5 | h5 <;> rw [h3, h5] <;> exact h4
  · have := at_ x g hg
    simp only [okAt, hg, Bool.and_eq_true] at this
    have h2 := this.2.1
    unfold chB at h2
    have h3 := List.all_eq_true.1 h2 q (List.mem_range.2 (List.getElem?_eq_some_iff.1 hq).1)
    simp only [hq, hc2, hc3, Bool.true_and, Bool.or_eq_true, Bool.not_eq_true'] at h3
    rcases h3 with h3 | h3
    · rw [List.contains_iff_mem.2 ha] at h3; cases h3
    · have h4 := List.all_eq_true.1 h3 d (tk' q p d hpq hp)
      simp only [hc1] at h4
      exact List.contains_iff_mem.1 h4

/-- From the model's code, and what is said of each region and each loop. -/
def ofCode (N : Nat) : Code → List Ann → Option (K × List Ann)
  | .skip, ks => some (.skip, ks)
  | .region _ ops false, .keep k :: ks => (toIs N ops ops.toList).map fun is => (.reg is k, ks)
  | .region _ ops true, .draw k l :: ks => (toDs N ops l).bind fun ds => if okD ops ds = true then some (.draw ds k, ks) else none
  | .seq a b, ks => (ofCode N a ks).bind fun x => (ofCode N b x.2).map fun y => (.seq x.1 y.1, y.2)
  | .cond c a b, ks => (ofCode N a ks).bind fun x => (ofCode N b x.2).map fun y => (.cond c x.1 y.1, y.2)
  | .block id a, ks => (ofCode N a ks).map fun x => (.block id x.1, x.2)
  | .loop a, .keep k :: ks => (ofCode N a ks).map fun x => (.loop k x.1, x.2)
  | .exit id, ks => some (.exit id, ks)
  | .ret, ks => some (.ret, ks)
  | .scope a, ks => ofCode N a ks
  | .label _, ks => some (.skip, ks)
  | _, _ => none

section
variable {P : Program} {N : Nat} {X : Nat → Prop}

theorem runI_sound {call : CallF} (hcall : CallOk P call) {ops : Array Oper} {Q : Exit → Act → World → Prop} : ∀ {l : List Oper} {is : List I}, toIs N ops l = some is → ∀ {st st' : St}, runI P call is st = some st' →
    ∀ {S : Nat → Prop} {φ : Nat → Loc} {a : Act} {w : World}, At N X st S φ a w → (∀ S' φ' a' w', At N X st' S' φ' a' w' → Ext w S φ st.heap w' S' φ' st'.heap → Q .normal a' w') → wpList P ops Q l a w
  | [], is, hi, st, st', hr, S, φ, a, w, A, hq => by
    simp only [toIs, Option.some.injEq] at hi
    subst hi
    simp only [runI, Option.some.injEq] at hr
    subst hr
    exact hq S φ a w A (Ext.refl _ _ _ _)
  | o :: l, is, hi, st, st', hr, S, φ, a, w, A, hq => by
    simp only [toIs, Option.bind_eq_bind, Option.bind_eq_some_iff, Option.some.injEq] at hi
    obtain ⟨i, hi, js, hj, rfl⟩ := hi
    simp only [runI, Option.bind_eq_bind, Option.bind_eq_some_iff] at hr
    obtain ⟨st1, hs, hr⟩ := hr
    refine wpList_step fun K hK => ?_
    exact stepI_sound hcall hi hs A fun S1 φ1 a1 w1 A1 E1 => hK _ _ (runI_sound hcall hj hr A1 fun S2 φ2 a2 w2 A2 E2 => hq S2 φ2 a2 w2 A2 (E1.trans E2))

def Ctl.toExit : Ctl → Exit
  | .normal => .normal
  | .exit id => .exit id
  | .ret => .ret

def PostC (N : Nat) (X : Nat → Prop) (ctl : Ctl) (st' : St) (w : World) (S : Nat → Prop) (φ : Nat → Loc) (h : Heap) : Exit → Act → World → Prop :=
  fun e a' w' => e = ctl.toExit ∧ ∃ S' φ', At N X st' S' φ' a' w' ∧ Ext w S φ h w' S' φ' st'.heap

theorem At.keep {st : St} {S : Nat → Prop} {φ : Nat → Loc} {a : Act} {w : World} (A : At N X st S φ a w) (ks : List Nat) : At N X ⟨keepE st.env ks, st.heap⟩ S φ a w :=
  ⟨A.good, A.seq, A.env.keep ks, A.size, A.defers⟩

/-- A piece of code that the machine carries out. -/
def Sound (P : Program) (N : Nat) (c : Code) (f : St → Option (Ctl × St)) : Prop :=
  ∀ st ctl st', f st = some (ctl, st') → ∀ X S φ a w, At N X st S φ a w → c.wp P (PostC N X ctl st' w S φ st.heap) a w

theorem sound_seq {x y : Code} {f g : St → Option (Ctl × St)} (hx : Sound P N x f) (hy : Sound P N y g) : Sound P N (.seq x y) fun st => andThen (f st) g := by
  intro st ctl st' h X S φ a w A
  replace h : andThen (f st) g = some (ctl, st') := h
  unfold andThen at h
  refine wp_seq ?_
  split at h
  · rename_i st1 hf
    refine Code.wp_mono (fun e a1 w1 hq => ?_) (hx st _ _ hf X S φ a w A)
    obtain ⟨rfl, S1, φ1, A1, E1⟩ := hq
    exact Code.wp_mono (fun e a2 w2 hq => by
      obtain ⟨rfl, S2, φ2, A2, E2⟩ := hq
      exact ⟨rfl, S2, φ2, A2, E1.trans E2⟩) (hy st1 _ _ h X S1 φ1 a1 w1 A1)
  · rename_i hne
    refine Code.wp_mono (fun e a1 w1 hq => ?_) (hx st _ _ h X S φ a w A)
    have hq' := hq
    obtain ⟨rfl, _⟩ := hq
    cases ctl with
    | normal => exact absurd h (hne _)
    | exit id => exact hq'
    | ret => exact hq'

theorem sound_block {id : Nat} {x : Code} {f : St → Option (Ctl × St)} (hx : Sound P N x f) : Sound P N (.block id x) fun st => leaves id (f st) := by
  intro st ctl st' h X S φ a w A
  replace h : leaves id (f st) = some (ctl, st') := h
  unfold leaves at h
  refine wp_block ?_
  split at h
  · rename_i j st1 hf
    refine Code.wp_mono (fun e a1 w1 hq => ?_) (hx st _ _ hf X S φ a w A)
    obtain ⟨rfl, S1, φ1, A1, E1⟩ := hq
    simp only [Ctl.toExit, Exit.inBlock]
    split at h
    · rename_i e
      cases h
      rw [if_pos e]
      exact ⟨rfl, S1, φ1, A1, E1⟩
    · rename_i e
      cases h
      rw [if_neg e]
      exact ⟨rfl, S1, φ1, A1, E1⟩
  · rename_i hne
    refine Code.wp_mono (fun e a1 w1 hq => ?_) (hx st _ _ h X S φ a w A)
    have hq' := hq
    obtain ⟨rfl, _⟩ := hq
    cases ctl with
    | normal => exact hq'
    | exit id => exact absurd h (hne _ _)
    | ret => exact hq'

theorem rounds_sound {x : Code} {f : St → Option (Ctl × St)} (hx : Sound P N x f) (ks : List Nat) {ctl : Ctl} {st' : St} {w : World} {S : Nat → Prop} {φ : Nat → Loc} {h : Heap} : ∀ (n : Nat) (st : St), iter (fun s => f ⟨keepE s.env ks, s.heap⟩) n st = some (ctl, st') →
    ∀ S1 φ1 a1 w1, At N X st S1 φ1 a1 w1 → Ext w S φ h w1 S1 φ1 st.heap → Code.rounds P x (PostC N X ctl st' w S φ h) n a1 w1
  | 0, st, hi, _, _, _, _, _, _ => by cases hi
  | n + 1, st, hi, S1, φ1, a1, w1, A1, E1 => by
    simp only [iter] at hi
    rw [rounds_succ]
    unfold andThen at hi
    split at hi
    · rename_i st1 hf
      refine Code.wp_mono (fun e a2 w2 hq => ?_) (hx _ _ _ hf X S1 φ1 a1 w1 (A1.keep ks))
      obtain ⟨rfl, S2, φ2, A2, E2⟩ := hq
      exact rounds_sound hx ks n st1 hi S2 φ2 a2 w2 A2 (E1.trans E2)
    · rename_i hne
      refine Code.wp_mono (fun e a2 w2 hq => ?_) (hx _ _ _ hi X S1 φ1 a1 w1 (A1.keep ks))
      obtain ⟨rfl, S2, φ2, A2, E2⟩ := hq
      cases ctl with
      | normal => exact absurd hi (hne _)
      | exit id => exact ⟨rfl, S2, φ2, A2, E1.trans E2⟩
      | ret => exact ⟨rfl, S2, φ2, A2, E1.trans E2⟩

theorem sound_loop {x : Code} {f : St → Option (Ctl × St)} (hx : Sound P N x f) (ks : List Nat) (n : Nat) : Sound P N (.loop x) fun st => iter (fun s => f ⟨keepE s.env ks, s.heap⟩) n st :=
  fun st ctl st' h X S φ a w A => wp_loop_rounds n (rounds_sound hx ks n st h S φ a w A (Ext.refl _ _ _ _))

theorem sound_cond {c : Operand} {x y : Code} {f g : St → Option (Ctl × St)} (hx : Sound P N x f) (hy : Sound P N y g) : Sound P N (.cond c x y) fun st => ((ev st.env c).bind boolOf).bind fun t => if t = true then f st else g st := by
  intro st ctl st' h X S φ a w A
  simp only [Option.bind_eq_some_iff] at h
  obtain ⟨t, ⟨d, hd, ht⟩, h⟩ := h
  have e := boolOf_rel (ev_rel A.env hd) ht
  refine wp_cond (t := t) e ?_
  cases t with
  | true => exact hx st _ _ h X S φ a w A
  | false => exact hy st _ _ h X S φ a w A

theorem exec_sound {call : CallF} {vals : FuncId → Bool} (hcall : CallOk P call) (hv : ValsOk vals call) (hvs : ValSound P vals call) (hmix : P.follows .mixedOrders = true) (n : Nat) : ∀ (c : Code) (ks ks' : List Ann) (k : K), ofCode N c ks = some (k, ks') → Sound P N c (exec P vals call n k)
  | .skip, ks, ks', k, h => by
    simp only [ofCode, Option.some.injEq, Prod.mk.injEq] at h
    obtain ⟨rfl, rfl⟩ := h
    intro st ctl st' h X S φ a w A
    simp only [exec, Option.some.injEq, Prod.mk.injEq] at h
    obtain ⟨rfl, rfl⟩ := h
    exact wp_skip ⟨rfl, S, φ, A, Ext.refl _ _ _ _⟩
  | .region id ops draw, ks, ks', k, h => by
    cases draw with
    | false =>
      cases ks with
      | nil => simp [ofCode] at h
      | cons an ks =>
        cases an with
        | draw kp l => simp [ofCode] at h
        | keep kp =>
          simp only [ofCode, Option.map_eq_some_iff, Prod.mk.injEq] at h
          obtain ⟨is, his, rfl, rfl⟩ := h
          intro st ctl st' h X S φ a w A
          simp only [exec, Option.map_eq_some_iff, Prod.mk.injEq] at h
          obtain ⟨st1, hr, rfl, rfl⟩ := h
          exact wp_region_list (runI_sound hcall his hr A fun S' φ' a' w' A' E' => ⟨rfl, S', φ', A'.keep kp, E'⟩)
    | true =>
      cases ks with
      | nil => simp [ofCode] at h
      | cons an ks =>
        cases an with
        | keep kp => simp [ofCode] at h
        | draw kp l =>
          simp only [ofCode, Option.bind_eq_some_iff] at h
          obtain ⟨ds, hds, h⟩ := h
          split at h
          · rename_i hok
            simp only [Option.some.injEq, Prod.mk.injEq] at h
            obtain ⟨rfl, rfl⟩ := h
            intro st ctl st' h X S φ a w A
            simp only [exec, Option.bind_eq_some_iff] at h
            obtain ⟨⟨rs, st1⟩, hr, h⟩ := h
            split at h
            · rename_i hc
              simp only [Option.some.injEq, Prod.mk.injEq] at h
              obtain ⟨rfl, rfl⟩ := h
              exact draw_sound hcall hv hvs hmix (drawOk_of hds hok) hr hc A fun S' φ' a' w' A' E' => ⟨rfl, S', φ', A'.keep kp, E'⟩
            · cases h
          · cases h
  | .seq x y, ks, ks', k, h => by
    simp only [ofCode, Option.bind_eq_some_iff, Option.map_eq_some_iff, Prod.mk.injEq] at h
    obtain ⟨⟨k1, ks1⟩, h1, ⟨k2, ks2⟩, h2, rfl, rfl⟩ := h
    exact sound_seq (exec_sound hcall hv hvs hmix n x _ _ _ h1) (exec_sound hcall hv hvs hmix n y _ _ _ h2)
  | .cond c x y, ks, ks', k, h => by
    simp only [ofCode, Option.bind_eq_some_iff, Option.map_eq_some_iff, Prod.mk.injEq] at h
    obtain ⟨⟨k1, ks1⟩, h1, ⟨k2, ks2⟩, h2, rfl, rfl⟩ := h
    exact sound_cond (exec_sound hcall hv hvs hmix n x _ _ _ h1) (exec_sound hcall hv hvs hmix n y _ _ _ h2)
  | .block id x, ks, ks', k, h => by
    simp only [ofCode, Option.map_eq_some_iff, Prod.mk.injEq] at h
    obtain ⟨⟨k1, ks1⟩, h1, rfl, rfl⟩ := h
    exact sound_block (exec_sound hcall hv hvs hmix n x _ _ _ h1)
  | .loop x, ks, ks', k, h => by
    cases ks with
    | nil => simp [ofCode] at h
    | cons an ks =>
      cases an with
      | draw kp l => simp [ofCode] at h
      | keep kp =>
        simp only [ofCode, Option.map_eq_some_iff, Prod.mk.injEq] at h
        obtain ⟨⟨k1, ks1⟩, h1, rfl, rfl⟩ := h
        exact sound_loop (exec_sound hcall hv hvs hmix n x _ _ _ h1) kp n
  | .exit id, ks, ks', k, h => by
    simp only [ofCode, Option.some.injEq, Prod.mk.injEq] at h
    obtain ⟨rfl, rfl⟩ := h
    intro st ctl st' h X S φ a w A
    simp only [exec, Option.some.injEq, Prod.mk.injEq] at h
    obtain ⟨rfl, rfl⟩ := h
    exact wp_exit ⟨rfl, S, φ, A, Ext.refl _ _ _ _⟩
  | .ret, ks, ks', k, h => by
    simp only [ofCode, Option.some.injEq, Prod.mk.injEq] at h
    obtain ⟨rfl, rfl⟩ := h
    intro st ctl st' h X S φ a w A
    simp only [exec, Option.some.injEq, Prod.mk.injEq] at h
    obtain ⟨rfl, rfl⟩ := h
    exact wp_ret ⟨rfl, S, φ, A, Ext.refl _ _ _ _⟩
  | .rangeFunc .., ks, ks', k, h => by simp [ofCode] at h
  | .scope x, ks, ks', k, h => by
    have hx := exec_sound hcall hv hvs hmix n x ks ks' k (by simpa only [ofCode] using h)
    intro st ctl st' h X S φ a w A
    refine wp_scope_straight (Code.wp_mono (fun e a' w' hq => ?_) (hx st ctl st' h X S φ a w A))
    obtain ⟨rfl, hq⟩ := hq
    cases ctl <;> exact ⟨rfl, hq⟩
  | .label l, ks, ks', k, h => by
    simp only [ofCode, Option.some.injEq, Prod.mk.injEq] at h
    obtain ⟨rfl, rfl⟩ := h
    intro st ctl st' h X S φ a w A
    simp only [exec, Option.some.injEq, Prod.mk.injEq] at h
    obtain ⟨rfl, rfl⟩ := h
    exact wp_label ⟨rfl, S, φ, A, Ext.refl _ _ _ _⟩
  | .goto _, ks, ks', k, h => by simp [ofCode] at h
  | .refuse _, ks, ks', k, h => by simp [ofCode] at h
end
end Go.Tm
