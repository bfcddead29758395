import Derived.Test.YtahcbcgakadfpaaVF
set_option linter.unusedVariables false
namespace Go.Tm.V
open Go.Tm.Q (ifK ifK_inv forceN forceN_eq forceB forceB_eq optK optK_inv eqB eqB_eq subL subL_mem findX seen_agree touches_agree loadOk_agree fine_agree)
noncomputable section
section
variable {P : Program} {vals : FuncId → Bool} {call : CallF} {σ : Nat → Nat}
/-! ### What an operation is wanted for, where its value goes -/
abbrev Wt (R : Type) := E → (Bool → Option R) → Option R
def wt1 : Wt R := fun _ k => k true
def wtG (b : Bool) (c : Rd R) : Wt R := fun e k => c e fun v => @W.rec (fun _ => Option R) (fun _ => PUnit) (fun _ => none) (fun x => forceB (eqB x b) k) (fun _ => none) (fun _ _ _ _ => none) (fun _ _ => none) (fun _ _ _ _ => none) (fun _ _ => none) (fun _ => none) (fun _ _ _ => none) (fun _ _ => none) (fun xs _ => @List.rec W (fun _ => Option R) (k false) (fun _ _ _ => none) xs) PUnit.unit (fun _ _ _ _ => PUnit.unit) v
def gT (g : Option (Nat × Bool)) : List Nat := match g with | some (t, _) => [t] | none => []
def WtRef (σ : Nat → Nat) (g : Option (Nat × Bool)) (f : Wt R) : Prop := ∀ (e : E) (eo : Env) (k : Bool → Option R) (r : R), Ag σ (gT g) e eo → f e k = some r → ∃ w, wantedC eo g = some w ∧ k w = some r
theorem wt1_ref : WtRef σ none wt1 := fun e eo k r ha H => ⟨true, rfl, H⟩
theorem wtG_ref {t : Nat} {b : Bool} (ht : σ t < 24) : WtRef σ (some (t, b)) (wtG b (rdN (σ t))) := fun e eo k r ha H => by
  unfold wtG at H
  rw [rdN_ok ht] at H
  have hl := ha t (by simp [gT])
  simp only [wantedC, hl]
  cases hv : e.get (σ t) with
  | b x =>
    rw [hv] at H
    have H' : forceB (eqB x b) k = some r := H
    rw [forceB_eq, eqB_eq] at H'
    exact ⟨_, by simp only [W.c], H'⟩
  | tu xs =>
    rw [hv] at H
    cases xs with
    | nil => exact ⟨false, by simp only [W.c, cL_nil], H⟩
    | cons x xs => cases H
  | _ => rw [hv] at H; cases H
def compWt (σ : Nat → Nat) : Option (Nat × Bool) → Option (Wt R)
  | none => some wt1
  | some (t, b) => if σ t < 24 then some (wtG b (rdN (σ t))) else none
theorem compWt_ref : ∀ {g : Option (Nat × Bool)} {f : Wt R}, compWt σ g = some f → WtRef σ g f
  | none, f, h => by cases h; exact wt1_ref
  | some (t, b), f, h => by
    simp only [compWt] at h
    split at h
    · rename_i ht; cases h; exact wtG_ref ht
    · cases h
def wno : Wr R := fun _ e k => k e
/-- What is still looked at ahead of a write. -/
def lessL (d : Option Nat) (L : List Nat) : List Nat := match d with
  | some d => L.filter (fun t => !(Nat.beq t d))
  | none => L
def okW (σ : Nat → Nat) (d : Nat) (L : List Nat) : Bool := L.all fun t => Nat.beq t d || (!(Nat.beq (σ t) (σ d)) && Nat.ble (σ t) 23)
def compWr (σ : Nat → Nat) (d : Option Nat) (L : List Nat) : Option (Wr R) := match d with
  | none => some wno
  | some d => if σ d < 24 then (if okW σ d L = true then some (wrN (σ d)) else none) else none
theorem compWr_ref {d : Option Nat} {L : List Nat} {f : Wr R} (h : compWr σ d L = some f) {w : W} {e : E} {eo : Env} {k : E → Option R} {r : R} (ha : Ag σ (lessL d L) e eo) (H : f w e k = some r) : ∃ e', e'.x = e.x ∧ Ag σ L e' (putE eo d w.c) ∧ k e' = some r := by
  cases d with
  | none => cases h; exact ⟨e, rfl, ha, H⟩
  | some d =>
    simp only [compWr] at h
    split at h
    · rename_i hd
      split at h
      · rename_i hok
        cases h
        obtain ⟨e', h1, hx, h2, h3⟩ := wrN_ok hd w e k r H
        refine ⟨e', hx, fun t ht => ?_, h1⟩
        unfold okW at hok
        rw [List.all_eq_true] at hok
        have ho := hok t ht
        simp only [putE, look_cons]
        by_cases ed : d = t
        · subst ed; rw [if_pos rfl, h2]
        · rw [if_neg ed]
          have hb : Nat.beq t d = false := by
            cases hb : Nat.beq t d with
            | true => exact absurd (Nat.eq_of_beq_eq_true hb).symm ed
            | false => rfl
          rw [hb] at ho
          simp only [Bool.false_or, Bool.and_eq_true, Bool.not_eq_true'] at ho
          have hne : σ t ≠ σ d := fun q => by rw [q] at ho; simp at ho
          rw [h3 (σ t) (by have := Nat.le_of_ble_eq_true ho.2; omega) hne]
          exact ha t (List.mem_filter.2 ⟨ht, by rw [hb]; rfl⟩)
      · cases h
    · cases h
/-! ### Regions -/
abbrev Sg (R : Type) := E → H → (E → H → Option R) → Option R
def sg0 : Sg R := fun e h k => k e h
def iV (w : Wr R) (f : Vl R) (n : Sg R) : Sg R := fun e h k => f e h fun a h => w a e fun e => n e h k
def gV (c : Wt R) (w : Wr R) (f : Vl R) (n : Sg R) : Sg R := fun e h k => c e fun b => @Bool.rec (fun _ => Option R) (w uW e fun e => n e h k) (f e h fun a h => w a e fun e => n e h k) b
def addL (t : Nat) (L : List Nat) : List Nat := if L.any (fun u => Nat.beq u t) = true then L else t :: L
theorem mem_addL {t u : Nat} {L : List Nat} : u ∈ addL t L ↔ u = t ∨ u ∈ L := by
  unfold addL
  split
  · rename_i h
    rw [List.any_eq_true] at h
    obtain ⟨v, hv, e⟩ := h
    have := Nat.eq_of_beq_eq_true e
    subst this
    constructor
    · exact .inr
    · rintro (rfl | h) <;> assumption
  · simp
def addLs (ts L : List Nat) : List Nat := ts.foldr addL L
theorem mem_addLs {u : Nat} {L : List Nat} : ∀ {ts : List Nat}, u ∈ addLs ts L ↔ u ∈ ts ∨ u ∈ L
  | [] => by simp [addLs]
  | t :: ts => by
    have := mem_addLs (u := u) (L := L) (ts := ts)
    simp only [addLs, List.foldr_cons] at this ⊢
    rw [mem_addL, this, List.mem_cons, or_assoc]
/-- A list of numbers, laid out. -/
def nfL {α : Type} (L : List Nat) (k : List Nat → Option α) : Option α := @List.rec Nat (fun _ => (List Nat → Option α) → Option α) (fun k => k []) (fun t _ ih k => forceN t fun t => ih fun r => k (t :: r)) L k
theorem nfL_eq {α : Type} : ∀ {L : List Nat} {k : List Nat → Option α}, nfL L k = k L
  | [], k => rfl
  | t :: L, k => by
    show forceN t (fun t => nfL L fun r => k (t :: r)) = k (t :: L)
    rw [forceN_eq, nfL_eq]
def SgRef (P : Program) (call : CallF) (σ : Nat → Nat) (is : List I) (out l : List Nat) (f : Sg R) : Prop :=
  ∀ (e : E) (eo : Env) (h : H) (hp : Heap) (k : E → H → Option R) (r : R), CallRef e.x.ca call → Ag σ l e eo → RepH h hp → f e h k = some r →
    ∃ e1 h1 eo1 hp1, runI P call is ⟨eo, hp⟩ = some ⟨eo1, hp1⟩ ∧ e1.x = e.x ∧ RepH h1 hp1 ∧ Ag σ out e1 eo1 ∧ k e1 h1 = some r
def mkI (g : Option (Nat × Bool)) (c : Wt R) (w : Wr R) (f : Vl R) (n : Sg R) : Sg R := match g with
  | none => iV w f n
  | some _ => gV c w f n
/-- A move between two tmps of one slot. -/
def isMv (σ : Nat → Nat) (i : I) : Bool := match i.g, i.dst with
  | none, some d => match i.op with
    | .move (.tmp x) => Nat.beq (σ d) (σ x)
    | .assign (.tmp x) => Nat.beq (σ d) (σ x)
    | _ => false
  | _, _ => false
theorem isMv_step {i : I} (h : isMv σ i = true) {L : List Nat} {e : E} {eo : Env} {hp : Heap} (ha1 : Ag σ (opTmps i.op.operands.toList) e eo) (ha3 : Ag σ (lessL i.dst L) e eo) : ∃ c, wantedC eo i.g = some true ∧ stepOp P call none eo hp i.op = some (c, hp) ∧ Ag σ L e (putE eo i.dst c) := by
  obtain ⟨d, op, g⟩ := i
  have key : ∀ {d x : Nat}, Nat.beq (σ d) (σ x) = true → Ag σ [x] e eo → Ag σ (lessL (some d) L) e eo → ev eo (.tmp x) = some (e.get (σ x)).c ∧ Ag σ L e (putE eo (some d) (e.get (σ x)).c) := fun {d x} h1 h2 h3 => by
    have e1 := Nat.eq_of_beq_eq_true h1
    refine ⟨h2 x (by simp), fun t ht => ?_⟩
    simp only [putE, look_cons]
    by_cases ed : d = t
    · subst ed; rw [if_pos rfl, e1]
    · rw [if_neg ed]
      exact h3 t (List.mem_filter.2 ⟨ht, by cases hb : Nat.beq t d with
        | true => exact absurd (Nat.eq_of_beq_eq_true hb).symm ed
        | false => rfl⟩)
  simp only [isMv] at h
  split at h
  · split at h
    · rename_i d x _ _
      obtain ⟨h1, h2⟩ := key h (ha1.mono fun t ht => by simpa [Op.operands, opTmps] using ht) ha3
      exact ⟨_, rfl, by simp only [stepOp, h1, Option.bind_eq_bind, Option.bind_some], h2⟩
    · rename_i d x _ _
      obtain ⟨h1, h2⟩ := key h (ha1.mono fun t ht => by simpa [Op.operands, opTmps] using ht) ha3
      exact ⟨_, rfl, by simp only [stepOp, h1, Option.bind_eq_bind, Option.bind_some], h2⟩
    · cases h
  · cases h
def compSg (P : Program) (σ : Nat → Nat) (out : List Nat) : List I → Option (List Nat × Sg R)
  | [] => some (out, sg0)
  | i :: r => (compSg P σ out r).bind fun q => @Bool.rec (fun _ => Option (List Nat × Sg R)) ((compV P σ i.op).bind fun f => (compWt σ i.g).bind fun c => (compWr σ i.dst q.1).bind fun w => nfL (addLs (opTmps i.op.operands.toList) (addLs (gT i.g) (lessL i.dst q.1))) fun l => some (l, mkI i.g c w f q.2)) (nfL (addLs (opTmps i.op.operands.toList) (lessL i.dst q.1)) fun l => some (l, q.2)) (isMv σ i)
theorem compSg_ref {out : List Nat} : ∀ {is : List I} {l : List Nat} {f : Sg R}, compSg P σ out is = some (l, f) → SgRef P call σ is out l f
  | [], l, f, hc => fun e eo h hp k r hcall ha hr H => by
    cases hc
    exact ⟨e, h, eo, hp, rfl, rfl, hr, ha, H⟩
  | i :: is, l, f, hc => fun e eo h hp k r hcall ha hr H => by
    simp only [compSg, nfL_eq, Option.bind_eq_some_iff] at hc
    obtain ⟨⟨L, n⟩, h0, hc⟩ := hc
    have ih := compSg_ref h0
    cases hmv : isMv σ i with
    | true =>
      rw [hmv] at hc
      simp only [Option.some.injEq, Prod.mk.injEq] at hc
      obtain ⟨rfl, rfl⟩ := hc
      obtain ⟨c, g1, g2, g3⟩ := isMv_step (P := P) (call := call) (hp := hp) hmv (ha.mono fun t ht => mem_addLs.2 (.inl ht)) (ha.mono fun t ht => mem_addLs.2 (.inr ht))
      obtain ⟨e1, h1', eo1, hp1, g6, gx, g7, g8, g9⟩ := ih e _ h hp k r hcall g3 hr H
      exact ⟨e1, h1', eo1, hp1, by simp only [runI, stepI, g1, g2, St.put_eq, Option.bind_eq_bind, Option.bind_some, if_true, Option.map_some]; exact g6, gx, g7, g8, g9⟩
    | false =>
    rw [hmv] at hc
    simp only [Option.bind_eq_some_iff, Option.some.injEq, Prod.mk.injEq] at hc
    obtain ⟨g, h1, c, h2, w, h3, rfl, rfl⟩ := hc
    have ha1 : Ag σ (opTmps i.op.operands.toList) e eo := ha.mono fun t ht => mem_addLs.2 (.inl ht)
    have ha2 : Ag σ (gT i.g) e eo := ha.mono fun t ht => mem_addLs.2 (.inr (mem_addLs.2 (.inl ht)))
    have ha3 : Ag σ (lessL i.dst L) e eo := ha.mono fun t ht => mem_addLs.2 (.inr (mem_addLs.2 (.inr ht)))
    have act : ∀ {b : Bool}, g e h (fun a h => w a e fun e => n e h k) = some r → wantedC eo i.g = some true → ∃ e1 h1 eo1 hp1, runI P call (i :: is) ⟨eo, hp⟩ = some ⟨eo1, hp1⟩ ∧ e1.x = e.x ∧ RepH h1 hp1 ∧ Ag σ out e1 eo1 ∧ k e1 h1 = some r := fun {b} hg hw => by
      obtain ⟨a, h', hp', g1, g2, g3⟩ := compV_ref h1 e eo h hp _ r hcall ha1 hr hg
      obtain ⟨e', q1, g4, g5⟩ := compWr_ref h3 ha3 g3
      obtain ⟨e1, h1', eo1, hp1, g6, gx, g7, g8, g9⟩ := ih e' _ h' hp' k r (by rw [q1]; exact hcall) g4 g2 g5
      exact ⟨e1, h1', eo1, hp1, by simp only [runI, stepI, hw, g1, St.put_eq, Option.bind_eq_bind, Option.bind_some, if_true, Option.map_some]; exact g6, gx.trans q1, g7, g8, g9⟩
    obtain ⟨d, op, gd⟩ := i
    cases gd with
    | none => exact act (b := true) H rfl
    | some q =>
      obtain ⟨b, g1, g2⟩ := compWt_ref h2 e eo _ r ha2 (H : c e (fun b => @Bool.rec (fun _ => Option R) (w uW e fun e => n e h k) (g e h fun a h => w a e fun e => n e h k) b) = some r)
      cases b with
      | true => exact act (b := true) g2 g1
      | false =>
        obtain ⟨e', q1, g4, g5⟩ := compWr_ref h3 ha3 (g2 : w uW e (fun e => n e h k) = some r)
        obtain ⟨e1, h1', eo1, hp1, g6, gx, g7, g8, g9⟩ := ih e' _ h hp k r (by rw [q1]; exact hcall) g4 hr g5
        refine ⟨e1, h1', eo1, hp1, ?_, gx.trans q1, g7, g8, g9⟩
        rw [uW_c] at g6
        simp only [runI, stepI, g1, St.put_eq, Option.bind_eq_bind, Option.bind_some, Bool.false_eq_true, if_false]; exact g6
end
end
end Go.Tm.V
