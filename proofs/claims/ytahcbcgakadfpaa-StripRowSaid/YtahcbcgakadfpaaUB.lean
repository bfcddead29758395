import Derived.Test.YtahcbcgakadfpaaUA
set_option linter.unusedVariables false
namespace Go.Tm.Q
noncomputable section
/-! ### Code -/
inductive FK where
  | skip
  | reg (l : List FI)
  | draw (l : List (D × O))
  | seq (a b : FK)
  | cond (x : X) (a b : FK)
  | block (id : Nat) (a : FK)
  | loop (keep : List Nat) (a : FK)
  | exit (id : Nat)
  | ret
def compK (P : Program) : K → Option FK
  | .skip => some .skip
  | .reg ops _ => (compIs P ops).map .reg
  | .draw ds _ => (compDs P ds).map .draw
  | .seq a b => (compK P a).bind fun x => (compK P b).bind fun y => some (.seq x y)
  | .cond c a b => (compX c).bind fun z => (compK P a).bind fun x => (compK P b).bind fun y => some (.cond z x y)
  | .block id a => (compK P a).map (.block id)
  | .loop keep a => (compK P a).map (.loop keep)
  | .exit id => some (.exit id)
  | .ret => some .ret
section
variable {R : Type}
def ctlK (c : Ctl) (a : Option R) (b : Nat → Option R) (d : Option R) : Option R := @Ctl.rec (fun _ => Option R) a b d c
def loopK (body : E → H → (Ctl → E → H → Option R) → Option R) (keep : List Nat) (k : Ctl → E → H → Option R) (n : Nat) : E → H → Option R :=
  @Nat.rec (fun _ => E → H → Option R) (fun _ _ => none) (fun _ ih e h => keepK keep e fun e => body e h fun c e h => ctlK c (ih e h) (fun j => k (.exit j) e h) (k .ret e h)) n
def execK (P : Program) (vals : FuncId → Bool) (call : CallQ) (n : Nat) (f : FK) : E → H → (Ctl → E → H → Option R) → Option R :=
  @FK.rec (fun _ => E → H → (Ctl → E → H → Option R) → Option R)
    (fun e h k => k .normal e h)
    (fun l e h k => runK P call l e h (k .normal))
    (fun l e h k => goK P vals call l (k .normal) e h [] [])
    (fun _ _ a b e h k => a e h fun c e h => ctlK c (b e h k) (fun j => k (.exit j) e h) (k .ret e h))
    (fun x _ _ a b e h k => evK x e fun d => boolK d fun t => @Bool.rec (fun _ => Option R) (b e h k) (a e h k) t)
    (fun id _ a e h k => a e h fun c e h => ctlK c (k .normal e h) (fun j => @Bool.rec (fun _ => Option R) (k (.exit j) e h) (k .normal e h) (Nat.beq j id)) (k .ret e h))
    (fun keep _ a e h k => loopK a keep k n e h)
    (fun id e h k => k (.exit id) e h)
    (fun e h k => k .ret e h) f
/-- What is alike behind a piece. -/
def Beh (out : List Nat) (ex : List (Nat × List Nat)) (rt : List Nat) (c : Ctl) (e e' : Env) : Prop :=
  match c with
  | .normal => agree out e e'
  | .exit id => ∃ o, findX ex id = some o ∧ agree o e e'
  | .ret => agree rt e e'
variable {P : Program} {vals : FuncId → Bool} {callq : CallQ} {call : CallF}
def Ref (P : Program) (vals : FuncId → Bool) (call : CallF) (n : Nat) (K : K) (out : List Nat) (ex : List (Nat × List Nat)) (rt l : List Nat) (f : E → H → (Ctl → E → H → Option R) → Option R) : Prop :=
  ∀ (e : E) (eo : Env) (h : H) (hp : Heap) (k : Ctl → E → H → Option R) (r : R), agree l e.env eo → RepH h hp → f e h k = some r →
    ∃ ctl e1 h1 eo1 hp1, exec P vals call n K ⟨eo, hp⟩ = some (ctl, ⟨eo1, hp1⟩) ∧ RepH h1 hp1 ∧ Beh out ex rt ctl e1.env eo1 ∧ k ctl e1 h1 = some r
theorem loop_ref {n : Nat} {K : K} {keep l : List Nat} {ex : List (Nat × List Nat)} {rt : List Nat} {f : E → H → (Ctl → E → H → Option R) → Option R} (hf : Ref P vals call n K keep ex rt l f) (hs : subL l keep = true) : ∀ (m : Nat) (out : List Nat) (e : E) (eo : Env) (h : H) (hp : Heap) (k : Ctl → E → H → Option R) (r : R), agree keep e.env eo → RepH h hp → loopK f keep k m e h = some r →
    ∃ ctl e1 h1 eo1 hp1, iter (fun s => exec P vals call n K ⟨keepE s.env keep, s.heap⟩) m ⟨eo, hp⟩ = some (ctl, ⟨eo1, hp1⟩) ∧ RepH h1 hp1 ∧ Beh out ex rt ctl e1.env eo1 ∧ k ctl e1 h1 = some r
  | 0, out, e, eo, h, hp, k, r, ha, hr, H => by cases H
  | m + 1, out, e, eo, h, hp, k, r, ha, hr, H => by
    obtain ⟨e', h1, h2⟩ := keepK_inv (H : keepK keep e (fun e => f e h fun c e h => ctlK c (loopK f keep k m e h) (fun j => k (.exit j) e h) (k .ret e h)) = some r)
    obtain ⟨ctl, e1, h1', eo1, hp1, h3, h4, h5, h6⟩ := hf e' (keepE eo keep) h hp _ r (fun t ht => by
      have hk := subL_mem hs ht
      rw [h1, look_keepE_mem keep _ t hk, look_keepE_mem keep _ t hk]; exact ha t hk) hr h2
    simp only [iter]
    rw [h3]
    cases ctl with
    | normal =>
      obtain ⟨c2, e2, h2', eo2, hp2, g1, g2, g3, g4⟩ := loop_ref hf hs m out e1 eo1 h1' hp1 k r h5 h4 h6
      exact ⟨c2, e2, h2', eo2, hp2, g1, g2, g3, g4⟩
    | exit j => exact ⟨.exit j, e1, h1', eo1, hp1, rfl, h4, h5, h6⟩
    | ret => exact ⟨.ret, e1, h1', eo1, hp1, rfl, h4, h5, h6⟩
theorem execK_ref (hcall : CallRef callq call) (n : Nat) : ∀ (K : K) (f : FK) (out : List Nat) (ex : List (Nat × List Nat)) (rt l : List Nat), compK P K = some f → liveK K out ex rt = some l → Ref (R := R) P vals call n K out ex rt l (execK P vals callq n f)
  | .skip, f, out, ex, rt, l, hc, hl => fun e eo h hp k r ha hr H => by
    cases hc; cases hl
    exact ⟨.normal, e, h, eo, hp, rfl, hr, ha, H⟩
  | .reg ops keep, f, out, ex, rt, l, hc, hl => fun e eo h hp k r ha hr H => by
    simp only [compK, Option.map_eq_some_iff] at hc
    obtain ⟨fs, h1, rfl⟩ := hc
    simp only [liveK] at hl
    split at hl
    · rename_i hs
      cases hl
      obtain ⟨e1, h1', hp1, h2, h3, h4⟩ := runK_inv hcall h1 hr (H : runK P callq fs e h (k .normal) = some r)
      obtain ⟨eo1, h5, h6⟩ := runI_agree ha h2
      refine ⟨.normal, e1, h1', keepE eo1 keep, hp1, by rw [exec_reg, h5]; rfl, h3, fun t ht => ?_, h4⟩
      have hk := subL_mem hs ht
      rw [look_keepE_mem keep _ t hk]; exact h6 t hk
    · cases hl
  | .draw ds keep, f, out, ex, rt, l, hc, hl => fun e eo h hp k r ha hr H => by
    simp only [compK, Option.map_eq_some_iff] at hc
    obtain ⟨fs, h1, rfl⟩ := hc
    simp only [liveK] at hl
    split at hl
    · rename_i hs
      cases hl
      obtain ⟨e1, h1', hp1, h2, h3, h4⟩ := goK_inv hcall h1 hr (H : goK P vals callq fs (k .normal) e h [] [] = some r)
      obtain ⟨eo1, h5, h6⟩ := goD_agree ha h2
      refine ⟨.normal, e1, h1', keepE eo1 keep, hp1, by rw [exec_draw', h5]; rfl, h3, fun t ht => ?_, h4⟩
      have hk := subL_mem hs ht
      rw [look_keepE_mem keep _ t hk]; exact h6 t hk
    · cases hl
  | .seq a b, f, out, ex, rt, l, hc, hl => fun e eo h hp k r ha hr H => by
    simp only [compK, Option.bind_eq_some_iff, Option.some.injEq] at hc
    obtain ⟨x, h1, y, h2, rfl⟩ := hc
    simp only [liveK, Option.bind_eq_some_iff] at hl
    obtain ⟨m, h3, h4⟩ := hl
    obtain ⟨ctl, e1, h1', eo1, hp1, g1, g2, g3, g4⟩ := execK_ref hcall n a x m ex rt l h1 h4 e eo h hp _ r ha hr (H : execK P vals callq n x e h (fun c e h => ctlK c (execK P vals callq n y e h k) (fun j => k (.exit j) e h) (k .ret e h)) = some r)
    rw [exec_seq, g1]
    cases ctl with
    | normal => exact execK_ref hcall n b y out ex rt m h2 h3 e1 eo1 h1' hp1 k r g3 g2 g4
    | exit j => exact ⟨.exit j, e1, h1', eo1, hp1, rfl, g2, g3, g4⟩
    | ret => exact ⟨.ret, e1, h1', eo1, hp1, rfl, g2, g3, g4⟩
  | .cond c a b, f, out, ex, rt, l, hc, hl => fun e eo h hp k r ha hr H => by
    simp only [compK, Option.bind_eq_some_iff, Option.some.injEq] at hc
    obtain ⟨z, h0, x, h1, y, h2, rfl⟩ := hc
    simp only [liveK, Option.bind_eq_some_iff, Option.some.injEq] at hl
    obtain ⟨l1, h3, l2, h4, rfl⟩ := hl
    obtain ⟨d, h5, h6⟩ := evK_inv h0 (H : evK z e (fun d => boolK d fun t => @Bool.rec (fun _ => Option R) (execK P vals callq n y e h k) (execK P vals callq n x e h k) t) = some r)
    obtain ⟨t, h7, h8⟩ := boolK_inv h6
    rw [exec_cond, ← ev_agree (l := [c]) (agree_mono ha fun t ht => List.mem_append_left _ ht) (by simp), h5]
    simp only [Option.bind_some, h7]
    cases t with
    | true => rw [if_pos rfl]; exact execK_ref hcall n a x out ex rt l1 h1 h3 e eo h hp k r (agree_mono ha fun t ht => List.mem_append_right _ (List.mem_append_left _ ht)) hr h8
    | false => rw [if_neg (by decide)]; exact execK_ref hcall n b y out ex rt l2 h2 h4 e eo h hp k r (agree_mono ha fun t ht => List.mem_append_right _ (List.mem_append_right _ ht)) hr h8
  | .block id a, f, out, ex, rt, l, hc, hl => fun e eo h hp k r ha hr H => by
    simp only [compK, Option.map_eq_some_iff] at hc
    obtain ⟨x, h1, rfl⟩ := hc
    obtain ⟨ctl, e1, h1', eo1, hp1, g1, g2, g3, g4⟩ := execK_ref hcall n a x out ((id, out) :: ex) rt l h1 hl e eo h hp _ r ha hr (H : execK P vals callq n x e h (fun c e h => ctlK c (k .normal e h) (fun j => @Bool.rec (fun _ => Option R) (k (.exit j) e h) (k .normal e h) (Nat.beq j id)) (k .ret e h)) = some r)
    rw [exec_block, g1]
    cases ctl with
    | normal => exact ⟨.normal, e1, h1', eo1, hp1, rfl, g2, g3, g4⟩
    | ret => exact ⟨.ret, e1, h1', eo1, hp1, rfl, g2, g3, g4⟩
    | exit j =>
      obtain ⟨o, g5, g6⟩ := g3
      have g4' : @Bool.rec (fun _ => Option R) (k (.exit j) e1 h1') (k .normal e1 h1') (Nat.beq j id) = some r := g4
      rw [leaves_exit]
      cases hb : Nat.beq j id with
      | true =>
        rw [hb] at g4'
        have ej := Nat.eq_of_beq_eq_true hb
        subst ej
        simp only [findX, hb, if_true, Option.some.injEq] at g5
        subst g5
        exact ⟨.normal, e1, h1', eo1, hp1, by rw [if_pos rfl], g2, g6, g4'⟩
      | false =>
        rw [hb] at g4'
        have ej : ¬ j = id := fun q => by subst q; simp at hb
        have hb2 : Nat.beq id j = false := by
          cases hq : Nat.beq id j with
          | true => exact absurd (Nat.eq_of_beq_eq_true hq).symm ej
          | false => rfl
        simp only [findX, hb2, Bool.false_eq_true, if_false] at g5
        exact ⟨.exit j, e1, h1', eo1, hp1, by rw [if_neg ej], g2, ⟨o, g5, g6⟩, g4'⟩
  | .loop keep a, f, out, ex, rt, l, hc, hl => fun e eo h hp k r ha hr H => by
    simp only [compK, Option.map_eq_some_iff] at hc
    obtain ⟨x, h1, rfl⟩ := hc
    simp only [liveK, Option.bind_eq_some_iff] at hl
    obtain ⟨m, h3, h4⟩ := hl
    split at h4
    · rename_i hs
      cases h4
      exact loop_ref (execK_ref hcall n a x keep ex rt m h1 h3) hs n out e eo h hp k r ha hr H
    · cases h4
  | .exit id, f, out, ex, rt, l, hc, hl => fun e eo h hp k r ha hr H => by
    cases hc
    exact ⟨.exit id, e, h, eo, hp, rfl, hr, ⟨l, hl, ha⟩, H⟩
  | .ret, f, out, ex, rt, l, hc, hl => fun e eo h hp k r ha hr H => by
    cases hc; cases hl
    exact ⟨.ret, e, h, eo, hp, rfl, hr, ha, H⟩
end

/-! ### Views -/
section
variable {R : Type}
def mapQ (f : C → (C → Option R) → Option R) (cs : List C) (k : List C → Option R) : Option R :=
  @List.rec C (fun _ => (List C → Option R) → Option R) (fun k => k []) (fun c _ ih k => f c fun d => ih fun ds => k (d :: ds)) cs k
theorem mapQ_inv {f : C → (C → Option R) → Option R} {g : C → Option C} {r : R} (hf : ∀ c k, f c k = some r → ∃ d, g c = some d ∧ k d = some r) : ∀ {cs : List C} {k : List C → Option R}, mapQ f cs k = some r → ∃ ds, mapC g cs = some ds ∧ k ds = some r
  | [], k, H => ⟨[], rfl, H⟩
  | c :: cs, k, H => by
    obtain ⟨d, h1, h2⟩ := hf c _ (H : f c (fun d => mapQ f cs fun ds => k (d :: ds)) = some r)
    obtain ⟨ds, h3, h4⟩ := mapQ_inv hf h2
    exact ⟨d :: ds, by simp [mapC, h1, h3], h4⟩
def nilQ : C := .fs [] 0 none
def viewQ (z : C) (cl : Bool) (h : H) (n : Nat) : C → (C → Option R) → Option R :=
  @Nat.rec (fun _ => C → (C → Option R) → Option R) (fun _ _ => none) (fun _ ih c k => match c with
    | .v (.slice none 0 0) => k z
    | .v x => k (.v x)
    | .fs xs len _ => @Nat.rec (fun _ => Option R) (k nilQ) (fun m _ => @Bool.rec (fun _ => Option R) (k (.fs xs (Nat.succ m) none)) none cl) len
    | .fp xs => @Bool.rec (fun _ => Option R) (k (.fp xs)) none cl
    | .os l off len _ => @Nat.rec (fun _ => Option R) (k nilQ) (fun m _ => rowK h l fun e cs => dropK off cs fun ys => takeK (Nat.mul (Nat.succ m) e) ys fun zs => mapQ ih zs fun ds => k (.fs ds (Nat.succ m) none)) len
    | .op l off => rowK h l fun _ cs => dropK off cs fun ys => mapQ ih ys fun ds => k (.fp ds)
    | .om _ => none
    | .fn f caps => mapQ ih caps fun ds => k (.fn f ds)
    | .agg cs => mapQ ih cs fun ds => k (.agg ds)
    | .tup cs => mapQ ih cs fun ds => k (.tup ds)) n
theorem viewQ_inv {cl : Bool} {h : H} {hp : Heap} (hr : RepH h hp) {r : R} : ∀ (n : Nat) (c : C) (k : C → Option R), viewQ nilQ cl h n c k = some r → ∃ d, view cl hp n c = some d ∧ k d = some r
  | 0, c, k, H => by cases H
  | n + 1, c, k, H => by
    have ih := viewQ_inv (cl := cl) (r := r) hr n
    unfold viewQ at H
    simp only at H
    split at H
    · exact ⟨_, rfl, H⟩
    · rename_i x hx
      refine ⟨.v x, ?_, H⟩
      unfold view
      split
      · rename_i heq; cases heq; exact absurd rfl hx
      · rename_i heq; cases heq; rfl
      all_goals (rename_i heq; cases heq)
    · rename_i xs len cap
      simp only [view]
      cases len with
      | zero => exact ⟨_, if_pos rfl, H⟩
      | succ m =>
        rw [if_neg (by omega)]
        cases cl with
        | true => cases H
        | false => exact ⟨_, if_neg (by decide), H⟩
    · rename_i xs
      simp only [view]
      cases cl with
      | true => cases H
      | false => exact ⟨_, if_neg (by decide), H⟩
    · rename_i l off len cap
      simp only [view]
      cases len with
      | zero => exact ⟨_, if_pos rfl, H⟩
      | succ m =>
        rw [if_neg (by omega)]
        obtain ⟨e, cs, h1, h2⟩ := rowK_inv hr H
        rw [dropK_eq] at h2
        obtain ⟨h3, h4⟩ := takeK_inv h2
        obtain ⟨ds, h5, h6⟩ := mapQ_inv ih h4
        refine ⟨_, ?_, h6⟩
        have h3' : (m + 1) * e ≤ (cs.drop off).length := h3
        simp only [h1, takeN]
        rw [if_pos h3']
        simp only [Option.bind_eq_bind, Option.bind_some]
        have h5' : mapC (view cl hp n) ((cs.drop off).take ((m + 1) * e)) = some ds := h5
        rw [h5']
        rfl
    · rename_i l off
      obtain ⟨e, cs, h1, h2⟩ := rowK_inv hr H
      rw [dropK_eq] at h2
      obtain ⟨ds, h5, h6⟩ := mapQ_inv ih h2
      exact ⟨_, by simp only [view, h1, h5]; rfl, h6⟩
    · cases H
    · obtain ⟨ds, h5, h6⟩ := mapQ_inv ih H
      exact ⟨_, by simp only [view, h5]; rfl, h6⟩
    · obtain ⟨ds, h5, h6⟩ := mapQ_inv ih H
      exact ⟨_, by simp only [view, h5]; rfl, h6⟩
    · obtain ⟨ds, h5, h6⟩ := mapQ_inv ih H
      exact ⟨_, by simp only [view, h5]; rfl, h6⟩

theorem viewQN_inv {cl : Bool} {h : H} {hp : Heap} (hr : RepH h hp) {r : R} : ∀ (n : Nat) (c : C) (k : C → Option R), viewQ (.v (.slice none 0 0)) cl h n c k = some r → ∃ d, viewN cl hp n c = some d ∧ k d = some r
  | 0, c, k, H => by cases H
  | n + 1, c, k, H => by
    have ih := viewQN_inv (cl := cl) (r := r) hr n
    unfold viewQ at H
    simp only at H
    split at H
    · exact ⟨_, rfl, H⟩
    · exact ⟨_, rfl, H⟩
    · rename_i xs len cap
      simp only [viewN]
      cases len with
      | zero => exact ⟨_, if_pos rfl, H⟩
      | succ m =>
        rw [if_neg (by omega)]
        cases cl with
        | true => cases H
        | false => exact ⟨_, if_neg (by decide), H⟩
    · rename_i xs
      simp only [viewN]
      cases cl with
      | true => cases H
      | false => exact ⟨_, if_neg (by decide), H⟩
    · rename_i l off len cap
      simp only [viewN]
      cases len with
      | zero => exact ⟨_, if_pos rfl, H⟩
      | succ m =>
        rw [if_neg (by omega)]
        obtain ⟨e, cs, h1, h2⟩ := rowK_inv hr H
        rw [dropK_eq] at h2
        obtain ⟨h3, h4⟩ := takeK_inv h2
        obtain ⟨ds, h5, h6⟩ := mapQ_inv ih h4
        refine ⟨_, ?_, h6⟩
        have h3' : (m + 1) * e ≤ (cs.drop off).length := h3
        simp only [h1, takeN]
        rw [if_pos h3']
        simp only [Option.bind_eq_bind, Option.bind_some]
        have h5' : mapC (viewN cl hp n) ((cs.drop off).take ((m + 1) * e)) = some ds := h5
        rw [h5']
        rfl
    · rename_i l off
      obtain ⟨e, cs, h1, h2⟩ := rowK_inv hr H
      rw [dropK_eq] at h2
      obtain ⟨ds, h5, h6⟩ := mapQ_inv ih h2
      exact ⟨_, by simp only [viewN, h1, h5]; rfl, h6⟩
    · cases H
    · obtain ⟨ds, h5, h6⟩ := mapQ_inv ih H
      exact ⟨_, by simp only [viewN, h5]; rfl, h6⟩
    · obtain ⟨ds, h5, h6⟩ := mapQ_inv ih H
      exact ⟨_, by simp only [viewN, h5]; rfl, h6⟩
    · obtain ⟨ds, h5, h6⟩ := mapQ_inv ih H
      exact ⟨_, by simp only [viewN, h5]; rfl, h6⟩

/-! ### Functions -/
inductive FR where
  | t (n : Nat)
  | s (x : Nat)
  | a (n x : Nat)
def compR (P : Program) : ResultVar → Option FR
  | .tmp t => some (.t t)
  | .cell x t => (sz P t).bind fun n => (aggT P t).bind fun b => some (if b = true then .a n x else .s x)
def compRs (P : Program) : List ResultVar → Option (List FR)
  | [] => some []
  | x :: r => (compR P x).bind fun y => (compRs P r).bind fun ys => some (y :: ys)
def resTmps : List ResultVar → List Nat
  | [] => []
  | .tmp t :: r => t :: resTmps r
  | .cell x _ :: r => x :: resTmps r
def resQ (e : E) (h : H) (rs : List FR) (k : List C → Option R) : Option R :=
  @List.rec FR (fun _ => (List C → Option R) → Option R) (fun k => k []) (fun x _ ih k => @FR.rec (fun _ => Option R) (fun t => lookK e t fun c => ih fun cs => k (c :: cs)) (fun x => lookK e x fun p => ldK h p fun c => ih fun cs => k (c :: cs)) (fun n x => lookK e x fun p => ldaK h n p fun c => ih fun cs => k (c :: cs)) x) rs k
theorem resQ_inv {P : Program} {e : E} {eo : Env} {h : H} {hp : Heap} (hr : RepH h hp) {r : R} : ∀ {rs : List ResultVar} {fs : List FR} {k : List C → Option R}, compRs P rs = some fs → agree (resTmps rs) e.env eo → resQ e h fs k = some r → ∃ cs, resC P eo hp rs = some cs ∧ k cs = some r
  | [], fs, k, hc, ha, H => by cases hc; exact ⟨[], rfl, H⟩
  | .tmp t :: rs, fs, k, hc, ha, H => by
    simp only [compRs, compR, Option.bind_some, Option.bind_eq_some_iff, Option.some.injEq] at hc
    obtain ⟨gs, h1, rfl⟩ := hc
    obtain ⟨c, h2, h3⟩ := lookK_inv (H : lookK e t (fun c => resQ e h gs fun cs => k (c :: cs)) = some r)
    obtain ⟨cs, h4, h5⟩ := resQ_inv hr h1 (agree_mono ha fun t ht => List.mem_cons_of_mem _ ht) h3
    have := ha t (by simp [resTmps])
    exact ⟨c :: cs, by simp only [resC, ← this, h2, h4, Option.bind_eq_bind, Option.bind_some], h5⟩
  | .cell x t :: rs, fs, k, hc, ha, H => by
    simp only [compRs, compR, Option.bind_eq_some_iff, Option.some.injEq] at hc
    obtain ⟨f, ⟨n, g1, b, g2, rfl⟩, gs, h1, rfl⟩ := hc
    have hx := ha x (by simp [resTmps])
    have hl : ∃ p c, look e.env x = some p ∧ loadC P hp t p = some c ∧ resQ e h gs (fun cs => k (c :: cs)) = some r := by
      cases b with
      | true =>
        obtain ⟨p, h2, h3⟩ := lookK_inv (H : lookK e x (fun p => ldaK h n p fun c => resQ e h gs fun cs => k (c :: cs)) = some r)
        obtain ⟨c, h4, h5⟩ := ldaK_inv hr h3
        refine ⟨p, c, h2, ?_, h5⟩
        simp only [Option.bind_eq_some_iff, Option.map_eq_some_iff] at h4
        obtain ⟨cs, q1, ys, q2, rfl⟩ := h4
        simp [loadC, q1, fieldOf, g1, g2, q2]
      | false =>
        obtain ⟨p, h2, h3⟩ := lookK_inv (H : lookK e x (fun p => ldK h p fun c => resQ e h gs fun cs => k (c :: cs)) = some r)
        obtain ⟨c, h4, h5⟩ := ldK_inv hr h3
        exact ⟨p, c, h2, by rw [loadS_fact g1 g2]; exact h4, h5⟩
    obtain ⟨p, c, h2, h3, h4⟩ := hl
    obtain ⟨cs, h5, h6⟩ := resQ_inv hr h1 (agree_mono ha fun t ht => List.mem_cons_of_mem _ ht) h4
    exact ⟨c :: cs, by simp only [resC, ← hx, h2, h3, h5, Option.bind_eq_bind, Option.bind_some], h6⟩
def enterQ (cs : List C) (i : Nat) (k : E → Option R) : Option R :=
  @List.rec C (fun _ => Nat → (E → Option R) → Option R) (fun _ k => k .nil) (fun c _ ih i k => forceN (Nat.succ i) fun j => ih j fun r => k (.cons i c r)) cs i k
theorem enterQ_inv {r : R} : ∀ {cs : List C} {i : Nat} {k : E → Option R}, enterQ cs i k = some r → ∃ e, e.env = enterE i cs ∧ k e = some r
  | [], i, k, H => ⟨.nil, rfl, H⟩
  | c :: cs, i, k, H => by
    have H' : forceN (Nat.succ i) (fun j => enterQ cs j fun r => k (.cons i c r)) = some r := H
    rw [forceN_eq] at H'
    obtain ⟨e, h1, h2⟩ := enterQ_inv H'
    exact ⟨.cons i c e, by rw [E.env, h1]; rfl, h2⟩
end
structure FF where
  k : FK
  m : Mode
  n : Nat
  rs : List FR
def oneQ (cs : List C) : C := match cs with
  | [c] => c
  | cs => .tup cs
def bodyQ (P : Program) (vals : FuncId → Bool) (call : CallQ) (n : Nat) (ff : FF) (cs : List C) (h : H) : Option (C × H) :=
  ifK (Nat.ble cs.length ff.n) (enterQ cs 0 fun e => execK P vals call n ff.k e h fun c e h => ctlK c (resQ e h ff.rs fun rs => some (oneQ rs, h)) (fun _ => none) (resQ e h ff.rs fun rs => some (oneQ rs, h)))
def emptyQ : H := .h 0 .e
def valQ (z : C) (run : List C → H → Option (C × H)) (cs : List C) (h : H) : Option (C × H) :=
  @Option.rec (List C) (fun _ => Option (C × H))
    (mapQ (viewQ z false h 12) cs fun vs => optK (run vs emptyQ) fun r => viewQ z true r.2 12 r.1 fun c => some (c, h))
    (fun vs => optK (run vs emptyQ) fun r => viewQ z false r.2 12 r.1 fun c => some (c, h))
    (mapQ (viewQ z false emptyQ 12) cs fun vs => some vs)
inductive FT where
  | e
  | n (l : FT) (key : Nat) (v : FF) (r : FT)
def FT.get (t : FT) (f : Nat) : Option FF :=
  @FT.rec (fun _ => Option FF) none (fun _ key v _ l r => @Bool.rec (fun _ => Option FF) (@Bool.rec (fun _ => Option FF) r l (Nat.ble f key)) (some v) (Nat.beq f key)) t
def FT.All (p : Nat → FF → Prop) : FT → Prop
  | .e => True
  | .n l key v r => l.All p ∧ p key v ∧ r.All p
theorem FT.All.get {p : Nat → FF → Prop} {f : Nat} {v : FF} : ∀ {t : FT}, t.All p → t.get f = some v → p f v
  | .e, _, H => by cases H
  | .n l key w r, ha, H => by
    have H' : @Bool.rec (fun _ => Option FF) (@Bool.rec (fun _ => Option FF) (r.get f) (l.get f) (Nat.ble f key)) (some w) (Nat.beq f key) = some v := H
    cases hb : Nat.beq f key with
    | true =>
      rw [hb] at H'
      cases H'
      have e := Nat.eq_of_beq_eq_true hb
      subst e
      exact ha.2.1
    | false =>
      rw [hb] at H'
      cases hc : Nat.ble f key with
      | true => rw [hc] at H'; exact FT.All.get ha.1 H'
      | false => rw [hc] at H'; exact FT.All.get ha.2.2 H'
def callQ (P : Program) (vals : FuncId → Bool) (ft : FT) (n : Nat) : CallQ :=
  @Nat.rec (fun _ => CallQ) (fun _ _ _ => none) (fun n ih f cs h => optK (ft.get f) fun ff => @Mode.rec (fun _ => Option (C × H)) (bodyQ P vals ih n ff cs h) (valQ nilQ (bodyQ P vals ih n ff) cs h) (valQ (.v (.slice none 0 0)) (bodyQ P vals ih n ff) cs h) ff.m) n
/-- A function of the quick machine is the tree machine's. -/
def FFOk (P : Program) (tab : Tab) (f : Nat) (ff : FF) : Prop :=
  ∃ K fn, tab f = some (K, ff.m) ∧ P.funcs[f]? = some fn ∧ fn.ntmps = ff.n ∧ compRs P fn.results.toList = some ff.rs ∧ compK P K = some ff.k ∧ (liveK K (resTmps fn.results.toList) [] (resTmps fn.results.toList)).isSome = true
theorem bodyQ_ref {P : Program} {vals : FuncId → Bool} {callq : CallQ} {call : CallF} (hcall : CallRef callq call) {n : Nat} {fn : Go.Func} {K : K} {ff : FF} {l : List Nat} (hn : fn.ntmps = ff.n) (hrs : compRs P fn.results.toList = some ff.rs) (hk : compK P K = some ff.k) (hl : liveK K (resTmps fn.results.toList) [] (resTmps fn.results.toList) = some l)
    {cs : List C} {h : H} {hp : Heap} (hr : RepH h hp) {c : C} {h' : H} (H : bodyQ P vals callq n ff cs h = some (c, h')) : ∃ hp', body P vals call n fn K cs hp = some (c, hp') ∧ RepH h' hp' := by
  obtain ⟨h1, h2⟩ := ifK_inv H
  obtain ⟨e, h3, h4⟩ := enterQ_inv h2
  obtain ⟨ctl, e1, h1', eo1, hp1, h5, h6, h7, h8⟩ := execK_ref (R := C × Q.H) (vals := vals) hcall n K ff.k _ _ _ l hk hl e (enterE 0 cs) h hp _ _ (fun t _ => by rw [h3]) hr h4
  have fin : ∀ {cx : C} {hx : Q.H}, resQ e1 h1' ff.rs (fun rs => some (oneQ rs, h1')) = some (cx, hx) → agree (resTmps fn.results.toList) e1.env eo1 → ∃ rs, resC P eo1 hp1 fn.results.toList = some rs ∧ cx = oneOr rs ∧ hx = h1' := fun {cx hx} hq ha => by
    obtain ⟨rs, g1, g2⟩ := resQ_inv h6 hrs ha hq
    simp only [Option.some.injEq, Prod.mk.injEq] at g2
    refine ⟨rs, g1, ?_, g2.2.symm⟩
    rw [← g2.1]
    cases rs with
    | nil => rfl
    | cons a r => cases r <;> rfl
  unfold body
  rw [if_pos (by rw [hn]; exact Nat.le_of_ble_eq_true h1), h5]
  cases ctl with
  | exit j => cases h8
  | normal =>
    obtain ⟨rs, g1, rfl, rfl⟩ := fin h8 h7
    exact ⟨hp1, by simp [g1], h6⟩
  | ret =>
    obtain ⟨rs, g1, rfl, rfl⟩ := fin h8 h7
    exact ⟨hp1, by simp [g1], h6⟩
theorem rep_empty : RepH emptyQ [] := Rep.nil
theorem mapC_total {cs : List C} : (∃ vs, mapC (view false [] depth) cs = some vs) ∨ mapC (view false [] depth) cs = none := by
  cases mapC (view false [] depth) cs with
  | none => exact .inr rfl
  | some vs => exact .inl ⟨vs, rfl⟩
theorem viewN_more {cl : Bool} {h h' : Heap} (hh : ∀ (l : Nat) (nd : Node), h[l]? = some nd → h'[l]? = some nd) : ∀ (n : Nat) (c d : C), viewN cl h n c = some d → viewN false h' n c = some d
  | 0, c, d, e => by simp [viewN] at e
  | n + 1, c, d, e => by
    have ih := viewN_more (cl := cl) hh n
    unfold viewN at e
    split at e
    · exact e
    · rename_i xs len cap
      simp only [viewN]
      split at e
      · rename_i h0; cases e; rw [if_pos h0]
      · rename_i h0
        split at e
        · cases e
        · cases e; rw [if_neg h0]; rfl
    · split at e
      · cases e
      · cases e; rfl
    · rename_i l off len cap
      simp only [viewN]
      split at e
      · rename_i h0; cases e; rw [if_pos h0]
      · rename_i h0
        rw [if_neg h0]
        split at e
        · rename_i es cs hl
          simp only [hh _ _ hl]
          simp only [Option.bind_eq_bind, Option.bind_eq_some_iff] at e ⊢
          obtain ⟨xs, h1, ys, h2, h3⟩ := e
          exact ⟨xs, h1, ys, mapC_some ih h2, h3⟩
        · cases e
    · rename_i l off
      simp only [viewN]
      split at e
      · rename_i es cs hl
        simp only [hh _ _ hl]
        simp only [Option.map_eq_some_iff] at e ⊢
        obtain ⟨ys, h2, h3⟩ := e
        exact ⟨ys, mapC_some ih h2, h3⟩
      · cases e
    · cases e
    all_goals
      simp only [viewN]
      simp only [Option.map_eq_some_iff] at e ⊢
      obtain ⟨ys, h2, h3⟩ := e
      exact ⟨ys, mapC_some ih h2, h3⟩
theorem callQ_ref {P : Program} {tab : Tab} {vals : FuncId → Bool} {ft : FT} (hv : vals = valsOf tab) (hft : ft.All (FFOk P tab)) : ∀ n, CallRef (callQ P vals ft n) (callAt P tab n)
  | 0 => fun f cs h hp c h' H hr => by cases H
  | n + 1 => fun f cs h hp c h' H hr => by
    subst hv
    have ih := callQ_ref (P := P) (tab := tab) rfl hft n
    obtain ⟨ff, h1, h2⟩ := optK_inv (H : optK (ft.get f) (fun ff => @Mode.rec (fun _ => Option (C × Q.H)) (bodyQ P (valsOf tab) (callQ P (valsOf tab) ft n) n ff cs h) (valQ nilQ (bodyQ P (valsOf tab) (callQ P (valsOf tab) ft n) n ff) cs h) (valQ (.v (.slice none 0 0)) (bodyQ P (valsOf tab) (callQ P (valsOf tab) ft n) n ff) cs h) ff.m) = some (c, h'))
    obtain ⟨K, fn, g1, g2, g3, g4, g5, g6⟩ := hft.get h1
    obtain ⟨l, g6⟩ := Option.isSome_iff_exists.1 g6
    simp only [callAt, g1, g2]
    cases hm : ff.m with
    | ref =>
      rw [hm] at h2
      exact bodyQ_ref ih g3 g4 g5 g6 hr h2
    | val =>
      rw [hm] at h2
      have run : ∀ {vs : List C} {c : C} {k : Q.H}, bodyQ P (valsOf tab) (callQ P (valsOf tab) ft n) n ff vs emptyQ = some (c, k) → ∃ kp, body P (valsOf tab) (callAt P tab n) n fn K vs [] = some (c, kp) ∧ RepH k kp := fun hb => bodyQ_ref ih g3 g4 g5 g6 rep_empty hb
      have h2' : valQ nilQ (bodyQ P (valsOf tab) (callQ P (valsOf tab) ft n) n ff) cs h = some (c, h') := h2
      unfold valQ at h2'
      simp only [byVal]
      cases hq : mapQ (viewQ nilQ false emptyQ 12) cs (fun vs => some vs) with
      | some vs =>
        rw [hq] at h2'
        obtain ⟨⟨c1, k1⟩, h3, h4⟩ := optK_inv (h2' : optK (bodyQ P (valsOf tab) (callQ P (valsOf tab) ft n) n ff vs emptyQ) (fun r => viewQ nilQ false r.2 12 r.1 fun c => some (c, h)) = some (c, h'))
        obtain ⟨kp, h5, h6⟩ := run h3
        obtain ⟨d, h7, h8⟩ := viewQ_inv h6 12 c1 _ h4
        cases h8
        obtain ⟨ds, h9, h10⟩ := mapQ_inv (g := view false [] 12) (fun c k hk => viewQ_inv rep_empty 12 c k hk) hq
        cases h10
        refine ⟨hp, ?_, hr⟩
        have h9' : mapC (view false [] depth) cs = some vs := h9
        have h7' : view false kp depth c1 = some c := h7
        rw [h9']
        simp only [h5, Option.bind_some, h7', Option.map_some]
      | none =>
        rw [hq] at h2'
        obtain ⟨vs, h3, h4⟩ := mapQ_inv (g := view false hp 12) (fun c k hk => viewQ_inv hr 12 c k hk) (h2' : mapQ (viewQ nilQ false h 12) cs (fun vs => optK (bodyQ P (valsOf tab) (callQ P (valsOf tab) ft n) n ff vs emptyQ) fun r => viewQ nilQ true r.2 12 r.1 fun c => some (c, h)) = some (c, h'))
        obtain ⟨⟨c1, k1⟩, h5, h6⟩ := optK_inv h4
        obtain ⟨kp, h7, h8⟩ := run h5
        obtain ⟨d, h9, h10⟩ := viewQ_inv h8 12 c1 _ h6
        cases h10
        refine ⟨hp, ?_, hr⟩
        have h3' : mapC (view false hp depth) cs = some vs := h3
        have h9' : view true kp depth c1 = some c := h9
        have h9f : view false kp depth c1 = some c := view_more (cl := true) (fun _ _ e => e) _ _ _ h9'
        cases hz : mapC (view false [] depth) cs with
        | none => simp only [h3', Option.bind_some, h7, h9', Option.map_some]
        | some us =>
          have := mapC_some (view_more (cl := false) (h := []) (h' := hp) (fun _ _ e => by simp at e) depth) hz
          rw [h3'] at this
          cases this
          simp only [h7, Option.bind_some, h9f, Option.map_some]
    | keep =>
      rw [hm] at h2
      have run : ∀ {vs : List C} {c : C} {k : Q.H}, bodyQ P (valsOf tab) (callQ P (valsOf tab) ft n) n ff vs emptyQ = some (c, k) → ∃ kp, body P (valsOf tab) (callAt P tab n) n fn K vs [] = some (c, kp) ∧ RepH k kp := fun hb => bodyQ_ref ih g3 g4 g5 g6 rep_empty hb
      have h2' : valQ (.v (.slice none 0 0)) (bodyQ P (valsOf tab) (callQ P (valsOf tab) ft n) n ff) cs h = some (c, h') := h2
      unfold valQ at h2'
      simp only [byValN]
      cases hq : mapQ (viewQ (.v (.slice none 0 0)) false emptyQ 12) cs (fun vs => some vs) with
      | some vs =>
        rw [hq] at h2'
        obtain ⟨⟨c1, k1⟩, h3, h4⟩ := optK_inv (h2' : optK (bodyQ P (valsOf tab) (callQ P (valsOf tab) ft n) n ff vs emptyQ) (fun r => viewQ (.v (.slice none 0 0)) false r.2 12 r.1 fun c => some (c, h)) = some (c, h'))
        obtain ⟨kp, h5, h6⟩ := run h3
        obtain ⟨d, h7, h8⟩ := viewQN_inv h6 12 c1 _ h4
        cases h8
        obtain ⟨ds, h9, h10⟩ := mapQ_inv (g := viewN false [] 12) (fun c k hk => viewQN_inv rep_empty 12 c k hk) hq
        cases h10
        refine ⟨hp, ?_, hr⟩
        have h9' : mapC (viewN false [] depth) cs = some vs := h9
        have h7' : viewN false kp depth c1 = some c := h7
        rw [h9']
        simp only [h5, Option.bind_some, h7', Option.map_some]
      | none =>
        rw [hq] at h2'
        obtain ⟨vs, h3, h4⟩ := mapQ_inv (g := viewN false hp 12) (fun c k hk => viewQN_inv hr 12 c k hk) (h2' : mapQ (viewQ (.v (.slice none 0 0)) false h 12) cs (fun vs => optK (bodyQ P (valsOf tab) (callQ P (valsOf tab) ft n) n ff vs emptyQ) fun r => viewQ (.v (.slice none 0 0)) true r.2 12 r.1 fun c => some (c, h)) = some (c, h'))
        obtain ⟨⟨c1, k1⟩, h5, h6⟩ := optK_inv h4
        obtain ⟨kp, h7, h8⟩ := run h5
        obtain ⟨d, h9, h10⟩ := viewQN_inv h8 12 c1 _ h6
        cases h10
        refine ⟨hp, ?_, hr⟩
        have h3' : mapC (viewN false hp depth) cs = some vs := h3
        have h9' : viewN true kp depth c1 = some c := h9
        have h9f : viewN false kp depth c1 = some c := viewN_more (cl := true) (fun _ _ e => e) _ _ _ h9'
        cases hz : mapC (viewN false [] depth) cs with
        | none => simp only [h3', Option.bind_some, h7, h9', Option.map_some]
        | some us =>
          have := mapC_some (viewN_more (cl := false) (h := []) (h' := hp) (fun _ _ e => by simp at e) depth) hz
          rw [h3'] at this
          cases this
          simp only [h7, Option.bind_some, h9f, Option.map_some]
end
end Go.Tm.Q
