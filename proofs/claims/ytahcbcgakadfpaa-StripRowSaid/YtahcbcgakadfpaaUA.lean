import Derived.Test.YtahcbcgakadfpaaTZ
set_option linter.unusedVariables false
namespace Go.Tm.Q
noncomputable section
/-! ### Regions -/
inductive FI where
  | i (d : Nat) (o : O)
  | j (o : O)
  | g (d c : Nat) (b : Bool) (o : O)
  | gj (c : Nat) (b : Bool) (o : O)
section
variable {R : Type}
def eqB (x b : Bool) : Bool := @Bool.rec (fun _ => Bool) (@Bool.rec (fun _ => Bool) true false b) b x
theorem eqB_eq (x b : Bool) : eqB x b = (x == b) := by cases x <;> cases b <;> rfl
def wantK (e : E) (c : Nat) (b : Bool) (k : Bool → Option R) : Option R := lookK e c fun v => match v with
  | .v (.bool x) => forceB (eqB x b) k
  | .tup [] => k false
  | _ => none
theorem wantK_inv {e : E} {c : Nat} {b : Bool} {k : Bool → Option R} {r : R} (H : wantK e c b k = some r) : ∃ w, wantedC e.env (some (c, b)) = some w ∧ k w = some r := by
  obtain ⟨v, h1, h2⟩ := lookK_inv H
  simp only [wantedC, h1]
  split at h2
  · rw [forceB_eq, eqB_eq] at h2; exact ⟨_, rfl, h2⟩
  · exact ⟨_, rfl, h2⟩
  · cases h2
def stepIK (P : Program) (call : CallQ) (i : FI) (e : E) (h : H) (k : E → H → Option R) : Option R := match i with
  | .i d o => stepK P call o e h fun c h => k (.cons d c e) h
  | .j o => stepK P call o e h fun _ h => k e h
  | .g d c b o => wantK e c b fun w => @Bool.rec (fun _ => Option R) (k (.cons d undefC e) h) (stepK P call o e h fun c h => k (.cons d c e) h) w
  | .gj c b o => wantK e c b fun w => @Bool.rec (fun _ => Option R) (k e h) (stepK P call o e h fun _ h => k e h) w
def mkI (d : Option Nat) (g : Option (Nat × Bool)) (o : O) : FI := match d, g with
  | some d, none => .i d o
  | none, none => .j o
  | some d, some (c, b) => .g d c b o
  | none, some (c, b) => .gj c b o
def compI (P : Program) (i : I) : Option FI := (compO P i.op).map (mkI i.dst i.g)
theorem stepIK_inv {P : Program} {callq : CallQ} {call : CallF} (hcall : CallRef callq call) {i : I} {fi : FI} (hc : compI P i = some fi) {e : E} {h : H} {hp : Heap} (hr : RepH h hp) {k : E → H → Option R} {r : R} (H : stepIK P callq fi e h k = some r) :
    ∃ e' h' hp', stepI P call none i ⟨e.env, hp⟩ = some ⟨e'.env, hp'⟩ ∧ RepH h' hp' ∧ k e' h' = some r := by
  obtain ⟨d, op, g⟩ := i
  simp only [compI, Option.map_eq_some_iff] at hc
  obtain ⟨o, h1, rfl⟩ := hc
  cases g with
  | none =>
    cases d with
    | some d =>
      obtain ⟨c, h', hp', h2, h3, h4⟩ := stepK_inv hcall h1 hr (H : stepK P callq o e h (fun c h => k (.cons d c e) h) = some r)
      exact ⟨.cons d c e, h', hp', by rw [stepI_plain, h2]; rfl, h3, h4⟩
    | none =>
      obtain ⟨c, h', hp', h2, h3, h4⟩ := stepK_inv hcall h1 hr (H : stepK P callq o e h (fun _ h => k e h) = some r)
      exact ⟨e, h', hp', by rw [stepI_plain, h2]; rfl, h3, h4⟩
  | some g =>
    obtain ⟨t, b⟩ := g
    cases d with
    | some d =>
      obtain ⟨w, h5, h6⟩ := wantK_inv (H : wantK e t b (fun w => @Bool.rec (fun _ => Option R) (k (.cons d undefC e) h) (stepK P callq o e h fun c h => k (.cons d c e) h) w) = some r)
      cases w with
      | true =>
        obtain ⟨c, h', hp', h2, h3, h4⟩ := stepK_inv hcall h1 hr (h6 : stepK P callq o e h (fun c h => k (.cons d c e) h) = some r)
        exact ⟨.cons d c e, h', hp', by rw [stepI_guard, h5]; simp only [Option.bind_some, if_true, h2]; rfl, h3, h4⟩
      | false => exact ⟨.cons d undefC e, h, hp, by rw [stepI_guard, h5]; rfl, hr, h6⟩
    | none =>
      obtain ⟨w, h5, h6⟩ := wantK_inv (H : wantK e t b (fun w => @Bool.rec (fun _ => Option R) (k e h) (stepK P callq o e h fun _ h => k e h) w) = some r)
      cases w with
      | true =>
        obtain ⟨c, h', hp', h2, h3, h4⟩ := stepK_inv hcall h1 hr (h6 : stepK P callq o e h (fun _ h => k e h) = some r)
        exact ⟨e, h', hp', by rw [stepI_guard, h5]; simp only [Option.bind_some, if_true, h2]; rfl, h3, h4⟩
      | false => exact ⟨e, h, hp, by rw [stepI_guard, h5]; rfl, hr, h6⟩
def runK (P : Program) (call : CallQ) (is : List FI) (e : E) (h : H) (k : E → H → Option R) : Option R :=
  @List.rec FI (fun _ => E → H → Option R) k (fun i _ ih e h => stepIK P call i e h ih) is e h
def compIs (P : Program) : List I → Option (List FI)
  | [] => some []
  | i :: r => (compI P i).bind fun x => (compIs P r).bind fun xs => some (x :: xs)
theorem runK_inv {P : Program} {callq : CallQ} {call : CallF} (hcall : CallRef callq call) {k : E → H → Option R} {r : R} : ∀ {is : List I} {fs : List FI} {e : E} {h : H} {hp : Heap}, compIs P is = some fs → RepH h hp → runK P callq fs e h k = some r →
    ∃ e' h' hp', runI P call is ⟨e.env, hp⟩ = some ⟨e'.env, hp'⟩ ∧ RepH h' hp' ∧ k e' h' = some r
  | [], fs, e, h, hp, hc, hr, H => by cases hc; exact ⟨e, h, hp, rfl, hr, H⟩
  | i :: is, fs, e, h, hp, hc, hr, H => by
    simp only [compIs, Option.bind_eq_some_iff, Option.some.injEq] at hc
    obtain ⟨f, h1, gs, h2, rfl⟩ := hc
    obtain ⟨e1, h1', hp1, h3, h4, h5⟩ := stepIK_inv hcall h1 hr (H : stepIK P callq f e h (fun e h => runK P callq gs e h k) = some r)
    obtain ⟨e2, h2', hp2, h6, h7, h8⟩ := runK_inv hcall h2 h4 h5
    exact ⟨e2, h2', hp2, by rw [runI_cons, h3]; exact h6, h7, h8⟩

/-! Regions whose order is open -/
def putQ (d : Option Nat) (c : C) (e : E) (k : E → Option R) : Option R := @Option.rec Nat (fun _ => Option R) (k e) (fun t => k (.cons t c e)) d
theorem putQ_inv {d : Option Nat} {c : C} {e : E} {k : E → Option R} {r : R} (h : Heap) (H : putQ d c e k = some r) : ∃ e', St.put ⟨e.env, h⟩ d c = ⟨e'.env, h⟩ ∧ k e' = some r := by
  cases d with
  | none => exact ⟨e, rfl, H⟩
  | some t => exact ⟨.cons t c e, rfl, H⟩
def sameK (anc : List Nat) (h h' : H) (ls : List (Nat × Seen)) (x : Option R) : Option R :=
  @List.rec (Nat × Seen) (fun _ => Option R) x (fun p _ ih => @Bool.rec (fun _ => Option R) (@Seen.rec (fun _ => Option R) (fun a => cellK h a fun m => cellK h' a fun n => ifK (nodeEq m n) ih) ih none p.2) ih (anc.contains p.1)) ls
theorem sameK_inv {anc : List Nat} {h h' : H} {hp hp' : Heap} (hr : RepH h hp) (hr' : RepH h' hp') {x : Option R} {r : R} : ∀ {ls : List (Nat × Seen)}, sameK anc h h' ls x = some r → lsOkC anc hp hp' ls = true ∧ x = some r
  | [], H => ⟨rfl, H⟩
  | (i, s) :: ls, H => by
    have H' : @Bool.rec (fun _ => Option R) (@Seen.rec (fun _ => Option R) (fun a => cellK h a fun m => cellK h' a fun n => ifK (nodeEq m n) (sameK anc h h' ls x)) (sameK anc h h' ls x) none s) (sameK anc h h' ls x) (anc.contains i) = some r := H
    cases hb : anc.contains i with
    | true =>
      rw [hb] at H'
      obtain ⟨h1, h2⟩ := sameK_inv hr hr' (H' : sameK anc h h' ls x = some r)
      exact ⟨by simp only [lsOkC, hb, Bool.true_or, Bool.true_and]; exact h1, h2⟩
    | false =>
      rw [hb] at H'
      cases s with
      | row a =>
        obtain ⟨m, h1, h2⟩ := cellK_inv hr (H' : cellK h a (fun m => cellK h' a fun n => ifK (nodeEq m n) (sameK anc h h' ls x)) = some r)
        obtain ⟨n, h3, h4⟩ := cellK_inv hr' h2
        obtain ⟨h5, h6⟩ := ifK_inv h4
        obtain ⟨h7, h8⟩ := sameK_inv hr hr' h6
        exact ⟨by simp only [lsOkC, hb, sameRow, h1, h3, h5, Bool.false_or, Bool.true_and]; exact h7, h8⟩
      | frozen =>
        obtain ⟨h1, h2⟩ := sameK_inv hr hr' (H' : sameK anc h h' ls x = some r)
        exact ⟨by simp only [lsOkC, hb, Bool.false_or, Bool.true_and]; exact h1, h2⟩
      | other => cases H'
def longK (h h' : H) (x : Option R) : Option R := @H.rec (fun _ => Option R) (fun n _ => @H.rec (fun _ => Option R) (fun m _ => ifK (Nat.ble n m) x) h') h
theorem longK_inv {h h' : H} {hp hp' : Heap} (hr : RepH h hp) (hr' : RepH h' hp') {x : Option R} {r : R} (H : longK h h' x = some r) : Nat.ble hp.length hp'.length = true ∧ x = some r := by
  obtain ⟨n, t⟩ := h
  obtain ⟨m, t'⟩ := h'
  obtain ⟨h1, h2⟩ := ifK_inv H
  rw [← hr.len, ← hr'.len]
  exact ⟨h1, h2⟩
def fineK (anc : List Nat) (e : Env) (o : Op) (h h' : H) (ls : List (Nat × Seen)) (x : Option R) : Option R :=
  @Bool.rec (fun _ => Option R) (ifK (lsOk anc (touches e o) ls) x) (sameK anc h h' ls (longK h h' x)) (isCallV o)
theorem fineK_inv {anc : List Nat} {e : Env} {o : Op} {h h' : H} {hp hp' : Heap} (hr : RepH h hp) (hr' : RepH h' hp') {ls : List (Nat × Seen)} {x : Option R} {r : R} (H : fineK anc e o h h' ls x = some r) : fine anc e o hp hp' ls = true ∧ x = some r := by
  unfold fineK at H
  unfold fine
  cases hv : isCallV o with
  | true =>
    rw [hv] at H
    obtain ⟨h1, h2⟩ := sameK_inv hr hr' H
    obtain ⟨h3, h4⟩ := longK_inv hr hr' h2
    exact ⟨by rw [if_pos rfl, h1, h3]; rfl, h4⟩
  | false =>
    rw [hv] at H
    obtain ⟨h1, h2⟩ := ifK_inv H
    exact ⟨by rw [if_neg (by decide)]; exact h1, h2⟩
def goK (P : Program) (vals : FuncId → Bool) (call : CallQ) (ds : List (D × O)) (k : E → H → Option R) : E → H → List (Nat × Seen) → List Nat → Option R :=
  @List.rec (D × O) (fun _ => E → H → List (Nat × Seen) → List Nat → Option R) (fun e h _ _ => k e h) (fun p _ ih e h ls cs =>
    optK (wantedC e.env p.1.i.g) fun b => @Bool.rec (fun _ => Option R) (putQ p.1.i.dst undefC e fun e => ih e h ls cs)
      (stepK P call p.2 e h fun c h2 => @Cls.rec (fun _ => Option R) (putQ p.1.i.dst c e fun e => ih e h2 ls cs)
        (ifK (allIn p.1.anc cs && loadOk vals e.env p.1.i.op) (putQ p.1.i.dst c e fun e' => ih e' h2 ((p.1.ix, seenOf e.env p.1.i.op) :: ls) cs))
        (ifK (allIn p.1.anc cs) (fineK p.1.anc e.env p.1.i.op h h2 ls (putQ p.1.i.dst c e fun e' => ih e' h2 ls (p.1.ix :: cs)))) p.1.cls) b) ds
def compDs (P : Program) : List D → Option (List (D × O))
  | [] => some []
  | d :: r => (compO P d.i.op).bind fun x => (compDs P r).bind fun xs => some ((d, x) :: xs)
theorem goK_inv {P : Program} {vals : FuncId → Bool} {callq : CallQ} {call : CallF} (hcall : CallRef callq call) {k : E → H → Option R} {r : R} : ∀ {ds : List D} {fs : List (D × O)} {e : E} {h : H} {hp : Heap} {ls : List (Nat × Seen)} {cs : List Nat}, compDs P ds = some fs → RepH h hp → goK P vals callq fs k e h ls cs = some r →
    ∃ e' h' hp', goD P vals call ds ⟨e.env, hp⟩ ls cs = some ⟨e'.env, hp'⟩ ∧ RepH h' hp' ∧ k e' h' = some r
  | [], fs, e, h, hp, ls, cs, hc, hr, H => by cases hc; exact ⟨e, h, hp, rfl, hr, H⟩
  | d :: ds, fs, e, h, hp, ls, cs, hc, hr, H => by
    simp only [compDs, Option.bind_eq_some_iff, Option.some.injEq] at hc
    obtain ⟨o, h1, gs, h2, rfl⟩ := hc
    obtain ⟨b, h3, h4⟩ := optK_inv (H : optK (wantedC e.env d.i.g) (fun b => @Bool.rec (fun _ => Option R) (putQ d.i.dst undefC e fun e => goK P vals callq gs k e h ls cs)
      (stepK P callq o e h fun c h2 => @Cls.rec (fun _ => Option R) (putQ d.i.dst c e fun e => goK P vals callq gs k e h2 ls cs)
        (ifK (allIn d.anc cs && loadOk vals e.env d.i.op) (putQ d.i.dst c e fun e' => goK P vals callq gs k e' h2 ((d.ix, seenOf e.env d.i.op) :: ls) cs))
        (ifK (allIn d.anc cs) (fineK d.anc e.env d.i.op h h2 ls (putQ d.i.dst c e fun e' => goK P vals callq gs k e' h2 ls (d.ix :: cs)))) d.cls) b) = some r)
    simp only [goD, h3, Option.bind_some]
    cases b with
    | false =>
      obtain ⟨e', h5, h6⟩ := putQ_inv hp (h4 : putQ d.i.dst undefC e (fun e => goK P vals callq gs k e h ls cs) = some r)
      obtain ⟨e2, h', hp', h7, h8, h9⟩ := goK_inv hcall h2 hr h6
      exact ⟨e2, h', hp', by rw [if_neg (by decide), h5]; exact h7, h8, h9⟩
    | true =>
      obtain ⟨c, h', hp', h5, h6, h7⟩ := stepK_inv hcall h1 hr h4
      rw [if_pos rfl, h5]
      simp only [Option.bind_some]
      cases hcl : d.cls with
      | pure =>
        rw [hcl] at h7
        obtain ⟨e', h8, h9⟩ := putQ_inv hp' h7
        obtain ⟨e2, h'', hp'', h10, h11, h12⟩ := goK_inv hcall h2 h6 h9
        exact ⟨e2, h'', hp'', by simp only [h8]; exact h10, h11, h12⟩
      | load =>
        rw [hcl] at h7
        obtain ⟨h8, h9⟩ := ifK_inv h7
        obtain ⟨e', h10, h11⟩ := putQ_inv hp' h9
        obtain ⟨e2, h'', hp'', h12, h13, h14⟩ := goK_inv hcall h2 h6 h11
        exact ⟨e2, h'', hp'', by simp only; rw [if_pos h8, h10]; exact h12, h13, h14⟩
      | chain =>
        rw [hcl] at h7
        obtain ⟨h8, h9⟩ := ifK_inv h7
        obtain ⟨h8', h9⟩ := fineK_inv hr h6 h9
        obtain ⟨e', h10, h11⟩ := putQ_inv hp' h9
        obtain ⟨e2, h'', hp'', h12, h13, h14⟩ := goK_inv hcall h2 h6 h11
        exact ⟨e2, h'', hp'', by simp only; rw [if_pos (by rw [h8, h8']; rfl), h10]; exact h12, h13, h14⟩
/-! What a loop keeps -/
def lookD (e : E) (t : Nat) (d : Option R) (k : C → Option R) : Option R :=
  @E.rec (fun _ => Option R) d (fun u c _ ih => @Bool.rec (fun _ => Option R) ih (k c) (Nat.beq u t)) e
theorem lookD_eq {t : Nat} {d : Option R} {k : C → Option R} : ∀ {e : E}, lookD e t d k = (match look e.env t with | some c => k c | none => d)
  | .nil => rfl
  | .cons u c e => by
    show @Bool.rec (fun _ => Option R) (lookD e t d k) (k c) (Nat.beq u t) = _
    simp only [E.env, look_cons]
    cases hb : Nat.beq u t with
    | true => rw [if_pos (Nat.eq_of_beq_eq_true hb)]
    | false => rw [if_neg (fun e => by subst e; simp at hb)]; exact lookD_eq
def keepK (ks : List Nat) (e : E) (k : E → Option R) : Option R :=
  @List.rec Nat (fun _ => (E → Option R) → Option R) (fun k => k .nil) (fun t _ ih k => lookD e t (ih k) fun c => ih fun r => k (.cons t c r)) ks k
theorem keepK_inv {e : E} {r : R} : ∀ {ks : List Nat} {k : E → Option R}, keepK ks e k = some r → ∃ e', e'.env = keepE e.env ks ∧ k e' = some r
  | [], k, H => ⟨.nil, rfl, H⟩
  | t :: ks, k, H => by
    have H' : lookD e t (keepK ks e k) (fun c => keepK ks e fun r => k (.cons t c r)) = some r := H
    rw [lookD_eq] at H'
    simp only [keepE]
    cases hl : look e.env t with
    | none =>
      rw [hl] at H'
      obtain ⟨e', h1, h2⟩ := keepK_inv (H' : keepK ks e k = some r)
      exact ⟨e', h1, h2⟩
    | some c =>
      rw [hl] at H'
      obtain ⟨e', h1, h2⟩ := keepK_inv (H' : keepK ks e (fun r => k (.cons t c r)) = some r)
      exact ⟨.cons t c e', by rw [E.env, h1], h2⟩
end
/-! ### What is still looked at -/
def subL (a b : List Nat) : Bool := a.all fun t => b.any fun u => Nat.beq u t
theorem subL_mem {a b : List Nat} (h : subL a b = true) {t : Nat} (ht : t ∈ a) : t ∈ b := by
  unfold subL at h
  rw [List.all_eq_true] at h
  have := h t ht
  rw [List.any_eq_true] at this
  obtain ⟨u, hu, e⟩ := this
  rw [← Nat.eq_of_beq_eq_true e]; exact hu
def liveI : List I → List Nat → List Nat
  | [], out => out
  | i :: r, out => uses i ++ (match i.dst with | some d => (liveI r out).filter (fun t => !(Nat.beq t d)) | none => liveI r out)
def findX : List (Nat × List Nat) → Nat → Option (List Nat)
  | [], _ => none
  | (j, o) :: r, id => if Nat.beq j id = true then some o else findX r id
def liveK : K → List Nat → List (Nat × List Nat) → List Nat → Option (List Nat)
  | .skip, out, _, _ => some out
  | .reg ops keep, out, _, _ => if subL out keep = true then some (liveI ops keep) else none
  | .draw ds keep, out, _, _ => if subL out keep = true then some (liveI (ds.map (·.i)) keep) else none
  | .seq a b, out, ex, rt => (liveK b out ex rt).bind fun l => liveK a l ex rt
  | .cond c a b, out, ex, rt => (liveK a out ex rt).bind fun l => (liveK b out ex rt).bind fun m => some (opTmps [c] ++ (l ++ m))
  | .block id a, out, ex, rt => liveK a out ((id, out) :: ex) rt
  | .loop keep a, _, ex, rt => (liveK a keep ex rt).bind fun l => if subL l keep = true then some keep else none
  | .exit id, _, ex, _ => findX ex id
  | .ret, _, _, rt => some rt
theorem agree_mono {a b : List Nat} {e e' : Env} (h : agree b e e') (hs : ∀ t ∈ a, t ∈ b) : agree a e e' := fun t ht => h t (hs t ht)
theorem stepI_agree {P : Program} {call : CallF} {i : I} {e e' : Env} {h : Heap} {s : St} (ha : agree (uses i) e e') (H : stepI P call none i ⟨e, h⟩ = some s) : ∃ c, s = ⟨putE e i.dst c, s.heap⟩ ∧ stepI P call none i ⟨e', h⟩ = some ⟨putE e' i.dst c, s.heap⟩ := by
  have h1 : agree (opTmps i.op.operands.toList) e e' := agree_mono ha fun t ht => List.mem_append_left _ ht
  have h2 : wantedC e i.g = wantedC e' i.g := wantedC_agree fun t b hg => ha t (by unfold uses; rw [hg]; simp)
  simp only [stepI, Option.bind_eq_bind, Option.bind_eq_some_iff] at H ⊢
  obtain ⟨b, hb, H⟩ := H
  rw [← h2]
  split at H
  · rename_i hbt
    simp only [Option.map_eq_some_iff] at H
    obtain ⟨⟨c, k⟩, h3, rfl⟩ := H
    refine ⟨c, by simp only [St.put_eq], b, hb, ?_⟩
    rw [if_pos hbt, ← stepOp_agree h1, h3]
    simp only [St.put_eq, Option.map_some]
  · rename_i hbt
    cases H
    exact ⟨undefC, by simp only [St.put_eq], b, hb, by rw [if_neg hbt]; simp only [St.put_eq]⟩
theorem putE_agree {l : List Nat} {e e' : Env} {d : Option Nat} {c : C} (h : agree (match d with | some d => l.filter (fun t => !(Nat.beq t d)) | none => l) e e') : agree l (putE e d c) (putE e' d c) := by
  cases d with
  | none => exact h
  | some d =>
    intro t ht
    simp only [putE, look_cons]
    by_cases ed : d = t
    · rw [if_pos ed, if_pos ed]
    · rw [if_neg ed, if_neg ed]
      exact h t (List.mem_filter.2 ⟨ht, by cases hb : Nat.beq t d with
        | true => exact absurd (Nat.eq_of_beq_eq_true hb).symm ed
        | false => rfl⟩)
theorem runI_agree {P : Program} {call : CallF} {out : List Nat} : ∀ {is : List I} {e e' e1 : Env} {h h1 : Heap}, agree (liveI is out) e e' → runI P call is ⟨e, h⟩ = some ⟨e1, h1⟩ → ∃ e1', runI P call is ⟨e', h⟩ = some ⟨e1', h1⟩ ∧ agree out e1 e1'
  | [], e, e', e1, h, h1, ha, H => by cases H; exact ⟨e', rfl, ha⟩
  | i :: is, e, e', e1, h, h1, ha, H => by
    rw [runI_cons] at H ⊢
    simp only [Option.bind_eq_some_iff] at H ⊢
    obtain ⟨s, h2, h3⟩ := H
    obtain ⟨c, h4, h5⟩ := stepI_agree (agree_mono ha fun t ht => List.mem_append_left _ ht) h2
    rw [h4] at h3
    obtain ⟨e1', h6, h7⟩ := runI_agree (putE_agree (c := c) (agree_mono ha fun t ht => List.mem_append_right _ ht)) h3
    exact ⟨e1', ⟨_, h5, h6⟩, h7⟩
theorem scalE_agree {e e' : Env} : ∀ {xs : List Operand}, agree (opTmps xs) e e' → scalE e xs = scalE e' xs
  | [], _ => rfl
  | x :: xs, ha => by
    have h1 : ev e x = ev e' x := ev_agree ha (List.mem_cons_self ..)
    have h2 : scalE e xs = scalE e' xs := scalE_agree (agree_mono ha fun t ht => by simp only [opTmps, List.filterMap_cons]; split <;> simp_all [opTmps])
    simp only [scalE, h1, h2]
theorem scalCall_agree {q : Call} {e e' : Env} (ha : agree (opTmps (Op.call q).operands.toList) e e') : scalCall e q = scalCall e' q := by
  obtain ⟨cal, args, ats⟩ := q
  unfold scalCall
  split
  · rename_i f hcal
    refine scalE_agree (agree_mono ha fun t ht => ?_)
    simp only [opTmps, Op.operands, Call.operands, Array.toList_append, List.filterMap_append, List.mem_append] at ht ⊢
    exact .inr ht
  · rfl
theorem seen_agree {o : Op} {e e' : Env} (ha : agree (opTmps o.operands.toList) e e') : seenOf e o = seenOf e' o := by
  cases o <;> try rfl
  case call q =>
    simp only [seenOf]
    rw [scalCall_agree ha]
  all_goals
    simp only [seenOf]
    rw [ev_agree ha (by simp [Op.operands])]
theorem touches_agree {o : Op} {e e' : Env} (ha : agree (opTmps o.operands.toList) e e') : touches e o = touches e' o := by
  cases o <;> try rfl
  · simp only [touches]; rw [ev_agree ha (by simp [Op.operands])]
  · rename_i c
    simp only [touches]
    cases hx : c.args[0]? with
    | none => rfl
    | some x =>
      simp only
      rw [ev_agree ha (by
        simp only [Op.operands, Call.operands, Array.toList_append, List.mem_append]
        exact .inr (Array.mem_toList_iff.2 (Array.mem_of_getElem? hx)))]
theorem loadOk_agree {vals : FuncId → Bool} {o : Op} {e e' : Env} (ha : agree (opTmps o.operands.toList) e e') : loadOk vals e o = loadOk vals e' o := by
  cases o <;> try rfl
  rename_i c
  obtain ⟨cal, args, ats⟩ := c
  cases cal <;> try rfl
  simp only [loadOk, calleeOf]
  rw [ev_agree ha (by simp [Op.operands, Call.operands])]
theorem fine_agree {anc : List Nat} {o : Op} {e e' : Env} {h h' : Heap} {ls : List (Nat × Seen)} (ha : agree (opTmps o.operands.toList) e e') : fine anc e o h h' ls = fine anc e' o h h' ls := by
  unfold fine
  rw [touches_agree ha]
theorem goD_agree {P : Program} {vals : FuncId → Bool} {call : CallF} {out : List Nat} : ∀ {ds : List D} {e e' e1 : Env} {h h1 : Heap} {ls : List (Nat × Seen)} {cs : List Nat}, agree (liveI (ds.map (·.i)) out) e e' → goD P vals call ds ⟨e, h⟩ ls cs = some ⟨e1, h1⟩ → ∃ e1', goD P vals call ds ⟨e', h⟩ ls cs = some ⟨e1', h1⟩ ∧ agree out e1 e1'
  | [], e, e', e1, h, h1, ls, cs, ha, H => by cases H; exact ⟨e', rfl, ha⟩
  | d :: ds, e, e', e1, h, h1, ls, cs, ha, H => by
    have hu : agree (uses d.i) e e' := agree_mono ha fun t ht => List.mem_append_left _ ht
    have ho : agree (opTmps d.i.op.operands.toList) e e' := agree_mono hu fun t ht => List.mem_append_left _ ht
    have h2 : wantedC e d.i.g = wantedC e' d.i.g := wantedC_agree fun t b hg => hu t (by unfold uses; rw [hg]; simp)
    have hput : ∀ c, agree (liveI (ds.map (·.i)) out) (putE e d.i.dst c) (putE e' d.i.dst c) := fun c => putE_agree (agree_mono ha fun t ht => List.mem_append_right _ ht)
    simp only [goD, Option.bind_eq_some_iff] at H ⊢
    obtain ⟨b, h3, H⟩ := H
    rw [← h2]
    split at H
    · rename_i hb
      simp only [Option.bind_eq_some_iff] at H
      obtain ⟨⟨c, k⟩, h4, H⟩ := H
      rw [stepOp_agree ho] at h4
      cases hcl : d.cls with
      | pure =>
        rw [hcl] at H
        simp only [St.put_eq] at H
        obtain ⟨e1', h5, h6⟩ := goD_agree (hput c) H
        exact ⟨e1', ⟨b, h3, by rw [if_pos hb, h4]; simp only [Option.bind_some, hcl, St.put_eq]; exact h5⟩, h6⟩
      | load =>
        rw [hcl] at H
        simp only [St.put_eq] at H
        split at H
        · rename_i hq
          rw [loadOk_agree ho] at hq
          rw [seen_agree ho] at H
          obtain ⟨e1', h5, h6⟩ := goD_agree (hput c) H
          exact ⟨e1', ⟨b, h3, by rw [if_pos hb, h4]; simp only [Option.bind_some, hcl, St.put_eq]; rw [if_pos hq]; exact h5⟩, h6⟩
        · cases H
      | chain =>
        rw [hcl] at H
        simp only [St.put_eq] at H
        split at H
        · rename_i hq
          rw [fine_agree ho] at hq
          obtain ⟨e1', h5, h6⟩ := goD_agree (hput c) H
          exact ⟨e1', ⟨b, h3, by rw [if_pos hb, h4]; simp only [Option.bind_some, hcl, St.put_eq]; rw [if_pos hq]; exact h5⟩, h6⟩
        · cases H
    · rename_i hb
      simp only [St.put_eq] at H
      obtain ⟨e1', h5, h6⟩ := goD_agree (hput undefC) H
      exact ⟨e1', ⟨b, h3, by rw [if_neg hb]; simp only [St.put_eq]; exact h5⟩, h6⟩
end
end Go.Tm.Q
