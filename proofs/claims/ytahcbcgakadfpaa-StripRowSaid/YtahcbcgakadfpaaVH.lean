import Derived.Test.YtahcbcgakadfpaaVG
set_option linter.unusedVariables false
namespace Go.Tm.V
open Go.Tm.Q (ifK ifK_inv forceN forceN_eq forceB forceB_eq optK optK_inv eqB eqB_eq subL subL_mem findX seen_agree touches_agree loadOk_agree fine_agree)
noncomputable section
section
variable {P : Program} {vals : FuncId → Bool} {call : CallF} {σ : Nat → Nat}
/-! ### Regions whose order is open -/
def cellV (h : H) (l : Nat) (k : N → Option R) : Option R := @H.rec (fun _ => Option R) (fun _ t => getK t l k) h
theorem cellV_inv {h : H} {hp : Heap} (hr : RepH h hp) {l : Nat} {k : N → Option R} {r : R} (H : cellV h l k = some r) : ∃ nd, hp[l]? = some nd.node ∧ k nd = some r := by
  obtain ⟨n, t⟩ := h
  obtain ⟨nd, h1, h2⟩ := getK_inv H
  have h3 := hr.get l
  rw [h1] at h3
  exact ⟨nd, h3.symm, h2⟩
def sameV (anc : List Nat) (h h' : H) (ls : List (Nat × Seen)) (x : Option R) : Option R :=
  @List.rec (Nat × Seen) (fun _ => Option R) x (fun p _ ih => @Bool.rec (fun _ => Option R) (@Seen.rec (fun _ => Option R) (fun a => cellV h a fun m => cellV h' a fun n => ifK (nodeEq m.node n.node) ih) ih none p.2) ih (anc.contains p.1)) ls
theorem sameV_inv {anc : List Nat} {h h' : H} {hp hp' : Heap} (hr : RepH h hp) (hr' : RepH h' hp') {x : Option R} {r : R} : ∀ {ls : List (Nat × Seen)}, sameV anc h h' ls x = some r → lsOkC anc hp hp' ls = true ∧ x = some r
  | [], H => ⟨rfl, H⟩
  | (i, s) :: ls, H => by
    have H' : @Bool.rec (fun _ => Option R) (@Seen.rec (fun _ => Option R) (fun a => cellV h a fun m => cellV h' a fun n => ifK (nodeEq m.node n.node) (sameV anc h h' ls x)) (sameV anc h h' ls x) none s) (sameV anc h h' ls x) (anc.contains i) = some r := H
    cases hb : anc.contains i with
    | true =>
      rw [hb] at H'
      obtain ⟨h1, h2⟩ := sameV_inv hr hr' (H' : sameV anc h h' ls x = some r)
      exact ⟨by simp only [lsOkC, hb, Bool.true_or, Bool.true_and]; exact h1, h2⟩
    | false =>
      rw [hb] at H'
      cases s with
      | row a =>
        obtain ⟨m, h1, h2⟩ := cellV_inv hr (H' : cellV h a (fun m => cellV h' a fun n => ifK (nodeEq m.node n.node) (sameV anc h h' ls x)) = some r)
        obtain ⟨n, h3, h4⟩ := cellV_inv hr' h2
        obtain ⟨h5, h6⟩ := ifK_inv h4
        obtain ⟨h7, h8⟩ := sameV_inv hr hr' h6
        exact ⟨by simp only [lsOkC, hb, sameRow, h1, h3, h5, Bool.false_or, Bool.true_and]; exact h7, h8⟩
      | frozen =>
        obtain ⟨h1, h2⟩ := sameV_inv hr hr' (H' : sameV anc h h' ls x = some r)
        exact ⟨by simp only [lsOkC, hb, Bool.false_or, Bool.true_and]; exact h1, h2⟩
      | other => cases H'
def longV (h h' : H) (x : Option R) : Option R := @H.rec (fun _ => Option R) (fun n _ => @H.rec (fun _ => Option R) (fun m _ => ifK (Nat.ble n m) x) h') h
theorem longV_inv {h h' : H} {hp hp' : Heap} (hr : RepH h hp) (hr' : RepH h' hp') {x : Option R} {r : R} (H : longV h h' x = some r) : Nat.ble hp.length hp'.length = true ∧ x = some r := by
  obtain ⟨n, t⟩ := h
  obtain ⟨m, t'⟩ := h'
  obtain ⟨h1, h2⟩ := ifK_inv H
  rw [← hr.len, ← hr'.len]
  exact ⟨h1, h2⟩
def fineV (anc : List Nat) (e : Env) (o : Op) (h h' : H) (ls : List (Nat × Seen)) (x : Option R) : Option R :=
  @Bool.rec (fun _ => Option R) (ifK (lsOk anc (touches e o) ls) x) (sameV anc h h' ls (longV h h' x)) (isCallV o)
theorem fineV_inv {anc : List Nat} {e : Env} {o : Op} {h h' : H} {hp hp' : Heap} (hr : RepH h hp) (hr' : RepH h' hp') {ls : List (Nat × Seen)} {x : Option R} {r : R} (H : fineV anc e o h h' ls x = some r) : fine anc e o hp hp' ls = true ∧ x = some r := by
  unfold fineV at H
  unfold fine
  cases hv : isCallV o with
  | true =>
    rw [hv] at H
    obtain ⟨h1, h2⟩ := sameV_inv hr hr' H
    obtain ⟨h3, h4⟩ := longV_inv hr hr' h2
    exact ⟨by rw [if_pos rfl, h1, h3]; rfl, h4⟩
  | false =>
    rw [hv] at H
    obtain ⟨h1, h2⟩ := ifK_inv H
    exact ⟨by rw [if_neg (by decide)]; exact h1, h2⟩
abbrev Dg (R : Type) := E → H → List (Nat × Seen) → List Nat → (E → H → Option R) → Option R
def dg0 : Dg R := fun e h _ _ k => k e h
def dP (c : Wt R) (w : Wr R) (f : Vl R) (n : Dg R) : Dg R := fun e h ls cs k => c e fun b => @Bool.rec (fun _ => Option R) (w uW e fun e => n e h ls cs k) (f e h fun a h => w a e fun e => n e h ls cs k) b
def dL (vals : FuncId → Bool) (ix : Nat) (anc : List Nat) (o : Op) (rs : List (Nat × Rd R)) (c : Wt R) (w : Wr R) (f : Vl R) (n : Dg R) : Dg R := fun e h ls cs k => c e fun b => @Bool.rec (fun _ => Option R) (w uW e fun e => n e h ls cs k) (f e h fun a h => envV rs e fun env => ifK (allIn anc cs && loadOk vals env o) (w a e fun e => n e h ((ix, seenOf env o) :: ls) cs k)) b
def dC (ix : Nat) (anc : List Nat) (o : Op) (rs : List (Nat × Rd R)) (c : Wt R) (w : Wr R) (f : Vl R) (n : Dg R) : Dg R := fun e h ls cs k => c e fun b => @Bool.rec (fun _ => Option R) (w uW e fun e => n e h ls cs k) (f e h fun a h2 => envV rs e fun env => ifK (allIn anc cs) (fineV anc env o h h2 ls (w a e fun e => n e h2 ls (ix :: cs) k))) b
def DgRef (P : Program) (vals : FuncId → Bool) (call : CallF) (σ : Nat → Nat) (ds : List D) (out l : List Nat) (f : Dg R) : Prop :=
  ∀ (e : E) (eo : Env) (h : H) (hp : Heap) (ls : List (Nat × Seen)) (cs : List Nat) (k : E → H → Option R) (r : R), CallRef e.x.ca call → Ag σ l e eo → RepH h hp → f e h ls cs k = some r →
    ∃ e1 h1 eo1 hp1, goD P vals call ds ⟨eo, hp⟩ ls cs = some ⟨eo1, hp1⟩ ∧ e1.x = e.x ∧ RepH h1 hp1 ∧ Ag σ out e1 eo1 ∧ k e1 h1 = some r
def mkD (vals : FuncId → Bool) (d : D) (rs : List (Nat × Rd R)) (c : Wt R) (w : Wr R) (f : Vl R) (n : Dg R) : Dg R := match d.cls with
  | .pure => dP c w f n
  | .load => dL vals d.ix d.anc d.i.op rs c w f n
  | .chain => dC d.ix d.anc d.i.op rs c w f n
def isMvD (σ : Nat → Nat) (d : D) : Bool := match d.cls with
  | .pure => isMv σ d.i
  | _ => false
def compDg (P : Program) (vals : FuncId → Bool) (σ : Nat → Nat) (out : List Nat) : List D → Option (List Nat × Dg R)
  | [] => some (out, dg0)
  | d :: r => (compDg P vals σ out r).bind fun q => @Bool.rec (fun _ => Option (List Nat × Dg R)) ((compV P σ d.i.op).bind fun f => (tmpRs σ (opTmps d.i.op.operands.toList)).bind fun rs => (compWt σ d.i.g).bind fun c => (compWr σ d.i.dst q.1).bind fun w => nfL (addLs (opTmps d.i.op.operands.toList) (addLs (gT d.i.g) (lessL d.i.dst q.1))) fun l => some (l, mkD vals d rs c w f q.2)) (nfL (addLs (opTmps d.i.op.operands.toList) (lessL d.i.dst q.1)) fun l => some (l, q.2)) (isMvD σ d)
theorem compDg_ref {out : List Nat} : ∀ {ds : List D} {l : List Nat} {f : Dg R}, compDg P vals σ out ds = some (l, f) → DgRef P vals call σ ds out l f
  | [], l, f, hc => fun e eo h hp ls cs k r hcall ha hr H => by
    cases hc
    exact ⟨e, h, eo, hp, rfl, rfl, hr, ha, H⟩
  | d :: ds, l, f, hc => fun e eo h hp ls cs k r hcall ha hr H => by
    simp only [compDg, nfL_eq, Option.bind_eq_some_iff] at hc
    obtain ⟨⟨L, n⟩, h0, hc⟩ := hc
    have ih := compDg_ref h0
    cases hmv : isMvD σ d with
    | true =>
      rw [hmv] at hc
      simp only [Option.some.injEq, Prod.mk.injEq] at hc
      obtain ⟨rfl, rfl⟩ := hc
      obtain ⟨ix, i, anc, cls⟩ := d
      cases cls with
      | pure =>
        obtain ⟨c, g1, g2, g3⟩ := isMv_step (P := P) (call := call) (hp := hp) (i := i) hmv (ha.mono fun t ht => mem_addLs.2 (.inl ht)) (ha.mono fun t ht => mem_addLs.2 (.inr ht))
        obtain ⟨e1, h1', eo1, hp1, g6, gx, g7, g8, g9⟩ := ih e _ h hp ls cs k r hcall g3 hr H
        exact ⟨e1, h1', eo1, hp1, by simp only [goD, g1, g2, St.put_eq, Option.bind_some, if_true]; exact g6, gx, g7, g8, g9⟩
      | load => cases hmv
      | chain => cases hmv
    | false =>
    rw [hmv] at hc
    simp only [Option.bind_eq_some_iff, Option.some.injEq, Prod.mk.injEq] at hc
    obtain ⟨g, h1, rs, hrs, c, h2, w, h3, rfl, rfl⟩ := hc
    have ha1 : Ag σ (opTmps d.i.op.operands.toList) e eo := ha.mono fun t ht => mem_addLs.2 (.inl ht)
    have ha2 : Ag σ (gT d.i.g) e eo := ha.mono fun t ht => mem_addLs.2 (.inr (mem_addLs.2 (.inl ht)))
    have ha3 : Ag σ (lessL d.i.dst L) e eo := ha.mono fun t ht => mem_addLs.2 (.inr (mem_addLs.2 (.inr ht)))
    obtain ⟨ix, i, anc, cls⟩ := d
    cases cls with
    | pure =>
      obtain ⟨b, g1, g2⟩ := compWt_ref h2 e eo _ r ha2 (H : c e (fun b => @Bool.rec (fun _ => Option R) (w uW e fun e => n e h ls cs k) (g e h fun a h => w a e fun e => n e h ls cs k) b) = some r)
      simp only [goD, g1, Option.bind_some]
      cases b with
      | false =>
        obtain ⟨e', qx, g4, g5⟩ := compWr_ref h3 ha3 (g2 : w uW e (fun e => n e h ls cs k) = some r)
        obtain ⟨e1, h1', eo1, hp1, g6, gx, g7, g8, g9⟩ := ih e' _ h hp ls cs k r (by rw [qx]; exact hcall) g4 hr g5
        rw [uW_c] at g6
        exact ⟨e1, h1', eo1, hp1, by rw [if_neg (by decide)]; simp only [St.put_eq]; exact g6, gx.trans qx, g7, g8, g9⟩
      | true =>
        obtain ⟨a, h', hp', q1, q2, q3⟩ := compV_ref h1 e eo h hp _ r hcall ha1 hr g2
        obtain ⟨e', qx, g4, g5⟩ := compWr_ref h3 ha3 q3
        obtain ⟨e1, h1', eo1, hp1, g6, gx, g7, g8, g9⟩ := ih e' _ h' hp' ls cs k r (by rw [qx]; exact hcall) g4 q2 g5
        exact ⟨e1, h1', eo1, hp1, by rw [if_pos rfl, q1]; simp only [Option.bind_some, St.put_eq]; exact g6, gx.trans qx, g7, g8, g9⟩
    | load =>
      obtain ⟨b, g1, g2⟩ := compWt_ref h2 e eo _ r ha2 (H : c e (fun b => @Bool.rec (fun _ => Option R) (w uW e fun e => n e h ls cs k) (g e h fun a h => envV rs e fun env => ifK (allIn anc cs && loadOk vals env i.op) (w a e fun e => n e h ((ix, seenOf env i.op) :: ls) cs k)) b) = some r)
      simp only [goD, g1, Option.bind_some]
      cases b with
      | false =>
        obtain ⟨e', qx, g4, g5⟩ := compWr_ref h3 ha3 (g2 : w uW e (fun e => n e h ls cs k) = some r)
        obtain ⟨e1, h1', eo1, hp1, g6, gx, g7, g8, g9⟩ := ih e' _ h hp ls cs k r (by rw [qx]; exact hcall) g4 hr g5
        rw [uW_c] at g6
        exact ⟨e1, h1', eo1, hp1, by rw [if_neg (by decide)]; simp only [St.put_eq]; exact g6, gx.trans qx, g7, g8, g9⟩
      | true =>
        obtain ⟨a, h', hp', q1, q2, q3⟩ := compV_ref h1 e eo h hp _ r hcall ha1 hr g2
        obtain ⟨env, m1, m2⟩ := envV_inv hrs ha1 q3
        obtain ⟨m3, m4⟩ := ifK_inv m2
        obtain ⟨e', qx, g4, g5⟩ := compWr_ref h3 ha3 m4
        obtain ⟨e1, h1', eo1, hp1, g6, gx, g7, g8, g9⟩ := ih e' _ h' hp' _ cs k r (by rw [qx]; exact hcall) g4 q2 g5
        rw [loadOk_agree m1] at m3
        rw [seen_agree m1] at g6
        exact ⟨e1, h1', eo1, hp1, by rw [if_pos rfl, q1]; simp only [Option.bind_some, St.put_eq]; rw [if_pos m3]; exact g6, gx.trans qx, g7, g8, g9⟩
    | chain =>
      obtain ⟨b, g1, g2⟩ := compWt_ref h2 e eo _ r ha2 (H : c e (fun b => @Bool.rec (fun _ => Option R) (w uW e fun e => n e h ls cs k) (g e h fun a h2 => envV rs e fun env => ifK (allIn anc cs) (fineV anc env i.op h h2 ls (w a e fun e => n e h2 ls (ix :: cs) k))) b) = some r)
      simp only [goD, g1, Option.bind_some]
      cases b with
      | false =>
        obtain ⟨e', qx, g4, g5⟩ := compWr_ref h3 ha3 (g2 : w uW e (fun e => n e h ls cs k) = some r)
        obtain ⟨e1, h1', eo1, hp1, g6, gx, g7, g8, g9⟩ := ih e' _ h hp ls cs k r (by rw [qx]; exact hcall) g4 hr g5
        rw [uW_c] at g6
        exact ⟨e1, h1', eo1, hp1, by rw [if_neg (by decide)]; simp only [St.put_eq]; exact g6, gx.trans qx, g7, g8, g9⟩
      | true =>
        obtain ⟨a, h', hp', q1, q2, q3⟩ := compV_ref h1 e eo h hp _ r hcall ha1 hr g2
        obtain ⟨env, m1, m2⟩ := envV_inv hrs ha1 q3
        obtain ⟨m3, m4⟩ := ifK_inv m2
        obtain ⟨m5, m6⟩ := fineV_inv hr q2 m4
        obtain ⟨e', qx, g4, g5⟩ := compWr_ref h3 ha3 m6
        obtain ⟨e1, h1', eo1, hp1, g6, gx, g7, g8, g9⟩ := ih e' _ h' hp' _ _ k r (by rw [qx]; exact hcall) g4 q2 g5
        rw [fine_agree m1] at m5
        exact ⟨e1, h1', eo1, hp1, by rw [if_pos rfl, q1]; simp only [Option.bind_some, St.put_eq]; rw [if_pos (by rw [m3, m5]; rfl)]; exact g6, gx.trans qx, g7, g8, g9⟩
/-! ### Code -/
abbrev Cd (R : Type) := E → H → (Ctl → E → H → Option R) → Option R
def ctlK (c : Ctl) (a : Option R) (b : Nat → Option R) (d : Option R) : Option R := @Ctl.rec (fun _ => Option R) a b d c
def skV : Cd R := fun e h k => k .normal e h
def rgV (s : Sg R) : Cd R := fun e h k => s e h (k .normal)
def drV (s : Dg R) : Cd R := fun e h k => s e h [] [] (k .normal)
def sqV (a b : Cd R) : Cd R := fun e h k => a e h fun c e h => ctlK c (b e h k) (fun j => k (.exit j) e h) (k .ret e h)
def cdV (x : Rd R) (a b : Cd R) : Cd R := fun e h k => x e fun d => boolW d fun t => @Bool.rec (fun _ => Option R) (b e h k) (a e h k) t
def bkV (id : Nat) (a : Cd R) : Cd R := fun e h k => a e h fun c e h => ctlK c (k .normal e h) (fun j => @Bool.rec (fun _ => Option R) (k (.exit j) e h) (k .normal e h) (Nat.beq j id)) (k .ret e h)
def loopK (body : Cd R) (k : Ctl → E → H → Option R) (n : Nat) : E → H → Option R :=
  @Nat.rec (fun _ => E → H → Option R) (fun _ _ => none) (fun _ ih e h => body e h fun c e h => ctlK c (ih e h) (fun j => k (.exit j) e h) (k .ret e h)) n
def lpV (a : Cd R) : Cd R := fun e h k => @E.rec (fun _ => Option R) (fun _ _ _ x => @Cx.rec (fun _ => Option R) (fun _ n => loopK a k n e h) x) e
theorem lpV_eq {a : Cd R} {e : E} {h : H} {k : Ctl → E → H → Option R} : lpV a e h k = loopK a k e.x.nn e h := by
  obtain ⟨_, _, _, ⟨_, _⟩⟩ := e; rfl
def exV (id : Nat) : Cd R := fun e h k => k (.exit id) e h
def rtV : Cd R := fun e h k => k .ret e h
def BehV (σ : Nat → Nat) (out : List Nat) (ex : List (Nat × List Nat)) (rt : List Nat) (c : Ctl) (e : E) (eo : Env) : Prop :=
  match c with
  | .normal => Ag σ out e eo
  | .exit id => ∃ o, findX ex id = some o ∧ Ag σ o e eo
  | .ret => Ag σ rt e eo
def CdRef (P : Program) (vals : FuncId → Bool) (call : CallF) (σ : Nat → Nat) (n : Nat) (K : K) (out : List Nat) (ex : List (Nat × List Nat)) (rt l : List Nat) (f : Cd R) : Prop :=
  ∀ (e : E) (eo : Env) (h : H) (hp : Heap) (k : Ctl → E → H → Option R) (r : R), CallRef e.x.ca call → e.x.nn = n → Ag σ l e eo → RepH h hp → f e h k = some r →
    ∃ ctl e1 h1 eo1 hp1, exec P vals call n K ⟨eo, hp⟩ = some (ctl, ⟨eo1, hp1⟩) ∧ e1.x = e.x ∧ RepH h1 hp1 ∧ BehV σ out ex rt ctl e1 eo1 ∧ k ctl e1 h1 = some r
theorem Ag.keep {l keep : List Nat} {e : E} {eo : Env} (ha : Ag σ l e eo) (hs : subL l keep = true) : Ag σ l e (keepE eo keep) := fun t ht => by
  rw [look_keepE_mem keep _ t (subL_mem hs ht)]; exact ha t ht
theorem loopV_ref {n : Nat} {K : K} {keep l : List Nat} {ex : List (Nat × List Nat)} {rt : List Nat} {f : Cd R} (hf : CdRef P vals call σ n K keep ex rt l f) (hs : subL l keep = true) : ∀ (m : Nat) (out : List Nat) (e : E) (eo : Env) (h : H) (hp : Heap) (k : Ctl → E → H → Option R) (r : R), CallRef e.x.ca call → e.x.nn = n → Ag σ keep e eo → RepH h hp → loopK f k m e h = some r →
    ∃ ctl e1 h1 eo1 hp1, iter (fun s => exec P vals call n K ⟨keepE s.env keep, s.heap⟩) m ⟨eo, hp⟩ = some (ctl, ⟨eo1, hp1⟩) ∧ e1.x = e.x ∧ RepH h1 hp1 ∧ BehV σ out ex rt ctl e1 eo1 ∧ k ctl e1 h1 = some r
  | 0, out, e, eo, h, hp, k, r, hcl, hn, ha, hr, H => by cases H
  | m + 1, out, e, eo, h, hp, k, r, hcl, hn, ha, hr, H => by
    obtain ⟨ctl, e1, h1', eo1, hp1, h3, hx, h4, h5, h6⟩ := hf e (keepE eo keep) h hp _ r hcl hn (Ag.keep (ha.mono fun t ht => subL_mem hs ht) hs) hr (H : f e h (fun c e h => ctlK c (loopK f k m e h) (fun j => k (.exit j) e h) (k .ret e h)) = some r)
    simp only [iter]
    rw [h3]
    cases ctl with
    | normal =>
      obtain ⟨c2, e2, h2', eo2, hp2, g1, gx, g2, g3, g4⟩ := loopV_ref hf hs m out e1 eo1 h1' hp1 k r (by rw [hx]; exact hcl) (by rw [hx]; exact hn) h5 h4 h6
      exact ⟨c2, e2, h2', eo2, hp2, g1, gx.trans hx, g2, g3, g4⟩
    | exit j => exact ⟨.exit j, e1, h1', eo1, hp1, rfl, hx, h4, h5, h6⟩
    | ret => exact ⟨.ret, e1, h1', eo1, hp1, rfl, hx, h4, h5, h6⟩
def compCd (P : Program) (vals : FuncId → Bool) (σ : Nat → Nat) : K → List Nat → List (Nat × List Nat) → List Nat → Option (List Nat × Cd R)
  | .skip, out, _, _ => some (out, skV)
  | .reg ops keep, out, _, _ => if subL out keep = true then (compSg P σ out ops).map fun q => (q.1, rgV q.2) else none
  | .draw ds keep, out, _, _ => if subL out keep = true then (compDg P vals σ out ds).map fun q => (q.1, drV q.2) else none
  | .seq a b, out, ex, rt => (compCd P vals σ b out ex rt).bind fun q => (compCd P vals σ a q.1 ex rt).map fun p => (p.1, sqV p.2 q.2)
  | .cond c a b, out, ex, rt => (compRd σ c).bind fun x => (compCd P vals σ a out ex rt).bind fun p => (compCd P vals σ b out ex rt).bind fun q => nfL (addLs (opTmps [c]) (addLs p.1 q.1)) fun l => some (l, cdV x p.2 q.2)
  | .block id a, out, ex, rt => (compCd P vals σ a out ((id, out) :: ex) rt).map fun p => (p.1, bkV id p.2)
  | .loop keep a, _, ex, rt => (compCd P vals σ a keep ex rt).bind fun p => if subL p.1 keep = true then some (keep, lpV p.2) else none
  | .exit id, _, ex, _ => (findX ex id).map fun l => (l, exV id)
  | .ret, _, _, rt => some (rt, rtV)
theorem compCd_ref (n : Nat) : ∀ (K : K) (f : Cd R) (out : List Nat) (ex : List (Nat × List Nat)) (rt l : List Nat), compCd P vals σ K out ex rt = some (l, f) → CdRef P vals call σ n K out ex rt l f
  | .skip, f, out, ex, rt, l, hc => fun e eo h hp k r hcl hn ha hr H => by
    cases hc
    exact ⟨.normal, e, h, eo, hp, rfl, rfl, hr, ha, H⟩
  | .reg ops keep, f, out, ex, rt, l, hc => fun e eo h hp k r hcl hn ha hr H => by
    simp only [compCd] at hc
    split at hc
    · rename_i hs
      simp only [Option.map_eq_some_iff, Prod.mk.injEq] at hc
      obtain ⟨⟨L, s⟩, h1, rfl, rfl⟩ := hc
      obtain ⟨e1, h1', eo1, hp1, h2, hx, h3, h4, h5⟩ := compSg_ref h1 e eo h hp _ r hcl ha hr H
      exact ⟨.normal, e1, h1', keepE eo1 keep, hp1, by rw [exec_reg, h2]; rfl, hx, h3, Ag.keep h4 hs, h5⟩
    · cases hc
  | .draw ds keep, f, out, ex, rt, l, hc => fun e eo h hp k r hcl hn ha hr H => by
    simp only [compCd] at hc
    split at hc
    · rename_i hs
      simp only [Option.map_eq_some_iff, Prod.mk.injEq] at hc
      obtain ⟨⟨L, s⟩, h1, rfl, rfl⟩ := hc
      obtain ⟨e1, h1', eo1, hp1, h2, hx, h3, h4, h5⟩ := compDg_ref h1 e eo h hp [] [] _ r hcl ha hr H
      exact ⟨.normal, e1, h1', keepE eo1 keep, hp1, by rw [exec_draw', h2]; rfl, hx, h3, Ag.keep h4 hs, h5⟩
    · cases hc
  | .seq a b, f, out, ex, rt, l, hc => fun e eo h hp k r hcl hn ha hr H => by
    simp only [compCd, Option.bind_eq_some_iff, Option.map_eq_some_iff, Prod.mk.injEq] at hc
    obtain ⟨⟨L, y⟩, h1, ⟨M, x⟩, h2, rfl, rfl⟩ := hc
    obtain ⟨ctl, e1, h1', eo1, hp1, g1, gx, g2, g3, g4⟩ := compCd_ref n a x L ex rt M h2 e eo h hp _ r hcl hn ha hr (H : x e h (fun c e h => ctlK c (y e h k) (fun j => k (.exit j) e h) (k .ret e h)) = some r)
    rw [exec_seq, g1]
    cases ctl with
    | normal =>
      obtain ⟨c2, e2, h2', eo2, hp2, q1, qx, q2⟩ := compCd_ref n b y out ex rt L h1 e1 eo1 h1' hp1 k r (by rw [gx]; exact hcl) (by rw [gx]; exact hn) g3 g2 g4
      exact ⟨c2, e2, h2', eo2, hp2, q1, qx.trans gx, q2⟩
    | exit j => exact ⟨.exit j, e1, h1', eo1, hp1, rfl, gx, g2, g3, g4⟩
    | ret => exact ⟨.ret, e1, h1', eo1, hp1, rfl, gx, g2, g3, g4⟩
  | .cond c a b, f, out, ex, rt, l, hc => fun e eo h hp k r hcl hn ha hr H => by
    simp only [compCd, nfL_eq, Option.bind_eq_some_iff, Option.some.injEq, Prod.mk.injEq] at hc
    obtain ⟨z, h0, ⟨L, x⟩, h1, ⟨M, y⟩, h2, rfl, rfl⟩ := hc
    obtain ⟨d, h5, h6⟩ := (compRd_ref h0).get ha (fun t ht => mem_addLs.2 (.inl ht)) (H : z e (fun d => boolW d fun t => @Bool.rec (fun _ => Option R) (y e h k) (x e h k) t) = some r)
    obtain ⟨t, rfl, h8⟩ := boolW_inv h6
    rw [exec_cond, h5]
    simp only [Option.bind_some, W.c, boolOf]
    cases t with
    | true => rw [if_pos rfl]; exact compCd_ref n a x out ex rt L h1 e eo h hp k r hcl hn (ha.mono fun t ht => mem_addLs.2 (.inr (mem_addLs.2 (.inl ht)))) hr h8
    | false => rw [if_neg (by decide)]; exact compCd_ref n b y out ex rt M h2 e eo h hp k r hcl hn (ha.mono fun t ht => mem_addLs.2 (.inr (mem_addLs.2 (.inr ht)))) hr h8
  | .block id a, f, out, ex, rt, l, hc => fun e eo h hp k r hcl hn ha hr H => by
    simp only [compCd, Option.map_eq_some_iff, Prod.mk.injEq] at hc
    obtain ⟨⟨L, x⟩, h1, rfl, rfl⟩ := hc
    obtain ⟨ctl, e1, h1', eo1, hp1, g1, gx, g2, g3, g4⟩ := compCd_ref n a x out ((id, out) :: ex) rt L h1 e eo h hp _ r hcl hn ha hr (H : x e h (fun c e h => ctlK c (k .normal e h) (fun j => @Bool.rec (fun _ => Option R) (k (.exit j) e h) (k .normal e h) (Nat.beq j id)) (k .ret e h)) = some r)
    rw [exec_block, g1]
    cases ctl with
    | normal => exact ⟨.normal, e1, h1', eo1, hp1, rfl, gx, g2, g3, g4⟩
    | ret => exact ⟨.ret, e1, h1', eo1, hp1, rfl, gx, g2, g3, g4⟩
    | exit j =>
      obtain ⟨o, g5, g6⟩ := g3
      have g4' : @Bool.rec (fun _ => Option R) (k (.exit j) e1 h1') (k .normal e1 h1') (Nat.beq j id) = some r := g4
      rw [leaves_exit]
      cases hb : Nat.beq j id with
      | true =>
        rw [hb] at g4'
        have ej := Nat.eq_of_beq_eq_true hb
        subst ej
        simp only [findX, hb, if_true, Option.some.injEq] at g5
        subst g5
        exact ⟨.normal, e1, h1', eo1, hp1, by rw [if_pos rfl], gx, g2, g6, g4'⟩
      | false =>
        rw [hb] at g4'
        have ej : ¬ j = id := fun q => by subst q; simp at hb
        have hb2 : Nat.beq id j = false := by
          cases hq : Nat.beq id j with
          | true => exact absurd (Nat.eq_of_beq_eq_true hq).symm ej
          | false => rfl
        simp only [findX, hb2, Bool.false_eq_true, if_false] at g5
        exact ⟨.exit j, e1, h1', eo1, hp1, by rw [if_neg ej], gx, g2, ⟨o, g5, g6⟩, g4'⟩
  | .loop keep a, f, out, ex, rt, l, hc => fun e eo h hp k r hcl hn ha hr H => by
    simp only [compCd, Option.bind_eq_some_iff] at hc
    obtain ⟨⟨L, x⟩, h3, h4⟩ := hc
    split at h4
    · rename_i hs
      cases h4
      rw [lpV_eq, hn] at H
      exact loopV_ref (compCd_ref n a x keep ex rt L h3) hs n out e eo h hp k r hcl hn ha hr H
    · cases h4
  | .exit id, f, out, ex, rt, l, hc => fun e eo h hp k r hcl hn ha hr H => by
    simp only [compCd, Option.map_eq_some_iff, Prod.mk.injEq] at hc
    obtain ⟨L, h1, rfl, rfl⟩ := hc
    exact ⟨.exit id, e, h, eo, hp, rfl, rfl, hr, ⟨L, h1, ha⟩, H⟩
  | .ret, f, out, ex, rt, l, hc => fun e eo h hp k r hcl hn ha hr H => by
    cases hc
    exact ⟨.ret, e, h, eo, hp, rfl, rfl, hr, ha, H⟩
end
end
end Go.Tm.V
