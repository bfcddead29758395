import Derived.Test.YtahcbcgakadfpaaVD
set_option linter.unusedVariables false
namespace Go.Tm.V
open Go.Tm.Q (ifK ifK_inv forceN forceN_eq forceZ forceZ_eq forceB forceB_eq optK optK_inv dropK dropK_eq nthK nthK_inv takeK takeK_inv appK appK_eq overK overK_inv lenN lenN_eq forceO forceO_eq lensK noCall)
noncomputable section
abbrev R := RR
section
variable {P : Program} {call : CallF} {σ : Nat → Nat}
/-! Calls -/
abbrev Rs (R : Type) := E → (List W → Option R) → Option R
def rs0 : Rs R := fun _ k => k []
def rsc (x : Rd R) (n : Rs R) : Rs R := fun e k => x e fun a => n e fun l => k (a :: l)
def RsRef (σ : Nat → Nat) (os : List Operand) (f : Rs R) : Prop := ∀ (e : E) (eo : Env) (k : List W → Option R) (r : R), Ag σ (opTmps os) e eo → f e k = some r → ∃ cs, evs eo os = some (cL cs) ∧ k cs = some r
theorem rs0_ref : RsRef σ [] rs0 := fun e eo k r ha H => ⟨[], by simp [evs, cL_nil], H⟩
theorem rsc_ref {o : Operand} {os : List Operand} {x : Rd R} {n : Rs R} (hx : RdRef σ o x) (hn : RsRef σ os n) : RsRef σ (o :: os) (rsc x n) := fun e eo k r ha H => by
  obtain ⟨a, h1, h2⟩ := hx.get ha (opTmps_mem (by simp)) H
  obtain ⟨cs, h3, h4⟩ := hn e eo _ r (ha.mono fun t ht => by
    simp only [opTmps, List.mem_filterMap, List.mem_cons] at ht ⊢
    obtain ⟨a, h1, h2⟩ := ht
    exact ⟨a, .inr h1, h2⟩) h2
  exact ⟨a :: cs, by simp [evs, h1, h3, cL_cons], h4⟩
def caK (e : E) (f : FuncId) (cs : List W) (h : H) (k : W → H → Option R) : Option R := @E.rec (fun _ => Option R) (fun _ _ _ x => @Cx.rec (fun _ => Option R) (fun ca _ => ca f cs h k) x) e
theorem caK_eq {e : E} {f : FuncId} {cs : List W} {h : H} {k : W → H → Option R} : caK e f cs h k = e.x.ca f cs h k := by
  obtain ⟨a, b, c, ⟨ca, nn⟩⟩ := e; rfl
def caV (f : FuncId) (xs : Rs R) : Vl R := fun e h k => xs e fun cs => caK e f cs h k
theorem call_ref {f : FuncId} {args : Array Operand} {ats : Array TypeId} {xs : Rs R} (hx : RsRef σ args.toList xs) : VlRef P call σ (.call ⟨.value (.func f), args, ats⟩) (caV f xs) := fun e eo h hp k r hcl ha hr H => by
  obtain ⟨cs, h3, h4⟩ := hx e eo _ r (ha.mono fun t ht => by
    simp only [opTmps, List.mem_filterMap] at ht ⊢
    obtain ⟨a, h1, h2⟩ := ht
    exact ⟨a, by simp [Op.operands, Call.operands]; exact .inr (Array.mem_toList_iff.1 h1), h2⟩) H
  rw [caK_eq] at h4
  obtain ⟨c, h', hp', h5, h6, h7⟩ := hcl _ _ _ _ _ _ h4 hr
  exact ⟨c, h', hp', by simp [stepOp, calleeOf, ev, fnOf, h3, h5], h6, h7⟩
def cavV (x : Rd R) (xs : Rs R) : Vl R := fun e h k => x e fun c => fnW c fun f caps => xs e fun cs => appK cs caps fun all => caK e f all h k
theorem callv_ref {o : Operand} {args : Array Operand} {ats : Array TypeId} {x : Rd R} {xs : Rs R} (hx : RdRef σ o x) (hxs : RsRef σ args.toList xs) : VlRef P call σ (.call ⟨.value o, args, ats⟩) (cavV x xs) := fun e eo h hp k r hcl ha hr H => by
  obtain ⟨a, h1, h2⟩ := hx.get ha (opTmps_mem (by simp [Op.operands, Call.operands])) H
  obtain ⟨f, caps, rfl, h2⟩ := fnW_inv h2
  obtain ⟨cs, h3, h4⟩ := hxs e eo _ r (ha.mono fun t ht => by
    simp only [opTmps, List.mem_filterMap] at ht ⊢
    obtain ⟨a, h1, h2⟩ := ht
    exact ⟨a, by simp [Op.operands, Call.operands]; exact .inr (Array.mem_toList_iff.1 h1), h2⟩) h2
  rw [appK_eq, caK_eq] at h4
  obtain ⟨c, h', hp', h5, h6, h7⟩ := hcl _ _ _ _ _ _ h4 hr
  exact ⟨c, h', hp', by rw [cL_append] at h5; simp [stepOp, calleeOf, h1, W.c, fnOf, h3, h5], h6, h7⟩
/-! Whatever else is pure -/
def envV (rs : List (Nat × Rd R)) (e : E) (k : Env → Option R) : Option R :=
  @List.rec (Nat × Rd R) (fun _ => (Env → Option R) → Option R) (fun k => k []) (fun p _ ih k => p.2 e fun a => ih fun env => k ((p.1, a.c) :: env)) rs k
def tmpRs (σ : Nat → Nat) : List Nat → Option (List (Nat × Rd R))
  | [] => some []
  | t :: r => if σ t < 24 then (tmpRs σ r).map fun l => (t, rdN (σ t)) :: l else none
theorem envV_inv {e : E} {eo : Env} {r : R} : ∀ {ts : List Nat} {rs : List (Nat × Rd R)} {k : Env → Option R}, tmpRs σ ts = some rs → Ag σ ts e eo → envV rs e k = some r → ∃ env, agree ts env eo ∧ k env = some r
  | [], rs, k, hc, ha, H => by cases hc; exact ⟨[], fun t ht => (by cases ht), H⟩
  | t :: ts, rs, k, hc, ha, H => by
    simp only [tmpRs] at hc
    split at hc
    · rename_i hlt
      simp only [Option.map_eq_some_iff] at hc
      obtain ⟨l, h1, rfl⟩ := hc
      have H' : (rdN (σ t) : Rd R) e (fun a => envV l e fun env => k ((t, a.c) :: env)) = some r := H
      rw [rdN_ok hlt] at H'
      obtain ⟨env, h2, h3⟩ := envV_inv h1 (ha.mono fun u hu => List.mem_cons_of_mem _ hu) H'
      refine ⟨_, ?_, h3⟩
      intro u hu
      rw [look_cons]
      by_cases e1 : t = u
      · subst e1; rw [if_pos rfl, ha t hu]
      · rw [if_neg e1]
        rcases List.mem_cons.1 hu with rfl | hu
        · exact absurd rfl e1
        · exact h2 u hu
    · cases hc
def puV (P : Program) (op : Op) (rs : List (Nat × Rd R)) : Vl R := fun e h k => envV rs e fun env => optK (stepOp P noCall none env [] op) fun r => k (ofC r.1) h
theorem pure_ref {op : Op} {rs : List (Nat × Rd R)} (ho : pureOk op = true) (hrs : tmpRs σ (opTmps op.operands.toList) = some rs) : VlRef P call σ op (puV P op rs) := fun e eo h hp k r hcl ha hr H => by
  obtain ⟨env, h1, h2⟩ := envV_inv hrs ha H
  obtain ⟨⟨c, h0⟩, h3, h4⟩ := optK_inv h2
  have h5 := stepOp_more (P := P) (call := noCall) (call' := call) (fun _ _ _ _ h => by cases h) h3
  obtain ⟨_, h6⟩ := pure_any ho h5
  have h7 := h6 hp
  rw [stepOp_agree h1] at h7
  exact ⟨ofC c, h, hp, by rw [c_ofC]; exact h7, hr, h4⟩
/-! ### An operation's code -/
def compRd (σ : Nat → Nat) (o : Operand) : Option (Rd R) := (compX σ o).map X.rd
theorem compRd_ref {o : Operand} {x : Rd R} (h : compRd σ o = some x) : RdRef σ o x := by
  simp only [compRd, Option.map_eq_some_iff] at h
  obtain ⟨y, h1, rfl⟩ := h
  exact compX_ref h1
def compRs (σ : Nat → Nat) : List Operand → Option (Rs R)
  | [] => some rs0
  | o :: r => (compRd σ o).bind fun x => (compRs σ r).map (rsc x)
theorem compRs_ref : ∀ {os : List Operand} {f : Rs R}, compRs σ os = some f → RsRef σ os f
  | [], f, h => by cases h; exact rs0_ref
  | o :: os, f, h => by
    simp only [compRs, Option.bind_eq_some_iff, Option.map_eq_some_iff] at h
    obtain ⟨x, h1, n, h2, rfl⟩ := h
    exact rsc_ref (compRd_ref h1) (compRs_ref h2)
def compRo (σ : Nat → Nat) : Option Operand → Option (Ro R)
  | none => some ro0
  | some o => (compRd σ o).map ro1
theorem compRo_ref : ∀ {o : Option Operand} {f : Ro R}, compRo σ o = some f → RoRef σ o f
  | none, f, h => by cases h; exact ro0_ref
  | some o, f, h => by
    simp only [compRo, Option.map_eq_some_iff] at h
    obtain ⟨x, h1, rfl⟩ := h
    exact ro1_ref (compRd_ref h1)
def compFl (σ : Nat → Nat) (place : Nat → Option (Nat × Nat)) : List (Nat × Operand) → Option (Fl R)
  | [] => some fl0
  | (i, o) :: r => (place i).bind fun p => (compRd σ o).bind fun x => (compFl σ place r).map (fl1 p.1 p.2 x)
theorem compFl_ref {place : Nat → Option (Nat × Nat)} : ∀ {qs : List (Nat × Operand)} {f : Fl R}, compFl σ place qs = some f → FlRef σ place qs f
  | [], f, h => by cases h; exact fl0_ref
  | (i, o) :: qs, f, h => by
    simp only [compFl, Option.bind_eq_some_iff, Option.map_eq_some_iff] at h
    obtain ⟨⟨off, size⟩, h0, x, h1, n, h2, rfl⟩ := h
    exact fl1_ref h0 (compRd_ref h1) (compFl_ref h2)
def isI64 (P : Program) (t : TypeId) : Bool := match P.underlying t with
  | some (.int .i64) => true
  | _ => false
def fastI : BinOp → Option (Int → Int → (W → Option R) → Option R)
  | .add => some addI
  | .sub => some subI
  | .lss => some ltI
  | .leq => some leI
  | .gtr => some gtI
  | .geq => some geI
  | .eql => some eqI
  | .neq => some neI
  | _ => none
theorem fastI_ok {op : BinOp} {f : Int → Int → (W → Option R) → Option R} (h : fastI op = some f) : OpI (P := P) op f := by
  cases op <;> simp only [fastI, reduceCtorEq, Option.some.injEq] at h <;> subst h
  · exact addI_ok
  · exact subI_ok
  · exact eqI_ok
  · exact neI_ok
  · exact ltI_ok
  · exact leI_ok
  · exact gtI_ok
  · exact geI_ok
def compBin (P : Program) (σ : Nat → Nat) (op : BinOp) (t : TypeId) (x y : Operand) (u : TypeId) : Option (Vl R) :=
  (compRd σ x).bind fun a => (compRd σ y).bind fun b => match isI64 P t, fastI op with
    | true, some f => match y with
      | .const (.int .i64 n) => some (binC' f a n)
      | _ => some (binI f a b)
    | _, _ => some (binG P op t x y a b)
theorem compBin_ref {op : BinOp} {t u : TypeId} {x y : Operand} {f : Vl R} (h : compBin P σ op t x y u = some f) : VlRef P call σ (.binOp op t x y u) f := by
  simp only [compBin, Option.bind_eq_some_iff] at h
  obtain ⟨a, h1, b, h2, h⟩ := h
  split at h
  · rename_i g _ hg
    split at h
    · cases h; exact binC_ref (fastI_ok hg) (compRd_ref h1)
    · cases h; exact binI_ref (fastI_ok hg) (compRd_ref h1) (compRd_ref h2)
  · cases h; exact binG_ref (compRd_ref h1) (compRd_ref h2)
end
end
end Go.Tm.V
