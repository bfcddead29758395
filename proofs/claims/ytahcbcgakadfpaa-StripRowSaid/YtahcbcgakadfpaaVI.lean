import Derived.Test.YtahcbcgakadfpaaVH
set_option linter.unusedVariables false
namespace Go.Tm.V
open Go.Tm.Q (ifK ifK_inv forceN forceN_eq optK optK_inv dropK dropK_eq takeK takeK_inv resTmps)
noncomputable section
section
variable {R : Type} {P : Program} {call : CallF} {σ : Nat → Nat}
/-! ### Views -/
def mapV (f : W → (W → Option R) → Option R) (cs : List W) (k : List W → Option R) : Option R :=
  @List.rec W (fun _ => (List W → Option R) → Option R) (fun k => k []) (fun c _ ih k => f c fun d => ih fun ds => k (d :: ds)) cs k
theorem mapV_inv {f : W → (W → Option R) → Option R} {g : C → Option C} {r : R} (hf : ∀ c k, f c k = some r → ∃ d, g c.c = some d.c ∧ k d = some r) : ∀ {cs : List W} {k : List W → Option R}, mapV f cs k = some r → ∃ ds, mapC g (cL cs) = some (cL ds) ∧ k ds = some r
  | [], k, H => ⟨[], by simp [mapC, cL_nil], H⟩
  | c :: cs, k, H => by
    obtain ⟨d, h1, h2⟩ := hf c _ (H : f c (fun d => mapV f cs fun ds => k (d :: ds)) = some r)
    obtain ⟨ds, h3, h4⟩ := mapV_inv hf h2
    exact ⟨d :: ds, by simp [cL_cons, mapC, h1, h3], h4⟩
def viewY (z : W) (y : Value) (k : W → Option R) : Option R := match y with
  | .slice none 0 0 => k z
  | y => k (.v y)
def viewV (z : W) (cl : Bool) (h : H) (n : Nat) : W → (W → Option R) → Option R :=
  @Nat.rec (fun _ => W → (W → Option R) → Option R) (fun _ _ => none) (fun _ ih c k => @W.rec (fun _ => Option R) (fun _ => PUnit)
    (fun x => k (.z x)) (fun x => k (.b x)) (fun y => viewY z y k)
    (fun xs len _ _ => @Nat.rec (fun _ => Option R) (k (.fs [] 0 none)) (fun m _ => @Bool.rec (fun _ => Option R) (k (.fs xs (Nat.succ m) none)) none cl) len)
    (fun xs _ => @Bool.rec (fun _ => Option R) (k (.fp xs)) none cl)
    (fun l off len _ => @Nat.rec (fun _ => Option R) (k (.fs [] 0 none)) (fun m _ => rowK h l fun e cs => dropK off cs fun ys => takeK (Nat.mul (Nat.succ m) e) ys fun zs => mapV ih zs fun ds => k (.fs ds (Nat.succ m) none)) len)
    (fun l off => rowK h l fun _ cs => dropK off cs fun ys => mapV ih ys fun ds => k (.fp ds))
    (fun _ => none)
    (fun f caps _ => mapV ih caps fun ds => k (.fn f ds))
    (fun cs _ => mapV ih cs fun ds => k (.ag ds))
    (fun cs _ => mapV ih cs fun ds => k (.tu ds)) PUnit.unit (fun _ _ _ _ => PUnit.unit) c) n
def zf : W := .fs [] 0 none
def zn : W := .v (.slice none 0 0)
theorem viewY_inv {z : W} {y : Value} {k : W → Option R} {r : R} (H : viewY z y k = some r) : (y = .slice none 0 0 ∧ k z = some r) ∨ (y ≠ .slice none 0 0 ∧ k (.v y) = some r) := by
  unfold viewY at H
  split at H
  · exact .inl ⟨rfl, H⟩
  · rename_i hx; exact .inr ⟨fun q => hx q, H⟩
theorem view_v {cl : Bool} {h : Heap} {n : Nat} {y : Value} (hy : y ≠ .slice none 0 0) : view cl h (n + 1) (.v y) = some (.v y) := by
  unfold view
  split
  · rename_i heq; cases heq; exact absurd rfl hy
  · rename_i heq; cases heq; rfl
  all_goals (rename_i heq; cases heq)
theorem viewV_inv {cl : Bool} {h : H} {hp : Heap} (hr : RepH h hp) {r : R} : ∀ (n : Nat) (c : W) (k : W → Option R), viewV zf cl h n c k = some r → ∃ d : W, view cl hp n c.c = some d.c ∧ k d = some r
  | 0, c, k, H => by cases H
  | n + 1, c, k, H => by
    have ih := viewV_inv (cl := cl) (r := r) hr n
    cases c with
    | z x => exact ⟨.z x, by simp only [W.c]; exact view_v (by simp), H⟩
    | b x => exact ⟨.b x, by simp only [W.c]; exact view_v (by simp), H⟩
    | v y =>
      rcases viewY_inv (H : viewY zf y k = some r) with ⟨rfl, h1⟩ | ⟨hy, h1⟩
      · exact ⟨_, by simp only [W.c, zf, cL_nil]; rfl, h1⟩
      · exact ⟨_, by simp only [W.c]; exact view_v hy, h1⟩
    | fs xs len cap =>
      simp only [W.c, view]
      cases len with
      | zero => exact ⟨_, by rw [if_pos rfl]; simp only [W.c, cL_nil], H⟩
      | succ m =>
        rw [if_neg (by omega)]
        cases cl with
        | true => cases H
        | false => exact ⟨_, by rw [if_neg (by decide)]; simp only [W.c], H⟩
    | fp xs =>
      simp only [W.c, view]
      cases cl with
      | true => cases H
      | false => exact ⟨_, by rw [if_neg (by decide)]; simp only [W.c], H⟩
    | os l off len cap =>
      simp only [W.c, view]
      cases len with
      | zero => exact ⟨_, by rw [if_pos rfl]; simp only [W.c, cL_nil], H⟩
      | succ m =>
        rw [if_neg (by omega)]
        obtain ⟨e, cs, h1, h2⟩ := rowK_inv hr (H : rowK h l (fun e cs => dropK off cs fun ys => takeK (Nat.mul (Nat.succ m) e) ys fun zs => mapV (viewV zf cl h n) zs fun ds => k (.fs ds (Nat.succ m) none)) = some r)
        rw [dropK_eq] at h2
        obtain ⟨h3, h4⟩ := takeK_inv h2
        obtain ⟨ds, h5, h6⟩ := mapV_inv ih h4
        refine ⟨_, ?_, h6⟩
        have h3' : (m + 1) * e ≤ (cs.drop off).length := h3
        simp only [h1, takeN]
        rw [← cL_drop, if_pos (by rw [cL_len]; exact h3')]
        simp only [Option.bind_eq_bind, Option.bind_some]
        have h5' : mapC (view cl hp n) (cL ((cs.drop off).take ((m + 1) * e))) = some (cL ds) := h5
        rw [← cL_take, h5']
        simp only [Option.bind_some, W.c]
    | op l off =>
      obtain ⟨e, cs, h1, h2⟩ := rowK_inv hr (H : rowK h l (fun _ cs => dropK off cs fun ys => mapV (viewV zf cl h n) ys fun ds => k (.fp ds)) = some r)
      rw [dropK_eq] at h2
      obtain ⟨ds, h5, h6⟩ := mapV_inv ih h2
      exact ⟨_, by simp only [W.c, view, h1, ← cL_drop, h5]; rfl, h6⟩
    | om l => cases H
    | fn f caps =>
      obtain ⟨ds, h5, h6⟩ := mapV_inv ih (H : mapV (viewV zf cl h n) caps (fun ds => k (.fn f ds)) = some r)
      exact ⟨_, by simp only [W.c, view, h5]; rfl, h6⟩
    | ag cs =>
      obtain ⟨ds, h5, h6⟩ := mapV_inv ih (H : mapV (viewV zf cl h n) cs (fun ds => k (.ag ds)) = some r)
      exact ⟨_, by simp only [W.c, view, h5]; rfl, h6⟩
    | tu cs =>
      obtain ⟨ds, h5, h6⟩ := mapV_inv ih (H : mapV (viewV zf cl h n) cs (fun ds => k (.tu ds)) = some r)
      exact ⟨_, by simp only [W.c, view, h5]; rfl, h6⟩
theorem viewN_v {cl : Bool} {h : Heap} {n : Nat} {y : Value} : viewN cl h (n + 1) (.v y) = some (.v y) := by
  unfold viewN
  rfl
theorem viewVN_inv {cl : Bool} {h : H} {hp : Heap} (hr : RepH h hp) {r : R} : ∀ (n : Nat) (c : W) (k : W → Option R), viewV zn cl h n c k = some r → ∃ d : W, viewN cl hp n c.c = some d.c ∧ k d = some r
  | 0, c, k, H => by cases H
  | n + 1, c, k, H => by
    have ih := viewVN_inv (cl := cl) (r := r) hr n
    cases c with
    | z x => exact ⟨.z x, by simp only [W.c]; exact viewN_v, H⟩
    | b x => exact ⟨.b x, by simp only [W.c]; exact viewN_v, H⟩
    | v y =>
      rcases viewY_inv (H : viewY zn y k = some r) with ⟨rfl, h1⟩ | ⟨hy, h1⟩
      · exact ⟨_, by simp only [W.c, zn]; exact viewN_v, h1⟩
      · exact ⟨_, by simp only [W.c]; exact viewN_v, h1⟩
    | fs xs len cap =>
      simp only [W.c, viewN]
      cases len with
      | zero => exact ⟨_, by rw [if_pos rfl]; simp only [W.c, cL_nil], H⟩
      | succ m =>
        rw [if_neg (by omega)]
        cases cl with
        | true => cases H
        | false => exact ⟨_, by rw [if_neg (by decide)]; simp only [W.c], H⟩
    | fp xs =>
      simp only [W.c, viewN]
      cases cl with
      | true => cases H
      | false => exact ⟨_, by rw [if_neg (by decide)]; simp only [W.c], H⟩
    | os l off len cap =>
      simp only [W.c, viewN]
      cases len with
      | zero => exact ⟨_, by rw [if_pos rfl]; simp only [W.c, cL_nil], H⟩
      | succ m =>
        rw [if_neg (by omega)]
        obtain ⟨e, cs, h1, h2⟩ := rowK_inv hr (H : rowK h l (fun e cs => dropK off cs fun ys => takeK (Nat.mul (Nat.succ m) e) ys fun zs => mapV (viewV zn cl h n) zs fun ds => k (.fs ds (Nat.succ m) none)) = some r)
        rw [dropK_eq] at h2
        obtain ⟨h3, h4⟩ := takeK_inv h2
        obtain ⟨ds, h5, h6⟩ := mapV_inv ih h4
        refine ⟨_, ?_, h6⟩
        have h3' : (m + 1) * e ≤ (cs.drop off).length := h3
        simp only [h1, takeN]
        rw [← cL_drop, if_pos (by rw [cL_len]; exact h3')]
        simp only [Option.bind_eq_bind, Option.bind_some]
        have h5' : mapC (viewN cl hp n) (cL ((cs.drop off).take ((m + 1) * e))) = some (cL ds) := h5
        rw [← cL_take, h5']
        simp only [Option.bind_some, W.c]
    | op l off =>
      obtain ⟨e, cs, h1, h2⟩ := rowK_inv hr (H : rowK h l (fun _ cs => dropK off cs fun ys => mapV (viewV zn cl h n) ys fun ds => k (.fp ds)) = some r)
      rw [dropK_eq] at h2
      obtain ⟨ds, h5, h6⟩ := mapV_inv ih h2
      exact ⟨_, by simp only [W.c, viewN, h1, ← cL_drop, h5]; rfl, h6⟩
    | om l => cases H
    | fn f caps =>
      obtain ⟨ds, h5, h6⟩ := mapV_inv ih (H : mapV (viewV zn cl h n) caps (fun ds => k (.fn f ds)) = some r)
      exact ⟨_, by simp only [W.c, viewN, h5]; rfl, h6⟩
    | ag cs =>
      obtain ⟨ds, h5, h6⟩ := mapV_inv ih (H : mapV (viewV zn cl h n) cs (fun ds => k (.ag ds)) = some r)
      exact ⟨_, by simp only [W.c, viewN, h5]; rfl, h6⟩
    | tu cs =>
      obtain ⟨ds, h5, h6⟩ := mapV_inv ih (H : mapV (viewV zn cl h n) cs (fun ds => k (.tu ds)) = some r)
      exact ⟨_, by simp only [W.c, viewN, h5]; rfl, h6⟩
end
section
variable {P : Program} {call : CallF} {σ : Nat → Nat}
/-! ### Results -/
abbrev Rz (R : Type) := E → H → (List W → Option R) → Option R
def rz0 : Rz R := fun _ _ k => k []
def rzt (x : Rd R) (n : Rz R) : Rz R := fun e h k => x e fun c => n e h fun cs => k (c :: cs)
def rzs (x : Rd R) (n : Rz R) : Rz R := fun e h k => x e fun p => ldW h p fun c => n e h fun cs => k (c :: cs)
def rza (m : Nat) (x : Rd R) (n : Rz R) : Rz R := fun e h k => x e fun p => ldaW h m p fun c => n e h fun cs => k (c :: cs)
def compRz (P : Program) (σ : Nat → Nat) : List ResultVar → Option (Rz R)
  | [] => some rz0
  | .tmp t :: r => (compRd σ (.tmp t)).bind fun x => (compRz P σ r).map (rzt x)
  | .cell x t :: r => (sz P t).bind fun n => (aggT P t).bind fun b => (compRd σ (.tmp x)).bind fun x => (compRz P σ r).map (@Bool.rec (fun _ => Rz R → Rz R) (rzs x) (rza n x) b)
theorem compRz_ref {e : E} {eo : Env} {h : H} {hp : Heap} (hr : RepH h hp) {r : R} : ∀ {rs : List ResultVar} {f : Rz R} {k : List W → Option R}, compRz P σ rs = some f → Ag σ (resTmps rs) e eo → f e h k = some r → ∃ cs, resC P eo hp rs = some (cL cs) ∧ k cs = some r
  | [], f, k, hc, ha, H => by cases hc; exact ⟨[], by simp only [resC, cL_nil], H⟩
  | .tmp t :: rs, f, k, hc, ha, H => by
    simp only [compRz, Option.bind_eq_some_iff, Option.map_eq_some_iff] at hc
    obtain ⟨x, h0, n, h1, rfl⟩ := hc
    obtain ⟨c, h2, h3⟩ := (compRd_ref h0).get ha (fun t ht => by simp [opTmps] at ht; subst ht; simp [resTmps]) (H : x e (fun c => n e h fun cs => k (c :: cs)) = some r)
    obtain ⟨cs, h4, h5⟩ := compRz_ref hr h1 (ha.mono fun t ht => List.mem_cons_of_mem _ ht) h3
    have h2' : look eo t = some c.c := h2
    exact ⟨c :: cs, by simp only [resC, h2', h4, Option.bind_eq_bind, Option.bind_some, cL_cons], h5⟩
  | .cell x t :: rs, f, k, hc, ha, H => by
    simp only [compRz, Option.bind_eq_some_iff, Option.map_eq_some_iff] at hc
    obtain ⟨m, g1, b, g2, x', h0, n, h1, rfl⟩ := hc
    have hl : ∃ p c : W, look eo x = some p.c ∧ loadC P hp t p.c = some c.c ∧ n e h (fun cs => k (c :: cs)) = some r := by
      cases b with
      | true =>
        obtain ⟨p, h2, h3⟩ := (compRd_ref h0).get ha (fun t ht => by simp [opTmps] at ht; subst ht; simp [resTmps]) (H : x' e (fun p => ldaW h m p fun c => n e h fun cs => k (c :: cs)) = some r)
        obtain ⟨c, h4, h5⟩ := ldaW_inv hr h3
        refine ⟨p, c, h2, ?_, h5⟩
        simp only [Option.bind_eq_some_iff, Option.map_eq_some_iff] at h4
        obtain ⟨cs, q1, ys, q2, q3⟩ := h4
        simp [loadC, q1, fieldOf, g1, g2, q2, q3]
      | false =>
        obtain ⟨p, h2, h3⟩ := (compRd_ref h0).get ha (fun t ht => by simp [opTmps] at ht; subst ht; simp [resTmps]) (H : x' e (fun p => ldW h p fun c => n e h fun cs => k (c :: cs)) = some r)
        obtain ⟨c, h4, h5⟩ := ldW_inv hr h3
        exact ⟨p, c, h2, by rw [loadS_fact g1 g2]; exact h4, h5⟩
    obtain ⟨p, c, h2, h3, h4⟩ := hl
    obtain ⟨cs, h5, h6⟩ := compRz_ref hr h1 (ha.mono fun t ht => List.mem_cons_of_mem _ ht) h4
    exact ⟨c :: cs, by simp only [resC, h2, h3, h5, Option.bind_eq_bind, Option.bind_some, cL_cons], h6⟩
/-! ### Arguments -/
def entV (ws : List (Wr R)) : List W → E → (E → Option R) → Option R :=
  @List.rec (Wr R) (fun _ => List W → E → (E → Option R) → Option R) (fun cs e k => @List.rec W (fun _ => Option R) (k e) (fun _ _ _ => none) cs) (fun w _ ih cs e k => @List.rec W (fun _ => Option R) none (fun c r _ => w c e fun e => ih r e k) cs) ws
def wsOf (σ : Nat → Nat) : Nat → Nat → List (Wr R)
  | _, 0 => []
  | i, m + 1 => wrN (σ i) :: wsOf σ (i + 1) m
theorem entV_inv {r : R} : ∀ {m i : Nat} {cs : List W} {e : E} {k : E → Option R}, (∀ u, i ≤ u → u < i + m → σ u < 24) → entV (wsOf σ i m) cs e k = some r → cs.length = m ∧ ∃ e', k e' = some r ∧ e'.x = e.x ∧ (∀ s, s < 24 → (∀ u, i ≤ u → u < i + m → σ u ≠ s) → e'.get s = e.get s) ∧ ∀ t, i ≤ t → t < i + m → (∀ u, i ≤ u → u < i + m → u ≠ t → σ u ≠ σ t) → look (enterE i (cL cs)) t = some (e'.get (σ t)).c
  | 0, i, cs, e, k, hs, H => by
    cases cs with
    | nil => exact ⟨rfl, e, H, rfl, fun s _ _ => rfl, fun t h1 h2 => by omega⟩
    | cons c cs => cases H
  | m + 1, i, cs, e, k, hs, H => by
    cases cs with
    | nil => cases H
    | cons c cs =>
      obtain ⟨e1, h1, hx, h2, h3⟩ := wrN_ok (hs i (by omega) (by omega)) c e _ r (H : (wrN (σ i) : Wr R) c e (fun e => entV (wsOf σ (i + 1) m) cs e k) = some r)
      obtain ⟨h4, e', h5, hy, h6, h7⟩ := entV_inv (fun u h1 h2 => hs u (by omega) (by omega)) h1
      refine ⟨by simp [h4], e', h5, hy.trans hx, fun s hs1 hs2 => ?_, fun t ht1 ht2 ht3 => ?_⟩
      · rw [h6 s hs1 fun u a b => hs2 u (by omega) (by omega)]
        exact h3 s hs1 fun q => hs2 i (by omega) (by omega) q.symm
      · rw [cL_cons]
        simp only [enterE, look_cons]
        by_cases e0 : i = t
        · subst e0
          rw [if_pos rfl, h6 (σ i) (hs i (by omega) (by omega)) fun u a b => ht3 u (by omega) (by omega) (by omega), h2]
        · rw [if_neg e0]
          exact h7 t (by omega) (by omega) fun u a b c => ht3 u (by omega) (by omega) c
def e0 (x : Cx) : E := .mk (.mk uW uW uW uW uW uW uW uW) (.mk uW uW uW uW uW uW uW uW) (.mk uW uW uW uW uW uW uW uW) x
def okIn (σ : Nat → Nat) (m : Nat) (l : List Nat) : Bool := l.all (fun t => Nat.ble (Nat.succ t) m) && (List.range m).all fun u => Nat.ble (σ u) 23 && okW σ u l
theorem okIn_ag {m : Nat} {l : List Nat} (h : okIn σ m l = true) {cs : List W} {k : E → Option R} {r : R} {x : Cx} (H : entV (wsOf σ 0 m) cs (e0 x) k = some r) : cs.length = m ∧ ∃ e, e.x = x ∧ Ag σ l e (enterE 0 (cL cs)) ∧ k e = some r := by
  unfold okIn at h
  rw [Bool.and_eq_true, List.all_eq_true, List.all_eq_true] at h
  obtain ⟨hl, hr⟩ := h
  have hs : ∀ u, 0 ≤ u → u < 0 + m → σ u < 24 := fun u _ hu => by
    have := hr u (List.mem_range.2 (by omega))
    rw [Bool.and_eq_true] at this
    have := Nat.le_of_ble_eq_true this.1
    omega
  obtain ⟨h1, e, h2, hx, _, h3⟩ := entV_inv hs H
  refine ⟨h1, e, hx, fun t ht => ?_, h2⟩
  have htm := Nat.le_of_ble_eq_true (hl t ht)
  refine h3 t (by omega) (by omega) fun u _ hu hne => ?_
  have := hr u (List.mem_range.2 (by omega))
  rw [Bool.and_eq_true] at this
  have ho := this.2
  unfold okW at ho
  rw [List.all_eq_true] at ho
  have ho := ho t ht
  intro q
  rw [q] at ho
  have hb : Nat.beq t u = false := by
    cases hb : Nat.beq t u with
    | true => exact absurd (Nat.eq_of_beq_eq_true hb).symm hne
    | false => rfl
  rw [hb] at ho
  simp at ho
end
end
end Go.Tm.V
