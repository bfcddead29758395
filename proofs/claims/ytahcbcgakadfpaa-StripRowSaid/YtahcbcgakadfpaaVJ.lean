import Derived.Test.YtahcbcgakadfpaaVI
set_option linter.unusedVariables false
namespace Go.Tm.V
open Go.Tm.Q (ifK ifK_inv forceN forceN_eq optK optK_inv resTmps viewN_more)
noncomputable section
structure FV where
  code : Cd RR
  m : Mode
  ws : List (Wr RR)
  rs : Rz RR
def oneW (cs : List W) : W := match cs with
  | [c] => c
  | cs => .tu cs
theorem oneW_c (cs : List W) : (oneW cs).c = oneOr (cL cs) := by
  match cs with
  | [] => simp [oneW, W.c, oneOr, cL_nil]
  | [c] => simp [oneW, oneOr, cL_cons, cL_nil]
  | a :: b :: r => simp [oneW, W.c, oneOr, cL_cons]
def bodyV (callw : CallW) (n : Nat) (ff : FV) (cs : List W) (h : H) (k : W → H → Option RR) : Option RR :=
  entV ff.ws cs (e0 (.mk callw n)) fun e => ff.code e h fun c e h => ctlK c (ff.rs e h fun rs => k (oneW rs) h) (fun _ => none) (ff.rs e h fun rs => k (oneW rs) h)
def h0 : H := .h 0 .e
theorem rep_h0 : RepH h0 [] := Rep.nil
def valV (z : W) (run : List W → H → (W → H → Option RR) → Option RR) (cs : List W) (h : H) (k : W → H → Option RR) : Option RR :=
  @Option.rec (List W) (fun _ => Option RR)
    (mapV (viewV z false h 12) cs fun vs => run vs h0 fun c1 h1 => viewV z true h1 12 c1 fun c => k c h)
    (fun vs => run vs h0 fun c1 h1 => viewV z false h1 12 c1 fun c => k c h)
    (mapV (viewV z false h0 12) cs fun vs => some vs)
inductive FT where
  | e
  | n (l : FT) (key : Nat) (v : FV) (r : FT)
def FT.get (t : FT) (f : Nat) : Option FV :=
  @FT.rec (fun _ => Option FV) none (fun _ key v _ l r => @Bool.rec (fun _ => Option FV) (@Bool.rec (fun _ => Option FV) r l (Nat.ble f key)) (some v) (Nat.beq f key)) t
def FT.All (p : Nat → FV → Prop) : FT → Prop
  | .e => True
  | .n l key v r => l.All p ∧ p key v ∧ r.All p
theorem FT.All.get {p : Nat → FV → Prop} {f : Nat} {v : FV} : ∀ {t : FT}, t.All p → t.get f = some v → p f v
  | .e, _, H => by cases H
  | .n l key w r, ha, H => by
    have H' : @Bool.rec (fun _ => Option FV) (@Bool.rec (fun _ => Option FV) (r.get f) (l.get f) (Nat.ble f key)) (some w) (Nat.beq f key) = some v := H
    cases hb : Nat.beq f key with
    | true =>
      rw [hb] at H'
      cases H'
      have e := Nat.eq_of_beq_eq_true hb
      subst e
      exact ha.2.1
    | false =>
      rw [hb] at H'
      cases hc : Nat.ble f key with
      | true => rw [hc] at H'; exact FT.All.get ha.1 H'
      | false => rw [hc] at H'; exact FT.All.get ha.2.2 H'
def callV (ft : FT) (n : Nat) : CallW :=
  @Nat.rec (fun _ => CallW) (fun _ _ _ _ => none) (fun n ih f cs h k => optK (ft.get f) fun ff => @Mode.rec (fun _ => Option RR) (bodyV ih n ff cs h k) (valV zf (bodyV ih n ff) cs h k) (valV zn (bodyV ih n ff) cs h k) ff.m) n
/-- A function of the swift machine is the tree machine's. -/
def FVOk (P : Program) (tab : Tab) (f : Nat) (ff : FV) : Prop :=
  ∃ (K : K) (fn : Go.Func) (σ : Nat → Nat) (m : Nat), tab f = some (K, ff.m) ∧ P.funcs[f]? = some fn ∧ Nat.ble m fn.ntmps = true ∧ ff.ws = wsOf σ 0 m ∧ compRz P σ fn.results.toList = some ff.rs ∧ (compCd P (valsOf tab) σ K (resTmps fn.results.toList) [] (resTmps fn.results.toList)).map (fun q => (okIn σ m q.1, q.2)) = some (true, ff.code)
theorem FVOk.of {P : Program} {tab : Tab} {f : Nat} {ff : FV} (K : K) (fn : Go.Func) (σ : Nat → Nat) (m : Nat) (h1 : tab f = some (K, ff.m)) (h2 : P.funcs[f]? = some fn) (h3 : Nat.ble m fn.ntmps = true) (h4 : ff.ws = wsOf σ 0 m) (h5 : compRz P σ fn.results.toList = some ff.rs)
    (h6 : (compCd P (valsOf tab) σ K (resTmps fn.results.toList) [] (resTmps fn.results.toList)).map (fun q => (okIn σ m q.1, q.2)) = some (true, ff.code)) : FVOk P tab f ff :=
  ⟨K, fn, σ, m, h1, h2, h3, h4, h5, h6⟩
theorem bodyV_ref {P : Program} {tab : Tab} {f : Nat} {ff : FV} (hf : FVOk P tab f ff) {callw : CallW} {call : CallF} (hcall : CallRef callw call) {n : Nat} : ∃ (K : K) (fn : Go.Func), tab f = some (K, ff.m) ∧ P.funcs[f]? = some fn ∧
    ∀ {cs : List W} {h : H} {hp : Heap} {k : W → H → Option RR} {r : RR}, RepH h hp → bodyV callw n ff cs h k = some r → ∃ c h' hp', body P (valsOf tab) call n fn K (cL cs) hp = some (c.c, hp') ∧ RepH h' hp' ∧ k c h' = some r := by
  obtain ⟨K, fn, σ, m, g1, g2, g3, g4, g5, g6⟩ := hf
  refine ⟨K, fn, g1, g2, fun {cs h hp k r} hr H => ?_⟩
  simp only [Option.map_eq_some_iff, Prod.mk.injEq] at g6
  obtain ⟨⟨l, cd⟩, q1, q2, q3⟩ := g6
  simp only at q2 q3
  subst q3
  unfold bodyV at H
  rw [g4] at H
  obtain ⟨h1, e, hx, h2, h3⟩ := okIn_ag q2 H
  obtain ⟨ctl, e1, h1', eo1, hp1, h5, _, h6, h7, h8⟩ := compCd_ref n K _ _ _ _ _ q1 e (enterE 0 (cL cs)) h hp _ _ (by rw [hx]; exact hcall) (by rw [hx]; rfl) h2 hr h3
  have fin : ff.rs e1 h1' (fun rs => k (oneW rs) h1') = some r → Ag σ (resTmps fn.results.toList) e1 eo1 → ∃ (c : W) (rs : List C), resC P eo1 hp1 fn.results.toList = some rs ∧ c.c = oneOr rs ∧ k c h1' = some r := fun hq ha => by
    obtain ⟨rs, g1, g2⟩ := compRz_ref h6 g5 ha hq
    exact ⟨oneW rs, _, g1, oneW_c rs, g2⟩
  unfold body
  rw [if_pos (by rw [cL_len, h1]; exact Nat.le_of_ble_eq_true g3), h5]
  cases ctl with
  | exit j => cases h8
  | normal =>
    obtain ⟨c, rs, g1, e2, g3⟩ := fin h8 h7
    exact ⟨c, h1', hp1, by simp [g1, e2], h6, g3⟩
  | ret =>
    obtain ⟨c, rs, g1, e2, g3⟩ := fin h8 h7
    exact ⟨c, h1', hp1, by simp [g1, e2], h6, g3⟩
theorem callV_ref {P : Program} {tab : Tab} {ft : FT} (hft : ft.All (FVOk P tab)) : ∀ n, CallRef (callV ft n) (callAt P tab n)
  | 0 => fun f cs h hp k r H hr => by cases H
  | n + 1 => fun f cs h hp k r H hr => by
    have ih := callV_ref (P := P) (tab := tab) hft n
    obtain ⟨ff, h1, h2⟩ := optK_inv (H : optK (ft.get f) (fun ff => @Mode.rec (fun _ => Option RR) (bodyV (callV ft n) n ff cs h k) (valV zf (bodyV (callV ft n) n ff) cs h k) (valV zn (bodyV (callV ft n) n ff) cs h k) ff.m) = some r)
    obtain ⟨K, fn, g1, g2, g3⟩ := bodyV_ref (hft.get h1) ih (n := n)
    simp only [callAt, g1, g2]
    cases hm : ff.m with
    | ref =>
      rw [hm] at h2
      exact g3 hr h2
    | val =>
      rw [hm] at h2
      have h2' : valV zf (bodyV (callV ft n) n ff) cs h k = some r := h2
      unfold valV at h2'
      simp only [byVal]
      cases hq : mapV (viewV zf false h0 12) cs (fun vs => some vs) with
      | some vs =>
        rw [hq] at h2'
        obtain ⟨c1, k1, kp, h5, h6, h4⟩ := g3 rep_h0 (h2' : bodyV (callV ft n) n ff vs h0 (fun c1 h1 => viewV zf false h1 12 c1 fun c => k c h) = some r)
        obtain ⟨d, h7, h8⟩ := viewV_inv h6 12 c1 _ h4
        obtain ⟨ds, h9, h10⟩ := mapV_inv (g := view false [] 12) (fun c k hk => viewV_inv rep_h0 12 c k hk) hq
        cases h10
        refine ⟨d, h, hp, ?_, hr, h8⟩
        have h9' : mapC (view false [] depth) (cL cs) = some (cL vs) := h9
        have h7' : view false kp depth c1.c = some d.c := h7
        rw [h9']
        simp only [h5, Option.bind_some, h7', Option.map_some]
      | none =>
        rw [hq] at h2'
        obtain ⟨vs, h3, h4⟩ := mapV_inv (g := view false hp 12) (fun c k hk => viewV_inv hr 12 c k hk) (h2' : mapV (viewV zf false h 12) cs (fun vs => bodyV (callV ft n) n ff vs h0 fun c1 h1 => viewV zf true h1 12 c1 fun c => k c h) = some r)
        obtain ⟨c1, k1, kp, h7, h8, h6⟩ := g3 rep_h0 h4
        obtain ⟨d, h9, h10⟩ := viewV_inv h8 12 c1 _ h6
        refine ⟨d, h, hp, ?_, hr, h10⟩
        have h3' : mapC (view false hp depth) (cL cs) = some (cL vs) := h3
        have h9' : view true kp depth c1.c = some d.c := h9
        have h9f : view false kp depth c1.c = some d.c := view_more (cl := true) (fun _ _ e => e) _ _ _ h9'
        cases hz : mapC (view false [] depth) (cL cs) with
        | none => simp only [h3', Option.bind_some, h7, h9', Option.map_some]
        | some us =>
          have := mapC_some (view_more (cl := false) (h := []) (h' := hp) (fun _ _ e => by simp at e) depth) hz
          rw [h3'] at this
          cases this
          simp only [h7, Option.bind_some, h9f, Option.map_some]
    | keep =>
      rw [hm] at h2
      have h2' : valV zn (bodyV (callV ft n) n ff) cs h k = some r := h2
      unfold valV at h2'
      simp only [byValN]
      cases hq : mapV (viewV zn false h0 12) cs (fun vs => some vs) with
      | some vs =>
        rw [hq] at h2'
        obtain ⟨c1, k1, kp, h5, h6, h4⟩ := g3 rep_h0 (h2' : bodyV (callV ft n) n ff vs h0 (fun c1 h1 => viewV zn false h1 12 c1 fun c => k c h) = some r)
        obtain ⟨d, h7, h8⟩ := viewVN_inv h6 12 c1 _ h4
        obtain ⟨ds, h9, h10⟩ := mapV_inv (g := viewN false [] 12) (fun c k hk => viewVN_inv rep_h0 12 c k hk) hq
        cases h10
        refine ⟨d, h, hp, ?_, hr, h8⟩
        have h9' : mapC (viewN false [] depth) (cL cs) = some (cL vs) := h9
        have h7' : viewN false kp depth c1.c = some d.c := h7
        rw [h9']
        simp only [h5, Option.bind_some, h7', Option.map_some]
      | none =>
        rw [hq] at h2'
        obtain ⟨vs, h3, h4⟩ := mapV_inv (g := viewN false hp 12) (fun c k hk => viewVN_inv hr 12 c k hk) (h2' : mapV (viewV zn false h 12) cs (fun vs => bodyV (callV ft n) n ff vs h0 fun c1 h1 => viewV zn true h1 12 c1 fun c => k c h) = some r)
        obtain ⟨c1, k1, kp, h7, h8, h6⟩ := g3 rep_h0 h4
        obtain ⟨d, h9, h10⟩ := viewVN_inv h8 12 c1 _ h6
        refine ⟨d, h, hp, ?_, hr, h10⟩
        have h3' : mapC (viewN false hp depth) (cL cs) = some (cL vs) := h3
        have h9' : viewN true kp depth c1.c = some d.c := h9
        have h9f : viewN false kp depth c1.c = some d.c := viewN_more (cl := true) (fun _ _ e => e) _ _ _ h9'
        cases hz : mapC (viewN false [] depth) (cL cs) with
        | none => simp only [h3', Option.bind_some, h7, h9', Option.map_some]
        | some us =>
          have := mapC_some (viewN_more (cl := false) (h := []) (h' := hp) (fun _ _ e => by simp at e) depth) hz
          rw [h3'] at this
          cases this
          simp only [h7, Option.bind_some, h9f, Option.map_some]
/-- The slots of a function's tmps, five bits each. -/
def sl (N t : Nat) : Nat := Nat.mod (Nat.shiftRight N (Nat.mul 5 t)) 32
end
end Go.Tm.V
