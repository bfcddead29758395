import Derived.Test.YtahcbcgakadfpaaVC
set_option linter.unusedVariables false
namespace Go.Tm.V
open Go.Tm.Q (ifK ifK_inv forceN forceN_eq forceZ forceZ_eq forceB forceB_eq optK optK_inv dropK dropK_eq nthK nthK_inv takeK takeK_inv appK appK_eq overK overK_inv lenN lenN_eq forceO forceO_eq lensK noCall)
noncomputable section
section
variable {R : Type} {P : Program} {call : CallF} {σ : Nat → Nat}
/-! Slices cut -/
def take2W (n : Nat) (xs : List W) (k : List W → Option R) : Option R :=
  @Nat.rec (fun _ => List W → (List W → Option R) → Option R) (fun _ k => k []) (fun _ ih xs k => @List.rec W (fun _ => Option R) (k []) (fun x r _ => ih r fun ys => k (x :: ys)) xs) n xs k
theorem take2W_eq : ∀ (n : Nat) (xs : List W) (k : List W → Option R), take2W n xs k = k (xs.take n)
  | 0, xs, k => rfl
  | n + 1, [], k => rfl
  | n + 1, x :: xs, k => take2W_eq n xs fun ys => k (x :: ys)
abbrev Ro (R : Type) := E → (Option W → Option R) → Option R
def ro0 : Ro R := fun _ k => k none
def ro1 (x : Rd R) : Ro R := fun e k => x e fun w => k (some w)
def RoRef (σ : Nat → Nat) (o : Option Operand) (f : Ro R) : Prop := ∀ (e : E) (eo : Env) (k : Option W → Option R) (r : R), Ag σ (opTmps o.toList) e eo → f e k = some r → ∃ a, evo eo o = some (a.map W.c) ∧ k a = some r
theorem ro0_ref : RoRef (R := R) σ none ro0 := fun e eo k r ha H => ⟨none, rfl, H⟩
theorem ro1_ref {o : Operand} {x : Rd R} (hx : RdRef σ o x) : RoRef σ (some o) (ro1 x) := fun e eo k r ha H => by
  obtain ⟨a, h1, h2⟩ := hx.get ha (fun t ht => ht) H
  exact ⟨some a, by simp [evo, h1], h2⟩
def slW (h : H) (s : Nat) (x : W) (lo hi mx : Option C) (k : W → Option R) : Option R := sliW x
  (fun a off len cap => rowK h a fun e cs => ifK (Nat.beq e s) (optK (bnds lo hi mx len (@Option.rec Nat (fun _ => Nat) (Nat.max len (Nat.div (Nat.sub (lenN cs) off) s)) (fun c => c) cap)) fun b => forceN (Nat.add off (Nat.mul b.1 s)) fun o => forceN (Nat.sub b.2.1 b.1) fun n => forceO (capLeft cap b.2.2 b.1) fun c => k (.os a o n c)))
  (fun xs len cap => optK (bnds lo hi mx len len) fun b => dropK (Nat.mul b.1 s) xs fun ys => take2W (Nat.mul (Nat.sub b.2.1 b.1) s) ys fun zs => forceN (Nat.sub b.2.1 b.1) fun n => forceO (capLeft cap b.2.2 b.1) fun c => k (.fs zs n c))
  (optK (bnds lo hi mx 0 0) fun _ => k x)
def ocW (x : Option W) : Option C := x.map W.c
def slV (s : Nat) (x : Rd R) (lo hi mx : Ro R) : Vl R := fun e h k => x e fun a => lo e fun l => hi e fun m => mx e fun n => slW h s a (ocW l) (ocW m) (ocW n) fun c => k c h
theorem slW_inv {t e : TypeId} {s : Nat} (hu : sliceE P t = some e) (hs : sz P e = some s) {h : H} {hp : Heap} (hr : RepH h hp) {x : W} {lo hi mx : Option C} {k : W → Option R} {r : R} (H : slW h s x lo hi mx k = some r) : ∃ c, sliceC P hp t x.c lo hi mx = some c.c ∧ k c = some r := by
  rw [slice_fact hu hs]
  rcases sliW_inv H with ⟨a, off, len, cap, rfl, H1⟩ | ⟨xs, len, cap, rfl, H1⟩ | ⟨rfl, H1⟩
  · obtain ⟨e', cs, h1, h2⟩ := rowK_inv hr H1
    obtain ⟨h3, h4⟩ := ifK_inv h2
    obtain ⟨b, h5, h6⟩ := optK_inv h4
    rw [forceN_eq, forceN_eq, forceO_eq] at h6
    refine ⟨_, ?_, h6⟩
    have hk : capk cap len off s (cL cs) = @Option.rec Nat (fun _ => Nat) (Nat.max len (Nat.div (Nat.sub (lenN cs) off) s)) (fun c => c) cap := by
      cases cap with
      | none => simp only [capk, cL_len, lenN_eq]; rfl
      | some c => rfl
    simp only [W.c, h1]
    rw [if_pos (Nat.eq_of_beq_eq_true h3), hk, h5]
    rfl
  · obtain ⟨b, h5, h6⟩ := optK_inv H1
    rw [dropK_eq, take2W_eq, forceN_eq, forceO_eq] at h6
    exact ⟨_, by simp only [W.c, h5, cL_take, cL_drop]; rfl, h6⟩
  · obtain ⟨b, h1, h2⟩ := optK_inv H1
    exact ⟨_, by simp only [W.c, h1]; rfl, h2⟩
theorem slice_ref {t el : TypeId} {s : Nat} {o : Operand} {lo hi mx : Option Operand} {x : Rd R} {l m n : Ro R} (hu : sliceE P t = some el) (hs : sz P el = some s) (hx : RdRef σ o x) (hl : RoRef σ lo l) (hm : RoRef σ hi m) (hn : RoRef σ mx n) : VlRef P call σ (.slice t o lo hi mx) (slV s x l m n) := fun e eo h hp k r hcl ha hr H => by
  have sub : ∀ {q : Option Operand}, (∀ y ∈ q.toList, y ∈ (Op.slice t o lo hi mx).operands.toList) → Ag σ (opTmps q.toList) e eo := fun {q} hq => ha.mono fun t ht => by
    simp only [opTmps, List.mem_filterMap] at ht ⊢
    obtain ⟨a, h1, h2⟩ := ht
    exact ⟨a, hq a h1, h2⟩
  obtain ⟨a, g1, g2⟩ := hx.get ha (opTmps_mem (by simp [Op.operands])) H
  obtain ⟨l', g3, g4⟩ := hl e eo _ r (sub fun y hy => by simp [Op.operands] at hy ⊢; simp [hy]) g2
  obtain ⟨m', g5, g6⟩ := hm e eo _ r (sub fun y hy => by simp [Op.operands] at hy ⊢; simp [hy]) g4
  obtain ⟨n', g7, g8⟩ := hn e eo _ r (sub fun y hy => by simp [Op.operands] at hy ⊢; simp [hy]) g6
  obtain ⟨c, g9, g10⟩ := slW_inv hu hs hr g8
  have g9' : sliceC P hp t a.c (l'.map W.c) (m'.map W.c) (n'.map W.c) = some c.c := g9
  exact ⟨c, h, hp, by simp [stepOp, g1, g3, g5, g7, g9'], hr, g10⟩
/-! Copies -/
def cpW (h : H) (s n : Nat) (ys : List W) (d : W) (k : W → H → Option R) : Option R := sliW d
  (fun a off len _ => rowK h a fun e cs => ifK (Nat.beq e s) (forceN (Nat.min n len) fun m => take2W (Nat.mul m s) ys fun zs => putK off zs cs fun cs' => storeK h a (.row e cs') fun h => k (.z (Int.ofNat m)) h))
  (fun _ _ _ => none)
  (k (.z 0) h)
theorem cpW_inv {t e : TypeId} {s n : Nat} (hu : sliceE P t = some e) (hs : sz P e = some s) {h : H} {hp : Heap} (hr : RepH h hp) {ys : List W} (hy : ys.length = n * s) {d x : W} (hx : srcOf hp s x.c = some (n, cL ys)) {k : W → H → Option R} {r : R} (H : cpW h s n ys d k = some r) : ∃ c h' hp', copyC P hp t d.c x.c = some (c.c, hp') ∧ RepH h' hp' ∧ k c h' = some r := by
  simp only [copyC, hu, hs, hx, Option.bind_eq_bind, Option.bind_some]
  rcases sliW_inv H with ⟨a, off, len, cap, rfl, H1⟩ | ⟨xs, len, cap, rfl, H1⟩ | ⟨rfl, H1⟩
  · obtain ⟨e', cs, h1, h2⟩ := rowK_inv hr H1
    obtain ⟨h3, h4⟩ := ifK_inv h2
    obtain rfl := Nat.eq_of_beq_eq_true h3
    rw [forceN_eq, take2W_eq] at h4
    obtain ⟨h5, zs, h5', h6⟩ := putK_inv h4
    obtain ⟨h', h7, h8⟩ := storeK_inv hr h6
    have hle : Nat.min n len * e' ≤ ys.length := by rw [hy]; exact Nat.mul_le_mul_right _ (Nat.min_le_left _ _)
    have hl : (ys.take (Nat.mul (Nat.min n len) e')).length = Nat.min n len * e' := by rw [List.length_take]; exact Nat.min_eq_left hle
    refine ⟨_, h', _, ?_, h7, h8⟩
    simp only [W.c, h1]
    rw [if_pos ⟨trivial, by rw [hl] at h5; rw [cL_len]; exact h5⟩]
    simp only [N.node, h5', cL_take]
    rfl
  · cases H1
  · exact ⟨_, h, hp, by simp only [W.c], hr, H1⟩
def cpV (s : Nat) (x y : Rd R) : Vl R := fun e h k => x e fun d => y e fun a => srcW h s a fun n ys => cpW h s n ys d k
theorem copy_ref {t el : TypeId} {ts : Array TypeId} {s : Nat} {o q : Operand} {x y : Rd R} (ht : ts[0]? = some t) (hu : sliceE P t = some el) (hs : sz P el = some s) (hx : RdRef σ o x) (hy : RdRef σ q y) : VlRef P call σ (.call ⟨.builtin .copy, #[o, q], ts⟩) (cpV s x y) := fun e eo h hp k r hcl ha hr H => by
  obtain ⟨a, h3, h4⟩ := hx.get ha (opTmps_mem (by simp [Op.operands, Call.operands])) H
  obtain ⟨b, h5, h6⟩ := hy.get ha (opTmps_mem (by simp [Op.operands, Call.operands])) h4
  obtain ⟨n, ys, h7, h8, h9⟩ := srcW_inv hr h6
  obtain ⟨c, h', hp', h10, h11, h12⟩ := cpW_inv hu hs hr h8 h7 h9
  refine ⟨c, h', hp', ?_, h11, h12⟩
  simp only [stepOp, ht, List.getElem?_toArray, List.getElem?_cons_zero, List.getElem?_cons_succ, h3, h5, Option.bind_eq_bind, Option.bind_some]
  exact h10
/-! Rows cleared -/
def clrW (h : H) (s : Nat) (z : List W) (d : W) (k : H → Option R) : Option R := sliW d
  (fun a off len _ => @Nat.rec (fun _ => Option R) (k h) (fun _ _ => rowK h a fun e cs => ifK (Nat.beq e s) (repK len z fun zs => putK off zs cs fun cs' => storeK h a (.row e cs') k)) len)
  (fun _ _ _ => none) (k h)
theorem clrW_inv {t e : TypeId} {s : Nat} {z : List W} (hu : sliceE P t = some e) (hs : sz P e = some s) (hz : zeroC P e = some (cL z)) (hl : 0 < s ∧ z.length = s) {h : H} {hp : Heap} (hr : RepH h hp) {d : W} {k : H → Option R} {r : R} (H : clrW h s z d k = some r) : ∃ h' hp', clearC P hp t d.c = some hp' ∧ RepH h' hp' ∧ k h' = some r := by
  simp only [clearC, hu, Option.bind_eq_bind, Option.bind_some]
  rcases sliW_inv H with ⟨a, off, len, cap, rfl, H1⟩ | ⟨xs, len, cap, rfl, H1⟩ | ⟨rfl, H1⟩
  · cases len with
    | zero => exact ⟨h, hp, by simp [W.c], hr, H1⟩
    | succ len =>
      obtain ⟨e', cs, h1, h2⟩ := rowK_inv hr H1
      obtain ⟨h3, h4⟩ := ifK_inv h2
      obtain rfl := Nat.eq_of_beq_eq_true h3
      obtain ⟨zs, h4', h4⟩ := repK_inv h4
      obtain ⟨h5, ws, h5', h6⟩ := putK_inv h4
      obtain ⟨h', h7, h8⟩ := storeK_inv hr h6
      have hrep : (rep (len + 1) (cL z)).length = (len + 1) * e' := by simp [rep, cL_len, hl.2]
      have hzs : zs.length = (len + 1) * e' := by rw [← cL_len, h4', hrep]
      refine ⟨h', _, ?_, h7, h8⟩
      simp only [W.c]
      rw [if_neg (by omega), h1]
      simp only [rowOf, hs, hz, Option.bind_eq_bind, Option.bind_some]
      rw [if_pos ⟨hl.1, by rw [cL_len]; exact hl.2⟩]
      simp only [Option.bind_some]
      rw [if_pos ⟨trivial, by rw [cL_len]; omega⟩, ← h4', ← h5']
      rfl
  · cases H1
  · exact ⟨h, hp, by simp only [W.c], hr, H1⟩
def clrV (s : Nat) (z : List W) (x : Rd R) : Vl R := fun e h k => x e fun d => clrW h s z d (k uW)
theorem clear_ref {t el : TypeId} {s : Nat} {z : List W} {o : Operand} {x : Rd R} (he : sliceE P t = some el) (hs : sz P el = some s) (hz : zeroC P el = some (cL z)) (hcond : 0 < s ∧ z.length = s) (hx : RdRef σ o x) : VlRef P call σ (.call ⟨.builtin .clear, #[o], #[t]⟩) (clrV s z x) := fun e eo h hp k r hcl ha hr H => by
  obtain ⟨a, h3, h4⟩ := hx.get ha (opTmps_mem (by simp [Op.operands, Call.operands])) H
  obtain ⟨h', hp', h10, h11, h12⟩ := clrW_inv he hs hz hcond hr h4
  refine ⟨uW, h', hp', ?_, h11, h12⟩
  simp only [stepOp, List.getElem?_toArray, List.getElem?_cons_zero, h3, h10, Option.bind_eq_bind, Option.bind_some, uW_c]
/-! Maps -/
def mmV : Vl R := fun e h k => newK h (.map #[] 0) fun l h => k (.om l) h
theorem makeMap_ref {t : TypeId} : VlRef (R := R) P call σ (.makeMap t none) mmV := fun e eo h hp k r hcl ha hr H => by
  obtain ⟨h', h2, h3⟩ := newK_inv hr (H : newK h (.map #[] 0) (fun l h => k (.om l) h) = some r)
  exact ⟨.om hp.length, h', _, by simp only [W.c]; rfl, h2, h3⟩
def lkV (P : Program) (t : TypeId) (ok : Bool) (x i : Rd R) : Vl R := fun e h k => x e fun a => i e fun b => omW a fun l => mapK h l fun es _ => optK (lookupN P t es.toList b.c ok) fun c => k (ofC c) h
theorem lookup_ref {t : TypeId} {ok : Bool} {o q : Operand} {x i : Rd R} (hx : RdRef σ o x) (hi : RdRef σ q i) : VlRef P call σ (.lookup t o q ok) (lkV P t ok x i) := fun e eo h hp k r hcl ha hr H => by
  obtain ⟨a, h3, h4⟩ := hx.get ha (opTmps_mem (by simp [Op.operands])) H
  obtain ⟨b, h5, h6⟩ := hi.get ha (opTmps_mem (by simp [Op.operands])) h4
  obtain ⟨l, rfl, h6⟩ := omW_inv h6
  obtain ⟨es, cl, h7, h8⟩ := mapK_inv hr h6
  obtain ⟨c, h9, h10⟩ := optK_inv h8
  exact ⟨ofC c, h, hp, by simp [stepOp, h3, h5, lookupC, W.c, h7, h9, c_ofC], hr, h10⟩
def muV (P : Program) (t : TypeId) (m x y : Rd R) : Vl R := fun e h k => m e fun a => x e fun b => y e fun c => omW a fun l => mapK h l fun es clock => optK (mapUpdN P t es clock b.c c.c) fun nd => match nd with
  | .map es cl => storeK h l (.map es cl) (k uW)
  | _ => none
theorem mapUpdate_ref {t : TypeId} {o p q : Operand} {m x y : Rd R} (hm : RdRef σ o m) (hx : RdRef σ p x) (hy : RdRef σ q y) : VlRef P call σ (.mapUpdate t o p q) (muV P t m x y) := fun e eo h hp k r hcl ha hr H => by
  obtain ⟨a, h3, h4⟩ := hm.get ha (opTmps_mem (by simp [Op.operands])) H
  obtain ⟨b, h5, h6⟩ := hx.get ha (opTmps_mem (by simp [Op.operands])) h4
  obtain ⟨c, h7, h8⟩ := hy.get ha (opTmps_mem (by simp [Op.operands])) h6
  obtain ⟨l, rfl, h8⟩ := omW_inv h8
  obtain ⟨es, cl, h9, h10⟩ := mapK_inv hr h8
  obtain ⟨nd, h11, h12⟩ := optK_inv h10
  cases nd with
  | map es' cl' =>
    obtain ⟨h', h13, h14⟩ := storeK_inv hr h12
    exact ⟨uW, h', _, by simp [stepOp, h3, h5, h7, mapUpdC, W.c, h9, h11, uW_c, N.node], h13, h14⟩
  | _ => cases h12
/-! Conversions -/
def cvV (P : Program) (s d : TypeId) (x : Rd R) : Vl R := fun e h k => x e fun a => @Option.rec Value (fun _ => Option R) (ifK (isBytes P s d) (srcW h 1 a fun _ ys => optK (bytesOf (cL ys)) fun ns => k (.v (.string (strOf ns))) h)) (fun p => optK (pureV P (convert s d p)) fun c => k (ofC c) h) (scalar a.c)
theorem convert_ref {s d : TypeId} {o : Operand} {x : Rd R} (hx : RdRef σ o x) : VlRef P call σ (.convert s d o) (cvV P s d x) := fun e eo h hp k r hcl ha hr H => by
  obtain ⟨a, h3, h4⟩ := hx.get ha (opTmps_mem (by simp [Op.operands])) H
  have : ∃ c : W, convC P hp s d a.c = some c.c ∧ k c h = some r := by
    unfold convC
    cases hs : scalar a.c with
    | none =>
      rw [hs] at h4
      obtain ⟨h1, h2⟩ := ifK_inv h4
      obtain ⟨n, ys, h3, _, h4⟩ := srcW_inv hr h2
      obtain ⟨ns, h5, h6⟩ := optK_inv h4
      exact ⟨_, by simp only [h3, h5, Option.bind_some, Option.map_some, W.c]; rw [if_pos h1], h6⟩
    | some p =>
      rw [hs] at h4
      obtain ⟨c, h5, h6⟩ := optK_inv h4
      exact ⟨ofC c, by simp only [c_ofC]; exact h5, h6⟩
  obtain ⟨c, h5, h6⟩ := this
  exact ⟨c, h, hp, by simp [stepOp, h3, h5], hr, h6⟩
/-! Rows made -/
def msV (s : Nat) (z : List W) (x y : Rd R) : Vl R := fun e h k => x e fun a => y e fun b => natW a fun n => natW b fun c => ifK (Nat.ble n c) (ifK (Nat.ble c 68719476736) (repK c z fun cs => newK h (.row s cs) fun l h => k (.os l 0 n (some c)) h))
theorem makeSlice_ref {t el : TypeId} {s : Nat} {z : List W} {o q : Operand} {x y : Rd R} (he : sliceE P t = some el) (hs : sz P el = some s) (hz : zeroC P el = some (cL z)) (hi : ∃ i, P.info? el = some i ∧ (0 < s ∧ z.length = s ∧ i.bytes ≤ 2 ^ 10)) (hx : RdRef σ o x) (hy : RdRef σ q y) : VlRef P call σ (.makeSlice t o q) (msV s z x y) := fun e eo h hp k r hcl ha hr H => by
  obtain ⟨a, h3, h4⟩ := hx.get ha (opTmps_mem (by simp [Op.operands])) H
  obtain ⟨b, h5, h6⟩ := hy.get ha (opTmps_mem (by simp [Op.operands])) h4
  obtain ⟨j, n, ea, h7⟩ := natW_inv h6
  obtain ⟨j', c, eb, h8⟩ := natW_inv h7
  obtain ⟨h9, h10⟩ := ifK_inv h8
  obtain ⟨h11, h12⟩ := ifK_inv h10
  obtain ⟨zs, h12', h12⟩ := repK_inv h12
  obtain ⟨h', h13, h14⟩ := newK_inv hr h12
  obtain ⟨i, hi, hcond⟩ := hi
  refine ⟨_, h', _, ?_, h13, h14⟩
  have mr : maxRow = 68719476736 := by decide
  have a1 := Nat.le_of_ble_eq_true h9
  have a2 := Nat.le_of_ble_eq_true h11
  simp only [stepOp, h3, h5, ea, eb, makeSliceC, rowOf, he, hs, hz, hi, intOf, Option.bind_eq_bind, Option.bind_some]
  rw [if_pos ⟨hcond.1, by rw [cL_len]; exact hcond.2.1⟩]
  simp only [Option.bind_some]
  rw [if_pos ⟨Int.natCast_nonneg n, by show (n : Int) ≤ (c : Int); omega, by show (c : Int) ≤ ((maxRow : Nat) : Int); rw [mr]; omega, hcond.2.2⟩]
  simp only [W.c, N.node, h12']
  rfl
end
end
end Go.Tm.V
