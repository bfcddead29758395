import Derived.Test.YtahcbcgakadfpaaVA
set_option linter.unusedVariables false
namespace Go.Tm.V
open Go.Tm.Q (ifK ifK_inv forceN forceN_eq forceZ forceZ_eq forceB forceB_eq optK optK_inv dropK dropK_eq nthK nthK_inv takeK takeK_inv appK appK_eq overK overK_inv wrapZ wrapZ_eq addZ addZ_eq subZ subZ_eq ltZ ltZ_eq leZ leZ_eq eqZ eqZ_eq lenN lenN_eq forceO forceO_eq)
noncomputable section
section
variable {R : Type}
/-! ### Values taken apart -/
def intW (x : W) (k : Int → Option R) : Option R := @W.rec (fun _ => Option R) (fun _ => PUnit) k (fun _ => none) (fun _ => none) (fun _ _ _ _ => none) (fun _ _ => none) (fun _ _ _ _ => none) (fun _ _ => none) (fun _ => none) (fun _ _ _ => none) (fun _ _ => none) (fun _ _ => none) PUnit.unit (fun _ _ _ _ => PUnit.unit) x
theorem intW_inv {x : W} {k : Int → Option R} {r : R} (H : intW x k = some r) : ∃ n, x = .z n ∧ k n = some r := by
  cases x <;> first | exact ⟨_, rfl, H⟩ | cases H
def boolW (x : W) (k : Bool → Option R) : Option R := @W.rec (fun _ => Option R) (fun _ => PUnit) (fun _ => none) k (fun _ => none) (fun _ _ _ _ => none) (fun _ _ => none) (fun _ _ _ _ => none) (fun _ _ => none) (fun _ => none) (fun _ _ _ => none) (fun _ _ => none) (fun _ _ => none) PUnit.unit (fun _ _ _ _ => PUnit.unit) x
theorem boolW_inv {x : W} {k : Bool → Option R} {r : R} (H : boolW x k = some r) : ∃ n, x = .b n ∧ k n = some r := by
  cases x <;> first | exact ⟨_, rfl, H⟩ | cases H
def natW (x : W) (k : Nat → Option R) : Option R := @W.rec (fun _ => Option R) (fun _ => PUnit) (fun n => @Int.rec (fun _ => Option R) k (fun _ => none) n) (fun _ => none) (fun y => Go.Tm.Q.natK (.v y) k) (fun _ _ _ _ => none) (fun _ _ => none) (fun _ _ _ _ => none) (fun _ _ => none) (fun _ => none) (fun _ _ _ => none) (fun _ _ => none) (fun _ _ => none) PUnit.unit (fun _ _ _ _ => PUnit.unit) x
theorem natW_inv {x : W} {k : Nat → Option R} {r : R} (H : natW x k = some r) : ∃ j, ∃ n : Nat, x.c = .v (.int j (Int.ofNat n)) ∧ k n = some r := by
  cases x with
  | z n => cases n with
    | ofNat n => exact ⟨.i64, n, by simp only [W.c], H⟩
    | negSucc n => cases H
  | v y =>
    obtain ⟨j, n, h1, h2⟩ := Go.Tm.Q.natK_inv (H : Go.Tm.Q.natK (.v y) k = some r)
    exact ⟨j, n, by simp only [W.c]; exact h1, h2⟩
  | _ => cases H
/-- A pointer: into an own row, or to frozen cells. -/
def ptrW (x : W) (own : Nat → Nat → Option R) (fro : List W → Option R) : Option R := @W.rec (fun _ => Option R) (fun _ => PUnit) (fun _ => none) (fun _ => none) (fun _ => none) (fun _ _ _ _ => none) (fun xs _ => fro xs) (fun _ _ _ _ => none) own (fun _ => none) (fun _ _ _ => none) (fun _ _ => none) (fun _ _ => none) PUnit.unit (fun _ _ _ _ => PUnit.unit) x
theorem ptrW_inv {x : W} {own : Nat → Nat → Option R} {fro : List W → Option R} {r : R} (H : ptrW x own fro = some r) : (∃ l o, x = .op l o ∧ own l o = some r) ∨ ∃ xs, x = .fp xs ∧ fro xs = some r := by
  cases x <;> first | exact .inl ⟨_, _, rfl, H⟩ | exact .inr ⟨_, rfl, H⟩ | cases H
def nilY (y : Value) (nil : Option R) : Option R := match y with
  | .slice none 0 0 => nil
  | _ => none
theorem nilY_inv {y : Value} {nil : Option R} {r : R} (H : nilY y nil = some r) : y = .slice none 0 0 ∧ nil = some r := by
  unfold nilY at H
  split at H
  · exact ⟨rfl, H⟩
  · cases H
/-- A slice: an own one, a frozen one, nil. -/
def sliW (x : W) (own : Nat → Nat → Nat → Option Nat → Option R) (fro : List W → Nat → Option Nat → Option R) (nil : Option R) : Option R := @W.rec (fun _ => Option R) (fun _ => PUnit) (fun _ => none) (fun _ => none) (fun y => nilY y nil) (fun xs l k _ => fro xs l k) (fun _ _ => none) own (fun _ _ => none) (fun _ => none) (fun _ _ _ => none) (fun _ _ => none) (fun _ _ => none) PUnit.unit (fun _ _ _ _ => PUnit.unit) x
theorem sliW_inv {x : W} {own : Nat → Nat → Nat → Option Nat → Option R} {fro : List W → Nat → Option Nat → Option R} {nil : Option R} {r : R} (H : sliW x own fro nil = some r) : (∃ l o n k, x = .os l o n k ∧ own l o n k = some r) ∨ (∃ xs n k, x = .fs xs n k ∧ fro xs n k = some r) ∨ (x = .v (.slice none 0 0) ∧ nil = some r) := by
  cases x with
  | os l o n k => exact .inl ⟨l, o, n, k, rfl, H⟩
  | fs xs n k => exact .inr (.inl ⟨xs, n, k, rfl, H⟩)
  | v y =>
    obtain ⟨rfl, h⟩ := nilY_inv (H : nilY y nil = some r)
    exact .inr (.inr ⟨rfl, h⟩)
  | _ => cases H
def omW (x : W) (k : Nat → Option R) : Option R := @W.rec (fun _ => Option R) (fun _ => PUnit) (fun _ => none) (fun _ => none) (fun _ => none) (fun _ _ _ _ => none) (fun _ _ => none) (fun _ _ _ _ => none) (fun _ _ => none) k (fun _ _ _ => none) (fun _ _ => none) (fun _ _ => none) PUnit.unit (fun _ _ _ _ => PUnit.unit) x
theorem omW_inv {x : W} {k : Nat → Option R} {r : R} (H : omW x k = some r) : ∃ l, x = .om l ∧ k l = some r := by
  cases x <;> first | exact ⟨_, rfl, H⟩ | cases H
def agW (x : W) (k : List W → Option R) : Option R := @W.rec (fun _ => Option R) (fun _ => PUnit) (fun _ => none) (fun _ => none) (fun _ => none) (fun _ _ _ _ => none) (fun _ _ => none) (fun _ _ _ _ => none) (fun _ _ => none) (fun _ => none) (fun _ _ _ => none) (fun xs _ => k xs) (fun _ _ => none) PUnit.unit (fun _ _ _ _ => PUnit.unit) x
theorem agW_inv {x : W} {k : List W → Option R} {r : R} (H : agW x k = some r) : ∃ l, x = .ag l ∧ k l = some r := by
  cases x <;> first | exact ⟨_, rfl, H⟩ | cases H
def tuW (x : W) (k : List W → Option R) : Option R := @W.rec (fun _ => Option R) (fun _ => PUnit) (fun _ => none) (fun _ => none) (fun _ => none) (fun _ _ _ _ => none) (fun _ _ => none) (fun _ _ _ _ => none) (fun _ _ => none) (fun _ => none) (fun _ _ _ => none) (fun _ _ => none) (fun xs _ => k xs) PUnit.unit (fun _ _ _ _ => PUnit.unit) x
theorem tuW_inv {x : W} {k : List W → Option R} {r : R} (H : tuW x k = some r) : ∃ l, x = .tu l ∧ k l = some r := by
  cases x <;> first | exact ⟨_, rfl, H⟩ | cases H
def fnW (x : W) (k : FuncId → List W → Option R) : Option R := @W.rec (fun _ => Option R) (fun _ => PUnit) (fun _ => none) (fun _ => none) (fun _ => none) (fun _ _ _ _ => none) (fun _ _ => none) (fun _ _ _ _ => none) (fun _ _ => none) (fun _ => none) (fun f xs _ => k f xs) (fun _ _ => none) (fun _ _ => none) PUnit.unit (fun _ _ _ _ => PUnit.unit) x
theorem fnW_inv {x : W} {k : FuncId → List W → Option R} {r : R} (H : fnW x k = some r) : ∃ f l, x = .fn f l ∧ k f l = some r := by
  cases x <;> first | exact ⟨_, _, rfl, H⟩ | cases H
def isCellW (x : W) : Bool := @W.rec (fun _ => Bool) (fun _ => PUnit) (fun _ => true) (fun _ => true) (fun _ => true) (fun _ _ _ _ => true) (fun _ _ => true) (fun _ _ _ _ => true) (fun _ _ => true) (fun _ => true) (fun _ _ _ => true) (fun _ _ => false) (fun _ _ => false) PUnit.unit (fun _ _ _ _ => PUnit.unit) x
theorem isCellW_eq (x : W) : isCellW x = C.isCell x.c := by cases x <;> simp [isCellW, W.c, C.isCell]
def allW (xs : List W) (k : Option R) : Option R := @List.rec W (fun _ => Option R) k (fun x _ ih => @Bool.rec (fun _ => Option R) none ih (isCellW x)) xs
theorem allW_inv {k : Option R} {r : R} : ∀ {xs : List W}, allW xs k = some r → (cL xs).all C.isCell = true ∧ k = some r
  | [], H => ⟨by simp [cL_nil], H⟩
  | x :: xs, H => by
    have H' : @Bool.rec (fun _ => Option R) none (allW xs k) (isCellW x) = some r := H
    cases hb : isCellW x with
    | false => rw [hb] at H'; cases H'
    | true =>
      rw [hb] at H'
      obtain ⟨h1, h2⟩ := allW_inv (xs := xs) H'
      rw [isCellW_eq] at hb
      exact ⟨by rw [cL_cons, List.all_cons, hb, h1]; rfl, h2⟩
def cellsW (x : W) (k : List W → Option R) : Option R := @W.rec (fun _ => Option R) (fun _ => PUnit) (fun _ => k [x]) (fun _ => k [x]) (fun _ => k [x]) (fun _ _ _ _ => k [x]) (fun _ _ => k [x]) (fun _ _ _ _ => k [x]) (fun _ _ => k [x]) (fun _ => k [x]) (fun _ _ _ => k [x]) (fun xs _ => allW xs (k xs)) (fun _ _ => none) PUnit.unit (fun _ _ _ _ => PUnit.unit) x
theorem cellsW_inv {x : W} {k : List W → Option R} {r : R} (H : cellsW x k = some r) : x.c.cells.all C.isCell = true ∧ ∃ ys, cL ys = x.c.cells ∧ k ys = some r := by
  cases x with
  | ag xs =>
    obtain ⟨h1, h2⟩ := allW_inv (H : allW xs (k xs) = some r)
    exact ⟨by simpa only [W.c, C.cells] using h1, xs, by simp only [W.c, C.cells], h2⟩
  | tu xs => cases H
  | _ => exact ⟨by simp [W.c, C.cells, C.isCell], _, by simp [cL_cons, cL_nil, W.c, C.cells], H⟩
/-! ### Slots and the machine's tmps -/
def Ag (σ : Nat → Nat) (L : List Nat) (e : E) (eo : Env) : Prop := ∀ t ∈ L, look eo t = some (e.get (σ t)).c
theorem Ag.mono {σ : Nat → Nat} {L M : List Nat} {e : E} {eo : Env} (h : Ag σ M e eo) (hs : ∀ t ∈ L, t ∈ M) : Ag σ L e eo := fun t ht => h t (hs t ht)
/-- A reader of an operand. -/
def RdRef (σ : Nat → Nat) (o : Operand) (f : Rd R) : Prop := ∀ e eo, Ag σ (opTmps [o]) e eo → ∃ a, (∀ k, f e k = k a) ∧ ev eo o = some a.c
def cW (w : W) : Rd R := fun _ k => k w
inductive X where
  | t (n : Nat)
  | c (w : W)
def X.rd (x : X) : Rd R := match x with
  | .t n => rdN n
  | .c w => cW w
def compX (σ : Nat → Nat) : Operand → Option X
  | .tmp t => if σ t < 24 then some (.t (σ t)) else none
  | .const x => (ofV x).map fun c => .c (ofC c)
  | .func f => some (.c (.fn f []))
  | .global _ => none
theorem compX_ref {σ : Nat → Nat} {o : Operand} {x : X} (h : compX σ o = some x) : RdRef (R := R) σ o x.rd := by
  intro e eo ha
  cases o with
  | tmp t =>
    simp only [compX] at h
    split at h
    · rename_i hlt
      cases h
      exact ⟨_, fun k => rdN_ok hlt e k, ha t (by simp [opTmps])⟩
    · cases h
  | const v =>
    simp only [compX, Option.map_eq_some_iff] at h
    obtain ⟨c, h1, rfl⟩ := h
    exact ⟨ofC c, fun k => rfl, by rw [c_ofC]; exact h1⟩
  | func f => cases h; exact ⟨.fn f [], fun k => rfl, by simp [ev, W.c, cL_nil]⟩
  | global g => cases h
abbrev St (R : Type) := E → H → (E → H → Option R) → Option R
/-- What a call of the swift machine promises of the tree machine's. -/
def CallRef (callw : CallW) (call : CallF) : Prop := ∀ f cs h hp k r, callw f cs h k = some r → RepH h hp → ∃ c h' hp', call f (cL cs) hp = some (c.c, hp') ∧ RepH h' hp' ∧ k c h' = some r
/-- A step's value, handed to what writes it. -/
abbrev Vl (R : Type) := E → H → (W → H → Option R) → Option R
/-- A value's computation is an operation's. -/
def VlRef (P : Program) (call : CallF) (σ : Nat → Nat) (op : Op) (f : Vl R) : Prop :=
  ∀ (e : E) (eo : Env) (h : H) (hp : Heap) (k : W → H → Option R) (r : R), CallRef e.x.ca call → Ag σ (opTmps op.operands.toList) e eo → RepH h hp → f e h k = some r → ∃ c h' hp', stepOp P call none eo hp op = some (c.c, hp') ∧ RepH h' hp' ∧ k c h' = some r
variable {P : Program} {call : CallF} {σ : Nat → Nat}
theorem RdRef.get {o : Operand} {f : Rd R} (hf : RdRef σ o f) {e : E} {eo : Env} {L : List Nat} (ha : Ag σ L e eo) (hs : ∀ t ∈ opTmps [o], t ∈ L) {k : W → Option R} {r : R} (H : f e k = some r) : ∃ a, ev eo o = some a.c ∧ k a = some r := by
  obtain ⟨a, h1, h2⟩ := hf e eo (ha.mono hs)
  exact ⟨a, h2, by have h3 := h1 k; rw [h3] at H; exact H⟩
theorem opTmps_mem {o : Operand} {l : List Operand} (h : o ∈ l) : ∀ t ∈ opTmps [o], t ∈ opTmps l := fun t ht => by
  simp only [opTmps, List.mem_filterMap, List.mem_singleton] at ht ⊢
  obtain ⟨a, rfl, h2⟩ := ht
  exact ⟨a, h, h2⟩
def mvV (x : Rd R) : Vl R := fun e h k => x e fun a => k a h
theorem move_ref {o : Operand} {x : Rd R} (hx : RdRef σ o x) : VlRef P call σ (.move o) (mvV x) := fun e eo h hp k r hcl ha hr H => by
  obtain ⟨a, h1, h2⟩ := hx.get ha (opTmps_mem (by simp [Op.operands])) H
  exact ⟨a, h, hp, by simp [stepOp, h1], hr, h2⟩
theorem assign_ref {o : Operand} {x : Rd R} (hx : RdRef σ o x) : VlRef P call σ (.assign o) (mvV x) := fun e eo h hp k r hcl ha hr H => by
  obtain ⟨a, h1, h2⟩ := hx.get ha (opTmps_mem (by simp [Op.operands])) H
  exact ⟨a, h, hp, by simp [stepOp, h1], hr, h2⟩
def pickV (c a b : Rd R) : Vl R := fun e h k => c e fun d => boolW d fun t => @Bool.rec (fun _ => Option R) (b e fun v => k v h) (a e fun v => k v h) t
theorem pick_ref {o p q : Operand} {x y z : Rd R} (hx : RdRef σ o x) (hy : RdRef σ p y) (hz : RdRef σ q z) : VlRef P call σ (.pick o p q) (pickV x y z) := fun e eo h hp k r hcl ha hr H => by
  obtain ⟨a, h1, h2⟩ := hx.get ha (opTmps_mem (by simp [Op.operands])) H
  obtain ⟨t, rfl, h3⟩ := boolW_inv h2
  cases t with
  | true =>
    obtain ⟨b, h4, h5⟩ := hy.get ha (opTmps_mem (by simp [Op.operands])) h3
    exact ⟨b, h, hp, by simp [stepOp, h1, W.c, boolOf, h4], hr, h5⟩
  | false =>
    obtain ⟨b, h4, h5⟩ := hz.get ha (opTmps_mem (by simp [Op.operands])) h3
    exact ⟨b, h, hp, by simp [stepOp, h1, W.c, boolOf, h4], hr, h5⟩
def allocV (z : List W) : Vl R := fun e h k => newK h (.row 0 z) fun l h => k (.op l 0) h
theorem alloc_ref {t : TypeId} {z : List W} (hz : zeroC P t = some (cL z)) : VlRef (R := R) P call σ (.alloc t) (allocV z) := fun e eo h hp k r hcl ha hr H => by
  obtain ⟨h', h2, h3⟩ := newK_inv hr (H : newK h (.row 0 z) (fun l h => k (.op l 0) h) = some r)
  exact ⟨_, h', _, by simp [stepOp, hz, new, W.c, N.node], h2, h3⟩
def boxV (x : Rd R) : Vl R := fun e h k => x e fun a => cellsW a fun cs => newK h (.row 0 cs) fun l h => k (.op l 0) h
theorem box_ref {t : TypeId} {o : Operand} {x : Rd R} (hx : RdRef σ o x) : VlRef P call σ (.box t o) (boxV x) := fun e eo h hp k r hcl ha hr H => by
  obtain ⟨a, h1, h2⟩ := hx.get ha (opTmps_mem (by simp [Op.operands])) H
  obtain ⟨h3, ys, h4, h5⟩ := cellsW_inv h2
  obtain ⟨h', h6, h7⟩ := newK_inv hr h5
  refine ⟨_, h', _, ?_, h6, h7⟩
  simp only [stepOp, h1, Option.bind_eq_bind, Option.bind_some]
  rw [if_pos h3]
  simp [new, W.c, N.node, h4]
/-- The parts of a struct or a row that is written out. -/
abbrev Fl (R : Type) := E → List W → (List W → Option R) → Option R
def fl0 : Fl R := fun _ cs k => k cs
def fl1 (off size : Nat) (x : Rd R) (n : Fl R) : Fl R := fun e cs k => x e fun a => cellsW a fun ys => ifK (Nat.beq (lenN ys) size) (putK off ys cs fun cs => n e cs k)
def FlRef (σ : Nat → Nat) (place : Nat → Option (Nat × Nat)) (qs : List (Nat × Operand)) (f : Fl R) : Prop :=
  ∀ (e : E) (eo : Env) (cs : List W) (k : List W → Option R) (r : R), Ag σ (opTmps (qs.map (·.2))) e eo → f e cs k = some r → ∃ vs zs, evParts eo qs = some vs ∧ fillC place (cL cs) vs = some (cL zs) ∧ k zs = some r
theorem fl0_ref {place : Nat → Option (Nat × Nat)} : FlRef (R := R) σ place [] fl0 := fun e eo cs k r ha H => ⟨[], cs, rfl, rfl, H⟩
theorem fl1_ref {place : Nat → Option (Nat × Nat)} {i off size : Nat} {o : Operand} {qs : List (Nat × Operand)} {x : Rd R} {n : Fl R} (hp : place i = some (off, size)) (hx : RdRef σ o x) (hn : FlRef σ place qs n) : FlRef σ place ((i, o) :: qs) (fl1 off size x n) := fun e eo cs k r ha H => by
  obtain ⟨a, h1, h2⟩ := hx.get ha (opTmps_mem (by simp)) H
  obtain ⟨h3, ys, h4, h5⟩ := cellsW_inv h2
  obtain ⟨h6, h7⟩ := ifK_inv h5
  have e6 := Nat.eq_of_beq_eq_true h6
  rw [lenN_eq] at e6
  obtain ⟨h8, zs, h9, h10⟩ := putK_inv h7
  obtain ⟨vs, ws, g1, g2, g3⟩ := hn e eo zs k r (ha.mono fun t ht => by
    simp only [opTmps, List.map_cons, List.mem_filterMap, List.mem_cons] at ht ⊢
    obtain ⟨a, h1, h2⟩ := ht
    exact ⟨a, .inr h1, h2⟩) h10
  refine ⟨(i, a.c) :: vs, ws, by simp [evParts, h1, g1], ?_, g3⟩
  have el : a.c.cells.length = size := by rw [← h4, cL_len]; exact e6
  simp only [fillC, hp]
  rw [if_pos ⟨el, by rw [cL_len]; omega, h3⟩, ← h4, ← h9]
  exact g2
def buildV (z : List W) (f : Fl R) : Vl R := fun e h k => f e z fun cs => k (.ag cs) h
theorem buildS_ref {t : TypeId} {fs : Array Field} {ps : Array (Nat × Operand)} {z : List W} {f : Fl R} (hu : P.underlying t = some (.struct fs)) (hz : zeroC P t = some (cL z)) (hall : fs.toList.all (fun f => (sz P f.type).isSome) = true) (hf : FlRef σ (places P fs.toList) ps.toList f) : VlRef P call σ (.build t ps) (buildV z f) := fun e eo h hp k r hcl ha hr H => by
  obtain ⟨vs, zs, h1, h2, h3⟩ := hf e eo z _ r (ha.mono fun t ht => by simpa [Op.operands, opTmps] using ht) H
  refine ⟨.ag zs, h, hp, ?_, hr, h3⟩
  simp only [stepOp, h1, buildC, hz, hu, Option.bind_eq_bind, Option.bind_some]
  rw [if_pos hall, h2]
  rfl
theorem buildA_ref {t el : TypeId} {len s : Nat} {ps : Array (Nat × Operand)} {z : List W} {f : Fl R} (hu : P.underlying t = some (.array len el)) (hz : zeroC P t = some (cL z)) (hs : sz P el = some s) (hf : FlRef σ (fun i => some (i * s, s)) ps.toList f) : VlRef P call σ (.build t ps) (buildV z f) := fun e eo h hp k r hcl ha hr H => by
  obtain ⟨vs, zs, h1, h2, h3⟩ := hf e eo z _ r (ha.mono fun t ht => by simpa [Op.operands, opTmps] using ht) H
  refine ⟨.ag zs, h, hp, ?_, hr, h3⟩
  simp only [stepOp, h1, buildC, hz, hu, hs, h2, Option.bind_eq_bind, Option.bind_some]
  rfl
def bslV (s n : Nat) (z : List W) (f : Fl R) : Vl R := fun e h k => repK n z fun cs => f e cs fun cs => newK h (.row s cs) fun l h => k (.os l 0 n (some n)) h
theorem buildSlice_ref {t el : TypeId} {n s : Nat} {ps : Array (Nat × Operand)} {z : List W} {f : Fl R} (he : sliceE P t = some el) (hs : sz P el = some s) (hz : zeroC P el = some (cL z)) (hc : 0 < s ∧ z.length = s ∧ n * s ≤ 2 ^ 24) (hf : FlRef σ (fun i => some (i * s, s)) ps.toList f) : VlRef P call σ (.buildSlice t n ps) (bslV s n z f) := fun e eo h hp k r hcl ha hr H => by
  obtain ⟨cs, h1, h2⟩ := repK_inv (H : repK n z (fun cs => f e cs fun cs => newK h (.row s cs) fun l h => k (.os l 0 n (some n)) h) = some r)
  obtain ⟨vs, zs, h3, h4, h5⟩ := hf e eo cs _ r (ha.mono fun t ht => by simpa [Op.operands, opTmps] using ht) h2
  obtain ⟨h', h6, h7⟩ := newK_inv hr h5
  refine ⟨_, h', _, ?_, h6, h7⟩
  simp only [stepOp, h3, buildSliceC, rowOf, he, hs, hz, Option.bind_eq_bind, Option.bind_some]
  rw [if_pos ⟨hc.1, by rw [cL_len]; exact hc.2.1⟩]
  simp only [Option.bind_some, ← h1, h4]
  rw [if_pos hc.2.2]
  rfl
def ldW (h : H) (p : W) (k : W → Option R) : Option R := ptrW p (fun l off => rowK h l fun _ cs => nthK off cs k) (fun xs => nthK 0 xs k)
theorem ldW_inv {h : H} {hp : Heap} (hr : RepH h hp) {p : W} {k : W → Option R} {r : R} (H : ldW h p k = some r) : ∃ c, ((cellsAt hp p.c).bind List.head?) = some c.c ∧ k c = some r := by
  rcases ptrW_inv H with ⟨l, off, rfl, H2⟩ | ⟨xs, rfl, H2⟩
  · obtain ⟨e, cs, h1, h2⟩ := rowK_inv hr H2
    obtain ⟨c, h3, h4⟩ := nthK_inv h2
    exact ⟨c, by simp only [W.c, cellsAt, h1, Option.bind_some]; rw [← cL_drop]; exact head_c h3, h4⟩
  · obtain ⟨c, h3, h4⟩ := nthK_inv H2
    exact ⟨c, by simp only [W.c, cellsAt, Option.bind_some]; exact head_c h3, h4⟩
def ldaW (h : H) (n : Nat) (p : W) (k : W → Option R) : Option R := ptrW p (fun l off => rowK h l fun _ cs => dropK off cs fun ys => takeK n ys fun zs => k (.ag zs)) (fun xs => takeK n xs fun zs => k (.ag zs))
theorem ldaW_inv {h : H} {hp : Heap} (hr : RepH h hp) {n : Nat} {p : W} {k : W → Option R} {r : R} (H : ldaW h n p k = some r) : ∃ c, ((cellsAt hp p.c).bind fun cs => (takeN n cs).map .agg) = some c.c ∧ k c = some r := by
  rcases ptrW_inv H with ⟨l, off, rfl, H2⟩ | ⟨xs, rfl, H2⟩
  · obtain ⟨e, cs, h1, h2⟩ := rowK_inv hr H2
    rw [dropK_eq] at h2
    obtain ⟨h3, h4⟩ := takeK_inv h2
    refine ⟨_, ?_, h4⟩
    simp only [W.c, cellsAt, h1, takeN, Option.bind_some]
    rw [← cL_drop, if_pos (by rw [cL_len]; exact h3), cL_take]; rfl
  · obtain ⟨h3, h4⟩ := takeK_inv H2
    refine ⟨_, ?_, h4⟩
    simp only [W.c, cellsAt, takeN, Option.bind_some]
    rw [if_pos (by rw [cL_len]; exact h3), cL_take]; rfl
def ldV (x : Rd R) : Vl R := fun e h k => x e fun p => ldW h p fun c => k c h
theorem load_ref {t : TypeId} {n : Nat} {o : Operand} {x : Rd R} (h1 : sz P t = some n) (h2 : aggT P t = some false) (hx : RdRef σ o x) : VlRef P call σ (.load t o) (ldV x) := fun e eo h hp k r hcl ha hr H => by
  obtain ⟨p, h4, h5⟩ := hx.get ha (opTmps_mem (by simp [Op.operands])) H
  obtain ⟨c, h6, h7⟩ := ldW_inv hr h5
  exact ⟨c, h, hp, by simp only [stepOp, h4, Option.bind_eq_bind, Option.bind_some, loadS_fact h1 h2, h6], hr, h7⟩
def ldaV (n : Nat) (x : Rd R) : Vl R := fun e h k => x e fun p => ldaW h n p fun c => k c h
theorem loadA_ref {t : TypeId} {n : Nat} {o : Operand} {x : Rd R} (h1 : sz P t = some n) (h2 : aggT P t = some true) (hx : RdRef σ o x) : VlRef P call σ (.load t o) (ldaV n x) := fun e eo h hp k r hcl ha hr H => by
  obtain ⟨p, h4, h5⟩ := hx.get ha (opTmps_mem (by simp [Op.operands])) H
  obtain ⟨c, h6, h7⟩ := ldaW_inv hr h5
  refine ⟨c, h, hp, ?_, hr, h7⟩
  simp only [Option.bind_eq_some_iff, Option.map_eq_some_iff] at h6
  obtain ⟨cs, g1, ys, g2, g3⟩ := h6
  simp [stepOp, h4, loadC, g1, fieldOf, h1, h2, g2, g3]
def uW : W := .tu []
theorem uW_c : uW.c = undefC := by simp [uW, W.c, cL_nil, undefC]
def stW (h : H) (n : Nat) (p x : W) (k : H → Option R) : Option R := ptrW p (fun l off => cellsW x fun ys => ifK (Nat.beq (lenN ys) n) (rowK h l fun e cs => putK off ys cs fun zs => storeK h l (.row e zs) k)) (fun _ => none)
def stV (n : Nat) (x y : Rd R) : Vl R := fun e h k => x e fun p => y e fun c => stW h n p c (k uW)
theorem store_ref {t : TypeId} {n : Nat} {o q : Operand} {x y : Rd R} (h1 : sz P t = some n) (hx : RdRef σ o x) (hy : RdRef σ q y) : VlRef P call σ (.store t o q) (stV n x y) := fun e eo h hp k r hcl ha hr H => by
  obtain ⟨p, h4, h5⟩ := hx.get ha (opTmps_mem (by simp [Op.operands])) H
  obtain ⟨c, h6, h7⟩ := hy.get ha (opTmps_mem (by simp [Op.operands])) h5
  rcases ptrW_inv h7 with ⟨l, off, rfl, h8⟩ | ⟨xs, rfl, h8⟩
  · obtain ⟨g1, ys, g2, g3⟩ := cellsW_inv h8
    obtain ⟨g4, g5⟩ := ifK_inv g3
    obtain ⟨e', cs, g6, g7⟩ := rowK_inv hr g5
    obtain ⟨g8, zs, g9, g10⟩ := putK_inv g7
    obtain ⟨h', g11, g12⟩ := storeK_inv hr g10
    have e4 := Nat.eq_of_beq_eq_true g4
    rw [lenN_eq] at e4
    have el : c.c.cells.length = n := by rw [← g2, cL_len]; exact e4
    refine ⟨uW, h', _, ?_, g11, g12⟩
    simp only [stepOp, h4, h6, storeC, W.c, g6, h1, Option.bind_eq_bind, Option.bind_some]
    rw [if_pos ⟨by rw [el], by rw [el, cL_len]; omega, g1⟩, ← g2, ← g9, ← uW_c]
    rfl
  · cases h8
def nilcV (x : Rd R) : Vl R := fun e h k => x e fun p => ptrW p (fun l o => k (.op l o) h) (fun xs => k (.fp xs) h)
theorem nilCheck_ref {o : Operand} {x : Rd R} (hx : RdRef σ o x) : VlRef P call σ (.nilCheck o) (nilcV x) := fun e eo h hp k r hcl ha hr H => by
  obtain ⟨p, h4, h5⟩ := hx.get ha (opTmps_mem (by simp [Op.operands])) H
  rcases ptrW_inv h5 with ⟨l, off, rfl, h8⟩ | ⟨xs, rfl, h8⟩
  · exact ⟨_, h, hp, by simp [stepOp, h4, W.c, isNilC], hr, h8⟩
  · exact ⟨_, h, hp, by simp [stepOp, h4, W.c, isNilC], hr, h8⟩
/-! Numbers -/
def addI (a b : Int) (k : W → Option R) : Option R := forceZ (wrapZ (addZ a b)) fun z => k (.z z)
def subI (a b : Int) (k : W → Option R) : Option R := forceZ (wrapZ (subZ a b)) fun z => k (.z z)
def ltI (a b : Int) (k : W → Option R) : Option R := @Bool.rec (fun _ => Option R) (k (.b false)) (k (.b true)) (ltZ a b)
def leI (a b : Int) (k : W → Option R) : Option R := @Bool.rec (fun _ => Option R) (k (.b false)) (k (.b true)) (leZ a b)
def gtI (a b : Int) (k : W → Option R) : Option R := @Bool.rec (fun _ => Option R) (k (.b false)) (k (.b true)) (ltZ b a)
def geI (a b : Int) (k : W → Option R) : Option R := @Bool.rec (fun _ => Option R) (k (.b false)) (k (.b true)) (leZ b a)
def eqI (a b : Int) (k : W → Option R) : Option R := @Bool.rec (fun _ => Option R) (k (.b false)) (k (.b true)) (eqZ a b)
def neI (a b : Int) (k : W → Option R) : Option R := @Bool.rec (fun _ => Option R) (k (.b true)) (k (.b false)) (eqZ a b)
/-- An operator's way with two numbers. -/
def OpI (op : BinOp) (f : Int → Int → (W → Option R) → Option R) : Prop := ∀ (t : TypeId) (x y : Operand) (a b : Int) (k : W → Option R) (r : R), f a b k = some r → ∃ c, binC P op t x y (.v (.int .i64 a)) (.v (.int .i64 b)) = some c.c ∧ k c = some r
theorem addI_ok : OpI (P := P) (R := R) .add addI := fun t x y a b k r H => by
  unfold addI at H
  rw [forceZ_eq, wrapZ_eq, addZ_eq] at H; exact ⟨_, bin_add, H⟩
theorem subI_ok : OpI (P := P) (R := R) .sub subI := fun t x y a b k r H => by
  unfold subI at H
  rw [forceZ_eq, wrapZ_eq, subZ_eq] at H; exact ⟨_, bin_sub, H⟩
theorem boolRec {b : Bool} {k : W → Option R} {r : R} (H : @Bool.rec (fun _ => Option R) (k (.b false)) (k (.b true)) b = some r) : k (.b b) = some r := by cases b <;> exact H
theorem ltI_ok : OpI (P := P) (R := R) .lss ltI := fun t x y a b k r H => by
  have := boolRec H
  rw [ltZ_eq] at this; exact ⟨_, bin_lss, this⟩
theorem leI_ok : OpI (P := P) (R := R) .leq leI := fun t x y a b k r H => by
  have := boolRec H
  rw [leZ_eq] at this; exact ⟨_, bin_leq, this⟩
theorem gtI_ok : OpI (P := P) (R := R) .gtr gtI := fun t x y a b k r H => by
  have := boolRec H
  rw [ltZ_eq] at this; exact ⟨_, bin_gtr, this⟩
theorem geI_ok : OpI (P := P) (R := R) .geq geI := fun t x y a b k r H => by
  have := boolRec H
  rw [leZ_eq] at this; exact ⟨_, bin_geq, this⟩
theorem eqI_ok : OpI (P := P) (R := R) .eql eqI := fun t x y a b k r H => by
  have := boolRec H
  rw [eqZ_eq] at this; exact ⟨_, bin_eql, this⟩
theorem neI_ok : OpI (P := P) (R := R) .neq neI := fun t x y a b k r H => by
  have h2 : k (.b (!(eqZ a b))) = some r := by
    unfold neI at H
    cases hb : eqZ a b <;> rw [hb] at H <;> exact H
  rw [eqZ_eq] at h2
  exact ⟨_, bin_neq, h2⟩
def binI (f : Int → Int → (W → Option R) → Option R) (x y : Rd R) : Vl R := fun e h k => x e fun a => intW a fun m => y e fun b => intW b fun n => f m n fun c => k c h
theorem binI_ref {op : BinOp} {f : Int → Int → (W → Option R) → Option R} (hf : OpI (P := P) op f) {t u : TypeId} {o q : Operand} {x y : Rd R} (hx : RdRef σ o x) (hy : RdRef σ q y) : VlRef P call σ (.binOp op t o q u) (binI f x y) := fun e eo h hp k r hcl ha hr H => by
  obtain ⟨a, h1, h2⟩ := hx.get ha (opTmps_mem (by simp [Op.operands])) H
  obtain ⟨m, rfl, h3⟩ := intW_inv h2
  obtain ⟨b, h4, h5⟩ := hy.get ha (opTmps_mem (by simp [Op.operands])) h3
  obtain ⟨n, rfl, h6⟩ := intW_inv h5
  obtain ⟨c, h7, h8⟩ := hf t o q m n _ r h6
  exact ⟨c, h, hp, by simp only [stepOp, h1, h4, W.c, h7, Option.bind_eq_bind, Option.bind_some], hr, h8⟩
def binC' (f : Int → Int → (W → Option R) → Option R) (x : Rd R) (n : Int) : Vl R := fun e h k => x e fun a => intW a fun m => f m n fun c => k c h
theorem binC_ref {op : BinOp} {f : Int → Int → (W → Option R) → Option R} (hf : OpI (P := P) op f) {t u : TypeId} {o : Operand} {n : Int} {x : Rd R} (hx : RdRef σ o x) : VlRef P call σ (.binOp op t o (.const (.int .i64 n)) u) (binC' f x n) := fun e eo h hp k r hcl ha hr H => by
  obtain ⟨a, h1, h2⟩ := hx.get ha (opTmps_mem (by simp [Op.operands])) H
  obtain ⟨m, rfl, h3⟩ := intW_inv h2
  obtain ⟨c, h7, h8⟩ := hf t o (.const (.int .i64 n)) m n _ r h3
  exact ⟨c, h, hp, by simp only [stepOp, h1, ev_int, W.c, h7, Option.bind_eq_bind, Option.bind_some], hr, h8⟩
def binG (P : Program) (op : BinOp) (t : TypeId) (ox oy : Operand) (x y : Rd R) : Vl R := fun e h k => x e fun a => y e fun b => optK (binC P op t ox oy a.c b.c) fun c => k (ofC c) h
theorem binG_ref {op : BinOp} {t u : TypeId} {o q : Operand} {x y : Rd R} (hx : RdRef σ o x) (hy : RdRef σ q y) : VlRef P call σ (.binOp op t o q u) (binG P op t o q x y) := fun e eo h hp k r hcl ha hr H => by
  obtain ⟨a, h1, h2⟩ := hx.get ha (opTmps_mem (by simp [Op.operands])) H
  obtain ⟨b, h4, h5⟩ := hy.get ha (opTmps_mem (by simp [Op.operands])) h2
  obtain ⟨c, h6, h7⟩ := optK_inv h5
  exact ⟨ofC c, h, hp, by simp only [stepOp, h1, h4, h6, c_ofC, Option.bind_eq_bind, Option.bind_some], hr, h7⟩
def notV (x : Rd R) : Vl R := fun e h k => x e fun a => boolW a fun b => @Bool.rec (fun _ => Option R) (k (.b true) h) (k (.b false) h) b
theorem not_ref {t : TypeId} {o : Operand} {x : Rd R} (hx : RdRef σ o x) : VlRef P call σ (.unOp .not t o) (notV x) := fun e eo h hp k r hcl ha hr H => by
  obtain ⟨a, h1, h2⟩ := hx.get ha (opTmps_mem (by simp [Op.operands])) H
  obtain ⟨b, rfl, h3⟩ := boolW_inv h2
  refine ⟨.b (!b), h, hp, ?_, hr, ?_⟩
  · rw [op_not, h1]; simp [W.c, boolOf]
  · cases b <;> exact h3
end
end
end Go.Tm.V
