import Derived.Test.YtahcbcgakadfpaaTX
set_option linter.unusedVariables false
namespace Go.Tm.Q
noncomputable section
/-! ### Operations, with all that their types say laid into them -/
inductive X where
  | t (n : Nat)
  | c (x : C)
inductive E where
  | nil
  | cons (t : Nat) (c : C) (r : E)
def E.env : E → Env
  | .nil => []
  | .cons t c r => (t, c) :: r.env
def compX : Operand → Option X
  | .tmp t => some (.t t)
  | .const x => (ofV x).map .c
  | .func f => some (.c (.fn f []))
  | .global _ => none
inductive O where
  | mv (x : X)
  | pick (c a b : X)
  | alloc (z : List C)
  | box (x : X)
  | build (z : List C) (ps : List (Nat × Nat × X))
  | bsl (s n : Nat) (z : List C) (ps : List (Nat × Nat × X))
  | ld (x : X)
  | lda (n : Nat) (x : X)
  | st (n : Nat) (x y : X)
  | nilc (x : X)
  | bin (op : BinOp) (t : TypeId) (ox oy : Operand) (x y : X)
  | not (x : X)
  | pure (o : Op)
  | ms (s : Nat) (z : List C) (l c : X)
  | sl (s : Nat) (x : X) (lo hi mx : Option X)
  | fa (off : Nat) (x : X)
  | fi (off : Nat) (x : X)
  | fia (off n : Nat) (x : X)
  | ix (s : Nat) (x i : X)
  | ixa (len s : Nat) (x i : X)
  | len (x : X)
  | lens (x : X)
  | ext (x : X) (i : Nat)
  | app (s : Nat) (x y : X)
  | cpy (s : Nat) (x y : X)
  | cvt (s d : TypeId) (x : X)
  | clr (s : Nat) (z : List C) (x : X)
  | mm
  | lk (t : TypeId) (x i : X) (ok : Bool)
  | mu (t : TypeId) (m k v : X)
  | call (f : FuncId) (xs : List X)
  | callv (x : X) (xs : List X)

section
variable {R : Type}
def lookK (e : E) (t : Nat) (k : C → Option R) : Option R :=
  @E.rec (fun _ => Option R) none (fun u c _ ih => @Bool.rec (fun _ => Option R) ih (k c) (Nat.beq u t)) e
theorem lookK_inv {t : Nat} {k : C → Option R} {r : R} : ∀ {e : E}, lookK e t k = some r → ∃ c, look e.env t = some c ∧ k c = some r
  | .nil, H => by cases H
  | .cons u c e, H => by
    have H' : @Bool.rec (fun _ => Option R) (lookK e t k) (k c) (Nat.beq u t) = some r := H
    simp only [E.env, look_cons]
    cases hb : Nat.beq u t with
    | true => rw [hb] at H'; exact ⟨c, by rw [if_pos (Nat.eq_of_beq_eq_true hb)], H'⟩
    | false => rw [hb] at H'; rw [if_neg (fun e => by subst e; simp at hb)]; exact lookK_inv H'
def evK (x : X) (e : E) (k : C → Option R) : Option R := @X.rec (fun _ => Option R) (fun n => lookK e n k) k x
theorem evK_inv {o : Operand} {x : X} {e : E} {k : C → Option R} {r : R} (hx : compX o = some x) (H : evK x e k = some r) : ∃ c, ev e.env o = some c ∧ k c = some r := by
  cases o with
  | tmp t => cases hx; exact lookK_inv H
  | const v =>
    simp only [compX, Option.map_eq_some_iff] at hx
    obtain ⟨c, h1, rfl⟩ := hx
    exact ⟨c, h1, H⟩
  | func f => cases hx; exact ⟨_, rfl, H⟩
  | global g => cases hx
def evsK (xs : List X) (e : E) (k : List C → Option R) : Option R :=
  @List.rec X (fun _ => (List C → Option R) → Option R) (fun k => k []) (fun x _ ih k => evK x e fun c => ih fun cs => k (c :: cs)) xs k
def compXs : List Operand → Option (List X)
  | [] => some []
  | o :: r => (compX o).bind fun x => (compXs r).bind fun xs => some (x :: xs)
theorem evsK_inv {e : E} {r : R} : ∀ {os : List Operand} {xs : List X} {k : List C → Option R}, compXs os = some xs → evsK xs e k = some r → ∃ cs, evs e.env os = some cs ∧ k cs = some r
  | [], xs, k, hx, H => by cases hx; exact ⟨[], rfl, H⟩
  | o :: os, xs, k, hx, H => by
    simp only [compXs, Option.bind_eq_some_iff, Option.some.injEq] at hx
    obtain ⟨x, h1, ys, h2, rfl⟩ := hx
    obtain ⟨c, h3, h4⟩ := evK_inv h1 H
    obtain ⟨cs, h5, h6⟩ := evsK_inv (k := fun cs => k (c :: cs)) h2 h4
    exact ⟨c :: cs, by simp [evs, h3, h5], h6⟩
def boolK (c : C) (k : Bool → Option R) : Option R := match c with
  | .v (.bool b) => forceB b k
  | _ => none
theorem boolK_inv {c : C} {k : Bool → Option R} {r : R} (H : boolK c k = some r) : ∃ b, boolOf c = some b ∧ k b = some r := by
  unfold boolK at H
  split at H
  · rw [forceB_eq] at H; exact ⟨_, rfl, H⟩
  · cases H
def cellsK (c : C) (k : List C → Option R) : Option R := match c with
  | .agg cs => ifK (cs.all C.isCell) (k cs)
  | .tup _ => none
  | c => k [c]
theorem cellsK_inv {c : C} {k : List C → Option R} {r : R} (H : cellsK c k = some r) : c.cells.all C.isCell = true ∧ k c.cells = some r := by
  unfold cellsK at H
  split at H
  · exact ifK_inv H
  · cases H
  · rename_i h1 h2
    cases c <;> first | exact ⟨rfl, H⟩ | exact absurd rfl (h1 _) | exact absurd rfl (h2 _)
def fillK (e : E) (ps : List (Nat × Nat × X)) (cs : List C) (k : List C → Option R) : Option R :=
  @List.rec (Nat × Nat × X) (fun _ => List C → Option R) k (fun p _ ih cs => evK p.2.2 e fun c => cellsK c fun ys => ifK (Nat.beq ys.length p.2.1) (putK p.1 ys cs ih)) ps cs
def compPs (place : Nat → Option (Nat × Nat)) : List (Nat × Operand) → Option (List (Nat × Nat × X))
  | [] => some []
  | p :: r => (place p.1).bind fun q => (compX p.2).bind fun x => (compPs place r).bind fun xs => some ((q.1, q.2, x) :: xs)
theorem fillK_inv {e : E} {r : R} {place : Nat → Option (Nat × Nat)} {k : List C → Option R} : ∀ {qs : List (Nat × Operand)} {ps : List (Nat × Nat × X)} {cs : List C}, compPs place qs = some ps → fillK e ps cs k = some r → ∃ vs cs', evParts e.env qs = some vs ∧ fillC place cs vs = some cs' ∧ k cs' = some r
  | [], ps, cs, hp, H => by cases hp; exact ⟨[], cs, rfl, rfl, H⟩
  | q :: qs, ps, cs, hp, H => by
    obtain ⟨i, o⟩ := q
    simp only [compPs, Option.bind_eq_some_iff, Option.some.injEq] at hp
    obtain ⟨⟨off, size⟩, h1, x, h2, ys, h3, rfl⟩ := hp
    obtain ⟨c, h4, h5⟩ := evK_inv h2 H
    obtain ⟨h6, h7⟩ := cellsK_inv h5
    obtain ⟨h8, h9⟩ := ifK_inv h7
    obtain ⟨h10, h11⟩ := putK_inv h9
    obtain ⟨vs, cs', g1, g2, g3⟩ := fillK_inv h3 h11
    have e8 := Nat.eq_of_beq_eq_true h8
    refine ⟨(i, c) :: vs, cs', by simp [evParts, h4, g1], ?_, g3⟩
    simp only [fillC, h1]
    rw [if_pos ⟨e8, by have := e8; simp only at this h10; omega, h6⟩]
    exact g2
def ldK (h : H) (p : C) (k : C → Option R) : Option R := match p with
  | .op l off => rowK h l fun _ cs => nthK off cs k
  | .fp xs => nthK 0 xs k
  | _ => none
theorem ldK_inv {h : H} {hp : Heap} (hr : RepH h hp) {p : C} {k : C → Option R} {r : R} (H : ldK h p k = some r) : ∃ c, ((cellsAt hp p).bind List.head?) = some c ∧ k c = some r := by
  unfold ldK at H
  split at H
  · obtain ⟨e, cs, h1, h2⟩ := rowK_inv hr H
    obtain ⟨c, h3, h4⟩ := nthK_inv h2
    exact ⟨c, by simp [cellsAt, h1, h3], h4⟩
  · obtain ⟨c, h3, h4⟩ := nthK_inv H
    exact ⟨c, by simpa [cellsAt] using h3, h4⟩
  · cases H
def ldaK (h : H) (n : Nat) (p : C) (k : C → Option R) : Option R := match p with
  | .op l off => rowK h l fun _ cs => dropK off cs fun ys => takeK n ys fun zs => k (.agg zs)
  | .fp xs => takeK n xs fun zs => k (.agg zs)
  | _ => none
theorem ldaK_inv {h : H} {hp : Heap} (hr : RepH h hp) {n : Nat} {p : C} {k : C → Option R} {r : R} (H : ldaK h n p k = some r) : ∃ c, ((cellsAt hp p).bind fun cs => (takeN n cs).map .agg) = some c ∧ k c = some r := by
  unfold ldaK at H
  split at H
  · obtain ⟨e, cs, h1, h2⟩ := rowK_inv hr H
    rw [dropK_eq] at h2
    obtain ⟨h3, h4⟩ := takeK_inv h2
    exact ⟨_, by simp only [cellsAt, h1, takeN, Option.bind_some]; rw [if_pos h3]; rfl, h4⟩
  · obtain ⟨h3, h4⟩ := takeK_inv H
    exact ⟨_, by simp only [cellsAt, takeN, Option.bind_some]; rw [if_pos h3]; rfl, h4⟩
  · cases H
def stK (h : H) (n : Nat) (p x : C) (k : H → Option R) : Option R := match p with
  | .op l off => cellsK x fun ys => ifK (Nat.beq ys.length n) (rowK h l fun e cs => putK off ys cs fun zs => storeK h l (.row e zs) k)
  | _ => none
theorem stK_inv {P : Program} {t : TypeId} {h : H} {hp : Heap} (hr : RepH h hp) {n : Nat} (hs : sz P t = some n) {p x : C} {k : H → Option R} {r : R} (H : stK h n p x k = some r) : ∃ h' hp', storeC P hp t p x = some hp' ∧ RepH h' hp' ∧ k h' = some r := by
  unfold stK at H
  split at H
  · rename_i l off
    obtain ⟨h1, h2⟩ := cellsK_inv H
    obtain ⟨h3, h4⟩ := ifK_inv h2
    obtain ⟨e, cs, h5, h6⟩ := rowK_inv hr h4
    obtain ⟨h7, h8⟩ := putK_inv h6
    obtain ⟨h', h9, h10⟩ := storeK_inv hr h8
    refine ⟨h', _, ?_, h9, h10⟩
    have e3 := Nat.eq_of_beq_eq_true h3
    simp only [storeC, h5, hs]
    rw [if_pos ⟨by rw [e3], h7, h1⟩]
  · cases H
def z64K (c : C) (els : Option R) (k : Int → Option R) : Option R := match c with
  | .v (.int .i64 z) => k z
  | _ => els
def fastK (op : BinOp) (x y : Int) (slow : Option R) (k : C → Option R) : Option R := match op with
  | .add => forceZ (wrapZ (addZ x y)) fun z => k (.v (.int .i64 z))
  | .sub => forceZ (wrapZ (subZ x y)) fun z => k (.v (.int .i64 z))
  | .lss => forceB (ltZ x y) fun b => k (.v (.bool b))
  | .leq => forceB (leZ x y) fun b => k (.v (.bool b))
  | .gtr => forceB (ltZ y x) fun b => k (.v (.bool b))
  | .geq => forceB (leZ y x) fun b => k (.v (.bool b))
  | .eql => forceB (eqZ x y) fun b => k (.v (.bool b))
  | .neq => @Bool.rec (fun _ => Option R) (k (.v (.bool true))) (k (.v (.bool false))) (eqZ x y)
  | _ => slow
def binK (P : Program) (op : BinOp) (t : TypeId) (ox oy : Operand) (a b : C) (k : C → Option R) : Option R :=
  z64K a (optK (binC P op t ox oy a b) k) fun x => z64K b (optK (binC P op t ox oy a b) k) fun y => fastK op x y (optK (binC P op t ox oy a b) k) k
theorem fastK_inv {P : Program} {op : BinOp} {t : TypeId} {ox oy : Operand} {x y : Int} {k : C → Option R} {r : R} (H : fastK op x y (optK (binC P op t ox oy (.v (.int .i64 x)) (.v (.int .i64 y))) k) k = some r) : ∃ c, binC P op t ox oy (.v (.int .i64 x)) (.v (.int .i64 y)) = some c ∧ k c = some r := by
  unfold fastK at H
  split at H
  · rw [forceZ_eq, wrapZ_eq, addZ_eq] at H; exact ⟨_, bin_add, H⟩
  · rw [forceZ_eq, wrapZ_eq, subZ_eq] at H; exact ⟨_, bin_sub, H⟩
  · rw [forceB_eq, ltZ_eq] at H; exact ⟨_, bin_lss, H⟩
  · rw [forceB_eq, leZ_eq] at H; exact ⟨_, bin_leq, H⟩
  · rw [forceB_eq, ltZ_eq] at H; exact ⟨_, bin_gtr, H⟩
  · rw [forceB_eq, leZ_eq] at H; exact ⟨_, bin_geq, H⟩
  · rw [forceB_eq, eqZ_eq] at H; exact ⟨_, bin_eql, H⟩
  · refine ⟨_, bin_neq, ?_⟩
    rw [← eqZ_eq]
    cases hb : eqZ x y <;> rw [hb] at H <;> exact H
  · exact optK_inv H
theorem binK_inv {P : Program} {op : BinOp} {t : TypeId} {ox oy : Operand} {a b : C} {k : C → Option R} {r : R} (H : binK P op t ox oy a b k = some r) : ∃ c, binC P op t ox oy a b = some c ∧ k c = some r := by
  unfold binK z64K at H
  split at H
  · split at H
    · exact fastK_inv H
    · exact optK_inv H
  · exact optK_inv H
def natK (c : C) (k : Nat → Option R) : Option R := match c with
  | .v (.int _ z) => @Int.rec (fun _ => Option R) k (fun _ => none) z
  | _ => none
theorem natK_inv {c : C} {k : Nat → Option R} {r : R} (H : natK c k = some r) : ∃ j n, c = .v (.int j (Int.ofNat n)) ∧ k n = some r := by
  unfold natK at H
  split at H
  · rename_i j z
    cases z with
    | ofNat n => exact ⟨j, n, rfl, H⟩
    | negSucc n => cases H
  · cases H
def msK (h : H) (s : Nat) (z : List C) (a b : C) (k : C → H → Option R) : Option R :=
  natK a fun n => natK b fun c => ifK (Nat.ble n c) (ifK (Nat.ble c 68719476736) (repK c z fun cs => newK h (.row s cs) fun l h => k (.os l 0 n (some c)) h))
def fshiftK (off : Nat) (p : C) (k : C → Option R) : Option R := match p with
  | .op l o => forceN (Nat.add o off) fun o => k (.op l o)
  | .fp xs => dropK off xs fun ys => k (.fp ys)
  | _ => none
theorem fshiftK_inv {off : Nat} {p : C} {k : C → Option R} {r : R} (H : fshiftK off p k = some r) : ∃ c, shiftC p off = some c ∧ k c = some r := by
  unfold fshiftK at H
  split at H
  · rw [forceN_eq] at H; exact ⟨_, rfl, H⟩
  · rw [dropK_eq] at H; exact ⟨_, rfl, H⟩
  · cases H
def ixK (s : Nat) (x i : C) (k : C → Option R) : Option R := natK i fun n => match x with
  | .os l off len _ => ifK (Nat.ble (Nat.succ n) len) (forceN (Nat.add off (Nat.mul n s)) fun o => k (.op l o))
  | .fs xs len _ => ifK (Nat.ble (Nat.succ n) len) (dropK (Nat.mul n s) xs fun ys => k (.fp ys))
  | _ => none
theorem ixK_inv {P : Program} {t e : TypeId} {s : Nat} (hu : sliceE P t = some e) (hs : sz P e = some s) {x i : C} {k : C → Option R} {r : R} (H : ixK s x i k = some r) : ∃ c, indexAddrC P t x i = some c ∧ k c = some r := by
  unfold ixK at H
  obtain ⟨j, n, rfl, H⟩ := natK_inv H
  rw [index_fact hu hs]
  split at H
  · rename_i l off len cap _
    obtain ⟨h1, h2⟩ := ifK_inv H
    have := Nat.le_of_ble_eq_true h1
    rw [forceN_eq] at h2
    refine ⟨_, ?_, h2⟩
    simp only [idxC]
    rw [if_pos ⟨Int.natCast_nonneg n, by show (n : Int) < len; omega⟩]; rfl
  · rename_i xs len cap _
    obtain ⟨h1, h2⟩ := ifK_inv H
    have := Nat.le_of_ble_eq_true h1
    rw [dropK_eq] at h2
    refine ⟨_, ?_, h2⟩
    simp only [idxC]
    rw [if_pos ⟨Int.natCast_nonneg n, by show (n : Int) < len; omega⟩]; rfl
  · cases H
def ixaK (len s : Nat) (x i : C) (k : C → Option R) : Option R := natK i fun n => ifK (Nat.ble (Nat.succ n) len) (match x with
  | .op l off => forceN (Nat.add off (Nat.mul n s)) fun o => k (.op l o)
  | .fp xs => dropK (Nat.mul n s) xs fun ys => k (.fp ys)
  | _ => none)
theorem ixaK_inv {P : Program} {t e : TypeId} {len s : Nat} (hu : P.underlying t = some (.array len e)) (hs : sz P e = some s) {x i : C} {k : C → Option R} {r : R} (H : ixaK len s x i k = some r) : ∃ c, indexAddrC P t x i = some c ∧ k c = some r := by
  unfold ixaK at H
  obtain ⟨j, n, rfl, H⟩ := natK_inv H
  obtain ⟨h1, H⟩ := ifK_inv H
  have := Nat.le_of_ble_eq_true h1
  have hc : (0 : Int) ≤ Int.ofNat n ∧ Int.ofNat n < (len : Int) := ⟨Int.natCast_nonneg n, by show (n : Int) < len; omega⟩
  simp only [indexAddrC, intOf, Option.bind_eq_bind, Option.bind_some, hu, hs]
  split at H
  · rw [forceN_eq] at H
    exact ⟨_, by simp only; rw [if_pos hc]; rfl, H⟩
  · rw [dropK_eq] at H
    exact ⟨_, by simp only; rw [if_pos hc]; rfl, H⟩
  · cases H
def lenK (x : C) (k : C → Option R) : Option R := match x with
  | .os _ _ len _ => k (.v (.int .i64 (Int.ofNat len)))
  | .fs _ len _ => k (.v (.int .i64 (Int.ofNat len)))
  | .v (.slice none 0 0) => k (.v (.int .i64 (Int.ofNat 0)))
  | _ => none
theorem lenK_inv {x : C} {k : C → Option R} {r : R} (H : lenK x k = some r) : ∃ c, lenS x = some c ∧ k c = some r := by
  unfold lenK at H
  split at H
  · exact ⟨_, rfl, H⟩
  · exact ⟨_, rfl, H⟩
  · exact ⟨_, rfl, H⟩
  · cases H
def lensK (x : C) (k : C → Option R) : Option R := match x with
  | .v (.string s) => forceN s.size fun n => k (.v (.int .i64 (Int.ofNat n)))
  | _ => none
def extK (x : C) (i : Nat) (k : C → Option R) : Option R := match x with
  | .tup cs => nthK i cs k
  | _ => none
theorem extK_inv {x : C} {i : Nat} {k : C → Option R} {r : R} (H : extK x i k = some r) : ∃ c, tupAt x i = some c ∧ k c = some r := by
  unfold extK at H
  split at H
  · obtain ⟨c, h1, h2⟩ := nthK_inv H
    exact ⟨c, by rw [← h1, List.head?_drop]; rfl, h2⟩
  · cases H
def fiK (off : Nat) (x : C) (k : C → Option R) : Option R := match x with
  | .agg cs => nthK off cs k
  | _ => none
def fiaK (off n : Nat) (x : C) (k : C → Option R) : Option R := match x with
  | .agg cs => dropK off cs fun ys => takeK n ys fun zs => k (.agg zs)
  | _ => none
def srcK (h : H) (s : Nat) (x : C) (k : Nat → List C → Option R) : Option R := match x with
  | .v (.slice none 0 0) => k 0 []
  | .os l off len _ => rowK h l fun _ cs => dropK off cs fun ys => takeK (Nat.mul len s) ys (k len)
  | .fs xs len _ => takeK (Nat.mul len s) xs (k len)
  | _ => none
theorem srcK_inv {h : H} {hp : Heap} (hr : RepH h hp) {s : Nat} {x : C} {k : Nat → List C → Option R} {r : R} (H : srcK h s x k = some r) : ∃ n ys, srcOf hp s x = some (n, ys) ∧ ys.length = n * s ∧ k n ys = some r := by
  unfold srcK at H
  split at H
  · exact ⟨0, [], rfl, by simp, H⟩
  · rename_i l off len cap
    obtain ⟨e, cs, h1, h2⟩ := rowK_inv hr H
    rw [dropK_eq] at h2
    obtain ⟨h3, h4⟩ := takeK_inv h2
    have h3' : len * s ≤ (cs.drop off).length := h3
    refine ⟨len, _, ?_, ?_, h4⟩
    · simp only [srcOf, h1, takeN]; rw [if_pos h3']; rfl
    · rw [List.length_take]; exact Nat.min_eq_left h3
  · rename_i xs len cap
    obtain ⟨h3, h4⟩ := takeK_inv H
    have h3' : len * s ≤ xs.length := h3
    refine ⟨len, _, ?_, ?_, h4⟩
    · simp only [srcOf, takeN]; rw [if_pos h3']; rfl
    · rw [List.length_take]; exact Nat.min_eq_left h3
  · cases H
def lenN {α : Type} (xs : List α) : Nat := @List.rec α (fun _ => Nat) 0 (fun _ _ ih => Nat.succ ih) xs
theorem lenN_eq {α : Type} : ∀ (xs : List α), lenN xs = xs.length
  | [] => rfl
  | x :: xs => congrArg Nat.succ (lenN_eq xs)
def rowNewK (h : H) (s n : Nat) (cs : List C) (k : C → H → Option R) : Option R := newK h (.row s cs) fun l h => k (.os l 0 n none) h
theorem rowNewK_inv {h : H} {hp : Heap} (hr : RepH h hp) {s n : Nat} {cs : List C} {k : C → H → Option R} {r : R} (H : rowNewK h s n cs k = some r) : ∃ h', RepH h' (newRow hp none s n cs).2 ∧ k (newRow hp none s n cs).1 h' = some r := newK_inv hr H
def apK (h : H) (s n : Nat) (ys : List C) (d : C) (k : C → H → Option R) : Option R := match d with
  | .v (.slice none 0 0) => @Nat.rec (fun _ => Option R) (k d h) (fun _ _ => ifK (Nat.ble n 68719476736) (rowNewK h s n ys k)) n
  | .os a off len cap => rowK h a fun e cs => ifK (Nat.beq e s) (forceN (Nat.add len n) fun tot => ifK (Nat.ble tot 68719476736) (
      @Option.rec Nat (fun _ => Option R)
        (@Nat.rec (fun _ => Option R) (k d h) (fun _ _ => forceN (lenN cs) fun m => @Bool.rec (fun _ => Option R)
          (ifK (Nat.beq (Nat.add off (Nat.mul len s)) m) (storeK h a .dead fun h => dropK off cs fun zs => appK zs ys fun zs => rowNewK h s tot zs k))
          (putK (Nat.add off (Nat.mul len s)) ys cs fun zs => storeK h a (.row s zs) fun h => k (.os a off tot none) h)
          (Nat.ble (Nat.add off (Nat.mul tot s)) m)) n)
        (fun c => @Bool.rec (fun _ => Option R)
          (dropK off cs fun zs => takeK (Nat.mul len s) zs fun old => appK old ys fun zs => rowNewK h s tot zs k)
          (putK (Nat.add off (Nat.mul len s)) ys cs fun zs => storeK h a (.row s zs) fun h => k (.os a off tot (some c)) h)
          (Nat.ble tot c)) cap))
  | .fs xs len cap => @Nat.rec (fun _ => Option R) (k d h) (fun _ _ => @Option.rec Nat (fun _ => Option R) none (fun c => ifK (Nat.ble (Nat.succ c) (Nat.add len n)) (ifK (Nat.ble (Nat.add len n) 68719476736) (takeK (Nat.mul len s) xs fun old => appK old ys fun zs => forceN (Nat.add len n) fun tot => rowNewK h s tot zs k))) cap) n
  | _ => none
theorem apK_inv {h : H} {hp : Heap} (hr : RepH h hp) {s n : Nat} {ys : List C} (hy : ys.length = n * s) {d : C} {k : C → H → Option R} {r : R} (H : apK h s n ys d k = some r) : ∃ c h' hp', appendTo hp none s n ys d = some (c, hp') ∧ RepH h' hp' ∧ k c h' = some r := by
  have mr : maxRow = 68719476736 := by decide
  unfold apK at H
  split at H
  · cases n with
    | zero => exact ⟨_, h, hp, rfl, hr, H⟩
    | succ n =>
      obtain ⟨h1, h2⟩ := ifK_inv H
      obtain ⟨h', h3, h4⟩ := rowNewK_inv hr h2
      have := Nat.le_of_ble_eq_true h1
      refine ⟨_, h', _, ?_, h3, h4⟩
      simp only [appendTo]
      rw [if_neg (by omega), if_pos (by omega)]
  · rename_i a off len cap
    obtain ⟨e, cs, h1, h2⟩ := rowK_inv hr H
    obtain ⟨h3, h4⟩ := ifK_inv h2
    obtain rfl := Nat.eq_of_beq_eq_true h3
    rw [forceN_eq] at h4
    obtain ⟨h5, h6⟩ := ifK_inv h4
    have h5' : len + n ≤ maxRow := by have := Nat.le_of_ble_eq_true h5; rw [mr]; exact this
    have e1 : off + (len + n) * e = off + len * e + ys.length := by rw [hy, Nat.add_mul]; omega
    simp only [appendTo, h1]
    rw [if_pos ⟨trivial, h5'⟩]
    cases cap with
    | none =>
      cases n with
      | zero => exact ⟨_, h, hp, by simp, hr, h6⟩
      | succ n =>
        have h6' : forceN (lenN cs) (fun m => @Bool.rec (fun _ => Option R)
          (ifK (Nat.beq (off + len * e) m) (storeK h a .dead fun h => dropK off cs fun zs => appK zs ys fun zs => rowNewK h e (len + (n + 1)) zs k))
          (putK (off + len * e) ys cs fun zs => storeK h a (.row e zs) fun h => k (.os a off (len + (n + 1)) none) h)
          (Nat.ble (off + (len + (n + 1)) * e) m)) = some r := h6
        rw [forceN_eq, lenN_eq] at h6'
        simp only
        rw [if_neg (by omega)]
        cases hb : Nat.ble (off + (len + (n + 1)) * e) cs.length with
        | true =>
          rw [hb] at h6'
          obtain ⟨h7, h8⟩ := putK_inv h6'
          obtain ⟨h', h9, h10⟩ := storeK_inv hr h8
          exact ⟨_, h', _, by rw [if_pos (Nat.le_of_ble_eq_true hb)], h9, h10⟩
        | false =>
          rw [hb] at h6'
          obtain ⟨h7, h8⟩ := ifK_inv h6'
          obtain ⟨h1', h9, h10⟩ := storeK_inv hr h8
          rw [dropK_eq, appK_eq] at h10
          obtain ⟨h', h11, h12⟩ := rowNewK_inv h9 h10
          exact ⟨_, h', _, by rw [if_neg (fun q => by rw [Nat.ble_eq_true_of_le q] at hb; cases hb), if_pos (Nat.eq_of_beq_eq_true h7)], h11, h12⟩
    | some c =>
      have h6' : @Bool.rec (fun _ => Option R)
          (dropK off cs fun zs => takeK (len * e) zs fun old => appK old ys fun zs => rowNewK h e (len + n) zs k)
          (putK (off + len * e) ys cs fun zs => storeK h a (.row e zs) fun h => k (.os a off (len + n) (some c)) h)
          (Nat.ble (len + n) c) = some r := h6
      simp only
      cases hb : Nat.ble (len + n) c with
      | true =>
        rw [hb] at h6'
        obtain ⟨h7, h8⟩ := putK_inv h6'
        obtain ⟨h', h9, h10⟩ := storeK_inv hr h8
        exact ⟨_, h', _, by rw [if_pos (Nat.le_of_ble_eq_true hb), if_pos (by omega)], h9, h10⟩
      | false =>
        rw [hb] at h6'
        have h6'' : (dropK off cs fun zs => takeK (len * e) zs fun old => appK old ys fun zs => rowNewK h e (len + n) zs k) = some r := h6'
        rw [dropK_eq] at h6''
        obtain ⟨h7, h8⟩ := takeK_inv h6''
        rw [appK_eq] at h8
        obtain ⟨h', h11, h12⟩ := rowNewK_inv hr h8
        refine ⟨_, h', _, ?_, h11, h12⟩
        rw [if_neg (fun q => by rw [Nat.ble_eq_true_of_le q] at hb; cases hb)]
        simp only [takeN]
        rw [if_pos h7]
  · rename_i xs len cap
    cases n with
    | zero => exact ⟨_, h, hp, by simp [appendTo], hr, H⟩
    | succ n =>
      cases cap with
      | none => cases H
      | some c =>
        have H' : ifK (Nat.ble (Nat.succ c) (len + (n + 1))) (ifK (Nat.ble (len + (n + 1)) 68719476736) (takeK (len * s) xs fun old => appK old ys fun zs => forceN (len + (n + 1)) fun tot => rowNewK h s tot zs k)) = some r := H
        obtain ⟨h1, h2⟩ := ifK_inv H'
        obtain ⟨h3, h4⟩ := ifK_inv h2
        obtain ⟨h5, h6⟩ := takeK_inv h4
        rw [appK_eq, forceN_eq] at h6
        obtain ⟨h', h7, h8⟩ := rowNewK_inv hr h6
        refine ⟨_, h', _, ?_, h7, h8⟩
        have a1 := Nat.le_of_ble_eq_true h1
        have a2 := Nat.le_of_ble_eq_true h3
        simp only [appendTo]
        rw [if_neg (by omega), if_pos ⟨by omega, by rw [mr]; exact a2⟩]
        simp only [takeN]
        rw [if_pos h5]
  · cases H
end
end
end Go.Tm.Q
