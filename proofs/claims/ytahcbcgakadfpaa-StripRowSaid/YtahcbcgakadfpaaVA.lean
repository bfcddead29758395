import Derived.Test.YtahcbcgakadfpaaUB
set_option linter.unusedVariables false
/-! The swift machine: the quick machine with values that the kernel takes apart in one step, and slots in place of a list of tmps. -/
namespace Go.Tm.V
open Go.Tm.Q (ifK ifK_inv forceN forceN_eq forceZ forceZ_eq forceB forceB_eq optK optK_inv dropK dropK_eq nthK nthK_inv takeK takeK_inv appK appK_eq overK overK_inv wrapZ wrapZ_eq addZ addZ_eq subZ subZ_eq ltZ ltZ_eq leZ leZ_eq eqZ eqZ_eq lenN lenN_eq forceO forceO_eq)
noncomputable section
/-! ### Values -/
inductive W where
  | z (n : Int)
  | b (x : Bool)
  | v (x : Value)
  | fs (xs : List W) (len : Nat) (cap : Option Nat)
  | fp (xs : List W)
  | os (l off len : Nat) (cap : Option Nat)
  | op (l off : Nat)
  | om (l : Nat)
  | fn (f : FuncId) (caps : List W)
  | ag (cs : List W)
  | tu (cs : List W)
mutual
def W.c : W → C
  | .z n => .v (.int .i64 n)
  | .b x => .v (.bool x)
  | .v x => .v x
  | .fs xs l k => .fs (cL xs) l k
  | .fp xs => .fp (cL xs)
  | .os l o n k => .os l o n k
  | .op l o => .op l o
  | .om l => .om l
  | .fn f xs => .fn f (cL xs)
  | .ag xs => .agg (cL xs)
  | .tu xs => .tup (cL xs)
def cL : List W → List C
  | [] => []
  | x :: xs => x.c :: cL xs
end
theorem cL_map : ∀ (xs : List W), cL xs = xs.map W.c
  | [] => by simp [cL]
  | x :: xs => by rw [cL, cL_map xs]; rfl
theorem cL_append (xs ys : List W) : cL (xs ++ ys) = cL xs ++ cL ys := by simp [cL_map]
theorem cL_drop (n : Nat) (xs : List W) : cL (xs.drop n) = (cL xs).drop n := by simp [cL_map, List.map_drop]
theorem cL_take (n : Nat) (xs : List W) : cL (xs.take n) = (cL xs).take n := by simp [cL_map, List.map_take]
theorem cL_len (xs : List W) : (cL xs).length = xs.length := by simp [cL_map]
theorem cL_nil : cL [] = [] := by simp [cL]
theorem cL_cons (x : W) (xs : List W) : cL (x :: xs) = x.c :: cL xs := by simp [cL]
theorem head_c {xs : List W} {w : W} (h : xs.head? = some w) : (cL xs).head? = some w.c := by
  cases xs with
  | nil => cases h
  | cons x xs => simp at h; subst h; simp [cL]

/-! A value out of the tree machine -/
mutual
def ofC : C → W
  | .v x => match x with
    | .int .i64 n => .z n
    | .bool b => .b b
    | x => .v x
  | .fs xs l k => .fs (ofL xs) l k
  | .fp xs => .fp (ofL xs)
  | .os l o n k => .os l o n k
  | .op l o => .op l o
  | .om l => .om l
  | .fn f xs => .fn f (ofL xs)
  | .agg xs => .ag (ofL xs)
  | .tup xs => .tu (ofL xs)
def ofL : List C → List W
  | [] => []
  | x :: xs => ofC x :: ofL xs
end
mutual
theorem c_ofC : ∀ (c : C), (ofC c).c = c
  | .v x => by
    unfold ofC
    split <;> simp [W.c]
  | .fs xs l k => by simp only [ofC, W.c, c_ofL xs]
  | .fp xs => by simp only [ofC, W.c, c_ofL xs]
  | .os l o n k => by simp only [ofC, W.c]
  | .op l o => by simp only [ofC, W.c]
  | .om l => by simp only [ofC, W.c]
  | .fn f xs => by simp only [ofC, W.c, c_ofL xs]
  | .agg xs => by simp only [ofC, W.c, c_ofL xs]
  | .tup xs => by simp only [ofC, W.c, c_ofL xs]
theorem c_ofL : ∀ (xs : List C), cL (ofL xs) = xs
  | [] => by simp [ofL, cL]
  | x :: xs => by simp only [ofL, cL, c_ofC x, c_ofL xs]
end
section
variable {R : Type}
def putK (off : Nat) (ys cs : List W) (k : List W → Option R) : Option R :=
  @Nat.rec (fun _ => List W → (List W → Option R) → Option R) (overK ys) (fun _ ih cs k => @List.rec W (fun _ => Option R) none (fun c r _ => ih r fun zs => k (c :: zs)) cs) off cs k
theorem putK_inv {r : R} {ys : List W} : ∀ {off : Nat} {cs : List W} {k : List W → Option R}, putK off ys cs k = some r → off + ys.length ≤ cs.length ∧ ∃ zs, cL zs = put (cL cs) off (cL ys) ∧ k zs = some r
  | 0, cs, k, H => by
    obtain ⟨h1, h2⟩ := overK_inv H
    exact ⟨by omega, _, by simp [put, cL_append, cL_drop, cL_len], h2⟩
  | off + 1, [], k, H => by cases H
  | off + 1, c :: cs, k, H => by
    obtain ⟨h1, zs, h2, h3⟩ := putK_inv (off := off) (cs := cs) (k := fun zs => k (c :: zs)) H
    refine ⟨by simp; omega, c :: zs, ?_, h3⟩
    rw [cL_cons, h2]
    simp [put, cL_cons, Nat.add_right_comm off 1]
def repK (n : Nat) (z : List W) (k : List W → Option R) : Option R :=
  @Nat.rec (fun _ => (List W → Option R) → Option R) (fun k => k []) (fun _ ih k => ih fun zs => appK z zs k) n k
theorem repK_inv {z : List W} {r : R} : ∀ {n : Nat} {k : List W → Option R}, repK n z k = some r → ∃ zs, cL zs = rep n (cL z) ∧ k zs = some r
  | 0, k, H => ⟨[], by simp [cL_nil, rep], H⟩
  | n + 1, k, H => by
    obtain ⟨zs, h1, h2⟩ := repK_inv (n := n) (k := fun zs => appK z zs k) H
    rw [appK_eq] at h2
    exact ⟨_, by rw [cL_append, h1]; simp [rep, List.replicate_succ], h2⟩
end
/-! ### The heap -/
inductive N where
  | dead
  | row (esz : Nat) (cells : List W)
  | map (es : Array MapEntry) (clock : Nat)
def N.node : N → Node
  | .dead => .dead
  | .row e cs => .row e (cL cs)
  | .map es k => .map es k

inductive T where
  | e
  | n (v : N) (a b c d : T)
def T.get : T → Nat → Option N
  | .e, _ => none
  | .n v _ _ _ _, 0 => some v
  | .n _ a b c d, i + 1 => match i % 4 with
    | 0 => a.get (i / 4)
    | 1 => b.get (i / 4)
    | 2 => c.get (i / 4)
    | _ => d.get (i / 4)
def T.sub (a b c d : T) : Nat → T
  | 0 => a
  | 1 => b
  | 2 => c
  | _ => d
theorem mod4 (i : Nat) : i % 4 = 0 ∨ i % 4 = 1 ∨ i % 4 = 2 ∨ i % 4 = 3 := by omega
theorem T.get_succ {v : N} {a b c d : T} {i : Nat} : T.get (.n v a b c d) (i + 1) = (T.sub a b c d (i % 4)).get (i / 4) := by
  rcases mod4 i with h | h | h | h <;> simp only [T.get, h, T.sub]
section
variable {R : Type}
def pick4 (m : Nat) (a b c d : Option R) : Option R := @Nat.rec (fun _ => Option R) a (fun m _ => @Nat.rec (fun _ => Option R) b (fun m _ => @Nat.rec (fun _ => Option R) c (fun _ _ => d) m) m) m
def getK (t : T) (i : Nat) (k : N → Option R) : Option R :=
  @T.rec (fun _ => Nat → Option R) (fun _ => none) (fun v _ _ _ _ iha ihb ihc ihd i => @Nat.rec (fun _ => Option R) (k v) (fun m _ => @Nat.rec (fun _ => Option R) (iha (Nat.div m 4)) (fun s _ => @Nat.rec (fun _ => Option R) (ihb (Nat.div m 4)) (fun s _ => @Nat.rec (fun _ => Option R) (ihc (Nat.div m 4)) (fun _ _ => ihd (Nat.div m 4)) s) s) (Nat.mod m 4)) i) t i
theorem getK_inv {k : N → Option R} {r : R} : ∀ {t : T} {i : Nat}, getK t i k = some r → ∃ v, t.get i = some v ∧ k v = some r
  | .e, i, H => by cases H
  | .n v a b c d, 0, H => ⟨v, rfl, H⟩
  | .n v a b c d, i + 1, H => by
    have H' : pick4 (i % 4) (getK a (i / 4) k) (getK b (i / 4) k) (getK c (i / 4) k) (getK d (i / 4) k) = some r := H
    rw [T.get_succ]
    rcases mod4 i with h | h | h | h <;> rw [h] at H' ⊢
    · exact getK_inv (t := a) H'
    · exact getK_inv (t := b) H'
    · exact getK_inv (t := c) H'
    · exact getK_inv (t := d) H'
def setK (t : T) (i : Nat) (x : N) (k : T → Option R) : Option R :=
  @T.rec (fun _ => Nat → (T → Option R) → Option R) (fun _ _ => none) (fun v a b c d iha ihb ihc ihd i k => @Nat.rec (fun _ => Option R) (k (.n x a b c d)) (fun m _ => @Nat.rec (fun _ => Option R) (iha (Nat.div m 4) fun q => k (.n v q b c d)) (fun s _ => @Nat.rec (fun _ => Option R) (ihb (Nat.div m 4) fun q => k (.n v a q c d)) (fun s _ => @Nat.rec (fun _ => Option R) (ihc (Nat.div m 4) fun q => k (.n v a b q d)) (fun _ _ => ihd (Nat.div m 4) fun q => k (.n v a b c q)) s) s) (Nat.mod m 4)) i) t i k
theorem setK_inv {x : N} {r : R} : ∀ {t : T} {i : Nat} {k : T → Option R}, setK t i x k = some r → ∃ t', k t' = some r ∧ (t.get i).isSome = true ∧ ∀ j, t'.get j = if j = i then some x else t.get j
  | .e, i, k, H => by cases H
  | .n v a b c d, 0, k, H => ⟨_, H, rfl, fun j => by cases j <;> simp [T.get, T.get_succ]⟩
  | .n v a b c d, i + 1, k, H => by
    have H' : pick4 (i % 4) (setK a (i / 4) x fun q => k (.n v q b c d)) (setK b (i / 4) x fun q => k (.n v a q c d)) (setK c (i / 4) x fun q => k (.n v a b q d)) (setK d (i / 4) x fun q => k (.n v a b c q)) = some r := H
    rw [T.get_succ]
    rcases mod4 i with h | h | h | h <;> rw [h] at H' ⊢
    · obtain ⟨q, h1, h2, h3⟩ := setK_inv (t := a) H'
      refine ⟨_, h1, h2, fun j => ?_⟩
      cases j with
      | zero => simp [T.get]
      | succ j =>
        simp only [T.get_succ]
        rcases mod4 j with e | e | e | e <;> simp only [e, T.sub] <;> first | (rw [if_neg (by omega)]; done) | (rw [h3 (j / 4)]; by_cases q : j / 4 = i / 4; (rw [if_pos q, if_pos (by omega)]); (rw [if_neg q, if_neg (by omega)]))
    · obtain ⟨q, h1, h2, h3⟩ := setK_inv (t := b) H'
      refine ⟨_, h1, h2, fun j => ?_⟩
      cases j with
      | zero => simp [T.get]
      | succ j =>
        simp only [T.get_succ]
        rcases mod4 j with e | e | e | e <;> simp only [e, T.sub] <;> first | (rw [if_neg (by omega)]; done) | (rw [h3 (j / 4)]; by_cases q : j / 4 = i / 4; (rw [if_pos q, if_pos (by omega)]); (rw [if_neg q, if_neg (by omega)]))
    · obtain ⟨q, h1, h2, h3⟩ := setK_inv (t := c) H'
      refine ⟨_, h1, h2, fun j => ?_⟩
      cases j with
      | zero => simp [T.get]
      | succ j =>
        simp only [T.get_succ]
        rcases mod4 j with e | e | e | e <;> simp only [e, T.sub] <;> first | (rw [if_neg (by omega)]; done) | (rw [h3 (j / 4)]; by_cases q : j / 4 = i / 4; (rw [if_pos q, if_pos (by omega)]); (rw [if_neg q, if_neg (by omega)]))
    · obtain ⟨q, h1, h2, h3⟩ := setK_inv (t := d) H'
      refine ⟨_, h1, h2, fun j => ?_⟩
      cases j with
      | zero => simp [T.get]
      | succ j =>
        simp only [T.get_succ]
        rcases mod4 j with e | e | e | e <;> simp only [e, T.sub] <;> first | (rw [if_neg (by omega)]; done) | (rw [h3 (j / 4)]; by_cases q : j / 4 = i / 4; (rw [if_pos q, if_pos (by omega)]); (rw [if_neg q, if_neg (by omega)]))
def pushK (t : T) (i : Nat) (x : N) (k : T → Option R) : Option R :=
  @T.rec (fun _ => Nat → (T → Option R) → Option R) (fun i k => ifK (Nat.beq i 0) (k (.n x .e .e .e .e))) (fun v a b c d iha ihb ihc ihd i k => @Nat.rec (fun _ => Option R) none (fun m _ => @Nat.rec (fun _ => Option R) (iha (Nat.div m 4) fun q => k (.n v q b c d)) (fun s _ => @Nat.rec (fun _ => Option R) (ihb (Nat.div m 4) fun q => k (.n v a q c d)) (fun s _ => @Nat.rec (fun _ => Option R) (ihc (Nat.div m 4) fun q => k (.n v a b q d)) (fun _ _ => ihd (Nat.div m 4) fun q => k (.n v a b c q)) s) s) (Nat.mod m 4)) i) t i k
theorem pushK_inv {x : N} {r : R} : ∀ {t : T} {i : Nat} {k : T → Option R}, pushK t i x k = some r → ∃ t', k t' = some r ∧ ∀ j, t'.get j = if j = i then some x else t.get j
  | .e, i, k, H => by
    obtain ⟨h1, h2⟩ := ifK_inv H
    obtain rfl := Nat.eq_of_beq_eq_true h1
    refine ⟨_, h2, fun j => ?_⟩
    cases j with
    | zero => simp [T.get]
    | succ j => rw [T.get_succ]; rcases mod4 j with e | e | e | e <;> simp [e, T.sub, T.get]
  | .n v a b c d, 0, k, H => by cases H
  | .n v a b c d, i + 1, k, H => by
    have H' : pick4 (i % 4) (pushK a (i / 4) x fun q => k (.n v q b c d)) (pushK b (i / 4) x fun q => k (.n v a q c d)) (pushK c (i / 4) x fun q => k (.n v a b q d)) (pushK d (i / 4) x fun q => k (.n v a b c q)) = some r := H
    rcases mod4 i with h | h | h | h <;> rw [h] at H'
    · obtain ⟨q, h1, h3⟩ := pushK_inv (t := a) H'
      refine ⟨_, h1, fun j => ?_⟩
      cases j with
      | zero => simp [T.get]
      | succ j =>
        simp only [T.get_succ]
        rcases mod4 j with e | e | e | e <;> simp only [e, T.sub] <;> first | (rw [if_neg (by omega)]; done) | (rw [h3 (j / 4)]; by_cases q : j / 4 = i / 4; (rw [if_pos q, if_pos (by omega)]); (rw [if_neg q, if_neg (by omega)]))
    · obtain ⟨q, h1, h3⟩ := pushK_inv (t := b) H'
      refine ⟨_, h1, fun j => ?_⟩
      cases j with
      | zero => simp [T.get]
      | succ j =>
        simp only [T.get_succ]
        rcases mod4 j with e | e | e | e <;> simp only [e, T.sub] <;> first | (rw [if_neg (by omega)]; done) | (rw [h3 (j / 4)]; by_cases q : j / 4 = i / 4; (rw [if_pos q, if_pos (by omega)]); (rw [if_neg q, if_neg (by omega)]))
    · obtain ⟨q, h1, h3⟩ := pushK_inv (t := c) H'
      refine ⟨_, h1, fun j => ?_⟩
      cases j with
      | zero => simp [T.get]
      | succ j =>
        simp only [T.get_succ]
        rcases mod4 j with e | e | e | e <;> simp only [e, T.sub] <;> first | (rw [if_neg (by omega)]; done) | (rw [h3 (j / 4)]; by_cases q : j / 4 = i / 4; (rw [if_pos q, if_pos (by omega)]); (rw [if_neg q, if_neg (by omega)]))
    · obtain ⟨q, h1, h3⟩ := pushK_inv (t := d) H'
      refine ⟨_, h1, fun j => ?_⟩
      cases j with
      | zero => simp [T.get]
      | succ j =>
        simp only [T.get_succ]
        rcases mod4 j with e | e | e | e <;> simp only [e, T.sub] <;> first | (rw [if_neg (by omega)]; done) | (rw [h3 (j / 4)]; by_cases q : j / 4 = i / 4; (rw [if_pos q, if_pos (by omega)]); (rw [if_neg q, if_neg (by omega)]))
end
/-- The heap: how many nodes, and which. -/
inductive H where
  | h (n : Nat) (t : T)
structure Rep (n : Nat) (t : T) (hp : Heap) : Prop where
  len : n = hp.length
  get : ∀ i, (t.get i).map N.node = hp[i]?
theorem Rep.nil : Rep 0 .e [] := ⟨rfl, fun i => by simp [T.get]⟩
theorem Rep.set {n : Nat} {t t' : T} {hp : Heap} (r : Rep n t hp) {i : Nat} {x : N} (h : ∀ j, t'.get j = if j = i then some x else t.get j) (hi : (t.get i).isSome = true) : Rep n t' (hp.set i x.node) := by
  refine ⟨by simp [r.len], fun j => ?_⟩
  rw [h j]
  have hlt : i < hp.length := by
    rw [Option.isSome_iff_exists] at hi
    obtain ⟨y, hy⟩ := hi
    have := r.get i
    rw [hy] at this
    exact (List.getElem?_eq_some_iff.1 this.symm).1
  by_cases e : j = i
  · subst e; rw [if_pos rfl, List.getElem?_set_self hlt]; rfl
  · rw [if_neg e, List.getElem?_set_ne (Ne.symm e)]; exact r.get j
theorem Rep.push {n : Nat} {t t' : T} {hp : Heap} (r : Rep n t hp) {x : N} (h : ∀ j, t'.get j = if j = n then some x else t.get j) : Rep (n + 1) t' (hp ++ [x.node]) := by
  refine ⟨by simp [r.len], fun j => ?_⟩
  rw [h j, r.len]
  by_cases e : j = hp.length
  · subst e; simp
  · rw [if_neg e, r.get j]
    rcases Nat.lt_or_ge j hp.length with hl | hl
    · rw [List.getElem?_append_left hl]
    · rw [List.getElem?_eq_none (by omega), List.getElem?_eq_none (by simp; omega)]
section
variable {R : Type}
def newK (h : H) (x : N) (k : Nat → H → Option R) : Option R :=
  @H.rec (fun _ => Option R) (fun n t => pushK t n x fun t' => forceN (Nat.succ n) fun m => k n (.h m t')) h
def RepH (h : H) (hp : Heap) : Prop := match h with | .h n t => Rep n t hp
theorem newK_inv {h : H} {hp : Heap} {x : N} {k : Nat → H → Option R} {r : R} (hr : RepH h hp) (H : newK h x k = some r) : ∃ h', RepH h' (hp ++ [x.node]) ∧ k hp.length h' = some r := by
  obtain ⟨n, t⟩ := h
  obtain ⟨t', h1, h2⟩ := pushK_inv H
  have e := hr.len
  subst e
  rw [forceN_eq] at h1
  exact ⟨.h (hp.length + 1) t', Rep.push hr h2, h1⟩
def rowK (h : H) (l : Nat) (k : Nat → List W → Option R) : Option R := @H.rec (fun _ => Option R) (fun _ t => getK t l fun nd => @N.rec (fun _ => Option R) none k (fun _ _ => none) nd) h
theorem rowK_inv {h : H} {hp : Heap} {l : Nat} {k : Nat → List W → Option R} {r : R} (hr : RepH h hp) (H : rowK h l k = some r) : ∃ e cs, hp[l]? = some (.row e (cL cs)) ∧ k e cs = some r := by
  obtain ⟨n, t⟩ := h
  obtain ⟨nd, h1, h2⟩ := getK_inv H
  have h3 := hr.get l
  rw [h1] at h3
  cases nd with
  | dead => cases h2
  | row e cs => exact ⟨e, cs, h3.symm, h2⟩
  | map es c => cases h2
def mapK (h : H) (l : Nat) (k : Array MapEntry → Nat → Option R) : Option R := @H.rec (fun _ => Option R) (fun _ t => getK t l fun nd => @N.rec (fun _ => Option R) none (fun _ _ => none) k nd) h
theorem mapK_inv {h : H} {hp : Heap} {l : Nat} {k : Array MapEntry → Nat → Option R} {r : R} (hr : RepH h hp) (H : mapK h l k = some r) : ∃ es c, hp[l]? = some (.map es c) ∧ k es c = some r := by
  obtain ⟨n, t⟩ := h
  obtain ⟨nd, h1, h2⟩ := getK_inv H
  have h3 := hr.get l
  rw [h1] at h3
  cases nd with
  | dead => cases h2
  | row e cs => cases h2
  | map es c => exact ⟨es, c, h3.symm, h2⟩
def storeK (h : H) (l : Nat) (x : N) (k : H → Option R) : Option R := @H.rec (fun _ => Option R) (fun n t => setK t l x fun t' => k (.h n t')) h
theorem storeK_inv {h : H} {hp : Heap} {l : Nat} {x : N} {k : H → Option R} {r : R} (hr : RepH h hp) (H : storeK h l x k = some r) : ∃ h', RepH h' (hp.set l x.node) ∧ k h' = some r := by
  obtain ⟨n, t⟩ := h
  obtain ⟨t', h1, h2, h3⟩ := setK_inv H
  exact ⟨.h n t', Rep.set hr h3 h2, h1⟩
end
/-! ### Slots -/
inductive S8 where
  | mk (a0 a1 a2 a3 a4 a5 a6 a7 : W)
abbrev RR := W × H
abbrev CallW := FuncId → List W → H → (W → H → Option RR) → Option RR
/-- What the code is run with: calls, fuel. -/
inductive Cx where
  | mk (ca : CallW) (nn : Nat)
def Cx.ca : Cx → CallW | .mk c _ => c
def Cx.nn : Cx → Nat | .mk _ n => n
inductive E where
  | mk (a b c : S8) (x : Cx)
def E.x : E → Cx | .mk _ _ _ x => x
def S8.get (s : S8) (i : Nat) : W := match s, i with
  | .mk a _ _ _ _ _ _ _, 0 => a
  | .mk _ a _ _ _ _ _ _, 1 => a
  | .mk _ _ a _ _ _ _ _, 2 => a
  | .mk _ _ _ a _ _ _ _, 3 => a
  | .mk _ _ _ _ a _ _ _, 4 => a
  | .mk _ _ _ _ _ a _ _, 5 => a
  | .mk _ _ _ _ _ _ a _, 6 => a
  | .mk _ _ _ _ _ _ _ a, _ => a
def E.get (e : E) (i : Nat) : W := match e with
  | .mk a b c _ => if i < 8 then a.get i else if i < 16 then b.get (i - 8) else c.get (i - 16)
abbrev Rd (R : Type) := E → (W → Option R) → Option R
abbrev Wr (R : Type) := W → E → (E → Option R) → Option R
section
variable {R : Type}
def r0 : Rd R := fun e k => @E.rec (fun _ => Option R) (fun a b c x => @S8.rec (fun _ => Option R) (fun a0 a1 a2 a3 a4 a5 a6 a7 => k a0) a) e
theorem r0_eq (e : E) (k : W → Option R) : r0 e k = k (e.get 0) := by obtain ⟨⟨_, _, _, _, _, _, _, _⟩, ⟨_, _, _, _, _, _, _, _⟩, ⟨_, _, _, _, _, _, _, _⟩, _⟩ := e; rfl
def w0 : Wr R := fun w e k => @E.rec (fun _ => Option R) (fun a b c x => @S8.rec (fun _ => Option R) (fun a0 a1 a2 a3 a4 a5 a6 a7 => k (.mk (.mk w a1 a2 a3 a4 a5 a6 a7) b c x)) a) e
def r1 : Rd R := fun e k => @E.rec (fun _ => Option R) (fun a b c x => @S8.rec (fun _ => Option R) (fun a0 a1 a2 a3 a4 a5 a6 a7 => k a1) a) e
theorem r1_eq (e : E) (k : W → Option R) : r1 e k = k (e.get 1) := by obtain ⟨⟨_, _, _, _, _, _, _, _⟩, ⟨_, _, _, _, _, _, _, _⟩, ⟨_, _, _, _, _, _, _, _⟩, _⟩ := e; rfl
def w1 : Wr R := fun w e k => @E.rec (fun _ => Option R) (fun a b c x => @S8.rec (fun _ => Option R) (fun a0 a1 a2 a3 a4 a5 a6 a7 => k (.mk (.mk a0 w a2 a3 a4 a5 a6 a7) b c x)) a) e
def r2 : Rd R := fun e k => @E.rec (fun _ => Option R) (fun a b c x => @S8.rec (fun _ => Option R) (fun a0 a1 a2 a3 a4 a5 a6 a7 => k a2) a) e
theorem r2_eq (e : E) (k : W → Option R) : r2 e k = k (e.get 2) := by obtain ⟨⟨_, _, _, _, _, _, _, _⟩, ⟨_, _, _, _, _, _, _, _⟩, ⟨_, _, _, _, _, _, _, _⟩, _⟩ := e; rfl
def w2 : Wr R := fun w e k => @E.rec (fun _ => Option R) (fun a b c x => @S8.rec (fun _ => Option R) (fun a0 a1 a2 a3 a4 a5 a6 a7 => k (.mk (.mk a0 a1 w a3 a4 a5 a6 a7) b c x)) a) e
def r3 : Rd R := fun e k => @E.rec (fun _ => Option R) (fun a b c x => @S8.rec (fun _ => Option R) (fun a0 a1 a2 a3 a4 a5 a6 a7 => k a3) a) e
theorem r3_eq (e : E) (k : W → Option R) : r3 e k = k (e.get 3) := by obtain ⟨⟨_, _, _, _, _, _, _, _⟩, ⟨_, _, _, _, _, _, _, _⟩, ⟨_, _, _, _, _, _, _, _⟩, _⟩ := e; rfl
def w3 : Wr R := fun w e k => @E.rec (fun _ => Option R) (fun a b c x => @S8.rec (fun _ => Option R) (fun a0 a1 a2 a3 a4 a5 a6 a7 => k (.mk (.mk a0 a1 a2 w a4 a5 a6 a7) b c x)) a) e
def r4 : Rd R := fun e k => @E.rec (fun _ => Option R) (fun a b c x => @S8.rec (fun _ => Option R) (fun a0 a1 a2 a3 a4 a5 a6 a7 => k a4) a) e
theorem r4_eq (e : E) (k : W → Option R) : r4 e k = k (e.get 4) := by obtain ⟨⟨_, _, _, _, _, _, _, _⟩, ⟨_, _, _, _, _, _, _, _⟩, ⟨_, _, _, _, _, _, _, _⟩, _⟩ := e; rfl
def w4 : Wr R := fun w e k => @E.rec (fun _ => Option R) (fun a b c x => @S8.rec (fun _ => Option R) (fun a0 a1 a2 a3 a4 a5 a6 a7 => k (.mk (.mk a0 a1 a2 a3 w a5 a6 a7) b c x)) a) e
def r5 : Rd R := fun e k => @E.rec (fun _ => Option R) (fun a b c x => @S8.rec (fun _ => Option R) (fun a0 a1 a2 a3 a4 a5 a6 a7 => k a5) a) e
theorem r5_eq (e : E) (k : W → Option R) : r5 e k = k (e.get 5) := by obtain ⟨⟨_, _, _, _, _, _, _, _⟩, ⟨_, _, _, _, _, _, _, _⟩, ⟨_, _, _, _, _, _, _, _⟩, _⟩ := e; rfl
def w5 : Wr R := fun w e k => @E.rec (fun _ => Option R) (fun a b c x => @S8.rec (fun _ => Option R) (fun a0 a1 a2 a3 a4 a5 a6 a7 => k (.mk (.mk a0 a1 a2 a3 a4 w a6 a7) b c x)) a) e
def r6 : Rd R := fun e k => @E.rec (fun _ => Option R) (fun a b c x => @S8.rec (fun _ => Option R) (fun a0 a1 a2 a3 a4 a5 a6 a7 => k a6) a) e
theorem r6_eq (e : E) (k : W → Option R) : r6 e k = k (e.get 6) := by obtain ⟨⟨_, _, _, _, _, _, _, _⟩, ⟨_, _, _, _, _, _, _, _⟩, ⟨_, _, _, _, _, _, _, _⟩, _⟩ := e; rfl
def w6 : Wr R := fun w e k => @E.rec (fun _ => Option R) (fun a b c x => @S8.rec (fun _ => Option R) (fun a0 a1 a2 a3 a4 a5 a6 a7 => k (.mk (.mk a0 a1 a2 a3 a4 a5 w a7) b c x)) a) e
def r7 : Rd R := fun e k => @E.rec (fun _ => Option R) (fun a b c x => @S8.rec (fun _ => Option R) (fun a0 a1 a2 a3 a4 a5 a6 a7 => k a7) a) e
theorem r7_eq (e : E) (k : W → Option R) : r7 e k = k (e.get 7) := by obtain ⟨⟨_, _, _, _, _, _, _, _⟩, ⟨_, _, _, _, _, _, _, _⟩, ⟨_, _, _, _, _, _, _, _⟩, _⟩ := e; rfl
def w7 : Wr R := fun w e k => @E.rec (fun _ => Option R) (fun a b c x => @S8.rec (fun _ => Option R) (fun a0 a1 a2 a3 a4 a5 a6 a7 => k (.mk (.mk a0 a1 a2 a3 a4 a5 a6 w) b c x)) a) e
def r8 : Rd R := fun e k => @E.rec (fun _ => Option R) (fun a b c x => @S8.rec (fun _ => Option R) (fun a0 a1 a2 a3 a4 a5 a6 a7 => k a0) b) e
theorem r8_eq (e : E) (k : W → Option R) : r8 e k = k (e.get 8) := by obtain ⟨⟨_, _, _, _, _, _, _, _⟩, ⟨_, _, _, _, _, _, _, _⟩, ⟨_, _, _, _, _, _, _, _⟩, _⟩ := e; rfl
def w8 : Wr R := fun w e k => @E.rec (fun _ => Option R) (fun a b c x => @S8.rec (fun _ => Option R) (fun a0 a1 a2 a3 a4 a5 a6 a7 => k (.mk a (.mk w a1 a2 a3 a4 a5 a6 a7) c x)) b) e
def r9 : Rd R := fun e k => @E.rec (fun _ => Option R) (fun a b c x => @S8.rec (fun _ => Option R) (fun a0 a1 a2 a3 a4 a5 a6 a7 => k a1) b) e
theorem r9_eq (e : E) (k : W → Option R) : r9 e k = k (e.get 9) := by obtain ⟨⟨_, _, _, _, _, _, _, _⟩, ⟨_, _, _, _, _, _, _, _⟩, ⟨_, _, _, _, _, _, _, _⟩, _⟩ := e; rfl
def w9 : Wr R := fun w e k => @E.rec (fun _ => Option R) (fun a b c x => @S8.rec (fun _ => Option R) (fun a0 a1 a2 a3 a4 a5 a6 a7 => k (.mk a (.mk a0 w a2 a3 a4 a5 a6 a7) c x)) b) e
def r10 : Rd R := fun e k => @E.rec (fun _ => Option R) (fun a b c x => @S8.rec (fun _ => Option R) (fun a0 a1 a2 a3 a4 a5 a6 a7 => k a2) b) e
theorem r10_eq (e : E) (k : W → Option R) : r10 e k = k (e.get 10) := by obtain ⟨⟨_, _, _, _, _, _, _, _⟩, ⟨_, _, _, _, _, _, _, _⟩, ⟨_, _, _, _, _, _, _, _⟩, _⟩ := e; rfl
def w10 : Wr R := fun w e k => @E.rec (fun _ => Option R) (fun a b c x => @S8.rec (fun _ => Option R) (fun a0 a1 a2 a3 a4 a5 a6 a7 => k (.mk a (.mk a0 a1 w a3 a4 a5 a6 a7) c x)) b) e
def r11 : Rd R := fun e k => @E.rec (fun _ => Option R) (fun a b c x => @S8.rec (fun _ => Option R) (fun a0 a1 a2 a3 a4 a5 a6 a7 => k a3) b) e
theorem r11_eq (e : E) (k : W → Option R) : r11 e k = k (e.get 11) := by obtain ⟨⟨_, _, _, _, _, _, _, _⟩, ⟨_, _, _, _, _, _, _, _⟩, ⟨_, _, _, _, _, _, _, _⟩, _⟩ := e; rfl
def w11 : Wr R := fun w e k => @E.rec (fun _ => Option R) (fun a b c x => @S8.rec (fun _ => Option R) (fun a0 a1 a2 a3 a4 a5 a6 a7 => k (.mk a (.mk a0 a1 a2 w a4 a5 a6 a7) c x)) b) e
def r12 : Rd R := fun e k => @E.rec (fun _ => Option R) (fun a b c x => @S8.rec (fun _ => Option R) (fun a0 a1 a2 a3 a4 a5 a6 a7 => k a4) b) e
theorem r12_eq (e : E) (k : W → Option R) : r12 e k = k (e.get 12) := by obtain ⟨⟨_, _, _, _, _, _, _, _⟩, ⟨_, _, _, _, _, _, _, _⟩, ⟨_, _, _, _, _, _, _, _⟩, _⟩ := e; rfl
def w12 : Wr R := fun w e k => @E.rec (fun _ => Option R) (fun a b c x => @S8.rec (fun _ => Option R) (fun a0 a1 a2 a3 a4 a5 a6 a7 => k (.mk a (.mk a0 a1 a2 a3 w a5 a6 a7) c x)) b) e
def r13 : Rd R := fun e k => @E.rec (fun _ => Option R) (fun a b c x => @S8.rec (fun _ => Option R) (fun a0 a1 a2 a3 a4 a5 a6 a7 => k a5) b) e
theorem r13_eq (e : E) (k : W → Option R) : r13 e k = k (e.get 13) := by obtain ⟨⟨_, _, _, _, _, _, _, _⟩, ⟨_, _, _, _, _, _, _, _⟩, ⟨_, _, _, _, _, _, _, _⟩, _⟩ := e; rfl
def w13 : Wr R := fun w e k => @E.rec (fun _ => Option R) (fun a b c x => @S8.rec (fun _ => Option R) (fun a0 a1 a2 a3 a4 a5 a6 a7 => k (.mk a (.mk a0 a1 a2 a3 a4 w a6 a7) c x)) b) e
def r14 : Rd R := fun e k => @E.rec (fun _ => Option R) (fun a b c x => @S8.rec (fun _ => Option R) (fun a0 a1 a2 a3 a4 a5 a6 a7 => k a6) b) e
theorem r14_eq (e : E) (k : W → Option R) : r14 e k = k (e.get 14) := by obtain ⟨⟨_, _, _, _, _, _, _, _⟩, ⟨_, _, _, _, _, _, _, _⟩, ⟨_, _, _, _, _, _, _, _⟩, _⟩ := e; rfl
def w14 : Wr R := fun w e k => @E.rec (fun _ => Option R) (fun a b c x => @S8.rec (fun _ => Option R) (fun a0 a1 a2 a3 a4 a5 a6 a7 => k (.mk a (.mk a0 a1 a2 a3 a4 a5 w a7) c x)) b) e
def r15 : Rd R := fun e k => @E.rec (fun _ => Option R) (fun a b c x => @S8.rec (fun _ => Option R) (fun a0 a1 a2 a3 a4 a5 a6 a7 => k a7) b) e
theorem r15_eq (e : E) (k : W → Option R) : r15 e k = k (e.get 15) := by obtain ⟨⟨_, _, _, _, _, _, _, _⟩, ⟨_, _, _, _, _, _, _, _⟩, ⟨_, _, _, _, _, _, _, _⟩, _⟩ := e; rfl
def w15 : Wr R := fun w e k => @E.rec (fun _ => Option R) (fun a b c x => @S8.rec (fun _ => Option R) (fun a0 a1 a2 a3 a4 a5 a6 a7 => k (.mk a (.mk a0 a1 a2 a3 a4 a5 a6 w) c x)) b) e
def r16 : Rd R := fun e k => @E.rec (fun _ => Option R) (fun a b c x => @S8.rec (fun _ => Option R) (fun a0 a1 a2 a3 a4 a5 a6 a7 => k a0) c) e
theorem r16_eq (e : E) (k : W → Option R) : r16 e k = k (e.get 16) := by obtain ⟨⟨_, _, _, _, _, _, _, _⟩, ⟨_, _, _, _, _, _, _, _⟩, ⟨_, _, _, _, _, _, _, _⟩, _⟩ := e; rfl
def w16 : Wr R := fun w e k => @E.rec (fun _ => Option R) (fun a b c x => @S8.rec (fun _ => Option R) (fun a0 a1 a2 a3 a4 a5 a6 a7 => k (.mk a b (.mk w a1 a2 a3 a4 a5 a6 a7) x)) c) e
def r17 : Rd R := fun e k => @E.rec (fun _ => Option R) (fun a b c x => @S8.rec (fun _ => Option R) (fun a0 a1 a2 a3 a4 a5 a6 a7 => k a1) c) e
theorem r17_eq (e : E) (k : W → Option R) : r17 e k = k (e.get 17) := by obtain ⟨⟨_, _, _, _, _, _, _, _⟩, ⟨_, _, _, _, _, _, _, _⟩, ⟨_, _, _, _, _, _, _, _⟩, _⟩ := e; rfl
def w17 : Wr R := fun w e k => @E.rec (fun _ => Option R) (fun a b c x => @S8.rec (fun _ => Option R) (fun a0 a1 a2 a3 a4 a5 a6 a7 => k (.mk a b (.mk a0 w a2 a3 a4 a5 a6 a7) x)) c) e
def r18 : Rd R := fun e k => @E.rec (fun _ => Option R) (fun a b c x => @S8.rec (fun _ => Option R) (fun a0 a1 a2 a3 a4 a5 a6 a7 => k a2) c) e
theorem r18_eq (e : E) (k : W → Option R) : r18 e k = k (e.get 18) := by obtain ⟨⟨_, _, _, _, _, _, _, _⟩, ⟨_, _, _, _, _, _, _, _⟩, ⟨_, _, _, _, _, _, _, _⟩, _⟩ := e; rfl
def w18 : Wr R := fun w e k => @E.rec (fun _ => Option R) (fun a b c x => @S8.rec (fun _ => Option R) (fun a0 a1 a2 a3 a4 a5 a6 a7 => k (.mk a b (.mk a0 a1 w a3 a4 a5 a6 a7) x)) c) e
def r19 : Rd R := fun e k => @E.rec (fun _ => Option R) (fun a b c x => @S8.rec (fun _ => Option R) (fun a0 a1 a2 a3 a4 a5 a6 a7 => k a3) c) e
theorem r19_eq (e : E) (k : W → Option R) : r19 e k = k (e.get 19) := by obtain ⟨⟨_, _, _, _, _, _, _, _⟩, ⟨_, _, _, _, _, _, _, _⟩, ⟨_, _, _, _, _, _, _, _⟩, _⟩ := e; rfl
def w19 : Wr R := fun w e k => @E.rec (fun _ => Option R) (fun a b c x => @S8.rec (fun _ => Option R) (fun a0 a1 a2 a3 a4 a5 a6 a7 => k (.mk a b (.mk a0 a1 a2 w a4 a5 a6 a7) x)) c) e
def r20 : Rd R := fun e k => @E.rec (fun _ => Option R) (fun a b c x => @S8.rec (fun _ => Option R) (fun a0 a1 a2 a3 a4 a5 a6 a7 => k a4) c) e
theorem r20_eq (e : E) (k : W → Option R) : r20 e k = k (e.get 20) := by obtain ⟨⟨_, _, _, _, _, _, _, _⟩, ⟨_, _, _, _, _, _, _, _⟩, ⟨_, _, _, _, _, _, _, _⟩, _⟩ := e; rfl
def w20 : Wr R := fun w e k => @E.rec (fun _ => Option R) (fun a b c x => @S8.rec (fun _ => Option R) (fun a0 a1 a2 a3 a4 a5 a6 a7 => k (.mk a b (.mk a0 a1 a2 a3 w a5 a6 a7) x)) c) e
def r21 : Rd R := fun e k => @E.rec (fun _ => Option R) (fun a b c x => @S8.rec (fun _ => Option R) (fun a0 a1 a2 a3 a4 a5 a6 a7 => k a5) c) e
theorem r21_eq (e : E) (k : W → Option R) : r21 e k = k (e.get 21) := by obtain ⟨⟨_, _, _, _, _, _, _, _⟩, ⟨_, _, _, _, _, _, _, _⟩, ⟨_, _, _, _, _, _, _, _⟩, _⟩ := e; rfl
def w21 : Wr R := fun w e k => @E.rec (fun _ => Option R) (fun a b c x => @S8.rec (fun _ => Option R) (fun a0 a1 a2 a3 a4 a5 a6 a7 => k (.mk a b (.mk a0 a1 a2 a3 a4 w a6 a7) x)) c) e
def r22 : Rd R := fun e k => @E.rec (fun _ => Option R) (fun a b c x => @S8.rec (fun _ => Option R) (fun a0 a1 a2 a3 a4 a5 a6 a7 => k a6) c) e
theorem r22_eq (e : E) (k : W → Option R) : r22 e k = k (e.get 22) := by obtain ⟨⟨_, _, _, _, _, _, _, _⟩, ⟨_, _, _, _, _, _, _, _⟩, ⟨_, _, _, _, _, _, _, _⟩, _⟩ := e; rfl
def w22 : Wr R := fun w e k => @E.rec (fun _ => Option R) (fun a b c x => @S8.rec (fun _ => Option R) (fun a0 a1 a2 a3 a4 a5 a6 a7 => k (.mk a b (.mk a0 a1 a2 a3 a4 a5 w a7) x)) c) e
def r23 : Rd R := fun e k => @E.rec (fun _ => Option R) (fun a b c x => @S8.rec (fun _ => Option R) (fun a0 a1 a2 a3 a4 a5 a6 a7 => k a7) c) e
theorem r23_eq (e : E) (k : W → Option R) : r23 e k = k (e.get 23) := by obtain ⟨⟨_, _, _, _, _, _, _, _⟩, ⟨_, _, _, _, _, _, _, _⟩, ⟨_, _, _, _, _, _, _, _⟩, _⟩ := e; rfl
def w23 : Wr R := fun w e k => @E.rec (fun _ => Option R) (fun a b c x => @S8.rec (fun _ => Option R) (fun a0 a1 a2 a3 a4 a5 a6 a7 => k (.mk a b (.mk a0 a1 a2 a3 a4 a5 a6 w) x)) c) e
/-- A reader of slot i. -/
def RdOk (f : Rd R) (i : Nat) : Prop := ∀ e k, f e k = k (e.get i)
/-- A writer of slot i. -/
def WrOk (f : Wr R) (i : Nat) : Prop := ∀ w e (k : E → Option R) (r : R), f w e k = some r → ∃ e', k e' = some r ∧ e'.x = e.x ∧ e'.get i = w ∧ ∀ j, j < 24 → j ≠ i → e'.get j = e.get j
theorem lt24 {j : Nat} (h : j < 24) : j = 0 ∨ j = 1 ∨ j = 2 ∨ j = 3 ∨ j = 4 ∨ j = 5 ∨ j = 6 ∨ j = 7 ∨ j = 8 ∨ j = 9 ∨ j = 10 ∨ j = 11 ∨ j = 12 ∨ j = 13 ∨ j = 14 ∨ j = 15 ∨ j = 16 ∨ j = 17 ∨ j = 18 ∨ j = 19 ∨ j = 20 ∨ j = 21 ∨ j = 22 ∨ j = 23 := by omega
theorem w0_ok : WrOk (R := R) w0 0 := by
  intro w e k r H
  obtain ⟨⟨_, _, _, _, _, _, _, _⟩, ⟨_, _, _, _, _, _, _, _⟩, ⟨_, _, _, _, _, _, _, _⟩, _⟩ := e
  refine ⟨_, H, rfl, rfl, fun j hj hne => ?_⟩
  rcases lt24 hj with rfl | rfl | rfl | rfl | rfl | rfl | rfl | rfl | rfl | rfl | rfl | rfl | rfl | rfl | rfl | rfl | rfl | rfl | rfl | rfl | rfl | rfl | rfl | rfl <;> first | rfl | exact absurd rfl hne
theorem w1_ok : WrOk (R := R) w1 1 := by
  intro w e k r H
  obtain ⟨⟨_, _, _, _, _, _, _, _⟩, ⟨_, _, _, _, _, _, _, _⟩, ⟨_, _, _, _, _, _, _, _⟩, _⟩ := e
  refine ⟨_, H, rfl, rfl, fun j hj hne => ?_⟩
  rcases lt24 hj with rfl | rfl | rfl | rfl | rfl | rfl | rfl | rfl | rfl | rfl | rfl | rfl | rfl | rfl | rfl | rfl | rfl | rfl | rfl | rfl | rfl | rfl | rfl | rfl <;> first | rfl | exact absurd rfl hne
theorem w2_ok : WrOk (R := R) w2 2 := by
  intro w e k r H
  obtain ⟨⟨_, _, _, _, _, _, _, _⟩, ⟨_, _, _, _, _, _, _, _⟩, ⟨_, _, _, _, _, _, _, _⟩, _⟩ := e
  refine ⟨_, H, rfl, rfl, fun j hj hne => ?_⟩
  rcases lt24 hj with rfl | rfl | rfl | rfl | rfl | rfl | rfl | rfl | rfl | rfl | rfl | rfl | rfl | rfl | rfl | rfl | rfl | rfl | rfl | rfl | rfl | rfl | rfl | rfl <;> first | rfl | exact absurd rfl hne
theorem w3_ok : WrOk (R := R) w3 3 := by
  intro w e k r H
  obtain ⟨⟨_, _, _, _, _, _, _, _⟩, ⟨_, _, _, _, _, _, _, _⟩, ⟨_, _, _, _, _, _, _, _⟩, _⟩ := e
  refine ⟨_, H, rfl, rfl, fun j hj hne => ?_⟩
  rcases lt24 hj with rfl | rfl | rfl | rfl | rfl | rfl | rfl | rfl | rfl | rfl | rfl | rfl | rfl | rfl | rfl | rfl | rfl | rfl | rfl | rfl | rfl | rfl | rfl | rfl <;> first | rfl | exact absurd rfl hne
theorem w4_ok : WrOk (R := R) w4 4 := by
  intro w e k r H
  obtain ⟨⟨_, _, _, _, _, _, _, _⟩, ⟨_, _, _, _, _, _, _, _⟩, ⟨_, _, _, _, _, _, _, _⟩, _⟩ := e
  refine ⟨_, H, rfl, rfl, fun j hj hne => ?_⟩
  rcases lt24 hj with rfl | rfl | rfl | rfl | rfl | rfl | rfl | rfl | rfl | rfl | rfl | rfl | rfl | rfl | rfl | rfl | rfl | rfl | rfl | rfl | rfl | rfl | rfl | rfl <;> first | rfl | exact absurd rfl hne
theorem w5_ok : WrOk (R := R) w5 5 := by
  intro w e k r H
  obtain ⟨⟨_, _, _, _, _, _, _, _⟩, ⟨_, _, _, _, _, _, _, _⟩, ⟨_, _, _, _, _, _, _, _⟩, _⟩ := e
  refine ⟨_, H, rfl, rfl, fun j hj hne => ?_⟩
  rcases lt24 hj with rfl | rfl | rfl | rfl | rfl | rfl | rfl | rfl | rfl | rfl | rfl | rfl | rfl | rfl | rfl | rfl | rfl | rfl | rfl | rfl | rfl | rfl | rfl | rfl <;> first | rfl | exact absurd rfl hne
theorem w6_ok : WrOk (R := R) w6 6 := by
  intro w e k r H
  obtain ⟨⟨_, _, _, _, _, _, _, _⟩, ⟨_, _, _, _, _, _, _, _⟩, ⟨_, _, _, _, _, _, _, _⟩, _⟩ := e
  refine ⟨_, H, rfl, rfl, fun j hj hne => ?_⟩
  rcases lt24 hj with rfl | rfl | rfl | rfl | rfl | rfl | rfl | rfl | rfl | rfl | rfl | rfl | rfl | rfl | rfl | rfl | rfl | rfl | rfl | rfl | rfl | rfl | rfl | rfl <;> first | rfl | exact absurd rfl hne
theorem w7_ok : WrOk (R := R) w7 7 := by
  intro w e k r H
  obtain ⟨⟨_, _, _, _, _, _, _, _⟩, ⟨_, _, _, _, _, _, _, _⟩, ⟨_, _, _, _, _, _, _, _⟩, _⟩ := e
  refine ⟨_, H, rfl, rfl, fun j hj hne => ?_⟩
  rcases lt24 hj with rfl | rfl | rfl | rfl | rfl | rfl | rfl | rfl | rfl | rfl | rfl | rfl | rfl | rfl | rfl | rfl | rfl | rfl | rfl | rfl | rfl | rfl | rfl | rfl <;> first | rfl | exact absurd rfl hne
theorem w8_ok : WrOk (R := R) w8 8 := by
  intro w e k r H
  obtain ⟨⟨_, _, _, _, _, _, _, _⟩, ⟨_, _, _, _, _, _, _, _⟩, ⟨_, _, _, _, _, _, _, _⟩, _⟩ := e
  refine ⟨_, H, rfl, rfl, fun j hj hne => ?_⟩
  rcases lt24 hj with rfl | rfl | rfl | rfl | rfl | rfl | rfl | rfl | rfl | rfl | rfl | rfl | rfl | rfl | rfl | rfl | rfl | rfl | rfl | rfl | rfl | rfl | rfl | rfl <;> first | rfl | exact absurd rfl hne
theorem w9_ok : WrOk (R := R) w9 9 := by
  intro w e k r H
  obtain ⟨⟨_, _, _, _, _, _, _, _⟩, ⟨_, _, _, _, _, _, _, _⟩, ⟨_, _, _, _, _, _, _, _⟩, _⟩ := e
  refine ⟨_, H, rfl, rfl, fun j hj hne => ?_⟩
  rcases lt24 hj with rfl | rfl | rfl | rfl | rfl | rfl | rfl | rfl | rfl | rfl | rfl | rfl | rfl | rfl | rfl | rfl | rfl | rfl | rfl | rfl | rfl | rfl | rfl | rfl <;> first | rfl | exact absurd rfl hne
theorem w10_ok : WrOk (R := R) w10 10 := by
  intro w e k r H
  obtain ⟨⟨_, _, _, _, _, _, _, _⟩, ⟨_, _, _, _, _, _, _, _⟩, ⟨_, _, _, _, _, _, _, _⟩, _⟩ := e
  refine ⟨_, H, rfl, rfl, fun j hj hne => ?_⟩
  rcases lt24 hj with rfl | rfl | rfl | rfl | rfl | rfl | rfl | rfl | rfl | rfl | rfl | rfl | rfl | rfl | rfl | rfl | rfl | rfl | rfl | rfl | rfl | rfl | rfl | rfl <;> first | rfl | exact absurd rfl hne
theorem w11_ok : WrOk (R := R) w11 11 := by
  intro w e k r H
  obtain ⟨⟨_, _, _, _, _, _, _, _⟩, ⟨_, _, _, _, _, _, _, _⟩, ⟨_, _, _, _, _, _, _, _⟩, _⟩ := e
  refine ⟨_, H, rfl, rfl, fun j hj hne => ?_⟩
  rcases lt24 hj with rfl | rfl | rfl | rfl | rfl | rfl | rfl | rfl | rfl | rfl | rfl | rfl | rfl | rfl | rfl | rfl | rfl | rfl | rfl | rfl | rfl | rfl | rfl | rfl <;> first | rfl | exact absurd rfl hne
theorem w12_ok : WrOk (R := R) w12 12 := by
  intro w e k r H
  obtain ⟨⟨_, _, _, _, _, _, _, _⟩, ⟨_, _, _, _, _, _, _, _⟩, ⟨_, _, _, _, _, _, _, _⟩, _⟩ := e
  refine ⟨_, H, rfl, rfl, fun j hj hne => ?_⟩
  rcases lt24 hj with rfl | rfl | rfl | rfl | rfl | rfl | rfl | rfl | rfl | rfl | rfl | rfl | rfl | rfl | rfl | rfl | rfl | rfl | rfl | rfl | rfl | rfl | rfl | rfl <;> first | rfl | exact absurd rfl hne
theorem w13_ok : WrOk (R := R) w13 13 := by
  intro w e k r H
  obtain ⟨⟨_, _, _, _, _, _, _, _⟩, ⟨_, _, _, _, _, _, _, _⟩, ⟨_, _, _, _, _, _, _, _⟩, _⟩ := e
  refine ⟨_, H, rfl, rfl, fun j hj hne => ?_⟩
  rcases lt24 hj with rfl | rfl | rfl | rfl | rfl | rfl | rfl | rfl | rfl | rfl | rfl | rfl | rfl | rfl | rfl | rfl | rfl | rfl | rfl | rfl | rfl | rfl | rfl | rfl <;> first | rfl | exact absurd rfl hne
theorem w14_ok : WrOk (R := R) w14 14 := by
  intro w e k r H
  obtain ⟨⟨_, _, _, _, _, _, _, _⟩, ⟨_, _, _, _, _, _, _, _⟩, ⟨_, _, _, _, _, _, _, _⟩, _⟩ := e
  refine ⟨_, H, rfl, rfl, fun j hj hne => ?_⟩
  rcases lt24 hj with rfl | rfl | rfl | rfl | rfl | rfl | rfl | rfl | rfl | rfl | rfl | rfl | rfl | rfl | rfl | rfl | rfl | rfl | rfl | rfl | rfl | rfl | rfl | rfl <;> first | rfl | exact absurd rfl hne
theorem w15_ok : WrOk (R := R) w15 15 := by
  intro w e k r H
  obtain ⟨⟨_, _, _, _, _, _, _, _⟩, ⟨_, _, _, _, _, _, _, _⟩, ⟨_, _, _, _, _, _, _, _⟩, _⟩ := e
  refine ⟨_, H, rfl, rfl, fun j hj hne => ?_⟩
  rcases lt24 hj with rfl | rfl | rfl | rfl | rfl | rfl | rfl | rfl | rfl | rfl | rfl | rfl | rfl | rfl | rfl | rfl | rfl | rfl | rfl | rfl | rfl | rfl | rfl | rfl <;> first | rfl | exact absurd rfl hne
theorem w16_ok : WrOk (R := R) w16 16 := by
  intro w e k r H
  obtain ⟨⟨_, _, _, _, _, _, _, _⟩, ⟨_, _, _, _, _, _, _, _⟩, ⟨_, _, _, _, _, _, _, _⟩, _⟩ := e
  refine ⟨_, H, rfl, rfl, fun j hj hne => ?_⟩
  rcases lt24 hj with rfl | rfl | rfl | rfl | rfl | rfl | rfl | rfl | rfl | rfl | rfl | rfl | rfl | rfl | rfl | rfl | rfl | rfl | rfl | rfl | rfl | rfl | rfl | rfl <;> first | rfl | exact absurd rfl hne
theorem w17_ok : WrOk (R := R) w17 17 := by
  intro w e k r H
  obtain ⟨⟨_, _, _, _, _, _, _, _⟩, ⟨_, _, _, _, _, _, _, _⟩, ⟨_, _, _, _, _, _, _, _⟩, _⟩ := e
  refine ⟨_, H, rfl, rfl, fun j hj hne => ?_⟩
  rcases lt24 hj with rfl | rfl | rfl | rfl | rfl | rfl | rfl | rfl | rfl | rfl | rfl | rfl | rfl | rfl | rfl | rfl | rfl | rfl | rfl | rfl | rfl | rfl | rfl | rfl <;> first | rfl | exact absurd rfl hne
theorem w18_ok : WrOk (R := R) w18 18 := by
  intro w e k r H
  obtain ⟨⟨_, _, _, _, _, _, _, _⟩, ⟨_, _, _, _, _, _, _, _⟩, ⟨_, _, _, _, _, _, _, _⟩, _⟩ := e
  refine ⟨_, H, rfl, rfl, fun j hj hne => ?_⟩
  rcases lt24 hj with rfl | rfl | rfl | rfl | rfl | rfl | rfl | rfl | rfl | rfl | rfl | rfl | rfl | rfl | rfl | rfl | rfl | rfl | rfl | rfl | rfl | rfl | rfl | rfl <;> first | rfl | exact absurd rfl hne
theorem w19_ok : WrOk (R := R) w19 19 := by
  intro w e k r H
  obtain ⟨⟨_, _, _, _, _, _, _, _⟩, ⟨_, _, _, _, _, _, _, _⟩, ⟨_, _, _, _, _, _, _, _⟩, _⟩ := e
  refine ⟨_, H, rfl, rfl, fun j hj hne => ?_⟩
  rcases lt24 hj with rfl | rfl | rfl | rfl | rfl | rfl | rfl | rfl | rfl | rfl | rfl | rfl | rfl | rfl | rfl | rfl | rfl | rfl | rfl | rfl | rfl | rfl | rfl | rfl <;> first | rfl | exact absurd rfl hne
theorem w20_ok : WrOk (R := R) w20 20 := by
  intro w e k r H
  obtain ⟨⟨_, _, _, _, _, _, _, _⟩, ⟨_, _, _, _, _, _, _, _⟩, ⟨_, _, _, _, _, _, _, _⟩, _⟩ := e
  refine ⟨_, H, rfl, rfl, fun j hj hne => ?_⟩
  rcases lt24 hj with rfl | rfl | rfl | rfl | rfl | rfl | rfl | rfl | rfl | rfl | rfl | rfl | rfl | rfl | rfl | rfl | rfl | rfl | rfl | rfl | rfl | rfl | rfl | rfl <;> first | rfl | exact absurd rfl hne
theorem w21_ok : WrOk (R := R) w21 21 := by
  intro w e k r H
  obtain ⟨⟨_, _, _, _, _, _, _, _⟩, ⟨_, _, _, _, _, _, _, _⟩, ⟨_, _, _, _, _, _, _, _⟩, _⟩ := e
  refine ⟨_, H, rfl, rfl, fun j hj hne => ?_⟩
  rcases lt24 hj with rfl | rfl | rfl | rfl | rfl | rfl | rfl | rfl | rfl | rfl | rfl | rfl | rfl | rfl | rfl | rfl | rfl | rfl | rfl | rfl | rfl | rfl | rfl | rfl <;> first | rfl | exact absurd rfl hne
theorem w22_ok : WrOk (R := R) w22 22 := by
  intro w e k r H
  obtain ⟨⟨_, _, _, _, _, _, _, _⟩, ⟨_, _, _, _, _, _, _, _⟩, ⟨_, _, _, _, _, _, _, _⟩, _⟩ := e
  refine ⟨_, H, rfl, rfl, fun j hj hne => ?_⟩
  rcases lt24 hj with rfl | rfl | rfl | rfl | rfl | rfl | rfl | rfl | rfl | rfl | rfl | rfl | rfl | rfl | rfl | rfl | rfl | rfl | rfl | rfl | rfl | rfl | rfl | rfl <;> first | rfl | exact absurd rfl hne
theorem w23_ok : WrOk (R := R) w23 23 := by
  intro w e k r H
  obtain ⟨⟨_, _, _, _, _, _, _, _⟩, ⟨_, _, _, _, _, _, _, _⟩, ⟨_, _, _, _, _, _, _, _⟩, _⟩ := e
  refine ⟨_, H, rfl, rfl, fun j hj hne => ?_⟩
  rcases lt24 hj with rfl | rfl | rfl | rfl | rfl | rfl | rfl | rfl | rfl | rfl | rfl | rfl | rfl | rfl | rfl | rfl | rfl | rfl | rfl | rfl | rfl | rfl | rfl | rfl <;> first | rfl | exact absurd rfl hne
def rdN (i : Nat) : Rd R := match i with
  | 0 => r0
  | 1 => r1
  | 2 => r2
  | 3 => r3
  | 4 => r4
  | 5 => r5
  | 6 => r6
  | 7 => r7
  | 8 => r8
  | 9 => r9
  | 10 => r10
  | 11 => r11
  | 12 => r12
  | 13 => r13
  | 14 => r14
  | 15 => r15
  | 16 => r16
  | 17 => r17
  | 18 => r18
  | 19 => r19
  | 20 => r20
  | 21 => r21
  | 22 => r22
  | _ => r23
def wrN (i : Nat) : Wr R := match i with
  | 0 => w0
  | 1 => w1
  | 2 => w2
  | 3 => w3
  | 4 => w4
  | 5 => w5
  | 6 => w6
  | 7 => w7
  | 8 => w8
  | 9 => w9
  | 10 => w10
  | 11 => w11
  | 12 => w12
  | 13 => w13
  | 14 => w14
  | 15 => w15
  | 16 => w16
  | 17 => w17
  | 18 => w18
  | 19 => w19
  | 20 => w20
  | 21 => w21
  | 22 => w22
  | _ => w23
theorem rdN_ok {i : Nat} (h : i < 24) : RdOk (R := R) (rdN i) i := by
  rcases lt24 h with rfl | rfl | rfl | rfl | rfl | rfl | rfl | rfl | rfl | rfl | rfl | rfl | rfl | rfl | rfl | rfl | rfl | rfl | rfl | rfl | rfl | rfl | rfl | rfl
  · exact r0_eq
  · exact r1_eq
  · exact r2_eq
  · exact r3_eq
  · exact r4_eq
  · exact r5_eq
  · exact r6_eq
  · exact r7_eq
  · exact r8_eq
  · exact r9_eq
  · exact r10_eq
  · exact r11_eq
  · exact r12_eq
  · exact r13_eq
  · exact r14_eq
  · exact r15_eq
  · exact r16_eq
  · exact r17_eq
  · exact r18_eq
  · exact r19_eq
  · exact r20_eq
  · exact r21_eq
  · exact r22_eq
  · exact r23_eq
theorem wrN_ok {i : Nat} (h : i < 24) : WrOk (R := R) (wrN i) i := by
  rcases lt24 h with rfl | rfl | rfl | rfl | rfl | rfl | rfl | rfl | rfl | rfl | rfl | rfl | rfl | rfl | rfl | rfl | rfl | rfl | rfl | rfl | rfl | rfl | rfl | rfl
  · exact w0_ok
  · exact w1_ok
  · exact w2_ok
  · exact w3_ok
  · exact w4_ok
  · exact w5_ok
  · exact w6_ok
  · exact w7_ok
  · exact w8_ok
  · exact w9_ok
  · exact w10_ok
  · exact w11_ok
  · exact w12_ok
  · exact w13_ok
  · exact w14_ok
  · exact w15_ok
  · exact w16_ok
  · exact w17_ok
  · exact w18_ok
  · exact w19_ok
  · exact w20_ok
  · exact w21_ok
  · exact w22_ok
  · exact w23_ok
end
end
end Go.Tm.V
