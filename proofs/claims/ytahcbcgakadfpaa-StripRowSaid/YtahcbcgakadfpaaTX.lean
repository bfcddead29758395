import Derived.Test.YtahcbcgakadfpaaTS
/-! The quick machine: the tree machine again, in the form in which Lean's kernel runs it quickly: each step hands what it has reckoned, already in normal form, to what comes next. -/
namespace Go.Tm.Q
noncomputable section

/-! ### Small steps -/
section
variable {R : Type}
def ifK (b : Bool) (x : Option R) : Option R := @Bool.rec (fun _ => Option R) none x b
theorem ifK_inv {b : Bool} {x : Option R} {r : R} (H : ifK b x = some r) : b = true ∧ x = some r := by
  cases b with
  | true => exact ⟨rfl, H⟩
  | false => cases H
def forceN (n : Nat) (k : Nat → Option R) : Option R := @Nat.rec (fun _ => Option R) (k 0) (fun m _ => k (Nat.succ m)) n
theorem forceN_eq (n : Nat) (k : Nat → Option R) : forceN n k = k n := by cases n <;> rfl
def forceZ (z : Int) (k : Int → Option R) : Option R := @Int.rec (fun _ => Option R) (fun n => forceN n fun n => k (Int.ofNat n)) (fun n => forceN n fun n => k (Int.negSucc n)) z
theorem forceZ_eq (z : Int) (k : Int → Option R) : forceZ z k = k z := by
  cases z with
  | ofNat n => exact forceN_eq n fun n => k (Int.ofNat n)
  | negSucc n => exact forceN_eq n fun n => k (Int.negSucc n)
def forceB (b : Bool) (k : Bool → Option R) : Option R := @Bool.rec (fun _ => Option R) (k false) (k true) b
theorem forceB_eq (b : Bool) (k : Bool → Option R) : forceB b k = k b := by cases b <;> rfl
def optK {α : Type} (o : Option α) (k : α → Option R) : Option R := @Option.rec α (fun _ => Option R) none k o
theorem optK_inv {α : Type} {o : Option α} {k : α → Option R} {r : R} (H : optK o k = some r) : ∃ a, o = some a ∧ k a = some r := by
  cases o with
  | none => cases H
  | some a => exact ⟨a, rfl, H⟩

/-! Lists -/
def dropK {α : Type} (n : Nat) (xs : List α) (k : List α → Option R) : Option R :=
  @Nat.rec (fun _ => List α → Option R) k (fun _ ih xs => @List.rec α (fun _ => Option R) (k []) (fun _ r _ => ih r) xs) n xs
theorem dropK_eq {α : Type} (k : List α → Option R) : ∀ (n : Nat) (xs : List α), dropK n xs k = k (xs.drop n)
  | 0, xs => rfl
  | n + 1, [] => by rw [List.drop_nil]; rfl
  | n + 1, x :: xs => dropK_eq k n xs
def nthK {α : Type} (n : Nat) (xs : List α) (k : α → Option R) : Option R :=
  @Nat.rec (fun _ => List α → Option R) (fun xs => @List.rec α (fun _ => Option R) none (fun x _ _ => k x) xs) (fun _ ih xs => @List.rec α (fun _ => Option R) none (fun _ r _ => ih r) xs) n xs
theorem nthK_inv {α : Type} {k : α → Option R} {r : R} : ∀ {n : Nat} {xs : List α}, nthK n xs k = some r → ∃ c, (xs.drop n).head? = some c ∧ k c = some r
  | 0, [], H => by cases H
  | 0, x :: xs, H => ⟨x, rfl, H⟩
  | n + 1, [], H => by cases H
  | n + 1, x :: xs, H => nthK_inv (n := n) (xs := xs) H
def takeK {α : Type} (n : Nat) (xs : List α) (k : List α → Option R) : Option R :=
  @Nat.rec (fun _ => List α → (List α → Option R) → Option R) (fun _ k => k []) (fun _ ih xs k => @List.rec α (fun _ => Option R) none (fun x r _ => ih r fun ys => k (x :: ys)) xs) n xs k
theorem takeK_inv {α : Type} {r : R} : ∀ {n : Nat} {xs : List α} {k : List α → Option R}, takeK n xs k = some r → n ≤ xs.length ∧ k (xs.take n) = some r
  | 0, xs, k, H => ⟨Nat.zero_le _, H⟩
  | n + 1, [], k, H => by cases H
  | n + 1, x :: xs, k, H => by
    obtain ⟨h1, h2⟩ := takeK_inv (n := n) (xs := xs) (k := fun ys => k (x :: ys)) H
    exact ⟨by simpa using h1, h2⟩
def appK {α : Type} (xs ys : List α) (k : List α → Option R) : Option R :=
  @List.rec α (fun _ => (List α → Option R) → Option R) (fun k => k ys) (fun x _ ih k => ih fun zs => k (x :: zs)) xs k
theorem appK_eq {α : Type} (ys : List α) : ∀ (xs : List α) (k : List α → Option R), appK xs ys k = k (xs ++ ys)
  | [], k => rfl
  | x :: xs, k => appK_eq ys xs fun zs => k (x :: zs)
def overK {α : Type} (ys cs : List α) (k : List α → Option R) : Option R :=
  @List.rec α (fun _ => List α → (List α → Option R) → Option R) (fun cs k => k cs) (fun y _ ih cs k => @List.rec α (fun _ => Option R) none (fun _ r _ => ih r fun zs => k (y :: zs)) cs) ys cs k
theorem overK_inv {α : Type} {r : R} : ∀ {ys cs : List α} {k : List α → Option R}, overK ys cs k = some r → ys.length ≤ cs.length ∧ k (ys ++ cs.drop ys.length) = some r
  | [], cs, k, H => ⟨Nat.zero_le _, H⟩
  | y :: ys, [], k, H => by cases H
  | y :: ys, c :: cs, k, H => by
    obtain ⟨h1, h2⟩ := overK_inv (ys := ys) (cs := cs) (k := fun zs => k (y :: zs)) H
    exact ⟨by simpa using h1, h2⟩
def putK (off : Nat) (ys cs : List C) (k : List C → Option R) : Option R :=
  @Nat.rec (fun _ => List C → (List C → Option R) → Option R) (overK ys) (fun _ ih cs k => @List.rec C (fun _ => Option R) none (fun c r _ => ih r fun zs => k (c :: zs)) cs) off cs k
theorem putK_inv {r : R} {ys : List C} : ∀ {off : Nat} {cs : List C} {k : List C → Option R}, putK off ys cs k = some r → off + ys.length ≤ cs.length ∧ k (put cs off ys) = some r
  | 0, cs, k, H => by
    obtain ⟨h1, h2⟩ := overK_inv H
    exact ⟨by omega, by simpa [put] using h2⟩
  | off + 1, [], k, H => by cases H
  | off + 1, c :: cs, k, H => by
    obtain ⟨h1, h2⟩ := putK_inv (off := off) (cs := cs) (k := fun zs => k (c :: zs)) H
    refine ⟨by simp; omega, ?_⟩
    rw [← h2]
    simp [put, Nat.add_right_comm off 1]
def repK (n : Nat) (z : List C) (k : List C → Option R) : Option R :=
  @Nat.rec (fun _ => (List C → Option R) → Option R) (fun k => k []) (fun _ ih k => ih fun zs => appK z zs k) n k
theorem repK_eq (z : List C) : ∀ (n : Nat) (k : List C → Option R), repK n z k = k (rep n z)
  | 0, k => rfl
  | n + 1, k => by
    show repK n z (fun zs => appK z zs k) = _
    rw [repK_eq z n, appK_eq]
    simp [rep, List.replicate_succ]
end

/-! ### The heap -/
inductive T where
  | e
  | n (l : T) (v : Node) (r : T)
def T.get : T → Nat → Option Node
  | .e, _ => none
  | .n _ v _, 0 => some v
  | .n l _ r, i + 1 => if i % 2 = 0 then l.get (i / 2) else r.get (i / 2)
section
variable {R : Type}
def getK (t : T) (i : Nat) (k : Node → Option R) : Option R :=
  @T.rec (fun _ => Nat → Option R) (fun _ => none) (fun _ v _ ihl ihr i => @Nat.rec (fun _ => Option R) (k v) (fun m _ => @Bool.rec (fun _ => Option R) (ihr (Nat.div m 2)) (ihl (Nat.div m 2)) (Nat.beq (Nat.mod m 2) 0)) i) t i
theorem getK_inv {k : Node → Option R} {r : R} : ∀ {t : T} {i : Nat}, getK t i k = some r → ∃ v, t.get i = some v ∧ k v = some r
  | .e, i, H => by cases H
  | .n l v q, 0, H => ⟨v, rfl, H⟩
  | .n l v q, i + 1, H => by
    have H' : @Bool.rec (fun _ => Option R) (getK q (i / 2) k) (getK l (i / 2) k) (Nat.beq (i % 2) 0) = some r := H
    simp only [T.get]
    cases hb : Nat.beq (i % 2) 0 with
    | true => rw [hb] at H'; rw [if_pos (Nat.eq_of_beq_eq_true hb)]; exact getK_inv (t := l) H'
    | false => rw [hb] at H'; rw [if_neg (fun e => by rw [e] at hb; cases hb)]; exact getK_inv (t := q) H'
def setK (t : T) (i : Nat) (x : Node) (k : T → Option R) : Option R :=
  @T.rec (fun _ => Nat → (T → Option R) → Option R) (fun _ _ => none) (fun l v q ihl ihr i k => @Nat.rec (fun _ => Option R) (k (.n l x q)) (fun m _ => @Bool.rec (fun _ => Option R) (ihr (Nat.div m 2) fun q' => k (.n l v q')) (ihl (Nat.div m 2) fun l' => k (.n l' v q)) (Nat.beq (Nat.mod m 2) 0)) i) t i k
theorem get_le {i j : Nat} (h : i / 2 = j / 2) (e : i % 2 = j % 2) : i = j := by omega
theorem setK_inv {x : Node} {r : R} : ∀ {t : T} {i : Nat} {k : T → Option R}, setK t i x k = some r → ∃ t', k t' = some r ∧ (t.get i).isSome = true ∧ ∀ j, t'.get j = if j = i then some x else t.get j
  | .e, i, k, H => by cases H
  | .n l v q, 0, k, H => ⟨_, H, rfl, fun j => by cases j <;> simp [T.get]⟩
  | .n l v q, i + 1, k, H => by
    have H' : @Bool.rec (fun _ => Option R) (setK q (i / 2) x fun q' => k (.n l v q')) (setK l (i / 2) x fun l' => k (.n l' v q)) (Nat.beq (i % 2) 0) = some r := H
    cases hb : Nat.beq (i % 2) 0 with
    | true =>
      rw [hb] at H'
      have h0 : i % 2 = 0 := Nat.eq_of_beq_eq_true hb
      obtain ⟨l', h1, h2, h3⟩ := setK_inv (t := l) H'
      refine ⟨_, h1, by rw [T.get, if_pos h0]; exact h2, fun j => ?_⟩
      cases j with
      | zero => simp [T.get]
      | succ j =>
        simp only [T.get]
        by_cases hj : j % 2 = 0
        · rw [if_pos hj, if_pos hj, h3 (j / 2)]
          by_cases e : j = i
          · subst e; rw [if_pos rfl, if_pos rfl]
          · rw [if_neg (fun e2 => e (get_le e2 (by omega))), if_neg (fun e2 => e (by omega))]
        · rw [if_neg hj, if_neg hj, if_neg (fun e2 => hj (by have : j = i := by omega
                                                             rw [this]; exact h0))]
    | false =>
      rw [hb] at H'
      have h0 : ¬ i % 2 = 0 := fun e => by rw [e] at hb; cases hb
      obtain ⟨q', h1, h2, h3⟩ := setK_inv (t := q) H'
      refine ⟨_, h1, by rw [T.get, if_neg h0]; exact h2, fun j => ?_⟩
      cases j with
      | zero => simp [T.get]
      | succ j =>
        simp only [T.get]
        by_cases hj : j % 2 = 0
        · rw [if_pos hj, if_pos hj, if_neg (fun e2 => h0 (by have : j = i := by omega
                                                             rw [← this]; exact hj))]
        · rw [if_neg hj, if_neg hj, h3 (j / 2)]
          by_cases e : j = i
          · subst e; rw [if_pos rfl, if_pos rfl]
          · rw [if_neg (fun e2 => e (get_le e2 (by omega))), if_neg (fun e2 => e (by omega))]
def pushK (t : T) (i : Nat) (x : Node) (k : T → Option R) : Option R :=
  @T.rec (fun _ => Nat → (T → Option R) → Option R) (fun i k => ifK (Nat.beq i 0) (k (.n .e x .e))) (fun l v q ihl ihr i k => @Nat.rec (fun _ => Option R) none (fun m _ => @Bool.rec (fun _ => Option R) (ihr (Nat.div m 2) fun q' => k (.n l v q')) (ihl (Nat.div m 2) fun l' => k (.n l' v q)) (Nat.beq (Nat.mod m 2) 0)) i) t i k
theorem pushK_inv {x : Node} {r : R} : ∀ {t : T} {i : Nat} {k : T → Option R}, pushK t i x k = some r → ∃ t', k t' = some r ∧ ∀ j, t'.get j = if j = i then some x else t.get j
  | .e, i, k, H => by
    obtain ⟨h1, h2⟩ := ifK_inv H
    obtain rfl := Nat.eq_of_beq_eq_true h1
    refine ⟨_, h2, fun j => ?_⟩
    cases j with
    | zero => simp [T.get]
    | succ j => simp [T.get]
  | .n l v q, 0, k, H => by cases H
  | .n l v q, i + 1, k, H => by
    have H' : @Bool.rec (fun _ => Option R) (pushK q (i / 2) x fun q' => k (.n l v q')) (pushK l (i / 2) x fun l' => k (.n l' v q)) (Nat.beq (i % 2) 0) = some r := H
    cases hb : Nat.beq (i % 2) 0 with
    | true =>
      rw [hb] at H'
      have h0 : i % 2 = 0 := Nat.eq_of_beq_eq_true hb
      obtain ⟨l', h1, h3⟩ := pushK_inv (t := l) H'
      refine ⟨_, h1, fun j => ?_⟩
      cases j with
      | zero => simp [T.get]
      | succ j =>
        simp only [T.get]
        by_cases hj : j % 2 = 0
        · rw [if_pos hj, if_pos hj, h3 (j / 2)]
          by_cases e : j = i
          · subst e; rw [if_pos rfl, if_pos rfl]
          · rw [if_neg (fun e2 => e (get_le e2 (by omega))), if_neg (fun e2 => e (by omega))]
        · rw [if_neg hj, if_neg hj, if_neg (fun e2 => hj (by have : j = i := by omega
                                                             rw [this]; exact h0))]
    | false =>
      rw [hb] at H'
      have h0 : ¬ i % 2 = 0 := fun e => by rw [e] at hb; cases hb
      obtain ⟨q', h1, h3⟩ := pushK_inv (t := q) H'
      refine ⟨_, h1, fun j => ?_⟩
      cases j with
      | zero => simp [T.get]
      | succ j =>
        simp only [T.get]
        by_cases hj : j % 2 = 0
        · rw [if_pos hj, if_pos hj, if_neg (fun e2 => h0 (by have : j = i := by omega
                                                             rw [← this]; exact hj))]
        · rw [if_neg hj, if_neg hj, h3 (j / 2)]
          by_cases e : j = i
          · subst e; rw [if_pos rfl, if_pos rfl]
          · rw [if_neg (fun e2 => e (get_le e2 (by omega))), if_neg (fun e2 => e (by omega))]
end
/-- The heap: how many nodes, and which. -/
inductive H where
  | h (n : Nat) (t : T)
structure Rep (n : Nat) (t : T) (hp : Heap) : Prop where
  len : n = hp.length
  get : ∀ i, t.get i = hp[i]?
theorem Rep.nil : Rep 0 .e [] := ⟨rfl, fun i => by simp [T.get]⟩
theorem Rep.set {n : Nat} {t t' : T} {hp : Heap} (r : Rep n t hp) {i : Nat} {x : Node} (h : ∀ j, t'.get j = if j = i then some x else t.get j) (hi : (t.get i).isSome = true) : Rep n t' (hp.set i x) := by
  refine ⟨by simp [r.len], fun j => ?_⟩
  rw [h j, r.get j]
  rw [r.get i] at hi
  have hlt : i < hp.length := by
    rw [Option.isSome_iff_exists] at hi
    obtain ⟨y, hy⟩ := hi
    exact (List.getElem?_eq_some_iff.1 hy).1
  by_cases e : j = i
  · subst e; rw [if_pos rfl, List.getElem?_set_self hlt]
  · rw [if_neg e, List.getElem?_set_ne (Ne.symm e)]
theorem Rep.push {n : Nat} {t t' : T} {hp : Heap} (r : Rep n t hp) {x : Node} (h : ∀ j, t'.get j = if j = n then some x else t.get j) : Rep (n + 1) t' (hp ++ [x]) := by
  refine ⟨by simp [r.len], fun j => ?_⟩
  rw [h j, r.get j, r.len]
  by_cases e : j = hp.length
  · subst e; simp
  · rw [if_neg e]
    rcases Nat.lt_or_ge j hp.length with hl | hl
    · rw [List.getElem?_append_left hl]
    · rw [List.getElem?_eq_none (by omega), List.getElem?_eq_none (by simp; omega)]
section
variable {R : Type}
/-- A new node: its name, and the heap. -/
def newK (h : H) (x : Node) (k : Nat → H → Option R) : Option R :=
  @H.rec (fun _ => Option R) (fun n t => pushK t n x fun t' => k n (.h (Nat.succ n) t')) h
def RepH (h : H) (hp : Heap) : Prop := match h with | .h n t => Rep n t hp
theorem newK_inv {h : H} {hp : Heap} {x : Node} {k : Nat → H → Option R} {r : R} (hr : RepH h hp) (H : newK h x k = some r) : ∃ h', RepH h' (hp ++ [x]) ∧ k hp.length h' = some r := by
  obtain ⟨n, t⟩ := h
  obtain ⟨t', h1, h2⟩ := pushK_inv H
  have e := hr.len
  subst e
  exact ⟨.h (hp.length + 1) t', Rep.push hr h2, h1⟩
def cellK (h : H) (l : Nat) (k : Node → Option R) : Option R := @H.rec (fun _ => Option R) (fun _ t => getK t l k) h
theorem cellK_inv {h : H} {hp : Heap} {l : Nat} {k : Node → Option R} {r : R} (hr : RepH h hp) (H : cellK h l k = some r) : ∃ nd, hp[l]? = some nd ∧ k nd = some r := by
  obtain ⟨n, t⟩ := h
  obtain ⟨v, h1, h2⟩ := getK_inv H
  exact ⟨v, by rw [← hr.get]; exact h1, h2⟩
def rowK (h : H) (l : Nat) (k : Nat → List C → Option R) : Option R := cellK h l fun nd => @Node.rec (fun _ => Option R) none k (fun _ _ => none) nd
theorem rowK_inv {h : H} {hp : Heap} {l : Nat} {k : Nat → List C → Option R} {r : R} (hr : RepH h hp) (H : rowK h l k = some r) : ∃ e cs, hp[l]? = some (.row e cs) ∧ k e cs = some r := by
  obtain ⟨nd, h1, h2⟩ := cellK_inv hr H
  cases nd with
  | dead => cases h2
  | row e cs => exact ⟨e, cs, h1, h2⟩
  | map es c => cases h2
def mapK (h : H) (l : Nat) (k : Array MapEntry → Nat → Option R) : Option R := cellK h l fun nd => @Node.rec (fun _ => Option R) none (fun _ _ => none) k nd
theorem mapK_inv {h : H} {hp : Heap} {l : Nat} {k : Array MapEntry → Nat → Option R} {r : R} (hr : RepH h hp) (H : mapK h l k = some r) : ∃ es c, hp[l]? = some (.map es c) ∧ k es c = some r := by
  obtain ⟨nd, h1, h2⟩ := cellK_inv hr H
  cases nd with
  | dead => cases h2
  | row e cs => cases h2
  | map es c => exact ⟨es, c, h1, h2⟩
def storeK (h : H) (l : Nat) (x : Node) (k : H → Option R) : Option R := @H.rec (fun _ => Option R) (fun n t => setK t l x fun t' => k (.h n t')) h
theorem storeK_inv {h : H} {hp : Heap} {l : Nat} {x : Node} {k : H → Option R} {r : R} (hr : RepH h hp) (H : storeK h l x k = some r) : ∃ h', RepH h' (hp.set l x) ∧ k h' = some r := by
  obtain ⟨n, t⟩ := h
  obtain ⟨t', h1, h2, h3⟩ := setK_inv H
  exact ⟨.h n t', Rep.set hr h3 h2, h1⟩
end

/-! ### Numbers -/
def wrapZ (z : Int) : Int := @Int.rec (fun _ => Int) (fun n => @Bool.rec (fun _ => Int) (IntKind.i64.wrap (Int.ofNat n)) (Int.ofNat n) (Nat.ble n 9223372036854775807)) (fun n => @Bool.rec (fun _ => Int) (IntKind.i64.wrap (Int.negSucc n)) (Int.negSucc n) (Nat.ble n 9223372036854775807)) z
theorem wrapZ_eq (z : Int) : wrapZ z = IntKind.i64.wrap z := by
  cases z with
  | ofNat n =>
    show @Bool.rec (fun _ => Int) (IntKind.i64.wrap (Int.ofNat n)) (Int.ofNat n) (Nat.ble n 9223372036854775807) = _
    cases hb : Nat.ble n 9223372036854775807 with
    | false => rfl
    | true =>
      have := Nat.le_of_ble_eq_true hb
      show Int.ofNat n = _
      rw [Int.ofNat_eq_natCast]
      exact (wrap_in (by omega) (by omega)).symm
  | negSucc n =>
    show @Bool.rec (fun _ => Int) (IntKind.i64.wrap (Int.negSucc n)) (Int.negSucc n) (Nat.ble n 9223372036854775807) = _
    cases hb : Nat.ble n 9223372036854775807 with
    | false => rfl
    | true =>
      have := Nat.le_of_ble_eq_true hb
      show Int.negSucc n = _
      exact (wrap_in (by omega) (by omega)).symm
def addZ (x y : Int) : Int := @Int.rec (fun _ => Int) (fun m => @Int.rec (fun _ => Int) (fun n => Int.ofNat (Nat.add m n)) (fun n => Int.ofNat m + Int.negSucc n) y) (fun m => Int.negSucc m + y) x
theorem addZ_eq (x y : Int) : addZ x y = x + y := by cases x <;> cases y <;> rfl
def subZ (x y : Int) : Int := @Int.rec (fun _ => Int) (fun m => @Int.rec (fun _ => Int) (fun n => @Bool.rec (fun _ => Int) (Int.ofNat m - Int.ofNat n) (Int.ofNat (Nat.sub m n)) (Nat.ble n m)) (fun n => Int.ofNat m - Int.negSucc n) y) (fun m => Int.negSucc m - y) x
theorem subZ_eq (x y : Int) : subZ x y = x - y := by
  cases x with
  | negSucc m => rfl
  | ofNat m =>
    cases y with
    | negSucc n => rfl
    | ofNat n =>
      show @Bool.rec (fun _ => Int) (Int.ofNat m - Int.ofNat n) (Int.ofNat (Nat.sub m n)) (Nat.ble n m) = _
      cases hb : Nat.ble n m with
      | false => rfl
      | true =>
        have := Nat.le_of_ble_eq_true hb
        show ((m - n : Nat) : Int) = (m : Int) - (n : Int)
        omega
def ltZ (x y : Int) : Bool := @Int.rec (fun _ => Bool) (fun m => @Int.rec (fun _ => Bool) (fun n => Nat.ble (Nat.succ m) n) (fun _ => false) y) (fun m => @Int.rec (fun _ => Bool) (fun _ => true) (fun n => Nat.ble (Nat.succ n) m) y) x
theorem ltZ_eq (x y : Int) : ltZ x y = decide (x < y) := by
  have key : ∀ (b : Bool) (p : Prop) [Decidable p], (b = true ↔ p) → b = decide p := fun b p _ h => by cases b <;> simp_all
  refine key _ _ ?_
  cases x <;> cases y <;> simp only [ltZ, Nat.ble_eq, Int.ofNat_eq_natCast, Bool.false_eq_true, true_iff, false_iff] <;> omega
def leZ (x y : Int) : Bool := @Int.rec (fun _ => Bool) (fun m => @Int.rec (fun _ => Bool) (fun n => Nat.ble m n) (fun _ => false) y) (fun m => @Int.rec (fun _ => Bool) (fun _ => true) (fun n => Nat.ble n m) y) x
theorem leZ_eq (x y : Int) : leZ x y = decide (x ≤ y) := by
  have key : ∀ (b : Bool) (p : Prop) [Decidable p], (b = true ↔ p) → b = decide p := fun b p _ h => by cases b <;> simp_all
  refine key _ _ ?_
  cases x <;> cases y <;> simp only [leZ, Nat.ble_eq, Int.ofNat_eq_natCast, Bool.false_eq_true, true_iff, false_iff] <;> omega
def eqZ (x y : Int) : Bool := @Int.rec (fun _ => Bool) (fun m => @Int.rec (fun _ => Bool) (fun n => Nat.beq m n) (fun _ => false) y) (fun m => @Int.rec (fun _ => Bool) (fun _ => false) (fun n => Nat.beq m n) y) x
theorem eqZ_eq (x y : Int) : eqZ x y = decide (x = y) := by
  have key : ∀ (b : Bool) (p : Prop) [Decidable p], (b = true ↔ p) → b = decide p := fun b p _ h => by cases b <;> simp_all
  refine key _ _ ?_
  cases x <;> cases y <;> simp only [eqZ, Nat.beq_eq, Int.ofNat_eq_natCast, Bool.false_eq_true, false_iff] <;> omega
end
end Go.Tm.Q
