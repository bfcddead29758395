import Derived.Test.YtahcbcgakadfpaaT1
namespace Go.Tm

/-- Where a node of the machine's heap lies: the block, the first cell, how many cells there are from there on, the size of an element, how many cells the machine knows. -/
structure Loc where
  block : Nat
  base : Nat
  room : Nat
  esz : Nat
  known : Nat
  deriving Inhabited

/-- No name. -/
def noName (_ : Nat) : Prop := False

section
variable (w : World) (bad : Nat → Prop)
mutual
/-- A machine's value and a value of the model, in a world: no frozen one lies in a block that is 'bad' (may yet be written), or holds a name; S: the names that are given; φ: where they lie. -/
def Rel (S : Nat → Prop) (φ : Nat → Loc) : C → Value → Prop
  | .v x, u => u = x ∧ x.oneCell' = true
  | .fs xs len cap, u => ((∃ a, u = .slice a 0 0) ∧ xs = [] ∧ len = 0 ∧ (cap = none ∨ cap = some 0)) ∨
      ∃ b o cap', u = .slice (some ⟨b, o, none⟩) len cap' ∧ len ≤ cap' ∧ (∀ c, cap = some c → cap' = c) ∧ (xs = [] ∨ ¬ bad b ∧ b < w.heap.size ∧ RelAt noName φ xs b o)
  | .fp xs, u => ∃ b o, u = .pointer (some ⟨b, o, none⟩) ∧ (xs = [] ∨ ¬ bad b ∧ b < w.heap.size ∧ RelAt noName φ xs b o)
  | .os l off len cap, u => S l ∧ ∃ b o cap', u = .slice (some ⟨b, o, none⟩) len cap' ∧ len ≤ cap' ∧ (∀ c, cap = some c → cap' = c) ∧ (cap' = 0 ∨ b = (φ l).block ∧ o = (φ l).base + off) ∧
      (cap' = 0 ∨ off + cap' * (φ l).esz ≤ (φ l).room) ∧ (cap = none → (φ l).known ≤ off + cap' * (φ l).esz)
  | .op l off, u => S l ∧ u = .pointer (some ⟨(φ l).block, (φ l).base + off, none⟩)
  | .om l, u => S l ∧ u = .map (some (φ l).block)
  | .fn f caps, u => ∃ us, u = .func (.func f) #[] us ∧ RelL S φ caps us.toList
  | .agg cs, u => ∃ us, u = .agg us ∧ RelL S φ cs us.toList ∧ ∀ x ∈ us.toList, x.oneCell' = true
  | .tup cs, u => ∃ us, u = .tuple us ∧ RelL S φ cs us.toList
def RelAt (S : Nat → Prop) (φ : Nat → Loc) : List C → Nat → Nat → Prop
  | [], _, _ => True
  | c :: cs, b, o => (∃ u, w.cell? ⟨b, o, none⟩ = some u ∧ Rel S φ c u ∧ u.oneCell' = true) ∧ RelAt S φ cs b (o + 1)
def RelL (S : Nat → Prop) (φ : Nat → Loc) : List C → List Value → Prop
  | [], us => us = []
  | c :: cs, us => ∃ u r, us = u :: r ∧ Rel S φ c u ∧ RelL S φ cs r
end
end

section
variable {w w' : World} {bad bad' S S' : Nat → Prop} {φ φ' : Nat → Loc}

theorem RelL.length : ∀ {cs : List C} {us : List Value}, RelL w bad S φ cs us → us.length = cs.length
  | [], us, h => by simp only [RelL] at h; simp [h]
  | c :: cs, us, h => by
    simp only [RelL] at h
    obtain ⟨u, r, rfl, _, h⟩ := h
    simp [RelL.length h]

theorem RelL.get : ∀ {cs : List C} {us : List Value} {i : Nat} {c : C}, RelL w bad S φ cs us → cs[i]? = some c → ∃ u, us[i]? = some u ∧ Rel w bad S φ c u
  | [], _, _, _, _, h => by simp at h
  | c :: cs, us, i, d, h, hi => by
    simp only [RelL] at h
    obtain ⟨u, r, rfl, hc, h⟩ := h
    cases i with
    | zero => simp at hi; subst hi; exact ⟨u, rfl, hc⟩
    | succ i => simp at hi; obtain ⟨v, hv, hr⟩ := RelL.get h hi; exact ⟨v, by simpa using hv, hr⟩

theorem RelL.append : ∀ {cs ds : List C} {us vs : List Value}, RelL w bad S φ cs us → RelL w bad S φ ds vs → RelL w bad S φ (cs ++ ds) (us ++ vs)
  | [], ds, us, vs, h, k => by simp only [RelL] at h; subst h; exact k
  | c :: cs, ds, us, vs, h, k => by
    simp only [RelL] at h
    obtain ⟨u, r, rfl, hc, h⟩ := h
    simp only [List.cons_append, RelL]
    exact ⟨u, r ++ vs, rfl, hc, RelL.append h k⟩

theorem RelL.take : ∀ {cs : List C} {us : List Value} (n : Nat), RelL w bad S φ cs us → RelL w bad S φ (cs.take n) (us.take n)
  | [], us, n, h => by simp only [RelL] at h; subst h; simp [RelL]
  | c :: cs, us, 0, h => by simp [RelL]
  | c :: cs, us, n + 1, h => by
    simp only [RelL] at h
    obtain ⟨u, r, rfl, hc, h⟩ := h
    simp only [List.take_succ_cons, RelL]
    exact ⟨u, _, rfl, hc, RelL.take n h⟩

theorem RelL.drop : ∀ {cs : List C} {us : List Value} (n : Nat), RelL w bad S φ cs us → RelL w bad S φ (cs.drop n) (us.drop n)
  | [], us, n, h => by simp only [RelL] at h; subst h; simp [RelL]
  | c :: cs, us, 0, h => h
  | c :: cs, us, n + 1, h => by
    simp only [RelL] at h
    obtain ⟨u, r, rfl, hc, h⟩ := h
    simpa using RelL.drop n h

theorem RelAt.drop : ∀ {cs : List C} {b o : Nat} (n : Nat), RelAt w bad S φ cs b o → RelAt w bad S φ (cs.drop n) b (o + n)
  | [], b, o, n, h => by simp [RelAt]
  | c :: cs, b, o, 0, h => h
  | c :: cs, b, o, n + 1, h => by
    simp only [RelAt] at h
    have := RelAt.drop n h.2
    simpa [Nat.add_assoc, Nat.add_comm 1 n] using this

theorem RelAt.take : ∀ {cs : List C} {b o : Nat} (n : Nat), RelAt w bad S φ cs b o → RelAt w bad S φ (cs.take n) b o
  | [], b, o, n, h => by simp [RelAt]
  | c :: cs, b, o, 0, h => by simp [RelAt]
  | c :: cs, b, o, n + 1, h => by
    simp only [RelAt] at h
    simp only [List.take_succ_cons, RelAt]
    exact ⟨h.1, RelAt.take n h.2⟩

theorem RelAt.append : ∀ {cs ds : List C} {b o : Nat}, RelAt w bad S φ cs b o → RelAt w bad S φ ds b (o + cs.length) → RelAt w bad S φ (cs ++ ds) b o
  | [], ds, b, o, _, k => by simpa using k
  | c :: cs, ds, b, o, h, k => by
    simp only [RelAt] at h
    simp only [List.cons_append, RelAt]
    refine ⟨h.1, RelAt.append h.2 ?_⟩
    simpa [Nat.add_assoc, Nat.add_comm 1] using k

/-- What lies there, read off. -/
theorem RelAt.reads : ∀ {cs : List C} {b o : Nat}, RelAt w bad S φ cs b o → ∃ us : List Value, us.length = cs.length ∧ RelL w bad S φ cs us ∧ w.rangeAt b o us ∧ ∀ x ∈ us, x.oneCell' = true
  | [], b, o, _ => ⟨[], rfl, by simp [RelL], fun j v h => by simp at h, by simp⟩
  | c :: cs, b, o, h => by
    simp only [RelAt] at h
    obtain ⟨⟨u, hu, hr, h1⟩, h⟩ := h
    obtain ⟨us, hl, hrel, hra, hone⟩ := RelAt.reads h
    refine ⟨u :: us, by simp [hl], by simp only [RelL]; exact ⟨u, us, rfl, hr, hrel⟩, fun j v hj => ?_, fun x hx => ?_⟩
    · cases j with
      | zero => simp at hj; subst hj; exact hu
      | succ j => have := hra j v (by simpa using hj); simpa [Nat.add_assoc, Nat.add_comm 1] using this
    · rcases List.mem_cons.1 hx with rfl | hx
      · exact h1
      · exact hone x hx

theorem RelAt.of_range : ∀ {cs : List C} {us : List Value} {b o : Nat}, RelL w bad S φ cs us → w.rangeAt b o us → (∀ x ∈ us, x.oneCell' = true) → RelAt w bad S φ cs b o
  | [], _, _, _, _, _, _ => by simp [RelAt]
  | c :: cs, us, b, o, h, hr, h1 => by
    simp only [RelL] at h
    obtain ⟨u, r, rfl, hc, h⟩ := h
    simp only [RelAt]
    refine ⟨⟨u, by simpa using hr 0 u rfl, hc, h1 u (by simp)⟩, RelAt.of_range h (fun j v hj => ?_) (fun x hx => h1 x (by simp [hx]))⟩
    have := hr (j + 1) v (by simpa using hj)
    simpa [Nat.add_assoc, Nat.add_comm 1] using this

/-- From one world to a later one. -/
structure Later (w : World) (bad S : Nat → Prop) (φ : Nat → Loc) (w' : World) (bad' S' : Nat → Prop) (φ' : Nat → Loc) : Prop where
  cell : ∀ b o u, ¬ bad b → b < w.heap.size → w.cell? ⟨b, o, none⟩ = some u → w'.cell? ⟨b, o, none⟩ = some u
  bad : ∀ b, b < w.heap.size → bad' b → bad b
  size : w.heap.size ≤ w'.heap.size
  names : ∀ l, S l → S' l ∧ φ' l = φ l

theorem Later.no (k : Later w bad S φ w' bad' S' φ') (ψ ψ' : Nat → Loc) (S2 : Nat → Prop) : Later w bad noName ψ w' bad' S2 ψ' := ⟨k.cell, k.bad, k.size, fun _ h => h.elim⟩

mutual
theorem Rel.later {S S' : Nat → Prop} {φ φ' : Nat → Loc} (k : Later w bad S φ w' bad' S' φ') : ∀ {c : C} {u : Value}, Rel w bad S φ c u → Rel w' bad' S' φ' c u
  | .v x, u, h => by simpa only [Rel] using h
  | .fs xs len cap, u, h => by
    simp only [Rel] at h ⊢
    rcases h with h | ⟨b, o, cap', hu, hl, hc, hx⟩
    · exact .inl h
    · refine .inr ⟨b, o, cap', hu, hl, hc, ?_⟩
      rcases hx with hx | ⟨hb, hs, hx⟩
      · exact .inl hx
      · exact .inr ⟨fun h => hb (k.bad b hs h), Nat.lt_of_lt_of_le hs k.size, RelAt.later (k.no φ φ' noName) hb hs hx⟩
  | .fp xs, u, h => by
    simp only [Rel] at h ⊢
    obtain ⟨b, o, hu, hx⟩ := h
    refine ⟨b, o, hu, ?_⟩
    rcases hx with hx | ⟨hb, hs, hx⟩
    · exact .inl hx
    · exact .inr ⟨fun h => hb (k.bad b hs h), Nat.lt_of_lt_of_le hs k.size, RelAt.later (k.no φ φ' noName) hb hs hx⟩
  | .os l off len cap, u, h => by
    simp only [Rel] at h ⊢
    obtain ⟨hS, h⟩ := h
    obtain ⟨hS', e⟩ := k.names l hS
    rw [e]
    exact ⟨hS', h⟩
  | .op l off, u, h => by
    simp only [Rel] at h ⊢
    obtain ⟨hS', e⟩ := k.names l h.1
    rw [e]
    exact ⟨hS', h.2⟩
  | .om l, u, h => by
    simp only [Rel] at h ⊢
    obtain ⟨hS', e⟩ := k.names l h.1
    rw [e]
    exact ⟨hS', h.2⟩
  | .fn f caps, u, h => by
    simp only [Rel] at h ⊢
    obtain ⟨us, hu, h⟩ := h
    exact ⟨us, hu, RelL.later k h⟩
  | .agg cs, u, h => by
    simp only [Rel] at h ⊢
    obtain ⟨us, hu, h, h1⟩ := h
    exact ⟨us, hu, RelL.later k h, h1⟩
  | .tup cs, u, h => by
    simp only [Rel] at h ⊢
    obtain ⟨us, hu, h⟩ := h
    exact ⟨us, hu, RelL.later k h⟩
theorem RelAt.later {S S' : Nat → Prop} {φ φ' : Nat → Loc} (k : Later w bad S φ w' bad' S' φ') : ∀ {cs : List C} {b o : Nat}, ¬ bad b → b < w.heap.size → RelAt w bad S φ cs b o → RelAt w' bad' S' φ' cs b o
  | [], _, _, _, _, _ => by simp [RelAt]
  | c :: cs, b, o, hb, hs, h => by
    simp only [RelAt] at h ⊢
    obtain ⟨⟨u, hu, hr, h1⟩, h⟩ := h
    exact ⟨⟨u, k.cell b o u hb hs hu, Rel.later k hr, h1⟩, RelAt.later k hb hs h⟩
theorem RelL.later {S S' : Nat → Prop} {φ φ' : Nat → Loc} (k : Later w bad S φ w' bad' S' φ') : ∀ {cs : List C} {us : List Value}, RelL w bad S φ cs us → RelL w' bad' S' φ' cs us
  | [], _, h => by simpa only [RelL] using h
  | c :: cs, us, h => by
    simp only [RelL] at h ⊢
    obtain ⟨u, r, hu, hr, h⟩ := h
    exact ⟨u, r, hu, Rel.later k hr, RelL.later k h⟩
end

theorem Later.refl : Later w bad S φ w bad S φ := ⟨fun _ _ _ _ _ h => h, fun _ _ h => h, Nat.le_refl _, fun _ h => ⟨h, rfl⟩⟩
/-- What holds no name is related under all. -/
theorem RelAt.free {cs : List C} {b o : Nat} (hb : ¬ bad b) (hs : b < w.heap.size) (h : RelAt w bad noName φ cs b o) : RelAt w bad S φ' cs b o := RelAt.later ((Later.refl (w := w) (bad := bad) (S := S) (φ := φ)).no φ φ' S) hb hs h

/-- What a frozen slice or pointer holds. -/
def Fro (w : World) (bad : Nat → Prop) (φ : Nat → Loc) (xs : List C) (b o : Nat) : Prop := xs = [] ∨ ¬ bad b ∧ b < w.heap.size ∧ RelAt w bad noName φ xs b o
theorem Fro.relAt {xs : List C} {b o : Nat} (h : Fro w bad φ xs b o) : RelAt w bad S φ' xs b o := by
  rcases h with rfl | ⟨hb, hs, hx⟩
  · simp [RelAt]
  · exact RelAt.free hb hs hx
theorem Fro.drop {xs : List C} {b o : Nat} (h : Fro w bad φ xs b o) (n : Nat) : Fro w bad φ (xs.drop n) b (o + n) := by
  rcases h with rfl | ⟨hb, hs, hx⟩
  · exact .inl (by simp)
  · exact .inr ⟨hb, hs, RelAt.drop n hx⟩
theorem Fro.take {xs : List C} {b o : Nat} (h : Fro w bad φ xs b o) (n : Nat) : Fro w bad φ (xs.take n) b o := by
  rcases h with rfl | ⟨hb, hs, hx⟩
  · exact .inl (by simp)
  · exact .inr ⟨hb, hs, RelAt.take n hx⟩

/-- A row whose own cells stay: whatever its block. -/
theorem RelAt.moved (k : Later w bad S φ w' bad' S' φ') : ∀ {cs : List C} {b o b' o' : Nat}, RelAt w bad S φ cs b o → (∀ j u, j < cs.length → w.cell? ⟨b, o + j, none⟩ = some u → w'.cell? ⟨b', o' + j, none⟩ = some u) → RelAt w' bad' S' φ' cs b' o'
  | [], _, _, _, _, _, _ => by simp [RelAt]
  | c :: cs, b, o, b', o', h, hk => by
    simp only [RelAt] at h ⊢
    obtain ⟨⟨u, hu, hr, h1⟩, h⟩ := h
    refine ⟨⟨u, by simpa using hk 0 u (by simp) (by simpa using hu), Rel.later k hr, h1⟩, RelAt.moved k h fun j u hj hu => ?_⟩
    have := hk (j + 1) u (by simpa using hj) (by simpa [Nat.add_assoc, Nat.add_comm 1] using hu)
    simpa [Nat.add_assoc, Nat.add_comm 1] using this
end

/-! ### The heap -/
def live (h : Heap) (l : Nat) : Prop := ∃ nd, h[l]? = some nd ∧ nd ≠ .dead
def Own (φ : Nat → Loc) (h : Heap) (b : Nat) : Prop := ∃ l, live h l ∧ (φ l).block = b
def badOf (X : Nat → Prop) (φ : Nat → Loc) (h : Heap) (b : Nat) : Prop := X b ∨ Own φ h b

def OkNode (w : World) (bad S : Nat → Prop) (φ : Nat → Loc) (l : Nat) : Node → Prop
  | .dead => True
  | .row e cs => (φ l).esz = e ∧ (φ l).known = cs.length ∧ cs.length ≤ (φ l).room ∧ w.there (φ l).block (φ l).base (φ l).room ∧ RelAt w bad S φ cs (φ l).block (φ l).base
  | .map es clock => w.heap[(φ l).block]? = some (.map es clock)

structure Good (w : World) (X S : Nat → Prop) (φ : Nat → Loc) (h : Heap) : Prop where
  node : ∀ l nd, h[l]? = some nd → OkNode w (badOf X φ h) S φ l nd
  inS : ∀ l, live h l → S l
  size : ∀ l, live h l → (φ l).block < w.heap.size
  inj : ∀ l m, live h l → live h m → (φ l).block = (φ m).block → l = m
  xlt : ∀ b, X b → b < w.heap.size
  apart : ∀ l, live h l → ¬ X (φ l).block

/-- What a piece of code may do to the world: blocks that were there and are none of the heap's stay as they are. -/
structure Ext (w : World) (S : Nat → Prop) (φ : Nat → Loc) (h : Heap) (w' : World) (S' : Nat → Prop) (φ' : Nat → Loc) (h' : Heap) : Prop where
  os : w'.os = w.os
  tape : w'.tape = w.tape
  output : w'.output = w.output
  size : w.heap.size ≤ w'.heap.size
  keep : ∀ b, b < w.heap.size → ¬ Own φ h b → w'.heap[b]? = w.heap[b]?
  names : ∀ l, S l → S' l ∧ φ' l = φ l
  own : ∀ l, live h' l → Own φ h (φ' l).block ∨ w.heap.size ≤ (φ' l).block

theorem Ext.refl (w : World) (S : Nat → Prop) (φ : Nat → Loc) (h : Heap) : Ext w S φ h w S φ h :=
  ⟨rfl, rfl, rfl, Nat.le_refl _, fun _ _ _ => rfl, fun _ h => ⟨h, rfl⟩, fun l hl => .inl ⟨l, hl, rfl⟩⟩

section
variable {w w' w2 : World} {X S S' S2 : Nat → Prop} {φ φ' φ2 : Nat → Loc} {h h' h2 : Heap}

theorem Ext.trans (a : Ext w S φ h w' S' φ' h') (b : Ext w' S' φ' h' w2 S2 φ2 h2) : Ext w S φ h w2 S2 φ2 h2 where
  os := b.os.trans a.os
  tape := b.tape.trans a.tape
  output := b.output.trans a.output
  size := Nat.le_trans a.size b.size
  keep k hk ho := by
    rw [b.keep k (Nat.lt_of_lt_of_le hk a.size) (fun ⟨l, hl, e⟩ => ?_), a.keep k hk ho]
    rcases a.own l hl with hh | hh
    · exact ho (e ▸ hh)
    · omega
  names l hl := by
    obtain ⟨h1, e1⟩ := a.names l hl
    obtain ⟨h2, e2⟩ := b.names l h1
    exact ⟨h2, e2.trans e1⟩
  own l hl := by
    rcases b.own l hl with ⟨m, hm, e⟩ | hh
    · rcases a.own m hm with ho | ho
      · exact .inl (e ▸ ho)
      · exact .inr (by omega)
    · exact .inr (by have := a.size; omega)

theorem cell_of_heap {w w' : World} {b o : Nat} (e : w'.heap[b]? = w.heap[b]?) : w'.cell? ⟨b, o, none⟩ = w.cell? ⟨b, o, none⟩ := World.cell?_of_block (a := ⟨b, o, none⟩) e

theorem Ext.later (a : Ext w S φ h w' S' φ' h') : Later w (badOf X φ h) S φ w' (badOf X φ' h') S' φ' where
  cell b o u hb hs hu := by rw [cell_of_heap (a.keep b hs (fun ho => hb (.inr ho)))]; exact hu
  bad b hs hb := by
    rcases hb with hb | ⟨l, hl, e⟩
    · exact .inl hb
    · rcases a.own l hl with ho | ho
      · exact .inr (e ▸ ho)
      · omega
  size := a.size
  names := a.names

/-- A frame's tmps. -/
def RelE (w : World) (bad S : Nat → Prop) (φ : Nat → Loc) (env : Env) (tmps : Array Value) : Prop :=
  ∀ t c, look env t = some c → ∃ u, tmps[t]? = some u ∧ Rel w bad S φ c u

theorem RelE.later {bad bad' : Nat → Prop} (k : Later w bad S φ w' bad' S' φ') {env : Env} {tmps : Array Value} (he : RelE w bad S φ env tmps) : RelE w' bad' S' φ' env tmps :=
  fun t c hc => let ⟨u, hu, hr⟩ := he t c hc; ⟨u, hu, Rel.later k hr⟩

theorem RelE.put {bad : Nat → Prop} {env : Env} {tmps : Array Value} (he : RelE w bad S φ env tmps) {d : Nat} {c : C} {u : Value} (hd : d < tmps.size) (hr : Rel w bad S φ c u) :
    RelE w bad S φ ((d, c) :: env) (tmps.setIfInBounds d u) := fun t c' hc => by
  unfold look at hc
  by_cases e : d = t
  · rw [if_pos e] at hc
    cases hc
    subst e
    exact ⟨u, by simp [hd], hr⟩
  · rw [if_neg e] at hc
    obtain ⟨v, hv, hr'⟩ := he t c' hc
    exact ⟨v, by rw [Array.getElem?_setIfInBounds_ne e]; exact hv, hr'⟩

theorem look_keepE : ∀ (ks : List Nat) (env : Env) (t : Nat) (c : C), look (keepE env ks) t = some c → look env t = some c
  | [], env, t, c, h => by simp [keepE, look] at h
  | k :: ks, env, t, c, h => by
    unfold keepE at h
    cases hk : look env k with
    | none => rw [hk] at h; exact look_keepE ks env t c h
    | some d =>
      rw [hk] at h
      unfold look at h
      by_cases e : k = t
      · rw [if_pos e] at h; cases h; exact e ▸ hk
      · rw [if_neg e] at h; exact look_keepE ks env t c h

theorem RelE.keep {bad : Nat → Prop} {env : Env} {tmps : Array Value} (he : RelE w bad S φ env tmps) (ks : List Nat) : RelE w bad S φ (keepE env ks) tmps :=
  fun t c hc => he t c (look_keepE ks env t c hc)
end

/-! ### Operands -/
section
variable {w : World} {bad S : Nat → Prop} {φ : Nat → Loc}

theorem relL_vs : ∀ {us : List Value}, us.all oneCell = true → RelL w bad S φ (us.map .v) us
  | [], _ => by simp [RelL]
  | u :: us, h => by
    simp only [List.all_cons, Bool.and_eq_true] at h
    simp only [List.map_cons, RelL]
    exact ⟨u, us, rfl, by simp only [Rel]; exact ⟨trivial, h.1⟩, relL_vs h.2⟩

theorem ofV_rel {x : Value} {c : C} (h : ofV x = some c) : Rel w bad S φ c x := by
  unfold ofV at h
  split at h
  · split at h
    · rename_i cs hall
      cases h
      simp only [Rel]
      exact ⟨cs, rfl, relL_vs hall, fun x hx => List.all_eq_true.1 hall x hx⟩
    · cases h
  · split at h
    · rename_i cs hnil
      cases h
      simp only [Rel]
      exact ⟨cs, rfl, by rw [hnil]; simp [RelL]⟩
    · cases h
  · cases h
    rename_i h1 h2
    simp only [Rel]
    refine ⟨trivial, ?_⟩
    cases x <;> first | rfl | (exact absurd rfl (h1 _)) | (exact absurd rfl (h2 _))

theorem ev_rel {env : Env} {a : Act} (he : RelE w bad S φ env a.tmps) {x : Operand} {c : C} (h : ev env x = some c) : Rel w bad S φ c (a.eval x) := by
  cases x with
  | tmp t =>
    obtain ⟨u, hu, hr⟩ := he t c h
    simpa [Act.eval, hu] using hr
  | const v => exact ofV_rel h
  | global g => cases h
  | func f =>
    simp only [ev, Option.some.injEq] at h
    subst h
    simp only [Rel, Act.eval]
    exact ⟨#[], rfl, by simp [RelL]⟩

theorem evs_rel {env : Env} {a : Act} (he : RelE w bad S φ env a.tmps) : ∀ {xs : List Operand} {cs : List C}, evs env xs = some cs → RelL w bad S φ cs (xs.map a.eval)
  | [], cs, h => by simp only [evs, Option.some.injEq] at h; subst h; simp [RelL]
  | x :: xs, cs, h => by
    simp only [evs, Option.bind_eq_bind, Option.bind_eq_some_iff, Option.some.injEq] at h
    obtain ⟨c, hc, ds, hd, rfl⟩ := h
    simp only [List.map_cons, RelL]
    exact ⟨_, _, rfl, ev_rel he hc, evs_rel he hd⟩

theorem cells_rel {c : C} {u : Value} (h : Rel w bad S φ c u) (hc : c.cells.all C.isCell = true) : RelL w bad S φ c.cells u.cells.toList ∧ ∀ x ∈ u.cells.toList, x.oneCell' = true := by
  have one : ∀ {c : C} {u : Value}, c.isCell = true → Rel w bad S φ c u → (∀ cs, u ≠ .agg cs) ∧ u.oneCell' = true := by
    intro c u hc h
    cases c <;> simp only [Rel, C.isCell] at h hc
    case v x => obtain ⟨rfl, h⟩ := h; exact ⟨fun cs e => by subst e; simp [Value.oneCell'] at h, h⟩
    case fs => rcases h with ⟨⟨_, rfl⟩, _⟩ | ⟨_, _, _, rfl, _⟩ <;> exact ⟨by simp, rfl⟩
    case fp => obtain ⟨_, _, rfl, _⟩ := h; exact ⟨by simp, rfl⟩
    case os => obtain ⟨_, _, _, _, rfl, _⟩ := h; exact ⟨by simp, rfl⟩
    case op => obtain ⟨_, rfl⟩ := h; exact ⟨by simp, rfl⟩
    case om => obtain ⟨_, rfl⟩ := h; exact ⟨by simp, rfl⟩
    case fn => obtain ⟨_, rfl, _⟩ := h; exact ⟨by simp, rfl⟩
    all_goals cases hc
  cases c with
  | agg cs =>
    simp only [Rel] at h
    obtain ⟨us, rfl, h, h1⟩ := h
    exact ⟨h, h1⟩
  | tup cs => simp [C.cells, C.isCell] at hc
  | _ =>
    have h2 := one (by simpa [C.cells] using hc) h
    have e : u.cells = #[u] := by
      cases u <;> first | rfl | exact absurd rfl (h2.1 _)
    rw [e]
    refine ⟨?_, ?_⟩
    · simp only [C.cells, RelL]
      exact ⟨u, [], rfl, h, rfl⟩
    · intro x hx
      simp at hx
      subst hx
      exact h2.2

theorem intOf_rel {c : C} {u : Value} (h : Rel w bad S φ c u) {k : IntKind} {n : Int} (hi : intOf c = some (k, n)) : u = .int k n := by
  unfold intOf at hi
  split at hi
  · cases hi
    simp only [Rel] at h
    exact h.1
  · cases hi

theorem boolOf_rel {c : C} {u : Value} (h : Rel w bad S φ c u) {b : Bool} (hi : boolOf c = some b) : u = .bool b := by
  unfold boolOf at hi
  split at hi
  · cases hi
    simp only [Rel] at h
    exact h.1
  · cases hi

theorem scalar_rel {c : C} {u : Value} (h : Rel w bad S φ c u) {x : Value} (hi : scalar c = some x) : u = x := by
  unfold scalar at hi
  split at hi
  · cases hi
    simp only [Rel] at h
    exact h.1
  · cases hi

theorem scalars_rel : ∀ {cs : List C} {us xs : List Value}, RelL w bad S φ cs us → scalars cs = some xs → us = xs
  | [], us, xs, h, hi => by simp only [scalars, Option.some.injEq] at hi; simp only [RelL] at h; rw [h, hi]
  | c :: cs, us, xs, h, hi => by
    simp only [scalars, Option.bind_eq_bind, Option.bind_eq_some_iff, Option.some.injEq] at hi
    obtain ⟨x, hx, ys, hy, rfl⟩ := hi
    simp only [RelL] at h
    obtain ⟨u, r, rfl, hc, h⟩ := h
    rw [scalar_rel hc hx, scalars_rel h hy]
end

/-! ### Computations that touch no world -/
theorem pureRun_run {P : Program} {α : Type} : ∀ {s : Sem α} {a : α}, pureRun P s = some a → ∀ w, s.run P w = .ok a w
  | .pure b, a, h, w => by simp only [pureRun, Option.some.injEq] at h; subst h; rfl
  | .program k, a, h, w => by simp only [pureRun] at h; simp only [Sem.run]; exact pureRun_run h w
  | .mark m k, a, h, w => by simp only [pureRun] at h; simp only [Sem.run]; exact pureRun_run h w
  | .load .., a, h, w => by simp [pureRun] at h
  | .store .., a, h, w => by simp [pureRun] at h
  | .new .., a, h, w => by simp [pureRun] at h
  | .shape .., a, h, w => by simp [pureRun] at h
  | .freeze .., a, h, w => by simp [pureRun] at h
  | .frozen .., a, h, w => by simp [pureRun] at h
  | .getObj .., a, h, w => by simp [pureRun] at h
  | .setObj .., a, h, w => by simp [pureRun] at h
  | .choose .., a, h, w => by simp [pureRun] at h
  | .sys .., a, h, w => by simp [pureRun] at h
  | .halt .., a, h, w => by simp [pureRun] at h

end Go.Tm
