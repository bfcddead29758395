import Derived.Test.YtahcbcgakadfpaaT2
namespace Go.Tm

/-! ### The heap's turns -/
def upd (φ : Nat → Loc) (n : Nat) (x : Loc) : Nat → Loc := fun l => if l = n then x else φ l
theorem upd_same (φ : Nat → Loc) (n : Nat) (x : Loc) : upd φ n x n = x := by simp [upd]
theorem upd_other (φ : Nat → Loc) {n l : Nat} (x : Loc) (h : l ≠ n) : upd φ n x l = φ l := by simp [upd, h]

/-- The name that a new node gets is free. -/
structure AllocOk (S : Nat → Prop) (h : Heap) (al : Option Nat) : Prop where
  free : ¬ S (new h al .dead).1
  lt : ∀ s, al = some s → s < h.length

theorem new_name (h : Heap) (al : Option Nat) (nd nd' : Node) : (new h al nd).1 = (new h al nd').1 := by cases al <;> rfl
theorem new_len (h : Heap) (al : Option Nat) (nd nd' : Node) : (new h al nd).2.length = (new h al nd').2.length := by cases al <;> simp [new]
theorem new_at {S : Nat → Prop} {h : Heap} {al : Option Nat} (ok : AllocOk S h al) (nd : Node) : (new h al nd).2[(new h al nd).1]? = some nd := by
  cases al with
  | none => simp [new]
  | some s => have := ok.lt s rfl; simp [new, this]
theorem new_other {h : Heap} {al : Option Nat} (nd : Node) {l : Nat} (hl : l ≠ (new h al nd).1) : (new h al nd).2[l]? = h[l]? ∨ (h[l]? = none ∧ (new h al nd).2[l]? = none) := by
  cases al with
  | none =>
    simp only [new] at hl ⊢
    rcases Nat.lt_or_ge l h.length with hh | hh
    · left; rw [List.getElem?_append_left hh]
    · right
      refine ⟨List.getElem?_eq_none hh, List.getElem?_eq_none ?_⟩
      simp; omega
  | some s =>
    simp only [new] at hl ⊢
    left; rw [List.getElem?_set_ne (fun e => hl e.symm)]
theorem new_other' {h : Heap} {al : Option Nat} (nd : Node) {l : Nat} (hl : l ≠ (new h al nd).1) : (new h al nd).2[l]? = h[l]? := by
  rcases new_other nd hl with e | ⟨e1, e2⟩
  · exact e
  · rw [e1, e2]

section
variable {w w' : World} {X S : Nat → Prop} {φ : Nat → Loc} {h : Heap}

theorem live_of_row {h : Heap} {l : Nat} {e : Nat} {cs : List C} (hl : h[l]? = some (.row e cs)) : live h l := ⟨_, hl, by simp⟩

/-- One more row, at a block that is none of the heap's. -/
theorem good_new (G : Good w X S φ h) {al : Option Nat} (ok : AllocOk S h al) {nd : Node} {loc : Loc}
    (os : w'.os = w.os) (tape : w'.tape = w.tape) (output : w'.output = w.output) (size : w.heap.size ≤ w'.heap.size)
    (keep : ∀ b, b < w.heap.size → w'.heap[b]? = w.heap[b]?)
    (hb : w.heap.size ≤ loc.block) (hb' : loc.block < w'.heap.size)
    (hnd : Later w (badOf X φ h) S φ w' (badOf X (upd φ (new h al nd).1 loc) (new h al nd).2) (fun l => S l ∨ l = (new h al nd).1) (upd φ (new h al nd).1 loc) →
      OkNode w' (badOf X (upd φ (new h al nd).1 loc) (new h al nd).2) (fun l => S l ∨ l = (new h al nd).1) (upd φ (new h al nd).1 loc) (new h al nd).1 nd) :
    Good w' X (fun l => S l ∨ l = (new h al nd).1) (upd φ (new h al nd).1 loc) (new h al nd).2 ∧
    Ext w S φ h w' (fun l => S l ∨ l = (new h al nd).1) (upd φ (new h al nd).1 loc) (new h al nd).2 := by
  have free : ¬ S (new h al nd).1 := by rw [new_name h al nd .dead]; exact ok.free
  have names : ∀ l, S l → l ≠ (new h al nd).1 := fun l hl e => free (e ▸ hl)
  have liv : ∀ l, live (new h al nd).2 l → l = (new h al nd).1 ∨ (l ≠ (new h al nd).1 ∧ live h l) := fun l ⟨x, hx, hd⟩ => by
    by_cases e : l = (new h al nd).1
    · exact .inl e
    · exact .inr ⟨e, x, by rw [← new_other' nd e]; exact hx, hd⟩
  have E : Ext w S φ h w' (fun l => S l ∨ l = (new h al nd).1) (upd φ (new h al nd).1 loc) (new h al nd).2 :=
    ⟨os, tape, output, size, fun b hb _ => keep b hb, fun l hl => ⟨.inl hl, upd_other _ _ (names l hl)⟩, fun l hl => by
      rcases liv l hl with rfl | ⟨e, hl⟩
      · rw [upd_same]; exact .inr hb
      · rw [upd_other _ _ e]; exact .inl ⟨l, hl, rfl⟩⟩
  have L := E.later (X := X)
  refine ⟨⟨fun l x hx => ?_, fun l hl => ?_, fun l hl => ?_, fun l m hl hm he => ?_, fun b hb => Nat.lt_of_lt_of_le (G.xlt b hb) size, fun l hl => ?_⟩, E⟩
  · by_cases e : l = (new h al nd).1
    · subst e
      have : x = nd := by
        have h2 := new_at (S := S) (h := h) (al := al) ok nd
        rw [hx] at h2; exact Option.some.inj h2
      subst this
      exact hnd L
    · rw [new_other' nd e] at hx
      have hok := G.node l x hx
      cases x with
      | dead => trivial
      | row ez cs =>
        simp only [OkNode, upd_other _ _ e] at hok ⊢
        obtain ⟨h1, h2, h3, h4, h5⟩ := hok
        have hs := G.size l (live_of_row hx)
        refine ⟨h1, h2, h3, fun j hj => ?_, RelAt.moved L h5 fun j u _ hu => ?_⟩
        · obtain ⟨k1, k2⟩ := h4 j hj
          rw [cell_of_heap (keep _ hs), World.frozen?_of_block (a := ⟨(φ l).block, (φ l).base + j, none⟩) (keep _ hs)]
          exact ⟨k1, k2⟩
        · rw [cell_of_heap (keep _ hs)]; exact hu
      | map es clock =>
        simp only [OkNode, upd_other _ _ e] at hok ⊢
        rw [keep _ (G.size l ⟨_, hx, by simp⟩)]
        exact hok
  · rcases liv l hl with rfl | ⟨e, hl⟩
    · exact .inr rfl
    · exact .inl (G.inS l hl)
  · rcases liv l hl with rfl | ⟨e, hl⟩
    · rw [upd_same]; exact hb'
    · rw [upd_other _ _ e]; exact Nat.lt_of_lt_of_le (G.size l hl) size
  · rcases liv l hl with rfl | ⟨e, hl⟩ <;> rcases liv m hm with rfl | ⟨e', hm⟩
    · rfl
    · rw [upd_same, upd_other _ _ e'] at he; have := G.size m hm; omega
    · rw [upd_same, upd_other _ _ e] at he; have := G.size l hl; omega
    · rw [upd_other _ _ e, upd_other _ _ e'] at he; exact G.inj l m hl hm he
  · rcases liv l hl with rfl | ⟨e, hl⟩
    · rw [upd_same]; exact fun hx => by have := G.xlt _ hx; omega
    · rw [upd_other _ _ e]; exact G.apart l hl

/-- A new block of cells. -/
theorem good_alloc (G : Good w X S φ h) {al : Option Nat} (ok : AllocOk S h al) {cs : List C} {us extra : List Value} {row : Array Value} {ty : TypeId} {ez : Nat} (hrow : row.toList = us ++ extra)
    (hrel : RelL w (badOf X φ h) S φ cs us) (h1 : ∀ x ∈ us, x.oneCell' = true)
    (os : w'.os = w.os) (tape : w'.tape = w.tape) (output : w'.output = w.output) (heap : w'.heap = w.heap.push (.cells row ty)) :
    Good w' X (fun l => S l ∨ l = (new h al (.row ez cs)).1) (upd φ (new h al (.row ez cs)).1 ⟨w.heap.size, 0, row.size, ez, cs.length⟩) (new h al (.row ez cs)).2 ∧
    Ext w S φ h w' (fun l => S l ∨ l = (new h al (.row ez cs)).1) (upd φ (new h al (.row ez cs)).1 ⟨w.heap.size, 0, row.size, ez, cs.length⟩) (new h al (.row ez cs)).2 := by
  have hsz : us.length + extra.length = row.size := by rw [← Array.length_toList, hrow, List.length_append]
  have hl := RelL.length hrel
  have hcell : ∀ j, w'.cell? ⟨w.heap.size, j, none⟩ = row[j]? := fun j => by simp [World.cell?, heap]
  have hfz : ∀ j, w'.frozen? ⟨w.heap.size, j, none⟩ = false := fun j => by simp [World.frozen?, heap]
  refine good_new G ok os tape output (by rw [heap]; simp) (fun b hb => by rw [heap, Array.getElem?_push, if_neg (by omega)]) (Nat.le_refl _) (by rw [heap]; simp) fun L => ?_
  simp only [OkNode, upd_same]
  refine ⟨trivial, trivial, by omega, fun j hj => ⟨?_, ?_⟩, RelAt.of_range (RelL.later L hrel) (fun j u hj => ?_) h1⟩
  · simp [hcell]; omega
  · simpa using hfz j
  · have hlt : j < us.length := (List.getElem?_eq_some_iff.1 hj).1
    rw [Nat.zero_add, hcell, ← Array.getElem?_toList, hrow, List.getElem?_append_left hlt]
    exact hj

/-- A node that is used no more. -/
theorem good_kill (G : Good w X S φ h) (a : Nat) : Good w X S φ (h.set a .dead) ∧ Ext w S φ h w S φ (h.set a .dead) := by
  have liv : ∀ l, live (h.set a .dead) l → l ≠ a ∧ live h l := fun l ⟨x, hx, hd⟩ => by
    by_cases e : l = a
    · subst e
      rw [List.getElem?_set] at hx
      simp only [if_true] at hx
      split at hx
      · cases hx; exact absurd rfl hd
      · cases hx
    · rw [List.getElem?_set_ne (fun e' => e e'.symm)] at hx
      exact ⟨e, x, hx, hd⟩
  have E : Ext w S φ h w S φ (h.set a .dead) := ⟨rfl, rfl, rfl, Nat.le_refl _, fun _ _ _ => rfl, fun _ hl => ⟨hl, rfl⟩, fun l hl => .inl ⟨l, (liv l hl).2, rfl⟩⟩
  have L := E.later (X := X)
  refine ⟨⟨fun l x hx => ?_, fun l hl => G.inS l (liv l hl).2, fun l hl => G.size l (liv l hl).2, fun l m hl hm => G.inj l m (liv l hl).2 (liv m hm).2, G.xlt, fun l hl => G.apart l (liv l hl).2⟩, E⟩
  by_cases e : l = a
  · subst e
    rw [List.getElem?_set] at hx
    simp only [if_true] at hx
    split at hx
    · cases hx; trivial
    · cases hx
  · rw [List.getElem?_set_ne (fun e' => e e'.symm)] at hx
    have hok := G.node l x hx
    cases x with
    | dead => trivial
    | row ez cs =>
      simp only [OkNode] at hok ⊢
      obtain ⟨h1, h2, h3, h4, h5⟩ := hok
      exact ⟨h1, h2, h3, h4, RelAt.moved L h5 fun j u _ hu => hu⟩
    | map es clock => exact hok

theorem put_length (cs : List C) (off : Nat) (ys : List C) (h : off + ys.length ≤ cs.length) : (put cs off ys).length = cs.length := by
  simp [put]; omega

/-- Some cells of a row are written. -/
theorem good_store (G : Good w X S φ h) {l ez off : Nat} {cs ys : List C} {us : List Value} (hl : h[l]? = some (.row ez cs)) (hfit : off + ys.length ≤ cs.length)
    (hrel : RelL w (badOf X φ h) S φ ys us) (h1 : ∀ x ∈ us, x.oneCell' = true) :
    Good (w.setCells (φ l).block ((φ l).base + off) us) X S φ (h.set l (.row ez (put cs off ys))) ∧
    Ext w S φ h (w.setCells (φ l).block ((φ l).base + off) us) S φ (h.set l (.row ez (put cs off ys))) := by
  have hlt : l < h.length := (List.getElem?_eq_some_iff.1 hl).1
  have hat : (h.set l (.row ez (put cs off ys)))[l]? = some (.row ez (put cs off ys)) := by simp [hlt]
  have liv : ∀ m, live (h.set l (.row ez (put cs off ys))) m ↔ live h m := fun m => by
    by_cases e : m = l
    · subst e; exact ⟨fun _ => live_of_row hl, fun _ => live_of_row hat⟩
    · unfold live; rw [List.getElem?_set_ne (fun e' => e e'.symm)]
  have hok := G.node l _ hl
  simp only [OkNode] at hok
  obtain ⟨k1, k2, k3, k4, k5⟩ := hok
  have hus := RelL.length hrel
  have other : ∀ b, b ≠ (φ l).block → b < w.heap.size → (w.setCells (φ l).block ((φ l).base + off) us).heap[b]? = w.heap[b]? := fun b hne hb => World.heap_setCells_other w _ _ us hb hne
  have hsz : (w.setCells (φ l).block ((φ l).base + off) us).heap.size = w.heap.size := by
    have := World.keptBut_setCells (φ l).block (may := fun _ => True) us ((φ l).base + off) w (fun _ _ => trivial)
    have aux : ∀ (vs : List Value) (o : Nat) (w : World), (w.setCells (φ l).block o vs).heap.size = w.heap.size := by
      intro vs
      induction vs with
      | nil => intro o w; rfl
      | cons v vs ih => intro o w; rw [World.setCells, ih, World.size_setCell]
    exact aux us _ w
  have htape : (w.setCells (φ l).block ((φ l).base + off) us).tape = w.tape := by
    have aux : ∀ (vs : List Value) (o : Nat) (w : World), (w.setCells (φ l).block o vs).tape = w.tape := by
      intro vs
      induction vs with
      | nil => intro o w; rfl
      | cons v vs ih => intro o w; rw [World.setCells, ih, World.tape_setCell]
    exact aux us _ w
  have E : Ext w S φ h (w.setCells (φ l).block ((φ l).base + off) us) S φ (h.set l (.row ez (put cs off ys))) :=
    ⟨World.os_setCells _ _ _ _, htape, World.output_setCells _ _ _ _, by rw [hsz]; exact Nat.le_refl _, fun b hb ho => other b (fun e => ho ⟨l, live_of_row hl, e.symm⟩) hb, fun m hm => ⟨hm, rfl⟩, fun m hm => .inl ⟨m, (liv m).1 hm, rfl⟩⟩
  have L := E.later (X := X)
  have hroom : w.there (φ l).block ((φ l).base + off) us.length := fun j hj => by
    have := k4 (off + j) (by omega)
    rw [← Nat.add_assoc] at this
    exact this
  refine ⟨⟨fun m x hx => ?_, fun m hm => G.inS m ((liv m).1 hm), fun m hm => by rw [hsz]; exact G.size m ((liv m).1 hm), fun m n hm hn => G.inj m n ((liv m).1 hm) ((liv n).1 hn), fun b hb => by rw [hsz]; exact G.xlt b hb, fun m hm => G.apart m ((liv m).1 hm)⟩, E⟩
  by_cases e : m = l
  · subst e
    rw [hat] at hx
    cases hx
    simp only [OkNode]
    refine ⟨k1, by rw [put_length cs off ys hfit]; exact k2, by rw [put_length cs off ys hfit]; exact k3, World.there_setCells k4 _ _ _, ?_⟩
    unfold put
    have hto : (cs.take off).length = off := by simp; omega
    refine RelAt.append ?_ (RelAt.append ?_ ?_)
    · refine RelAt.moved L (RelAt.take off k5) fun j u hj hu => ?_
      rw [hto] at hj
      rw [World.cell?_setCells_out _ _ _ _ _ (fun _ _ => .inl (by simp; omega))]
      exact hu
    · rw [hto]
      exact RelAt.of_range (RelL.later L hrel) (World.rangeAt_setCells_same w _ _ us hroom) h1
    · rw [hto]
      have := RelAt.drop (off + ys.length) k5
      rw [← Nat.add_assoc] at this
      refine RelAt.moved L this fun j u hj hu => ?_
      rw [World.cell?_setCells_out _ _ _ _ _ (fun _ _ => .inr (by simp only; omega))]
      exact hu
  · rw [List.getElem?_set_ne (fun e' => e e'.symm)] at hx
    have hok := G.node m x hx
    cases x with
    | dead => trivial
    | row ez' cs' =>
      simp only [OkNode] at hok ⊢
      obtain ⟨h1, h2, h3, h4, h5⟩ := hok
      have hne : (φ m).block ≠ (φ l).block := fun he => e (G.inj m l (live_of_row hx) (live_of_row hl) he)
      have hs := G.size m (live_of_row hx)
      exact ⟨h1, h2, h3, World.there_setCells h4 _ _ _, RelAt.moved L h5 fun j u _ hu => by rw [cell_of_heap (other _ hne hs)]; exact hu⟩
    | map es clock =>
      simp only [OkNode] at hok ⊢
      have hlm : live h m := ⟨_, hx, by simp⟩
      rw [other _ (fun he => e (G.inj m l hlm (live_of_row hl) he)) (G.size m hlm)]
      exact hok

/-- A map's entries turn. -/
theorem good_map (G : Good w X S φ h) {l : Nat} {es es' : Array MapEntry} {clock clock' : Nat} (hl : h[l]? = some (.map es clock)) :
    Good { w with heap := w.heap.setIfInBounds (φ l).block (.map es' clock') } X S φ (h.set l (.map es' clock')) ∧
    Ext w S φ h { w with heap := w.heap.setIfInBounds (φ l).block (.map es' clock') } S φ (h.set l (.map es' clock')) := by
  have hlt : l < h.length := (List.getElem?_eq_some_iff.1 hl).1
  have hat : (h.set l (.map es' clock'))[l]? = some (.map es' clock') := by simp [hlt]
  have lm : live h l := ⟨_, hl, by simp⟩
  have liv : ∀ m, live (h.set l (.map es' clock')) m ↔ live h m := fun m => by
    by_cases e : m = l
    · subst e; exact ⟨fun _ => lm, fun _ => ⟨_, hat, by simp⟩⟩
    · unfold live; rw [List.getElem?_set_ne (fun e' => e e'.symm)]
  have other : ∀ b, b ≠ (φ l).block → (w.heap.setIfInBounds (φ l).block (.map es' clock'))[b]? = w.heap[b]? := fun b hne => Array.getElem?_setIfInBounds_ne (Ne.symm hne)
  have E : Ext w S φ h { w with heap := w.heap.setIfInBounds (φ l).block (.map es' clock') } S φ (h.set l (.map es' clock')) :=
    ⟨rfl, rfl, rfl, by simp, fun b hb ho => other b (fun e => ho ⟨l, lm, e.symm⟩), fun m hm => ⟨hm, rfl⟩, fun m hm => .inl ⟨m, (liv m).1 hm, rfl⟩⟩
  have L := E.later (X := X)
  refine ⟨⟨fun m x hx => ?_, fun m hm => G.inS m ((liv m).1 hm), fun m hm => by simpa using G.size m ((liv m).1 hm), fun m n hm hn => G.inj m n ((liv m).1 hm) ((liv n).1 hn), fun b hb => by simpa using G.xlt b hb, fun m hm => G.apart m ((liv m).1 hm)⟩, E⟩
  by_cases e : m = l
  · subst e
    rw [hat] at hx
    cases hx
    simp only [OkNode]
    have := G.size m lm
    simp [this]
  · rw [List.getElem?_set_ne (fun e' => e e'.symm)] at hx
    have hok := G.node m x hx
    cases x with
    | dead => trivial
    | row ez' cs' =>
      simp only [OkNode] at hok ⊢
      obtain ⟨h1, h2, h3, h4, h5⟩ := hok
      have hne : (φ m).block ≠ (φ l).block := fun he => e (G.inj m l (live_of_row hx) lm he)
      refine ⟨h1, h2, h3, fun j hj => ?_, RelAt.moved L h5 fun j u _ hu => by rw [cell_of_heap (other _ hne)]; exact hu⟩
      rw [cell_of_heap (other _ hne), World.frozen?_of_block (a := ⟨(φ m).block, (φ m).base + j, none⟩) (other _ hne)]
      exact h4 j hj
    | map es clock =>
      simp only [OkNode] at hok ⊢
      have hlm : live h m := ⟨_, hx, by simp⟩
      rw [other _ (fun he => e (G.inj m l hlm lm he))]
      exact hok
end

end Go.Tm
