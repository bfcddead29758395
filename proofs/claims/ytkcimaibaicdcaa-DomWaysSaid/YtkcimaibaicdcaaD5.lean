/- A part of the proof of the law of DomWays: lemmas and walks, out of this session's texts, with what the claim does not use struck out. -/
import Derived.SizedLaws
import Derived.ChangeArms
import Derived.DataElems
import Derived.Test.YtkcimaibaicdcaaD1
namespace Go.Proofs.YtkcimaibaicdcaaW.PrintWords
open Go.ChangeShapes Go.WideShapes
def Opn (P : Program) (t : TypeId) {α : Type} (K : Kd α) (B : α → Prop) : Prop :=
  ∀ (H : Type) (enc : TypeId × Value → H) (W : World) (base : Nat) (fuel : Nat) (cs : List Value) (d : DataW H) (ps : List MemPlace),
    DataW.trod enc P W base (fun _ => true) true fuel t cs = some (d, ps) → (DataW.weights P t d).all (· ≤ reachBytes) = true → ∃ x, K.K W x cs ∧ B x
section
variable {P : Program} {t e : TypeId}
theorem opn_int {k : IntKind} (hu : P.underlying t = some (.int k)) : Opn P t (Kd.int k) (fun x => (Lit.int k x).wf = true) := fun H enc W base fuel cs d ps h _ => by
  obtain ⟨n, rfl, _, hw⟩ := DataW.trod_int hu h
  exact ⟨n, rfl, hw⟩
theorem opn_bool (hu : P.underlying t = some .bool) : Opn P t Kd.bool (fun _ => True) := fun H enc W base fuel cs d ps h _ => by
  obtain ⟨b, rfl, _⟩ := DataW.trod_bool hu h
  exact ⟨b, rfl, trivial⟩
theorem opn_string (hu : P.underlying t = some .string) : Opn P t Kd.string (fun s => s.size ≤ 140737488351232) := fun H enc W base fuel cs d ps h hw => by
  obtain ⟨s, rfl, hx, _⟩ := DataW.trod_string hu h
  obtain ⟨rfl, rfl⟩ := Prod.mk.inj hx
  refine ⟨s, rfl, ?_⟩
  simp [DataW.weights, reachBytes] at hw
  exact of_decide_eq_true hw
theorem weightsAll_all {H : Type} {p : Nat → Bool} : ∀ {l : List (DataW H)}, (DataW.weightsAll P e l).all p = true → ∀ d ∈ l, (DataW.weights P e d).all p = true
  | [], _, d, hd => by cases hd
  | x :: l, h, d, hd => by
    rw [DataW.weightsAll, List.all_append, Bool.and_eq_true] at h
    rcases List.mem_cons.1 hd with rfl | hd
    · exact h.1
    · exact weightsAll_all h.2 d hd
theorem opn_slice {α : Type} {K : Kd α} {B : α → Prop} {b : Nat} (hu : P.underlying t = some (.slice e)) (h : Opn P e K B) (hc : P.cellsOf e = K.sz) (hb : P.bytesOf e = b) :
    Opn P t (Kd.slice e K) (fun l => l.length * b ≤ 140737488351232 ∧ ∀ x ∈ l, B x) := fun H enc W base fuel cs d ps hr hw => by
  rcases DataW.trod_slice hu hr with ⟨rfl, _⟩ | ⟨a, len, cap, elems, rest, n, _, rfl, hx, _, hl, hm, hlen, hel, _, _⟩
  · exact ⟨[], ⟨none, 0, rfl, Nat.le_refl _, rfl, by simp, fun h0 => absurd h0 (by simp)⟩, by simp, fun x hx => by cases hx⟩
  · obtain ⟨rfl, rfl⟩ := Prod.mk.inj hx
    simp only [DataW.weights, hu, List.all_cons, List.all_append, Bool.and_eq_true, List.length_map, hb] at hw
    have each : ∀ i : Fin len, ∃ x : α, B x ∧ ∃ c, c.length = K.sz ∧ K.K W x c ∧ ∀ j u, c[j]? = some u → W.cell? (a.add (i.1 * K.sz + j)) = some u := fun i => by
      have he := hel i.1 i.2
      have hg : elems[i.1]? = some (elems[i.1]'(by omega)) := List.getElem?_eq_getElem (by omega)
      rw [hg, Option.bind_eq_some_iff] at he
      obtain ⟨c, hcs, hd⟩ := he
      obtain ⟨_, hcl, hcell⟩ := World.cells?_some hcs
      obtain ⟨x, hK, hB⟩ := h H enc W base n c _ _ hd (weightsAll_all hw.2.1 _ (List.mem_map_of_mem (List.getElem_mem _)))
      refine ⟨x, hB, c, hcl.trans hc, hK, fun j u hj => ?_⟩
      have hjl := (List.getElem?_eq_some_iff.1 hj).1
      rw [← Addr.add_add, ← hc, hcell j (by omega)]
      exact hj
    refine ⟨List.ofFn fun i : Fin len => Classical.choose (each i), ⟨some a, cap, by simp, by simpa using hl, by simp, by simp only [List.length_ofFn]; simp only [maxLen] at hm; omega, fun _ => ⟨a, rfl, fun j p hj => ?_⟩⟩, ?_, fun x hx => ?_⟩
    · rw [List.getElem?_ofFn] at hj
      split at hj
      · rename_i hjl
        obtain rfl := Option.some.inj hj
        obtain ⟨_, c, hcl, hK, hcell⟩ := Classical.choose_spec (each ⟨j, hjl⟩)
        exact ⟨c, hcl, hK, hcell⟩
      · cases hj
    · simp only [List.length_ofFn]
      have h1 : (elems.length + rest.length) * b ≤ 140737488351232 := of_decide_eq_true hw.1
      exact Nat.le_trans (Nat.mul_le_mul_right b (show len ≤ elems.length + rest.length by omega)) h1
    · obtain ⟨i, rfl⟩ := List.mem_ofFn.1 hx
      exact (Classical.choose_spec (each i)).1
def OpnF (P : Program) (fs : List Field) (off : Nat) {β : Type} (K : Kd β) (B : β → Prop) : Prop :=
  ∀ (H : Type) (enc : TypeId × Value → H) (W : World) (base : Nat) (n : Nat) (cs : List Value) (xs : List (DataW H × List MemPlace)), xs.length = fs.length →
    (∀ (i : Nat) (f : Field), fs[i]? = some f → DataW.trod enc P W base (fun _ => true) true n f.type ((cs.drop f.offset).take (P.cellsOf f.type)) = xs[i]?) →
    (DataW.weightsEach P (fs.map (·.type)) (xs.map (·.1))).all (· ≤ reachBytes) = true → cs.length = off + K.sz → ∃ y, K.K W y (cs.drop off) ∧ B y
theorem opnF_one {f : Field} {off : Nat} {β : Type} {K : Kd β} {B : β → Prop} (ho : f.offset = off) (hc : P.cellsOf f.type = K.sz) (h : Opn P f.type K B) : OpnF P [f] off K B := fun H enc W base n cs xs hl hr hw hs => by
  obtain ⟨y, rfl⟩ : ∃ y, xs = [y] := List.length_eq_one_iff.1 hl
  have h1 := hr 0 f rfl
  rw [ho, hc, List.take_of_length_le (by rw [List.length_drop]; omega)] at h1
  refine h H enc W base n _ _ _ h1 ?_
  simpa [DataW.weightsEach] using hw
theorem opnF_cons {f : Field} {fs : List Field} {off : Nat} {α β : Type} {K : Kd α} {K2 : Kd β} {B : α → Prop} {B2 : β → Prop} (ho : f.offset = off) (hc : P.cellsOf f.type = K.sz) (h : Opn P f.type K B) (h2 : OpnF P fs (off + K.sz) K2 B2) :
    OpnF P (f :: fs) off (Kd.pair K K2) (fun y => B y.1 ∧ B2 y.2) := fun H enc W base n cs xs hl hr hw hs => by
  cases xs with
  | nil => cases hl
  | cons y xs =>
    simp only [List.map_cons, DataW.weightsEach, List.all_append, Bool.and_eq_true] at hw
    have h1 := hr 0 f rfl
    rw [ho, hc] at h1
    obtain ⟨x, hK, hB⟩ := h H enc W base n _ _ _ h1 hw.1
    obtain ⟨z, hK2, hB2⟩ := h2 H enc W base n cs xs (by simpa using hl) (fun i g hg => hr (i + 1) g hg) hw.2 (by rw [hs]; show off + (K.sz + K2.sz) = _; omega)
    refine ⟨(x, z), ⟨_, _, ?_, hK, hK2⟩, hB, hB2⟩
    rw [← List.drop_drop, List.take_append_drop]
theorem opn_struct {fs : Array Field} {α β : Type} {K : Kd β} {B : β → Prop} (hu : P.underlying t = some (.struct fs)) (hf : OpnF P fs.toList 0 K B) (hc : P.cellsOf t = K.sz) (g : α → β) (g' : β → α) (hg : ∀ y, g (g' y) = y) :
    Opn P t (Kd.iso K g) (fun x => B (g x)) := fun H enc W base fuel cs d ps hr hw => by
  obtain ⟨xs, n, _, hx, hl, hlen, he⟩ := DataW.trod_struct hu hr
  obtain ⟨rfl, rfl⟩ := Prod.mk.inj hx
  simp only [DataW.weights, hu] at hw
  obtain ⟨y, hK, hB⟩ := hf H enc W base n cs xs (by simpa using hlen) (fun i f hi => he i f (by simpa using hi)) hw (by rw [hl, hc, Nat.zero_add])
  refine ⟨g' y, ?_, ?_⟩
  · show K.K W (g (g' y)) cs
    rw [hg]; exact hK
  · show B (g (g' y))
    rw [hg]; exact hB
theorem Opn.mono {α : Type} {K : Kd α} {B B' : α → Prop} (h : Opn P t K B) (hB : ∀ x, B x → B' x) : Opn P t K B' := fun H enc W base fuel cs d ps hr hw => by
  obtain ⟨x, hK, hx⟩ := h H enc W base fuel cs d ps hr hw
  exact ⟨x, hK, hB x hx⟩
end
end Go.Proofs.YtkcimaibaicdcaaW.PrintWords
