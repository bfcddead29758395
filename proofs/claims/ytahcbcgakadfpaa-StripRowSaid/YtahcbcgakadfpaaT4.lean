import Derived.Test.YtahcbcgakadfpaaT3
namespace Go.Tm
section
variable {w w' : World} {X S : Nat → Prop} {φ : Nat → Loc} {h : Heap}

theorem new_name_set (h : Heap) (al : Option Nat) (a : Nat) (x : Node) (nd nd' : Node) : (new (h.set a x) al nd).1 = (new h al nd').1 := by cases al <;> simp [new]

theorem size_setCells (b : Nat) : ∀ (vs : List Value) (o : Nat) (w : World), (w.setCells b o vs).heap.size = w.heap.size
  | [], _, _ => rfl
  | v :: vs, o, w => by rw [World.setCells, size_setCells b vs, World.size_setCell]
theorem tape_setCells (b : Nat) : ∀ (vs : List Value) (o : Nat) (w : World), (w.setCells b o vs).tape = w.tape
  | [], _, _ => rfl
  | v :: vs, o, w => by rw [World.setCells, tape_setCells b vs, World.tape_setCell]

/-- What lies behind the known cells of a row is written: the row goes on under a new name. -/
theorem good_reuse (G : Good w X S φ h) {al : Option Nat} (ok : AllocOk S h al) {a ez off : Nat} {cs ys : List C} {us : List Value} (ha : h[a]? = some (.row ez cs)) (hoff : off ≤ cs.length)
    (hrel : RelL w (badOf X φ h) S φ ys us) (h1 : ∀ x ∈ us, x.oneCell' = true) (hroom : cs.length + us.length ≤ (φ a).room) :
    Good (w.setCells (φ a).block ((φ a).base + cs.length) us) X (fun l => S l ∨ l = (new (h.set a .dead) al (.row ez (cs.drop off ++ ys))).1)
      (upd φ (new (h.set a .dead) al (.row ez (cs.drop off ++ ys))).1 ⟨(φ a).block, (φ a).base + off, (φ a).room - off, ez, (cs.drop off ++ ys).length⟩) (new (h.set a .dead) al (.row ez (cs.drop off ++ ys))).2 ∧
    Ext w S φ h (w.setCells (φ a).block ((φ a).base + cs.length) us) (fun l => S l ∨ l = (new (h.set a .dead) al (.row ez (cs.drop off ++ ys))).1)
      (upd φ (new (h.set a .dead) al (.row ez (cs.drop off ++ ys))).1 ⟨(φ a).block, (φ a).base + off, (φ a).room - off, ez, (cs.drop off ++ ys).length⟩) (new (h.set a .dead) al (.row ez (cs.drop off ++ ys))).2 := by
  have hna : ∀ nd, (new (h.set a .dead) al nd).1 = (new h al .dead).1 := fun nd => new_name_set h al a .dead nd .dead
  have free : ¬ S (new (h.set a .dead) al (.row ez (cs.drop off ++ ys))).1 := by rw [hna]; exact ok.free
  have ok' : AllocOk S (h.set a .dead) al := ⟨by rw [hna]; exact ok.free, fun s hs => by simpa using ok.lt s hs⟩
  have hlt : a < h.length := (List.getElem?_eq_some_iff.1 ha).1
  have hla := live_of_row ha
  generalize hn : (new (h.set a .dead) al (.row ez (cs.drop off ++ ys))).1 = n at *
  have names : ∀ l, S l → l ≠ n := fun l hl e => free (e ▸ hl)
  have hat : (new (h.set a .dead) al (.row ez (cs.drop off ++ ys))).2[n]? = some (.row ez (cs.drop off ++ ys)) := by rw [← hn]; exact new_at ok' _
  have oth : ∀ l, l ≠ n → l ≠ a → (new (h.set a .dead) al (.row ez (cs.drop off ++ ys))).2[l]? = h[l]? := fun l e e' => by
    rw [new_other' _ (by rw [hn]; exact e), List.getElem?_set_ne (fun e'' => e' e''.symm)]
  have ata : a ≠ n → (new (h.set a .dead) al (.row ez (cs.drop off ++ ys))).2[a]? = some .dead := fun e => by
    rw [new_other' _ (by rw [hn]; exact e)]; simp [hlt]
  have hne : a ≠ n := names a (G.inS a hla)
  generalize (new (h.set a .dead) al (.row ez (cs.drop off ++ ys))).2 = h' at *
  have liv : ∀ l, live h' l → l = n ∨ (l ≠ n ∧ l ≠ a ∧ live h l) := fun l ⟨x, hx, hd⟩ => by
    by_cases e : l = n
    · exact .inl e
    · by_cases e' : l = a
      · subst e'; rw [ata e] at hx; cases hx; exact absurd rfl hd
      · exact .inr ⟨e, e', x, by rw [← oth l e e']; exact hx, hd⟩
  have hok := G.node a _ ha
  simp only [OkNode] at hok
  obtain ⟨k1, k2, k3, k4, k5⟩ := hok
  have hus := RelL.length hrel
  have other : ∀ b, b ≠ (φ a).block → b < w.heap.size → (w.setCells (φ a).block ((φ a).base + cs.length) us).heap[b]? = w.heap[b]? := fun b hne hb => World.heap_setCells_other w _ _ us hb hne
  have E : Ext w S φ h (w.setCells (φ a).block ((φ a).base + cs.length) us) (fun l => S l ∨ l = n) (upd φ n ⟨(φ a).block, (φ a).base + off, (φ a).room - off, ez, (cs.drop off ++ ys).length⟩) h' :=
    ⟨World.os_setCells _ _ _ _, tape_setCells _ _ _ _, World.output_setCells _ _ _ _, by rw [size_setCells]; exact Nat.le_refl _, fun b hb ho => other b (fun e => ho ⟨a, hla, e.symm⟩) hb,
      fun l hl => ⟨.inl hl, upd_other _ _ (names l hl)⟩, fun l hl => by
        rcases liv l hl with rfl | ⟨e, _, hl⟩
        · rw [upd_same]; exact .inl ⟨a, hla, rfl⟩
        · rw [upd_other _ _ e]; exact .inl ⟨l, hl, rfl⟩⟩
  have L := E.later (X := X)
  refine ⟨⟨fun l x hx => ?_, fun l hl => ?_, fun l hl => ?_, fun l m hl hm he => ?_, fun b hb => by rw [size_setCells]; exact G.xlt b hb, fun l hl => ?_⟩, E⟩
  · by_cases e : l = n
    · subst e
      rw [hat] at hx
      cases hx
      simp only [OkNode, upd_same]
      have hdl : (cs.drop off).length = cs.length - off := by simp
      refine ⟨trivial, trivial, by rw [List.length_append, hdl]; omega, fun j hj => ?_, ?_⟩
      · have := World.there_setCells k4 (φ a).block ((φ a).base + cs.length) us (off + j) (by omega)
        rw [← Nat.add_assoc] at this
        exact this
      · refine RelAt.append (RelAt.moved L (RelAt.drop off k5) fun j u hj hu => ?_) ?_
        · rw [hdl] at hj
          rw [World.cell?_setCells_out _ _ _ _ _ (fun _ _ => .inl (by simp only; omega))]
          exact hu
        · rw [hdl]
          have e2 : (φ a).base + off + (cs.length - off) = (φ a).base + cs.length := by omega
          rw [e2]
          refine RelAt.of_range (RelL.later L hrel) (World.rangeAt_setCells_same w _ _ us fun j hj => ?_) h1
          have := k4 (cs.length + j) (by omega)
          rw [← Nat.add_assoc] at this
          exact this
    · by_cases e' : l = a
      · subst e'
        rw [ata e] at hx
        cases hx
        trivial
      · rw [oth l e e'] at hx
        have hok := G.node l x hx
        cases x with
        | dead => trivial
        | row ez' cs' =>
          simp only [OkNode, upd_other _ _ e] at hok ⊢
          obtain ⟨h1, h2, h3, h4, h5⟩ := hok
          have hne : (φ l).block ≠ (φ a).block := fun he => e' (G.inj l a (live_of_row hx) hla he)
          have hs := G.size l (live_of_row hx)
          exact ⟨h1, h2, h3, World.there_setCells h4 _ _ _, RelAt.moved L h5 fun j u _ hu => by rw [cell_of_heap (other _ hne hs)]; exact hu⟩
        | map es clock =>
          simp only [OkNode, upd_other _ _ e] at hok ⊢
          have hlm : live h l := ⟨_, hx, by simp⟩
          rw [other _ (fun he => e' (G.inj l a hlm hla he)) (G.size l hlm)]
          exact hok
  · rcases liv l hl with rfl | ⟨e, _, hl⟩
    · exact .inr rfl
    · exact .inl (G.inS l hl)
  · rw [size_setCells]
    rcases liv l hl with rfl | ⟨e, _, hl⟩
    · rw [upd_same]; exact G.size a hla
    · rw [upd_other _ _ e]; exact G.size l hl
  · rcases liv l hl with rfl | ⟨e, e2, hl⟩ <;> rcases liv m hm with rfl | ⟨e', e2', hm⟩
    · rfl
    · rw [upd_same, upd_other _ _ e'] at he; exact absurd (G.inj a m hla hm he).symm e2'
    · rw [upd_same, upd_other _ _ e] at he; exact absurd (G.inj l a hl hla he) e2
    · rw [upd_other _ _ e, upd_other _ _ e'] at he; exact G.inj l m hl hm he
  · rcases liv l hl with rfl | ⟨e, _, hl⟩
    · rw [upd_same]; exact G.apart a hla
    · rw [upd_other _ _ e]; exact G.apart l hl
end

/-! ### Operations that leave the heap as it is -/
section
variable {P : Program} {w : World} {X S : Nat → Prop} {φ : Nat → Loc} {h : Heap} {bad : Nat → Prop}

theorem run_info {t : TypeId} {i : TypeInfo} (hi : P.info? t = some i) (w : World) : (typeInfo t).run P w = .ok i w := by simp [typeInfo, hi]
theorem run_size {t : TypeId} {n : Nat} (hs : sz P t = some n) (w : World) : (sizeOf t).run P w = .ok n w := by
  unfold sz at hs
  cases hi : P.info? t with
  | none => simp [hi] at hs
  | some i => simp [hi] at hs; subst hs; simp [sizeOf, run_info hi]
theorem run_agg {t : TypeId} {b : Bool} (hs : aggT P t = some b) (w : World) : (isAgg t).run P w = .ok b w := by
  unfold aggT at hs
  cases hd : P.underlying t with
  | none => simp [hd] at hs
  | some d => simp [hd] at hs; subst hs; unfold isAgg; rw [Sem.run_bind, run_underlying hd w]; cases d <;> rfl

/-- The cells from a pointer on, in the model. -/
theorem cellsAt_rel (G : Good w X S φ h) {p : C} {u : Value} (hp : Rel w (badOf X φ h) S φ p u) {cs : List C} (hc : cellsAt h p = some cs) :
    ∃ b o, u = .pointer (some ⟨b, o, none⟩) ∧ RelAt w (badOf X φ h) S φ cs b o := by
  unfold cellsAt at hc
  split at hc
  · rename_i l off
    split at hc
    · rename_i e ds hl
      cases hc
      simp only [Rel] at hp
      have hok := G.node l _ hl
      simp only [OkNode] at hok
      exact ⟨_, _, hp.2, RelAt.drop off hok.2.2.2.2⟩
    · cases hc
  · cases hc
    simp only [Rel] at hp
    obtain ⟨b, o, hu, hx⟩ := hp
    exact ⟨b, o, hu, Fro.relAt hx⟩
  · cases hc

theorem relAt_head {c : C} {cs : List C} {b o : Nat} (h : RelAt w bad S φ cs b o) (hc : cs.head? = some c) : ∃ u, w.cell? ⟨b, o, none⟩ = some u ∧ Rel w bad S φ c u := by
  cases cs with
  | nil => cases hc
  | cons d cs => simp at hc; subst hc; simp only [RelAt] at h; obtain ⟨⟨u, hu, hr, _⟩, _⟩ := h; exact ⟨u, hu, hr⟩

theorem sz_info {t : TypeId} {n : Nat} (hs : sz P t = some n) : ∃ i, P.info? t = some i ∧ i.size = n := by
  unfold sz at hs
  cases hi : P.info? t with
  | none => simp [hi] at hs
  | some i => simp [hi] at hs; exact ⟨i, rfl, hs⟩

theorem load_sound (G : Good w X S φ h) {t : TypeId} {p c : C} {u : Value} (hp : Rel w (badOf X φ h) S φ p u) (hl : loadC P h t p = some c) :
    ∃ v, (Instr.loadAt t u).run P w = .ok v w ∧ Rel w (badOf X φ h) S φ c v := by
  simp only [loadC, fieldOf, Option.bind_eq_bind, Option.bind_eq_some_iff] at hl
  obtain ⟨cs, hcs, n, hn, b, hb, hl⟩ := hl
  obtain ⟨k, o, rfl, hx⟩ := cellsAt_rel G hp hcs
  obtain ⟨i, hi, hin⟩ := sz_info hn
  by_cases hbt : b = true
  · subst hbt
    simp only [if_true, Option.map_eq_some_iff, takeN] at hl
    obtain ⟨xs, hxs, rfl⟩ := hl
    split at hxs
    · rename_i hle
      cases hxs
      obtain ⟨us, hul, hrel, hra, hone⟩ := RelAt.reads (RelAt.take n hx)
      have hd : ∃ d, P.underlying t = some d ∧ d.isRow = true := by
        unfold aggT at hb
        cases hd : P.underlying t with
        | none => simp [hd] at hb
        | some d => refine ⟨d, rfl, ?_⟩; cases d <;> simp_all
      obtain ⟨d, hd, hrow⟩ := hd
      refine ⟨_, run_loadAt_mid w k o t us d hra hd hrow (by rw [hi]; simp [hin, hul]; omega), ?_⟩
      simp only [Rel]
      exact ⟨us.toArray, rfl, by simpa using hrel, by simpa using hone⟩
    · cases hxs
  · have hbf : b = false := by simpa using hbt
    subst hbf
    simp only [Bool.false_eq_true, if_false] at hl
    obtain ⟨v, hv, hr⟩ := relAt_head hx hl
    refine ⟨v, ?_, hr⟩
    simp [Instr.loadAt, Instr.sureAddr, loadVar, run_agg hb, load, Sem.run, hv]

theorem fieldOf_sound {t : TypeId} {cs : List C} {us : Array Value} {off : Nat} {c : C} (hrel : RelL w bad S φ cs us.toList) (h1 : ∀ x ∈ us.toList, x.oneCell' = true) (hf : fieldOf P t (cs.drop off) = some c) :
    ∃ v, (part t us off).run P w = .ok v w ∧ Rel w bad S φ c v := by
  simp only [fieldOf, Option.bind_eq_bind, Option.bind_eq_some_iff] at hf
  obtain ⟨n, hn, b, hb, hl⟩ := hf
  have hd := RelL.drop off hrel
  by_cases hbt : b = true
  · subst hbt
    simp only [if_true, Option.map_eq_some_iff, takeN] at hl
    obtain ⟨xs, hxs, rfl⟩ := hl
    split at hxs
    · rename_i hle
      cases hxs
      refine ⟨.agg (us.extract off (off + n)), by simp [part, run_agg hb, run_size hn], ?_⟩
      simp only [Rel]
      have e : (us.extract off (off + n)).toList = (us.toList.drop off).take n := by
        simp only [Array.toList_extract, List.extract_eq_take_drop]
        congr 1
        omega
      refine ⟨_, rfl, by rw [e]; exact RelL.take n hd, fun x hx => h1 x ?_⟩
      rw [e] at hx
      exact List.mem_of_mem_drop (List.mem_of_mem_take hx)
    · cases hxs
  · have hbf : b = false := by simpa using hbt
    subst hbf
    simp only [Bool.false_eq_true, if_false] at hl
    rw [List.head?_eq_getElem?] at hl
    obtain ⟨u, hu, hr⟩ := RelL.get hd hl
    refine ⟨u, ?_, hr⟩
    have hu' : us[off]? = some u := by simpa [List.getElem?_drop] using hu
    simp [part, run_agg hb, hu']
end
end Go.Tm
