import Derived.Test.YtahcbcgakadfpaaT5
namespace Go.Tm

/-- How the names and the heap's length go on. -/
def Names (S S' : Nat → Prop) (h h' : Heap) (al : Option Nat) : Prop :=
  (S' = S ∧ h'.length = h.length) ∨ (S' = (fun l => S l ∨ l = (new h al .dead).1) ∧ h'.length = (new h al .dead).2.length)

/-- An operation's run has come to its value, and the world behind it belongs to the machine's heap behind it. -/
def Done (w : World) (X S : Nat → Prop) (φ : Nat → Loc) (h : Heap) (al : Option Nat) (r : Result Value) (c : C) (h' : Heap) : Prop :=
  ∃ u w' S' φ', r = .ok u w' ∧ Good w' X S' φ' h' ∧ Ext w S φ h w' S' φ' h' ∧ Rel w' (badOf X φ' h') S' φ' c u ∧ Names S S' h h' al

section
variable {P : Program} {w : World} {X S : Nat → Prop} {φ : Nat → Loc} {h : Heap} {bad : Nat → Prop} {al : Option Nat}

theorem Done.pure (G : Good w X S φ h) {r : Result Value} {c : C} (hr : ∃ v, r = .ok v w ∧ Rel w (badOf X φ h) S φ c v) : Done w X S φ h al r c h :=
  let ⟨v, e, hrel⟩ := hr; ⟨v, w, S, φ, e, G, Ext.refl _ _ _ _, hrel, .inl ⟨rfl, rfl⟩⟩

theorem zeroC_some {t : TypeId} {z : List C} (hz : zeroC P t = some z) : ∃ i zv, P.info? t = some i ∧ i.zero = some zv ∧ zv.cells.toList.all oneCell = true ∧ z = zv.cells.toList.map .v := by
  unfold zeroC at hz
  split at hz
  · rename_i i hi
    split at hz
    · rename_i zv hzv
      split at hz
      · rename_i hall; cases hz; exact ⟨i, zv, hi, hzv, hall, rfl⟩
      · cases hz
    · cases hz
  · cases hz

theorem new_len_row (h : Heap) (al : Option Nat) (nd : Node) : (new h al nd).2.length = (new h al .dead).2.length := new_len h al nd .dead

theorem alloc_sound (G : Good w X S φ h) (ok : AllocOk S h al) {t : TypeId} {z : List C} (hz : zeroC P t = some z) :
    Done w X S φ h al ((Instr.alloc t true (.tuple #[])).run P w) (.op (new h al (.row 0 z)).1 0) (new h al (.row 0 z)).2 := by
  obtain ⟨i, zv, hi, hzv, hall, rfl⟩ := zeroC_some hz
  have hone : ∀ x ∈ zv.cells.toList, x.oneCell' = true := fun x hx => List.all_eq_true.1 hall x hx
  obtain ⟨G', E⟩ := good_alloc (w' := w.alloc (.cells zv.cells t)) (ez := 0) (extra := []) G ok (by simp) (relL_vs hall) hone rfl rfl rfl rfl
  refine ⟨.pointer (some ⟨w.heap.size, 0, none⟩), _, _, _, ?_, G', E, ?_, .inr ⟨by rw [new_name h al _ .dead], new_len_row _ _ _⟩⟩
  · simp [Instr.alloc, zeroValue, run_info hi, hzv, newVar, Go.newRow]
  · simp only [Rel, upd_same]
    exact ⟨.inr trivial, trivial⟩

theorem box_sound (G : Good w X S φ h) (ok : AllocOk S h al) {t : TypeId} {c : C} {u : Value} (hr : Rel w (badOf X φ h) S φ c u) (hc : c.cells.all C.isCell = true) :
    Done w X S φ h al ((Instr.box t u).run P w) (.op (new h al (.row 0 c.cells)).1 0) (new h al (.row 0 c.cells)).2 := by
  obtain ⟨hrel, h1⟩ := cells_rel hr hc
  obtain ⟨G', E⟩ := good_alloc (w' := w.alloc (.cells u.cells t)) (ez := 0) (extra := []) G ok (by simp) hrel h1 rfl rfl rfl rfl
  refine ⟨.pointer (some ⟨w.heap.size, 0, none⟩), _, _, _, ?_, G', E, ?_, .inr ⟨by rw [new_name h al _ .dead], new_len_row _ _ _⟩⟩
  · simp [Instr.box, newVar, Go.newRow]
  · simp only [Rel, upd_same]
    exact ⟨.inr trivial, trivial⟩

theorem run_storeVar_any {t : TypeId} {b o : Nat} {v : Value} (hs : sz P t = some v.cells.toList.length) (ht : w.there b o v.cells.toList.length) (h1 : ∀ x ∈ v.cells.toList, x.oneCell' = true) :
    (storeVar t ⟨b, o, none⟩ v).run P w = .ok () (w.setCells b o v.cells.toList) := by
  have := run_storeCells_cells (P := P) b o v.cells.toList 0 w (fun j hj => by simpa using (ht j hj).1) (fun j hj => by simpa using (ht j hj).2) h1
  simp only [Nat.add_zero] at this
  obtain ⟨i, hi, hin⟩ := sz_info hs
  have hsz : v.cells.size = i.size := by simp at hin; omega
  simp [storeVar, sizeOf, run_info hi, hsz, this]

theorem store_sound (G : Good w X S φ h) {t : TypeId} {p x : C} {u v : Value} {h' : Heap} (hp : Rel w (badOf X φ h) S φ p u) (hx : Rel w (badOf X φ h) S φ x v) (hs : storeC P h t p x = some h') :
    ∃ w', (Instr.storeAt t u v).run P w = .ok () w' ∧ Good w' X S φ h' ∧ Ext w S φ h w' S φ h' ∧ h'.length = h.length := by
  unfold storeC at hs
  split at hs
  · rename_i l off
    split at hs
    · rename_i e cs hl
      split at hs
      · rename_i hc
        cases hs
        obtain ⟨c1, c2, c3⟩ := hc
        obtain ⟨hrel, h1⟩ := cells_rel hx c3
        have hlen := RelL.length hrel
        obtain ⟨G', E⟩ := good_store G hl c2 hrel h1
        simp only [Rel] at hp
        obtain ⟨hS, rfl⟩ := hp
        refine ⟨_, ?_, G', E, by simp⟩
        have hok := G.node l _ hl
        simp only [OkNode] at hok
        obtain ⟨k1, k2, k3, k4, k5⟩ := hok
        simp only [Instr.storeAt, Instr.sureAddr, Sem.run_bind, Sem.run_pure, Result.andThen_ok]
        refine run_storeVar_any (by rw [hlen]; exact c1.symm) (fun j hj => ?_) h1
        rw [hlen] at hj
        have := k4 (off + j) (by omega)
        rw [← Nat.add_assoc] at this
        exact this
      · cases hs
    · cases hs
  · cases hs

/-! ### Structs and rows written out -/
def RelP (w : World) (bad S : Nat → Prop) (φ : Nat → Loc) : List (Nat × C) → List (Nat × Value) → Prop
  | [], vs => vs = []
  | (i, c) :: r, vs => ∃ u s, vs = (i, u) :: s ∧ Rel w bad S φ c u ∧ RelP w bad S φ r s

theorem evParts_rel {env : Env} {a : Act} (he : RelE w bad S φ env a.tmps) : ∀ {ps : List (Nat × Operand)} {qs : List (Nat × C)}, evParts env ps = some qs → RelP w bad S φ qs (ps.map fun x => (x.1, a.eval x.2))
  | [], qs, h => by simp only [evParts, Option.some.injEq] at h; subst h; simp [RelP]
  | (i, x) :: ps, qs, h => by
    simp only [evParts, Option.bind_eq_bind, Option.bind_eq_some_iff, Option.some.injEq] at h
    obtain ⟨c, hc, ds, hd, rfl⟩ := h
    simp only [List.map_cons, RelP]
    exact ⟨_, _, rfl, ev_rel he hc, evParts_rel he hd⟩

theorem foldl_set : ∀ (vs : List Value) (k off : Nat) (cells : Array Value), off + k + vs.length ≤ cells.size →
    ((vs.zipIdx k).foldl (fun cs (x : Value × Nat) => cs.setIfInBounds (off + x.2) x.1) cells).toList = cells.toList.take (off + k) ++ (vs ++ cells.toList.drop (off + k + vs.length))
  | [], k, off, cells, _ => by simp
  | v :: vs, k, off, cells, hk => by
    simp only [List.length_cons] at hk
    rw [List.zipIdx_cons, List.foldl_cons, foldl_set vs (k + 1) off _ (by simp; omega)]
    simp only [Array.toList_setIfInBounds]
    have e1 : off + (k + 1) = off + k + 1 := by omega
    rw [e1, List.take_add_one]
    have hl : off + k < cells.toList.length := by simp; omega
    rw [List.getElem?_set_self hl]
    simp only [Option.toList_some, List.append_assoc, List.cons_append, List.nil_append]
    rw [List.take_set_of_le (Nat.le_refl _), List.drop_set]
    rw [if_pos (by omega)]
    simp [Nat.add_assoc, Nat.add_comm 1]

theorem fill_sound {place place' : Nat → Option (Nat × Nat)} (hp : ∀ i x, place i = some x → place' i = some x) : ∀ {qs : List (Nat × C)} {vs : List (Nat × Value)} {cells cells' : List C} {us : Array Value},
    fillC place cells qs = some cells' → RelP w bad S φ qs vs → RelL w bad S φ cells us.toList → (∀ x ∈ us.toList, x.oneCell' = true) →
    ∃ us', Instr.fill place' us vs = some us' ∧ RelL w bad S φ cells' us'.toList ∧ ∀ x ∈ us'.toList, x.oneCell' = true
  | [], vs, cells, cells', us, hf, hq, hr, h1 => by
    simp only [fillC, Option.some.injEq] at hf
    subst hf
    simp only [RelP] at hq
    subst hq
    exact ⟨us, rfl, hr, h1⟩
  | (i, c) :: qs, vs, cells, cells', us, hf, hq, hr, h1 => by
    simp only [RelP] at hq
    obtain ⟨u, s, rfl, hc, hq⟩ := hq
    simp only [fillC] at hf
    split at hf
    · cases hf
    · rename_i off size hpl
      split at hf
      · rename_i hcnd
        obtain ⟨c1, c2, c3⟩ := hcnd
        obtain ⟨hrel, hone⟩ := cells_rel hc c3
        have hlu := RelL.length hrel
        have hlr := RelL.length hr
        simp only [Array.length_toList] at hlu hlr
        have hfold := foldl_set u.cells.toList 0 off us (by simp; omega)
        simp only [Nat.add_zero] at hfold
        have harr : (u.cells.zipIdx.foldl (fun cs (x : Value × Nat) => cs.setIfInBounds (off + x.2) x.1) us).toList = us.toList.take off ++ (u.cells.toList ++ us.toList.drop (off + u.cells.toList.length)) := by
          rw [← hfold, ← Array.foldl_toList, Array.toList_zipIdx]
        have hput : RelL w bad S φ (put cells off c.cells) (u.cells.zipIdx.foldl (fun cs (x : Value × Nat) => cs.setIfInBounds (off + x.2) x.1) us).toList := by
          rw [harr]
          unfold put
          have : c.cells.length = u.cells.toList.length := by simp; omega
          rw [this]
          exact RelL.append (RelL.take off hr) (RelL.append hrel (RelL.drop _ hr))
        obtain ⟨us', hfill, hrel', h1'⟩ := fill_sound hp hf hq hput (fun x hx => by
          rw [harr] at hx
          rcases List.mem_append.1 hx with hx | hx
          · exact h1 x (List.mem_of_mem_take hx)
          · rcases List.mem_append.1 hx with hx | hx
            · exact hone x hx
            · exact h1 x (List.mem_of_mem_drop hx))
        refine ⟨us', ?_, hrel', h1'⟩
        simp only [Instr.fill, hp i _ hpl]
        rw [if_neg (by simp; omega)]
        exact hfill
      · cases hf

theorem places_mapM : ∀ (fs : List Field), (fs.all (fun f => (sz P f.type).isSome)) = true → fs.mapM (fun f => (P.info? f.type).map fun i => (f.offset, i.size)) = some (fs.map fun f => (f.offset, (sz P f.type).getD 0))
  | [], _ => rfl
  | f :: fs, h => by
    simp only [List.all_cons, Bool.and_eq_true] at h
    obtain ⟨n, hn⟩ := Option.isSome_iff_exists.1 h.1
    obtain ⟨i, hi, rfl⟩ := sz_info hn
    simp [List.mapM_cons, places_mapM fs h.2, hi, hn]

theorem build_sound {t : TypeId} {qs : List (Nat × C)} {c : C} {vs : Array (Nat × Value)} (hq : RelP w bad S φ qs vs.toList) (hb : buildC P t qs = some c) :
    ∃ v, (Instr.build t vs).run P w = .ok v w ∧ Rel w bad S φ c v := by
  simp only [buildC, Option.bind_eq_bind, Option.bind_eq_some_iff] at hb
  obtain ⟨z, hz, hb⟩ := hb
  obtain ⟨i, zv, hi, hzv, hall, rfl⟩ := zeroC_some hz
  have hone : ∀ x ∈ zv.cells.toList, x.oneCell' = true := fun x hx => List.all_eq_true.1 hall x hx
  split at hb
  · rename_i fs hu
    split at hb
    · rename_i hall'
      simp only [Option.map_eq_some_iff] at hb
      obtain ⟨cs, hf, rfl⟩ := hb
      have hm := places_mapM (P := P) fs.toList hall'
      obtain ⟨us', hfill, hrel, h1⟩ := fill_sound (place' := fun i => (fs.toList.map fun f => (f.offset, (sz P f.type).getD 0)).toArray[i]?) (fun i x hx => by
        unfold places at hx
        split at hx
        · rename_i f hf'
          simp only [Option.map_eq_some_iff] at hx
          obtain ⟨s, hs, rfl⟩ := hx
          simp at hf' ⊢
          exact ⟨f, hf', by simp [hs]⟩
        · cases hx) hf hq (relL_vs hall) hone
      refine ⟨.agg us', ?_, by simp only [Rel]; exact ⟨us', rfl, hrel, h1⟩⟩
      have hm2 := run_places (P := P) w fs.toList _ hm
      have hfill' : Instr.fill (fun x => Option.map (fun f => (f.offset, (sz P f.type).getD 0)) fs[x]?) zv.cells vs.toList = some us' := by simpa using hfill
      simp [Instr.build, run_underlying hu, typeInfo, zeroValue, hi, hzv, Array.mapM_eq_mapM_toList, hm2, hfill']
    · cases hb
  · rename_i n e hu
    simp only [Option.bind_eq_some_iff, Option.some.injEq] at hb
    obtain ⟨s, hs, cs, hf, rfl⟩ := hb
    obtain ⟨us', hfill, hrel, h1⟩ := fill_sound (place' := fun i => some (i * s, s)) (fun i x hx => hx) hf hq (relL_vs hall) hone
    refine ⟨.agg us', ?_, by simp only [Rel]; exact ⟨us', rfl, hrel, h1⟩⟩
    simp [Instr.build, zeroValue, run_info hi, hzv, run_underlying hu, run_size hs, hfill]
  · cases hb
end
end Go.Tm
