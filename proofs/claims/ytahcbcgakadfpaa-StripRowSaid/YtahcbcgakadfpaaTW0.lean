import Derived.Test.YtahcbcgakadfpaaT8
import Derived.MapKept
namespace Go.Tm
/-! ### Maps -/
section
variable {P : Program} {w : World} {X S : Nat → Prop} {φ : Nat → Loc} {h : Heap} {bad : Nat → Prop} {al : Option Nat}

theorem makeMap_sound (G : Good w X S φ h) (ok : AllocOk S h al) {t : TypeId} : Done w X S φ h al ((Instr.makeMap t none).run P w) (.om (new h al (.map #[] 0)).1) (new h al (.map #[] 0)).2 := by
  obtain ⟨G', E⟩ := good_new (w' := { w with heap := w.heap.push (.map #[] 0) }) (nd := .map #[] 0) (loc := ⟨w.heap.size, 0, 0, 0, 0⟩) G ok rfl rfl rfl (by simp) (fun b hb => by simp [Array.getElem?_push, Nat.ne_of_lt hb]) (Nat.le_refl _) (by simp) fun L => by
    simp only [OkNode, upd_same]
    simp
  refine ⟨.map (some w.heap.size), _, _, _, ?_, G', E, ?_, .inr ⟨by rw [new_name h al _ .dead], new_len _ _ _ _⟩⟩
  · simp only [Instr.makeMap, Sem.run_bind, run_newObj]; rfl
  · simp only [Rel, upd_same]
    exact ⟨.inr trivial, trivial⟩

theorem mapE_some {t k e : TypeId} (h : mapE P t = some (k, e)) : P.underlying t = some (.map k e) := by
  unfold mapE at h
  split at h
  · cases h; assumption
  · cases h
theorem checkKey_plain {t : TypeId} {d : TypeDesc} (h : P.underlying t = some d) (hd : plainKey d = true) (b : Bool) (n : Nat) (v : Value) (w : World) : (Instr.checkKey b (n + 1) t v).run P w = .ok () w := by
  unfold Instr.checkKey
  rw [Sem.run_bind]
  rw [run_underlying' h]
  cases d <;> simp only [plainKey, Bool.false_eq_true] at hd <;> rfl
theorem findKey_plain {t : TypeId} {k : Value} {es : List MapEntry} {r : Option (Nat × Value)} (h : findM P t k es = some r) (w : World) : (∃ d, P.underlying t = some d ∧ plainKey d = true ∧ Instr.findNow d k es 0 = some r) ∧ (Instr.findKey t k es).run P w = .ok r w := by
  simp only [findM, Option.bind_eq_bind, Option.bind_eq_some_iff] at h
  obtain ⟨d, hd, h⟩ := h
  split at h
  · rename_i hp
    refine ⟨⟨d, hd, hp, h⟩, ?_⟩
    unfold Instr.findKey
    rw [Sem.run_bind, run_underlying' hd]
    show Sem.run P (match Instr.findNow d k es 0 with | some r => pure r | none => Instr.findAsking t k es) w = _
    rw [h]
    rfl
  · cases h
theorem sameNow_key {d : TypeDesc} {k a : Value} (hd : plainKey d = true) (h : Instr.sameNow d k a = some true) : a = k ∧ Instr.sameBits 10000 k k = true := by
  cases d <;> simp only [plainKey, Bool.false_eq_true] at hd
  · cases k <;> cases a <;> simp only [Instr.sameNow, reduceCtorEq] at h
    rename_i j x j' x'
    split at h
    · rename_i e
      subst e
      simp only [Option.some.injEq, beq_iff_eq] at h
      subst h
      exact ⟨rfl, by simp [Instr.sameBits]⟩
    · cases h
  · cases k <;> cases a <;> simp only [Instr.sameNow, reduceCtorEq] at h
    simp only [Option.some.injEq] at h
    obtain rfl := (MapKept.bytes_beq _ _).1 h
    exact ⟨rfl, by simp [Instr.sameBits, (MapKept.bytes_beq _ _).2]⟩
theorem findNow_key {d : TypeDesc} {k : Value} (hd : plainKey d = true) : ∀ {es : List MapEntry} {i j : Nat} {v : Value}, Instr.findNow d k es i = some (some (j, v)) → i ≤ j ∧ (∃ e, es[j - i]? = some e ∧ e.key = k) ∧ Instr.sameBits 10000 k k = true
  | [], i, j, v, h => by simp [Instr.findNow] at h
  | e :: es, i, j, v, h => by
    unfold Instr.findNow at h
    split at h
    · rename_i hs
      simp only [Option.some.injEq, Prod.mk.injEq] at h
      obtain ⟨rfl, rfl⟩ := h
      obtain ⟨h1, h2⟩ := sameNow_key hd hs
      exact ⟨Nat.le_refl _, ⟨e, by simp, h1⟩, h2⟩
    · obtain ⟨h1, ⟨e', h2, h3⟩, h4⟩ := findNow_key hd h
      refine ⟨by omega, ⟨e', ?_, h3⟩, h4⟩
      have : j - i = (j - (i + 1)) + 1 := by omega
      rw [this]
      simpa using h2
    · cases h
theorem zeroV_run {t : TypeId} {z : Value} (h : zeroV P t = some z) (w : World) : (zeroValue t).run P w = .ok z w := by
  simp only [zeroV, Option.bind_eq_some_iff] at h
  obtain ⟨i, hi, hz⟩ := h
  simp [zeroValue, run_info hi, hz]
theorem lookup_sound (G : Good w X S φ h) {t : TypeId} {x i c : C} {u v : Value} {ok : Bool} (hx : Rel w (badOf X φ h) S φ x u) (hi : Rel w (badOf X φ h) S φ i v) (hc : lookupC P h t x i ok = some c) :
    ∃ r, (Instr.lookup t u v ok).run P w = .ok r w ∧ Rel w (badOf X φ h) S φ c r := by
  unfold lookupC at hc
  split at hc
  · rename_i l
    split at hc
    · rename_i es clock hl
      simp only [lookupN, Option.bind_eq_bind, Option.bind_eq_some_iff] at hc
      obtain ⟨⟨kt, et⟩, hm, k, hk, r, hr, z, hz, hc⟩ := hc
      have hu := mapE_some hm
      simp only at hr hz hc
      obtain rfl := scalar_rel hi hk
      simp only [Rel] at hx
      obtain ⟨_, rfl⟩ := hx
      have hb := G.node l _ hl
      simp only [OkNode] at hb
      obtain ⟨⟨d, hd, hp, hf⟩, hrun⟩ := findKey_plain hr w
      split at hc
      · rename_i ho
        cases hc
        refine ⟨if ok = true then .tuple #[(r.map (·.2)).getD z, .bool r.isSome] else (r.map (·.2)).getD z, ?_, ?_⟩
        · have hzr := zeroV_run hz w
          unfold Instr.lookup
          simp only [Sem.run_bind, run_underlying' hu, Result.andThen]
          simp only [Sem.run_bind, MapKept.run_getObj_map hb, Result.andThen, Sem.run_pure, checkKey_plain hd hp, hrun]
          cases r with
          | none => simp only [Sem.run_bind, hzr, Result.andThen, Sem.run_pure, Option.map_none, Option.getD_none, Option.isSome_none]
          | some q => obtain ⟨j, q⟩ := q; cases ok <;> rfl
        · cases ok with
          | true =>
            simp only [if_true, Rel, RelL]
            exact ⟨_, rfl, _, _, rfl, ⟨rfl, ho⟩, _, _, rfl, ⟨rfl, rfl⟩, rfl⟩
          | false =>
            simp only [Bool.false_eq_true, if_false, Rel]
            exact ⟨trivial, ho⟩
      · cases hc
    · cases hc
  · cases hc
theorem mapUpd_sound (G : Good w X S φ h) {t : TypeId} {m k x : C} {u v y : Value} {h' : Heap} (hm : Rel w (badOf X φ h) S φ m u) (hk : Rel w (badOf X φ h) S φ k v) (hx : Rel w (badOf X φ h) S φ x y) (hc : mapUpdC P h t m k x = some h') :
    ∃ w', (Instr.mapUpdate t u v y).run P w = .ok () w' ∧ Good w' X S φ h' ∧ Ext w S φ h w' S φ h' ∧ h'.length = h.length := by
  unfold mapUpdC at hc
  split at hc
  · rename_i l
    split at hc
    · rename_i es clock hl
      simp only [mapUpdN, Option.bind_eq_bind, Option.map_eq_some_iff, Option.bind_eq_some_iff] at hc
      obtain ⟨nd, ⟨⟨kt, et⟩, hme, kv, hkv, xv, hxv, r, hr, hc⟩, rfl⟩ := hc
      have hu := mapE_some hme
      simp only at hr
      obtain rfl := scalar_rel hk hkv
      obtain rfl := scalar_rel hx hxv
      simp only [Rel] at hm
      obtain ⟨_, rfl⟩ := hm
      have hb := G.node l _ hl
      simp only [OkNode] at hb
      obtain ⟨⟨d, hd, hp, hf⟩, hrun⟩ := findKey_plain hr w
      cases r with
      | none =>
        cases hc
        obtain ⟨G', E⟩ := good_map (es' := es.push { key := v, val := y, born := clock }) (clock' := clock + 1) G hl
        refine ⟨_, ?_, G', E, by simp⟩
        unfold Instr.mapUpdate
        simp only [Sem.run_bind, run_underlying' hu, Result.andThen]
        simp only [Sem.run_bind, MapKept.run_getObj_map hb, Result.andThen, checkKey_plain hd hp, hrun]
        exact MapKept.run_setObj_map _ hb
      | some q =>
        obtain ⟨j, q⟩ := q
        cases hc
        obtain ⟨_, ⟨e, he, hek⟩, hsb⟩ := findNow_key hp hf
        obtain ⟨G', E⟩ := good_map (es' := es.modify j fun e => { e with key := v, val := y }) (clock' := clock) G hl
        refine ⟨_, ?_, G', E, by simp⟩
        unfold Instr.mapUpdate
        have hk2 : ((es[j]?).map (·.key)).getD v = v := by
          rw [Nat.sub_zero, Array.getElem?_toList] at he
          rw [he]; exact hek
        have hstay : (Instr.keyThatStays (((es[j]?).map (·.key)).getD v) v).run P w = .ok v w := by
          rw [hk2]
          unfold Instr.keyThatStays
          rw [if_pos hsb]; rfl
        simp only [Sem.run_bind, run_underlying' hu, Result.andThen]
        simp only [Sem.run_bind, MapKept.run_getObj_map hb, Result.andThen, checkKey_plain hd hp, hrun, hstay]
        exact MapKept.run_setObj_map _ hb
    · cases hc
  · cases hc
end
end Go.Tm
