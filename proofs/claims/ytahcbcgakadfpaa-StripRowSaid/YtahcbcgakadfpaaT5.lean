import Derived.Test.YtahcbcgakadfpaaT4
namespace Go.Tm
section
variable {P : Program} {w : World} {X S : Nat → Prop} {φ : Nat → Loc} {h : Heap} {bad : Nat → Prop}

theorem structF_some {t : TypeId} {f : Nat} {fd : Field} (hf : structF P t f = some fd) : ∃ fs, P.underlying t = some (.struct fs) ∧ fs[f]? = some fd := by
  unfold structF at hf
  split at hf
  · rename_i fs hu; exact ⟨fs, hu, hf⟩
  · cases hf

theorem fieldAddr_sound {t : TypeId} {p c : C} {f : Nat} {u : Value} (hp : Rel w bad S φ p u) (hf : fieldAddrC P t p f = some c) :
    ∃ v, (Instr.fieldAt t u f).run P w = .ok v w ∧ Rel w bad S φ c v := by
  simp only [fieldAddrC, Option.bind_eq_bind, Option.bind_eq_some_iff] at hf
  obtain ⟨fd, hfd, n, hn, hf⟩ := hf
  obtain ⟨fs, hu, hfs⟩ := structF_some hfd
  split at hf
  · cases hf
  · rename_i hn0
    split at hf
    · rename_i l off
      cases hf
      simp only [Rel] at hp
      obtain ⟨hS, rfl⟩ := hp
      refine ⟨.pointer (some ((Addr.mk (φ l).block ((φ l).base + off) none).add fd.offset)), by simp [Instr.fieldAt, run_underlying hu, hfs, Instr.sureAddr, fieldPlace, run_size hn, hn0], ?_⟩
      simp only [Rel, Addr.add_mid, Nat.add_assoc]
      exact ⟨hS, trivial⟩
    · cases hf
      simp only [Rel] at hp
      obtain ⟨b, o, rfl, hx⟩ := hp
      refine ⟨.pointer (some ((Addr.mk b o none).add fd.offset)), by simp [Instr.fieldAt, run_underlying hu, hfs, Instr.sureAddr, fieldPlace, run_size hn, hn0], ?_⟩
      simp only [Rel, Addr.add_mid]
      exact ⟨b, _, rfl, Fro.drop hx _⟩
    · cases hf

theorem field_sound {t : TypeId} {x c : C} {f : Nat} {u : Value} (hp : Rel w bad S φ x u) (hf : fieldC P t x f = some c) :
    ∃ v, (Instr.field t u f).run P w = .ok v w ∧ Rel w bad S φ c v := by
  simp only [fieldC, Option.bind_eq_bind, Option.bind_eq_some_iff] at hf
  obtain ⟨fd, hfd, hf⟩ := hf
  obtain ⟨fs, hu, hfs⟩ := structF_some hfd
  split at hf
  · simp only [Rel] at hp
    obtain ⟨us, rfl, hrel, h1⟩ := hp
    obtain ⟨v, hv, hr⟩ := fieldOf_sound hrel h1 hf
    exact ⟨v, by simp [Instr.field, run_underlying hu, hfs, asAgg, hv], hr⟩
  · cases hf

theorem indexAddr_sound {t : TypeId} {x i c : C} {u j : Value} (hp : Rel w bad S φ x u) (hi : Rel w bad S φ i j) (hf : indexAddrC P t x i = some c) :
    ∃ v, (Instr.indexAt t u j).run P w = .ok v w ∧ Rel w bad S φ c v := by
  simp only [indexAddrC, Option.bind_eq_bind, Option.bind_eq_some_iff] at hf
  obtain ⟨⟨k, n⟩, hk, hf⟩ := hf
  have hj := intOf_rel hi hk
  subst hj
  simp only at hf
  split at hf
  · rename_i e hu
    simp only [Option.bind_eq_bind, Option.bind_eq_some_iff] at hf
    obtain ⟨s, hs, hf⟩ := hf
    split at hf
    · split at hf
      · rename_i l off len _ hc
        cases hf
        simp only [Rel] at hp
        obtain ⟨hS, b, o, cap', rfl, hle, _, hadr, _, _⟩ := hp
        have hlen : 0 < len := by omega
        rcases hadr with h0 | ⟨hb, ho⟩
        · omega
        refine ⟨.pointer (some ((Addr.mk b o none).add (n.toNat * s))), by simp [Instr.indexAt, run_underlying hu, asIntOf, hc, run_size hs], ?_⟩
        simp only [Rel, Addr.add_mid, hb, ho, Nat.add_assoc]
        exact ⟨hS, trivial⟩
      · cases hf
    · split at hf
      · rename_i xs len _ hc
        cases hf
        simp only [Rel] at hp
        rcases hp with ⟨⟨_, rfl⟩, rfl, rfl, _⟩ | ⟨b, o, cap', rfl, hle, _, hx⟩
        · omega
        refine ⟨.pointer (some ((Addr.mk b o none).add (n.toNat * s))), by simp [Instr.indexAt, run_underlying hu, asIntOf, hc, run_size hs], ?_⟩
        simp only [Rel, Addr.add_mid]
        exact ⟨b, _, rfl, Fro.drop hx _⟩
      · cases hf
    · cases hf
  · rename_i len e hu
    simp only [Option.bind_eq_bind, Option.bind_eq_some_iff] at hf
    obtain ⟨s, hs, hf⟩ := hf
    split at hf
    · split at hf
      · rename_i l off hc
        cases hf
        simp only [Rel] at hp
        obtain ⟨hS, rfl⟩ := hp
        refine ⟨.pointer (some ((Addr.mk (φ l).block ((φ l).base + off) none).add (n.toNat * s))), by simp [Instr.indexAt, run_underlying hu, asIntOf, hc, run_size hs, Instr.sureAddr], ?_⟩
        simp only [Rel, Addr.add_mid, Nat.add_assoc]
        exact ⟨hS, trivial⟩
      · cases hf
    · split at hf
      · rename_i xs hc
        cases hf
        simp only [Rel] at hp
        obtain ⟨b, o, rfl, hx⟩ := hp
        refine ⟨.pointer (some ((Addr.mk b o none).add (n.toNat * s))), by simp [Instr.indexAt, run_underlying hu, asIntOf, hc, run_size hs, Instr.sureAddr], ?_⟩
        simp only [Rel, Addr.add_mid]
        exact ⟨b, _, rfl, Fro.drop hx _⟩
      · cases hf
    · cases hf
  · cases hf

theorem index_sound {t : TypeId} {x i c : C} {u j : Value} (hp : Rel w bad S φ x u) (hi : Rel w bad S φ i j) (hf : indexC P t x i = some c) :
    ∃ v, (Instr.index t u j).run P w = .ok v w ∧ Rel w bad S φ c v := by
  simp only [indexC, Option.bind_eq_bind, Option.bind_eq_some_iff] at hf
  obtain ⟨⟨k, n⟩, hk, hf⟩ := hf
  have hj := intOf_rel hi hk
  subst hj
  simp only at hf
  split at hf
  · split at hf
    · rename_i s y hy
      split at hf
      · cases hf
        simp only [Rel] at hp
        obtain ⟨rfl, _⟩ := hp
        refine ⟨y, pureRun_run hy w, ?_⟩
        simp only [Rel]
        exact ⟨trivial, by assumption⟩
      · cases hf
    · cases hf
  · split at hf
    · rename_i len e hu
      split at hf
      · rename_i cs hc
        simp only [Rel] at hp
        obtain ⟨us, rfl, hrel, h1⟩ := hp
        obtain ⟨v, hv, hr⟩ := fieldOf_sound hrel h1 hf
        have hs : ∃ s, sz P e = some s := by
          simp only [fieldOf, Option.bind_eq_bind, Option.bind_eq_some_iff] at hf
          obtain ⟨s, hs, _⟩ := hf
          exact ⟨s, hs⟩
        obtain ⟨s, hs⟩ := hs
        rw [hs] at hv
        refine ⟨v, ?_, hr⟩
        simp [Instr.index, run_underlying hu, asIntOf, hc, run_size hs]
        exact hv
      · cases hf
    · cases hf
  · cases hf

/-! ### Slicing -/
def RelO (w : World) (bad S : Nat → Prop) (φ : Nat → Loc) : Option C → Option Value → Prop
  | none, none => True
  | some c, some u => Rel w bad S φ c u
  | _, _ => False

theorem bound_some {o : Option C} {v : Option Value} {d n : Nat} (hr : RelO w bad S φ o v) (hb : bound o d = some n) : (o = none ∧ v = none ∧ n = d) ∨ ∃ k i, v = some (.int k i) ∧ 0 ≤ i ∧ i.toNat = n := by
  unfold bound at hb
  split at hb
  · cases hb
    cases v with
    | none => exact .inl ⟨rfl, rfl, rfl⟩
    | some _ => exact hr.elim
  · rename_i c
    split at hb
    · rename_i k i hi
      split at hb
      · cases hb
        cases v with
        | none => exact hr.elim
        | some u => exact .inr ⟨k, i, by rw [intOf_rel hr hi], by assumption, rfl⟩
      · cases hb
    · cases hb

theorem sb_run {k : IntKind} {i : Int} {n y : Nat} (h0 : 0 ≤ i) (hn : i.toNat = n) (hy : n ≤ y) (code : BoundsCode) (w : World) : (Instr.sliceBound (.int k i) y code).run P w = .ok n w := by
  rw [run_sliceBound w k i y code h0 (by omega), hn]

theorem bnds_sound {lo hi mx : Option C} {lo' hi' mx' : Option Value} (hl : RelO w bad S φ lo lo') (hh : RelO w bad S φ hi hi') (hm : RelO w bad S φ mx mx') {len capk cap l e : Nat} {m : Option Nat} (isS : Bool)
    (hb : bnds lo hi mx len capk = some (l, e, m)) (hc : capk ≤ cap) :
    (Instr.sliceBounds isS len cap lo' hi' mx').run P w = .ok (l, e, m.getD cap) w ∧ l ≤ e ∧ e ≤ capk ∧ e ≤ m.getD cap ∧ m.getD cap ≤ cap ∧ (mx' = none → m = none) ∧ (∀ x, m = some x → x ≤ capk) := by
  simp only [bnds, Option.bind_eq_bind, Option.bind_eq_some_iff] at hb
  obtain ⟨l', hl', e', he', hb⟩ := hb
  have L : (lo' = none ∧ l' = 0) ∨ ∃ k i, lo' = some (.int k i) ∧ 0 ≤ i ∧ i.toNat = l' := by
    rcases bound_some hl hl' with ⟨_, h1, h2⟩ | h
    · exact .inl ⟨h1, h2⟩
    · exact .inr h
  have E := bound_some hh he'
  cases mx with
  | none =>
    cases mx' with
    | some _ => exact hm.elim
    | none =>
      simp only at hb
      split at hb
      · rename_i hcnd
        obtain ⟨rfl, rfl, rfl⟩ : l' = l ∧ e' = e ∧ none = m := by simpa using hb
        refine ⟨?_, hcnd.1, hcnd.2, by simp; omega, by simp, fun _ => rfl, fun _ h => by cases h⟩
        rcases E with ⟨_, rfl, rfl⟩ | ⟨kh, ih, rfl, hh0, hh1⟩ <;> rcases L with ⟨rfl, rfl⟩ | ⟨kl, il, rfl, hl0, hl1⟩
        · simp [Instr.sliceBounds]
        · simp [Instr.sliceBounds, sb_run hl0 hl1 hcnd.1]
        · simp [Instr.sliceBounds, sb_run hh0 hh1 (show e' ≤ cap by omega)]
        · simp [Instr.sliceBounds, sb_run hh0 hh1 (show e' ≤ cap by omega), sb_run hl0 hl1 hcnd.1]
      · cases hb
  | some mc =>
    cases mx' with
    | none => exact hm.elim
    | some mv =>
      simp only [Option.bind_eq_some_iff] at hb
      obtain ⟨m', hm', hb⟩ := hb
      split at hb
      · rename_i hcnd
        obtain ⟨rfl, rfl, rfl⟩ : l' = l ∧ e' = e ∧ some m' = m := by simpa using hb
        refine ⟨?_, hcnd.2.1, by omega, by simp; omega, by simp; omega, fun h => (by cases h), fun x hx => by cases hx; exact hcnd.2.2.2⟩
        rcases bound_some hm hm' with ⟨h0, _⟩ | ⟨km, im, hmv, hm0, hm1⟩
        · cases h0
        cases hmv
        rcases E with ⟨h0, _, _⟩ | ⟨kh, ih, rfl, hh0, hh1⟩
        · rw [h0] at hcnd; cases hcnd.1
        rcases L with ⟨rfl, rfl⟩ | ⟨kl, il, rfl, hl0, hl1⟩
        · simp [Instr.sliceBounds, sb_run hm0 hm1 (show m' ≤ cap by omega), sb_run hh0 hh1 hcnd.2.2.1]
        · simp [Instr.sliceBounds, sb_run hm0 hm1 (show m' ≤ cap by omega), sb_run hh0 hh1 hcnd.2.2.1, sb_run hl0 hl1 hcnd.2.1]
      · cases hb

theorem slice_sound (G : Good w X S φ h) {t : TypeId} {x c : C} {lo hi mx : Option C} {u : Value} {lo' hi' mx' : Option Value} (hp : Rel w (badOf X φ h) S φ x u)
    (hl : RelO w (badOf X φ h) S φ lo lo') (hh : RelO w (badOf X φ h) S φ hi hi') (hm : RelO w (badOf X φ h) S φ mx mx') (hf : sliceC P h t x lo hi mx = some c) :
    ∃ v, (Instr.sliceAt t u lo' hi' mx').run P w = .ok v w ∧ Rel w (badOf X φ h) S φ c v := by
  unfold sliceC at hf
  split at hf
  · rename_i hu
    split at hf
    · rename_i s
      simp only [Option.map_eq_some_iff] at hf
      obtain ⟨⟨l, e, m⟩, hb, rfl⟩ := hf
      simp only [Rel] at hp
      obtain ⟨rfl, _⟩ := hp
      cases mx' with
      | some _ => exact hm.elim
      | none =>
        obtain ⟨hrun, _⟩ := bnds_sound (P := P) (cap := s.size) hl hh hm false hb (Nat.le_refl _)
        refine ⟨.string (s.extract l e), ?_, by simp only [Rel]; exact ⟨trivial, rfl⟩⟩
        rw [run_sliceAt_string w t _ _ _ _ hu]
        simp [Instr.slice, run_underlying hu, hrun]
    · cases hf
  · rename_i e hu
    have hsl : (Instr.sliceAt t u lo' hi' mx').run P w = (Instr.slice t u lo' hi' mx').run P w := by
      simp [Instr.sliceAt, run_underlying hu]
    rw [hsl]
    simp only [Option.bind_eq_some_iff] at hf
    obtain ⟨s, hs, hf⟩ := hf
    split at hf
    · simp only [Option.map_eq_some_iff] at hf
      obtain ⟨⟨l, e, m⟩, hb, rfl⟩ := hf
      simp only [Rel] at hp
      obtain ⟨rfl, _⟩ := hp
      obtain ⟨hrun, h1, h2, h3, h4, _⟩ := bnds_sound (P := P) (cap := 0) hl hh hm true hb (Nat.le_refl _)
      refine ⟨.slice none 0 0, ?_, by simp only [Rel]; exact ⟨trivial, rfl⟩⟩
      have e1 : l = 0 := by omega
      have e2 : e = 0 := by omega
      have e3 : m.getD 0 = 0 := by omega
      rw [e1, e2, e3] at hrun
      simp [Instr.slice, run_underlying hu, hrun, run_size hs]
    · rename_i a off len cap
      split at hf
      · rename_i e' cs hat
        split at hf
        · rename_i hes
          subst hes
          simp only [Option.map_eq_some_iff] at hf
          obtain ⟨⟨l, e, m⟩, hb, rfl⟩ := hf
          simp only [Rel] at hp
          obtain ⟨hS, b, o, cap', rfl, hle, hcap, hadr, hroom, hkn⟩ := hp
          have hok0 := G.node a _ hat
          simp only [OkNode] at hok0
          have hck : capk cap len off e' cs ≤ cap' := by
            cases cap with
            | none =>
              have h1 := hkn rfl
              rw [hok0.2.1, hok0.1] at h1
              refine Nat.max_le.2 ⟨hle, ?_⟩
              rcases Nat.eq_zero_or_pos e' with h0 | h0
              · subst h0; simp
              · refine Nat.le_trans (Nat.div_le_div_right (c := e') (show cs.length - off ≤ cap' * e' by omega)) ?_
                rw [Nat.mul_div_cancel _ h0]; exact Nat.le_refl _
            | some c => have := hcap c rfl; simp only [capk]; omega
          obtain ⟨hrun, h1, h2, h3, h4, h5, h6⟩ := bnds_sound (P := P) (cap := cap') hl hh hm true hb hck
          have hok := G.node a _ hat
          simp only [OkNode] at hok
          obtain ⟨k1, k2, k3, k4, k5⟩ := hok
          simp only at *
          have hmul : ∀ x y : Nat, x ≤ y → (y - x) * e' + x * e' = y * e' := fun x y hxy => by rw [← Nat.add_mul]; congr 1; omega
          by_cases hml : m.getD cap' = l
          · refine ⟨.slice (some ⟨b, o, none⟩) (e - l) 0, by simp [Instr.slice, run_underlying hu, hrun, run_size hs, hml], ?_⟩
            simp only [Rel]
            refine ⟨hS, b, o, 0, rfl, by omega, fun c hc => ?_, .inl rfl, .inl rfl, fun hc => ?_⟩
            · cases m with
              | none => cases cap with
                | none => cases hc
                | some c0 => have := hcap c0 rfl; simp [capLeft] at hc hml; omega
              | some m => simp [capLeft] at hc hml; omega
            · cases m with
              | some m => cases hc
              | none =>
                cases cap with
                | some c0 => cases hc
                | none =>
                  have := hkn rfl
                  simp at hml
                  subst hml
                  rw [k1] at this ⊢
                  omega
          · refine ⟨.slice (some ((Addr.mk b o none).add (l * e'))) (e - l) (m.getD cap' - l), by simp [Instr.slice, run_underlying hu, hrun, run_size hs, hml], ?_⟩
            simp only [Rel, Addr.add_mid]
            have hne : cap' ≠ 0 := by omega
            obtain ⟨hb2, ho2⟩ := hadr.resolve_left hne
            have hro := hroom.resolve_left hne
            refine ⟨hS, b, o + l * e', _, rfl, by omega, fun c hc => ?_, .inr ⟨hb2, by omega⟩, .inr ?_, fun hc => ?_⟩
            · cases m with
              | none => cases cap with
                | none => cases hc
                | some c0 => have := hcap c0 rfl; simp [capLeft] at hc ⊢; omega
              | some m => simp [capLeft] at hc ⊢; omega
            · rw [k1] at hro ⊢
              have e1 := hmul l (m.getD cap') (by omega)
              have e2 : m.getD cap' * e' ≤ cap' * e' := Nat.mul_le_mul_right _ h4
              omega
            · cases m with
              | some m => cases hc
              | none =>
                cases cap with
                | some c0 => cases hc
                | none =>
                  have := hkn rfl
                  rw [k1] at this ⊢
                  have e1 := hmul l cap' (by simp at h3; omega)
                  simp
                  omega
        · cases hf
      · cases hf
    · rename_i xs len cap
      simp only [Option.map_eq_some_iff] at hf
      obtain ⟨⟨l, e, m⟩, hb, rfl⟩ := hf
      simp only [Rel] at hp
      rcases hp with ⟨⟨a0, rfl⟩, rfl, rfl, hcap⟩ | ⟨b, o, cap', rfl, hle, hcap, hx⟩
      · obtain ⟨hrun, h1, h2, h3, h4, h5, h6⟩ := bnds_sound (P := P) (cap := 0) hl hh hm true hb (Nat.le_refl _)
        have e1 : l = 0 := by omega
        have e2 : e = 0 := by omega
        have e3 : m.getD 0 = 0 := by omega
        rw [e1, e2, e3] at hrun
        refine ⟨.slice a0 0 0, by simp [Instr.slice, run_underlying hu, hrun, run_size hs], ?_⟩
        simp only [Rel]
        refine .inl ⟨⟨a0, rfl⟩, by simp, by omega, ?_⟩
        cases m with
        | none => rcases hcap with rfl | rfl <;> simp [capLeft]
        | some m => simp at e3; subst e3; simp [capLeft]
      · obtain ⟨hrun, h1, h2, h3, h4, h5, h6⟩ := bnds_sound (P := P) (cap := cap') hl hh hm true hb hle
        simp only at *
        have hcl : ∀ c, capLeft cap m l = some c → m.getD cap' - l = c := fun c hc => by
          cases m with
          | none => cases cap with
            | none => cases hc
            | some c0 => have := hcap c0 rfl; simp [capLeft] at hc ⊢; omega
          | some m => simp [capLeft] at hc ⊢; omega
        by_cases hml : m.getD cap' = l
        · refine ⟨.slice (some ⟨b, o, none⟩) (e - l) 0, by simp [Instr.slice, run_underlying hu, hrun, run_size hs, hml], ?_⟩
          simp only [Rel]
          have e0 : e - l = 0 := by omega
          exact .inr ⟨b, o, 0, rfl, by omega, fun c hc => by have := hcl c hc; omega, .inl (by rw [e0]; simp)⟩
        · refine ⟨.slice (some ((Addr.mk b o none).add (l * s))) (e - l) (m.getD cap' - l), by simp [Instr.slice, run_underlying hu, hrun, run_size hs, hml], ?_⟩
          simp only [Rel, Addr.add_mid]
          exact .inr ⟨b, o + l * s, _, rfl, by omega, hcl, Fro.take (Fro.drop hx _) _⟩
    · cases hf
  · cases hf
end
end Go.Tm
