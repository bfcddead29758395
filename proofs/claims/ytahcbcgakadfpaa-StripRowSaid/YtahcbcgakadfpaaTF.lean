import Derived.Test.YtahcbcgakadfpaaTE
namespace Go.Tm
section
variable {P : Program} {call : CallF} {vals : FuncId → Bool} {N : Nat} {ops : Array Oper} {ds : List D} {st st' : St} {rs : List Rec}

/-- Room for rows that are to come. -/
def padD (n : Nat) (h : Heap) : Heap := h ++ List.replicate n .dead
theorem pad_len (n : Nat) (h : Heap) : (padD n h).length = h.length + n := by simp [padD]
theorem pad_at {n : Nat} {h : Heap} {l : Nat} {nd : Node} (e : (padD n h)[l]? = some nd) : h[l]? = some nd ∨ nd = .dead := by
  unfold padD at e
  rcases Nat.lt_or_ge l h.length with hl | hl
  · rw [List.getElem?_append_left hl] at e; exact .inl e
  · rw [List.getElem?_append_right hl, List.getElem?_replicate] at e
    split at e
    · cases e; exact .inr rfl
    · cases e
theorem live_pad {n : Nat} {h : Heap} {l : Nat} : live (padD n h) l ↔ live h l := by
  constructor
  · rintro ⟨nd, e, hd⟩
    rcases pad_at e with e | e
    · exact ⟨nd, e, hd⟩
    · exact absurd e hd
  · rintro ⟨nd, e, hd⟩
    refine ⟨nd, ?_, hd⟩
    unfold padD
    rw [List.getElem?_append_left (List.getElem?_eq_some_iff.1 e).1]
    exact e
theorem bad_pad {X : Nat → Prop} {φ : Nat → Loc} {n : Nat} {h : Heap} : badOf X φ (padD n h) = badOf X φ h := by
  funext b
  unfold badOf Own
  simp only [live_pad]
theorem good_pad {w : World} {X S : Nat → Prop} {φ : Nat → Loc} {h : Heap} {n : Nat} (G : Good w X S φ h) : Good w X S φ (padD n h) := by
  refine ⟨fun l nd e => ?_, fun l hl => G.inS l (live_pad.1 hl), fun l hl => G.size l (live_pad.1 hl), fun l m hl hm => G.inj l m (live_pad.1 hl) (live_pad.1 hm), G.xlt, fun l hl => G.apart l (live_pad.1 hl)⟩
  rw [bad_pad]
  rcases pad_at e with e | e
  · exact G.node l nd e
  · subst e; trivial
theorem ext_pad {w : World} {S : Nat → Prop} {φ : Nat → Loc} {h : Heap} {n : Nat} : Ext w S φ h w S φ (padD n h) :=
  ⟨rfl, rfl, rfl, Nat.le_refl _, fun _ _ _ => rfl, fun _ h => ⟨h, rfl⟩, fun l hl => .inl ⟨l, live_pad.1 hl, rfl⟩⟩
theorem new_names {S S' : Nat → Prop} {h h' : Heap} {al : Option Nat} (sq : SeqOk S h) (lt : ∀ s, al = some s → s < h.length) (n : Names S S' h h' al) : SeqOk S' h' ∧ ∀ l, S' l → S l ∨ l = (new h al .dead).1 := by
  rcases n with ⟨rfl, e⟩ | ⟨rfl, e⟩
  · exact ⟨fun l hl => by rw [e]; exact sq l hl, fun l hl => .inl hl⟩
  · refine ⟨fun l hl => ?_, fun l hl => hl⟩
    rw [e]
    cases al with
    | none =>
      simp only [new, List.length_append, List.length_cons, List.length_nil] at hl ⊢
      rcases hl with hl | hl
      · have := sq l hl; omega
      · omega
    | some s =>
      simp only [new, List.length_set] at hl ⊢
      rcases hl with hl | hl
      · exact sq l hl
      · have := lt s rfl; omega

theorem heap_const' (R : RunD P call ds st st' rs) (ok : DrawOk N ops ds) (hv : ValsOk vals call) (K : ChkOk vals rs) {q p : Nat} (hqp : q ≤ p) (hp : p ≤ rs.length) (hn : ∀ (x : Nat) (y : Rec), q ≤ x → x < p → rs[x]? = some y → ¬ chR y ∧ ¬ frR y) : hAt rs st' p = hAt rs st' q := by
  obtain ⟨k, rfl⟩ : ∃ k, p = q + k := ⟨p - q, by omega⟩
  exact heap_const R ok hv K q k hp hn
theorem heap_up' (R : RunD P call ds st st' rs) (ok : DrawOk N ops ds) (hv : ValsOk vals call) (K : ChkOk vals rs) {q p : Nat} (hqp : q ≤ p) (hp : p ≤ rs.length) (hn : ∀ (x : Nat) (y : Rec), q ≤ x → x < p → rs[x]? = some y → ¬ chR y) :
    Grows (hAt rs st' q) (hAt rs st' p) ∧ (hAt rs st' q).length ≤ (hAt rs st' p).length ∧ ∀ l, (hAt rs st' q).length ≤ l → l < (hAt rs st' p).length → ∃ (x : Nat) (y : Rec), q ≤ x ∧ x < p ∧ rs[x]? = some y ∧ frR y ∧ y.heap.length = l := by
  obtain ⟨k, rfl⟩ : ∃ k, p = q + k := ⟨p - q, by omega⟩
  exact heap_up R ok hv K q k hp hn

def setAt {α : Type} (f : Nat → α) (p : Nat) (v : α) : Nat → α := fun x => if x = p then v else f x
theorem setAt_self {α : Type} (f : Nat → α) (p : Nat) (v : α) : setAt f p v p = v := if_pos rfl
theorem setAt_ne {α : Type} {f : Nat → α} {p x : Nat} {v : α} (h : x ≠ p) : setAt f p v x = f x := if_neg h
/-! ### Fewer names -/
mutual
theorem Rel.narrow {w w' : World} {bad bad' S S' : Nat → Prop} {φ φ' : Nat → Loc} (e : ∀ l, S l → φ' l = φ l) : ∀ {c : C} {u v : Value}, Rel w bad S φ c u → Rel w' bad' S' φ' c v → Rel w' bad' S φ c v
  | .v x, u, v, _, h => by simpa only [Rel] using h
  | .fs xs len cap, u, v, _, h => by
    simp only [Rel] at h ⊢
    rcases h with h | ⟨b, o, cap', hu, hl, hc, hx⟩
    · exact .inl h
    · refine .inr ⟨b, o, cap', hu, hl, hc, ?_⟩
      rcases hx with hx | ⟨hb, hs, hx⟩
      · exact .inl hx
      · exact .inr ⟨hb, hs, RelAt.later ((Later.refl (w := w') (bad := bad') (S := noName) (φ := φ')).no φ' φ noName) hb hs hx⟩
  | .fp xs, u, v, _, h => by
    simp only [Rel] at h ⊢
    obtain ⟨b, o, hu, hx⟩ := h
    refine ⟨b, o, hu, ?_⟩
    rcases hx with hx | ⟨hb, hs, hx⟩
    · exact .inl hx
    · exact .inr ⟨hb, hs, RelAt.later ((Later.refl (w := w') (bad := bad') (S := noName) (φ := φ')).no φ' φ noName) hb hs hx⟩
  | .os l off len cap, u, v, k, h => by
    simp only [Rel] at h k ⊢
    rw [e l k.1] at h
    exact ⟨k.1, h.2⟩
  | .op l off, u, v, k, h => by
    simp only [Rel] at h k ⊢
    rw [e l k.1] at h
    exact ⟨k.1, h.2⟩
  | .om l, u, v, k, h => by
    simp only [Rel] at h k ⊢
    rw [e l k.1] at h
    exact ⟨k.1, h.2⟩
  | .fn f caps, u, v, k, h => by
    simp only [Rel] at h k ⊢
    obtain ⟨us, hu, h⟩ := h
    obtain ⟨_, _, k⟩ := k
    exact ⟨us, hu, RelL.narrow e k h⟩
  | .agg cs, u, v, k, h => by
    simp only [Rel] at h k ⊢
    obtain ⟨us, hu, h, h1⟩ := h
    obtain ⟨_, _, k, _⟩ := k
    exact ⟨us, hu, RelL.narrow e k h, h1⟩
  | .tup cs, u, v, k, h => by
    simp only [Rel] at h k ⊢
    obtain ⟨us, hu, h⟩ := h
    obtain ⟨_, _, k⟩ := k
    exact ⟨us, hu, RelL.narrow e k h⟩
theorem RelL.narrow {w w' : World} {bad bad' S S' : Nat → Prop} {φ φ' : Nat → Loc} (e : ∀ l, S l → φ' l = φ l) : ∀ {cs : List C} {us vs : List Value}, RelL w bad S φ cs us → RelL w' bad' S' φ' cs vs → RelL w' bad' S φ cs vs
  | [], _, _, _, h => by simpa only [RelL] using h
  | c :: cs, us, vs, k, h => by
    simp only [RelL] at h k ⊢
    obtain ⟨u, r, hu, hr, h⟩ := h
    obtain ⟨_, _, _, kr, k⟩ := k
    exact ⟨u, r, hu, Rel.narrow e kr hr, RelL.narrow e k h⟩
end
theorem RelAt.narrow {w w' : World} {bad bad' S S' : Nat → Prop} {φ φ' : Nat → Loc} (e : ∀ l, S l → φ' l = φ l) : ∀ {cs : List C} {b o b' o' : Nat}, RelAt w bad S φ cs b o → RelAt w' bad' S' φ' cs b' o' → RelAt w' bad' S φ cs b' o'
  | [], _, _, _, _, _, _ => by simp [RelAt]
  | c :: cs, b, o, b', o', k, h => by
    simp only [RelAt] at h k ⊢
    obtain ⟨⟨u, hu, hr, h1⟩, h⟩ := h
    obtain ⟨⟨_, _, kr, _⟩, k⟩ := k
    exact ⟨⟨u, hu, Rel.narrow e kr hr, h1⟩, RelAt.narrow e k h⟩
theorem OkNode.narrow {w w' : World} {bad bad' S S' : Nat → Prop} {φ φ' : Nat → Loc} (e : ∀ l, S l → φ' l = φ l) {l : Nat} (hl : φ' l = φ l) {nd : Node} (k : OkNode w bad S φ l nd) (h : OkNode w' bad' S' φ' l nd) : OkNode w' bad' S φ l nd := by
  cases nd with
  | dead => trivial
  | row ez cs =>
    simp only [OkNode] at h k ⊢
    rw [hl] at h
    exact ⟨h.1, h.2.1, h.2.2.1, h.2.2.2.1, RelAt.narrow e k.2.2.2.2 h.2.2.2.2⟩
  | map es clock =>
    simp only [OkNode] at h ⊢
    rw [hl] at h
    exact h
theorem new_live {env : Env} {h h' : Heap} {o : Op} (ho : isNew o = true) {c : C} (hs : stepOp P call none env h o = some (c, h')) {nd : Node} (e : h' = h ++ [nd]) : nd ≠ .dead := by
  have key : ∀ (x y : Nat) (cs : List C), h' = (new h none (.row y cs)).2 → nd ≠ .dead := fun _ y cs h2 => by
    have h3 : h ++ [nd] = h ++ [.row y cs] := by rw [← e, h2]; rfl
    have h4 := List.append_cancel_left h3
    injection h4 with h4
    rw [h4]; simp
  cases o <;> simp only [isNew, Bool.false_eq_true] at ho
  case alloc t =>
    simp only [stepOp, Option.bind_eq_bind, Option.bind_eq_some_iff, Option.some.injEq, Prod.mk.injEq] at hs
    obtain ⟨z, hz, _, h2⟩ := hs
    exact key 0 _ _ h2.symm
  case box t x =>
    simp only [stepOp, Option.bind_eq_bind, Option.bind_eq_some_iff] at hs
    obtain ⟨d, hd, hs⟩ := hs
    split at hs
    · simp only [Option.some.injEq, Prod.mk.injEq] at hs
      exact key 0 _ _ hs.2.symm
    · cases hs
  case buildSlice t n ps =>
    simp only [stepOp, Option.bind_eq_bind, Option.bind_eq_some_iff] at hs
    obtain ⟨qs, hq, hs⟩ := hs
    simp only [buildSliceC, Option.bind_eq_bind, Option.bind_eq_some_iff] at hs
    obtain ⟨_, _, ⟨_, _⟩, _, _, _, hs⟩ := hs
    split at hs
    · simp only [Option.some.injEq, Prod.mk.injEq] at hs
      exact key 0 _ _ hs.2.symm
    · cases hs
  case makeSlice t x y =>
    simp only [stepOp, Option.bind_eq_bind, Option.bind_eq_some_iff] at hs
    obtain ⟨d, hd, e2, he, hs⟩ := hs
    simp only [makeSliceC, Option.bind_eq_bind, Option.bind_eq_some_iff] at hs
    obtain ⟨_, _, ⟨_, _⟩, _, ⟨_, _⟩, _, _, _, ⟨_, _⟩, _, hs⟩ := hs
    split at hs
    · simp only [Option.some.injEq, Prod.mk.injEq] at hs
      exact key 0 _ _ hs.2.symm
    · cases hs
theorem pad_one (h : Heap) : padD 1 h = h ++ [.dead] := rfl
/-- On over a place where nothing is turned: room is left, or what is held is taken in. -/
theorem Inv.adv1 (R : RunD P call ds st st' rs) (ok : DrawOk N ops ds) (hv : ValsOk vals call) (K : ChkOk vals rs) {X : Nat → Prop} {w0 w : World} {S0 S : Nat → Prop} {φ0 φ : Nat → Loc} {listed : Array Bool} {a : Act} {q : Nat} {kh : Heap} {hb : Nat → Loc} {hu : Nat → Value}
    (I : Inv ops ds rs st st' N X w0 S0 φ0 listed a w S φ q kh hb hu) {r : Rec} (hr : rs[q]? = some r) (hc : ¬ chR r) :
    ∃ S' φ' kh', Inv ops ds rs st st' N X w0 S0 φ0 listed a w S' φ' (q + 1) kh' hb hu := by
  have hql : q < rs.length := (List.getElem?_eq_some_iff.1 hr).1
  have hnext := (run_step R hr).1
  have hat := hAt_some (st' := st') hr
  have bef : ∀ (p : Nat) (y : Rec), p < q + 1 → rs[p]? = some y → y.on = true → y.d.cls = .chain → listed.getD y.d.ix false = true := fun p y hp hy ho hcl => by
    by_cases e : p = q
    · subst e; rw [hr] at hy; cases hy; exact absurd ⟨ho, hcl⟩ hc
    · exact I.before p y (by omega) hy ho hcl
  have aft : ∀ (p : Nat) (y : Rec), q + 1 ≤ p → rs[p]? = some y → y.on = true → y.d.cls = .chain → listed.getD y.d.ix false = false := fun p y hp hy ho hcl => I.after p y (by omega) hy ho hcl
  by_cases hf : frR r
  · obtain ⟨nd0, hnd0, _⟩ := free_new R hr hf
    have hslot : r.heap.length = kh.length := by rw [I.klen, hat]
    cases hl : listed.getD r.d.ix false with
    | false =>
      have hs : ∀ x y, Held rs listed (q + 1) x y ↔ Held rs listed q x y := fun x y => ⟨fun h => ⟨by have := h.1; omega, h.2⟩, fun h => ⟨by
        have h1 := h.1
        by_cases e : x = q
        · subst e
          have hy := h.2.1
          rw [hr] at hy; cases hy
          have h4 := h.2.2.2
          rw [hl] at h4; cases h4
        · omega, h.2⟩⟩
      have eX := HX_same (X := X) (hb := hb) hs
      have eB : badOf (HX X rs listed (q + 1) hb) φ (padD 1 kh) = badOf (HX X rs listed q hb) φ kh := by rw [bad_pad, eX]
      refine ⟨S, φ, padD 1 kh, I.size, by rw [eX]; exact good_pad I.good, fun l hS => by rw [pad_len]; have := I.seq l hS; omega, I.tmps, I.defers, I.ext.trans ext_pad, I.down, by omega, bef, aft, fun t p y hy hly hdy hno hnh => ?_, fun t c hno hb => ?_, ?_, fun l => ?_, fun x y hx hy hfy hly => ?_, fun x y h => ?_, fun x y t h => I.htmp x y t ((hs x y).1 h), fun x x' y y' h h' => I.hinj x x' y y' ((hs x y).1 h) ((hs x' y').1 h')⟩
      · rw [eB]; exact I.writ t p y hy hly hdy hno fun h => hnh ((hs p y).2 h)
      · rw [eB]; exact I.base t c hno hb
      · rw [pad_len, hnext, hnd0, List.length_append, List.length_singleton, hslot]
      · rw [hnext, hnd0]
        rcases Nat.lt_trichotomy l kh.length with h | h | h
        · have e1 : (padD 1 kh)[l]? = kh[l]? := by unfold padD; rw [List.getElem?_append_left h]
          rw [e1, List.getElem?_append_left (by rw [hslot]; exact h)]
          rcases I.kat l with h2 | ⟨x, y, h1, h2, h3, h4, h5⟩
          · left; rw [h2, hat]
          · exact .inr ⟨x, y, by omega, h2, h3, h4, h5⟩
        · exact .inr ⟨q, r, by omega, hr, hf, hl, by rw [hslot, h]⟩
        · left
          rw [List.getElem?_eq_none (by rw [pad_len]; omega), List.getElem?_eq_none (by rw [List.length_append, hslot]; simp; omega)]
      · by_cases e : x = q
        · subst e
          rw [hr] at hy; cases hy
          rw [hslot]
          refine ⟨?_, fun h => by have := I.seq _ h; omega⟩
          unfold padD
          rw [List.getElem?_append_right (Nat.le_refl _), Nat.sub_self]; rfl
        · obtain ⟨h1, h2⟩ := I.pend x y (by omega) hy hfy hly
          refine ⟨?_, h2⟩
          unfold padD
          rw [List.getElem?_append_left (List.getElem?_eq_some_iff.1 h1).1]; exact h1
      · rw [eB]; exact I.hold x y ((hs x y).1 h)
    | true =>
      have hme : Held rs listed q q r := ⟨Nat.le_refl _, hr, hf, hl⟩
      obtain ⟨H, hw0, hnX⟩ := I.hold q r hme
      obtain ⟨nd, hnd, hne, hok⟩ := H.node
      rw [hslot] at hok
      have hval := H.val
      rw [hslot] at hval
      have up : ∀ x y, Held rs listed (q + 1) x y → Held rs listed q x y := fun x y h => ⟨by have := h.1; omega, h.2⟩
      have old : ∀ l, S l → l ≠ kh.length := fun l h e => by have := I.seq l h; omega
      have atk : ∀ l, l < kh.length → (kh ++ [nd])[l]? = kh[l]? := fun l h => List.getElem?_append_left h
      have atn : (kh ++ [nd])[kh.length]? = some nd := by simp
      have lv : ∀ l, live (kh ++ [nd]) l → l ≠ kh.length → live kh l := fun l ⟨x, h1, h2⟩ e => by
        have h3 := (List.getElem?_eq_some_iff.1 h1).1
        rw [List.length_append, List.length_singleton] at h3
        rw [atk l (by omega)] at h1
        exact ⟨x, h1, h2⟩
      have lvk : ∀ l, live kh l → l < kh.length := fun l ⟨x, h1, _⟩ => (List.getElem?_eq_some_iff.1 h1).1
      have lvk2 : ∀ l, live kh l → live (kh ++ [nd]) l := fun l h => by
        have := lvk l h
        obtain ⟨x, h1, h2⟩ := h
        exact ⟨x, by rw [atk l this]; exact h1, h2⟩
      have eB : badOf (HX X rs listed (q + 1) hb) (updL φ kh.length (hb q)) (kh ++ [nd]) = badOf (HX X rs listed q hb) φ kh := by
        funext b
        refine propext ⟨?_, ?_⟩
        · rintro (h | ⟨l, h1, h2⟩)
          · refine .inl ?_
            rcases h with h | ⟨x, y, h1, h2⟩
            · exact .inl h
            · exact .inr ⟨x, y, up x y h1, h2⟩
          · by_cases e : l = kh.length
            · rw [e, updL_self] at h2
              exact .inl (.inr ⟨q, r, hme, h2⟩)
            · rw [updL_ne e] at h2
              exact .inr ⟨l, lv l h1 e, h2⟩
        · rintro (h | ⟨l, h1, h2⟩)
          · rcases h with h | ⟨x, y, h1, h2⟩
            · exact .inl (.inl h)
            · by_cases e : x = q
              · subst e
                exact .inr ⟨kh.length, ⟨nd, atn, hne⟩, by rw [updL_self]; exact h2⟩
              · exact .inl (.inr ⟨x, y, ⟨by have := h1.1; omega, h1.2⟩, h2⟩)
          · have := lvk l h1
            exact .inr ⟨l, lvk2 l h1, by rw [updL_ne (by omega)]; exact h2⟩
      have k : Later w (badOf (HX X rs listed q hb) φ kh) S φ w (badOf (HX X rs listed (q + 1) hb) (updL φ kh.length (hb q)) (kh ++ [nd])) (more S kh.length) (updL φ kh.length (hb q)) :=
        ⟨fun _ _ _ _ _ h => h, fun b _ h => by rw [eB] at h; exact h, Nat.le_refl _, fun l h => ⟨.inl h, updL_ne (old l h)⟩⟩
      have hbx : HX X rs listed q hb (hb q).block := .inr ⟨q, r, hme, rfl⟩
      refine ⟨more S kh.length, updL φ kh.length (hb q), kh ++ [nd], I.size, ⟨fun l x hx => ?_, fun l hx => ?_, fun l hx => ?_, fun l m hx hm e => ?_, fun b h => ?_, fun l hx h => ?_⟩, fun l h => ?_, I.tmps, I.defers, ?_, I.down, by omega, bef, aft, fun t p y hy hly hdy hno hnh => ?_, fun t c hno hb => ?_, ?_, fun l => ?_, fun x y hx hy hfy hly => ?_, fun x y h => ?_, fun x y t h => I.htmp x y t (up x y h), fun x x' y y' h h' => I.hinj x x' y y' (up x y h) (up x' y' h')⟩
      · by_cases e : l = kh.length
        · subst e
          rw [atn] at hx; cases hx
          rw [eB]; exact hok
        · have h3 := (List.getElem?_eq_some_iff.1 hx).1
          rw [List.length_append, List.length_singleton] at h3
          rw [atk l (by omega)] at hx
          exact (I.good.node l x hx).moved k (updL_ne e) rfl
      · by_cases e : l = kh.length
        · exact .inr e
        · exact .inl (I.good.inS l (lv l hx e))
      · by_cases e : l = kh.length
        · rw [e, updL_self]; exact I.good.xlt _ hbx
        · rw [updL_ne e]; exact I.good.size l (lv l hx e)
      · by_cases e1 : l = kh.length
        · by_cases e2 : m = kh.length
          · omega
          · exfalso
            rw [e1, updL_self, updL_ne e2] at e
            exact I.good.apart m (lv m hm e2) (by rw [← e]; exact hbx)
        · by_cases e2 : m = kh.length
          · exfalso
            rw [e2, updL_self, updL_ne e1] at e
            exact I.good.apart l (lv l hx e1) (by rw [e]; exact hbx)
          · rw [updL_ne e1, updL_ne e2] at e
            exact I.good.inj l m (lv l hx e1) (lv m hm e2) e
      · refine I.good.xlt b ?_
        rcases h with h | ⟨x, y, h1, h2⟩
        · exact .inl h
        · exact .inr ⟨x, y, up x y h1, h2⟩
      · by_cases e : l = kh.length
        · rw [e, updL_self] at h
          rcases h with h | ⟨x, y, h1, h2⟩
          · exact hnX h
          · have := I.hinj x q y r (up x y h1) hme h2
            have := h1.1
            omega
        · rw [updL_ne e] at h
          refine I.good.apart l (lv l hx e) ?_
          rcases h with h | ⟨x, y, h1, h2⟩
          · exact .inl h
          · exact .inr ⟨x, y, up x y h1, h2⟩
      · rw [List.length_append, List.length_singleton]
        rcases h with h | h
        · have := I.seq l h; omega
        · omega
      · refine ⟨I.ext.os, I.ext.tape, I.ext.output, I.ext.size, I.ext.keep, fun l h => ?_, fun l h => ?_⟩
        · obtain ⟨h1, h2⟩ := I.ext.names l h
          exact ⟨.inl h1, by rw [updL_ne (old l h1)]; exact h2⟩
        · by_cases e : l = kh.length
          · rw [e, updL_self]; exact .inr hw0
          · rw [updL_ne e]; exact I.ext.own l (lv l h e)
      · by_cases e : p = q
        · subst e
          rw [hr] at hy; cases hy
          exact ⟨hu p, I.htmp p r t hme hdy hno, by rw [eB]; exact hval⟩
        · obtain ⟨v, h1, h2⟩ := I.writ t p y hy hly hdy hno fun h => hnh ⟨by have := h.1; omega, h.2⟩
          exact ⟨v, h1, h2.later k⟩
      · obtain ⟨v, h1, h2⟩ := I.base t c hno hb
        exact ⟨v, h1, h2.later k⟩
      · rw [hnext, hnd, List.length_append, List.length_append, hslot]
      · rw [hnext, hnd]
        rcases Nat.lt_trichotomy l kh.length with h | h | h
        · rw [atk l h, List.getElem?_append_left (by rw [hslot]; exact h)]
          rcases I.kat l with h2 | ⟨x, y, h1, h2, h3, h4, h5⟩
          · left; rw [h2, hat]
          · exact .inr ⟨x, y, by omega, h2, h3, h4, h5⟩
        · left
          rw [h, atn, ← hslot]; simp
        · left
          rw [List.getElem?_eq_none (by rw [List.length_append]; simp; omega), List.getElem?_eq_none (by rw [List.length_append, hslot]; simp; omega)]
      · by_cases e : x = q
        · subst e
          rw [hr] at hy; cases hy
          rw [hl] at hly; cases hly
        · obtain ⟨h1, h2⟩ := I.pend x y (by omega) hy hfy hly
          have h3 := (List.getElem?_eq_some_iff.1 h1).1
          refine ⟨by rw [atk _ h3]; exact h1, fun h => ?_⟩
          rcases h with h | h
          · exact h2 h
          · omega
      · obtain ⟨h1, h2, h3⟩ := I.hold x y (up x y h)
        have hlt := slot_lt R ok hv K (x := q) (y := x) (by have := h.1; omega) hr h.2.1 hf
        refine ⟨h1.later k rfl (fun hS => ?_) (fun hS => ?_), h2, h3⟩
        · have := I.seq _ hS; omega
        · rcases hS with hS | hS
          · have := I.seq _ hS; omega
          · omega
  · have hs : ∀ x y, Held rs listed (q + 1) x y ↔ Held rs listed q x y := fun x y => ⟨fun h => ⟨by have := h.1; omega, h.2⟩, fun h => ⟨by
      have h1 := h.1
      by_cases e : x = q
      · subst e
        have hy := h.2.1
        rw [hr] at hy; cases hy
        exact absurd h.2.2.1 hf
      · omega, h.2⟩⟩
    have eX := HX_same (X := X) (hb := hb) hs
    have hq := heap_quiet R ok hv K hr hc hf
    refine ⟨S, φ, kh, I.size, by rw [eX]; exact I.good, I.seq, I.tmps, I.defers, I.ext, I.down, by omega, bef, aft, fun t p y hy hly hdy hno hnh => ?_, fun t c hno hb => ?_, ?_, fun l => ?_, fun x y hx hy hfy hly => ?_, fun x y h => ?_, fun x y t h => I.htmp x y t ((hs x y).1 h), fun x x' y y' h h' => I.hinj x x' y y' ((hs x y).1 h) ((hs x' y').1 h')⟩
    · rw [eX]; exact I.writ t p y hy hly hdy hno fun h => hnh ((hs p y).2 h)
    · rw [eX]; exact I.base t c hno hb
    · rw [hnext, hq, I.klen, hat]
    · rw [hnext, hq]
      rcases I.kat l with h | ⟨x, y, h1, h2, h3, h4, h5⟩
      · left; rw [h, hat]
      · exact .inr ⟨x, y, by omega, h2, h3, h4, h5⟩
    · by_cases e : x = q
      · subst e; rw [hr] at hy; cases hy; exact absurd hfy hf
      · exact I.pend x y (by omega) hy hfy hly
    · rw [eX]; exact I.hold x y ((hs x y).1 h)
/-- As far on as it goes. -/
theorem Inv.adv (R : RunD P call ds st st' rs) (ok : DrawOk N ops ds) (hv : ValsOk vals call) (K : ChkOk vals rs) {X : Nat → Prop} {w0 w : World} {S0 : Nat → Prop} {φ0 : Nat → Loc} {listed : Array Bool} {a : Act} {hb : Nat → Loc} {hu : Nat → Value} :
    ∀ (n : Nat) {S : Nat → Prop} {φ : Nat → Loc} {q : Nat} {kh : Heap}, rs.length - q ≤ n → Inv ops ds rs st st' N X w0 S0 φ0 listed a w S φ q kh hb hu → ∃ S' φ' q' kh', Inv ops ds rs st st' N X w0 S0 φ0 listed a w S' φ' q' kh' hb hu ∧ (q' = rs.length ∨ ∃ c, rs[q']? = some c ∧ chR c)
  | 0, S, φ, q, kh, hn, I => ⟨S, φ, q, kh, I, .inl (by have := I.le; omega)⟩
  | n + 1, S, φ, q, kh, hn, I => by
    by_cases hq : q < rs.length
    · have hr : rs[q]? = some rs[q] := List.getElem?_eq_getElem hq
      by_cases hc : chR rs[q]
      · exact ⟨S, φ, q, kh, I, .inr ⟨_, hr, hc⟩⟩
      · obtain ⟨S', φ', kh', I'⟩ := I.adv1 R ok hv K hr hc
        exact Inv.adv R ok hv K n (by omega) I'
    · exact ⟨S, φ, q, kh, I, .inl (by have := I.le; omega)⟩
theorem draw_step (hcall : CallOk P call) (hv : ValsOk vals call) (hvs : ValSound P vals call) (R : RunD P call ds st st' rs) (ok : DrawOk N ops ds) (K : ChkOk vals rs) {X : Nat → Prop} {w0 w : World} {S0 S : Nat → Prop} {φ0 φ : Nat → Loc} {listed : Array Bool} {a : Act} {q : Nat} {kh : Heap} {hb : Nat → Loc} {hu : Nat → Value}
    (I : Inv ops ds rs st st' N X w0 S0 φ0 listed a w S φ q kh hb hu) {i : Nat} (hi : i ∈ Region.ready .any ops listed) {Q : Exit → Act → World → Prop} {next : Act → World → Prop}
    (hn : ∀ a' w' S' φ' q' kh' hb' hu', Inv ops ds rs st st' N X w0 S0 φ0 (listed.setIfInBounds i true) a' w' S' φ' q' kh' hb' hu' → next a' w') : wpOp P ops Q i next a w := by
  obtain ⟨S, φ, q, kh, I, hmax⟩ := Inv.adv R ok hv K _ (Nat.le_refl _) I
  obtain ⟨hun0, o, ho, hall⟩ := mem_ready.1 hi
  have hlt : i < ops.size := (Array.getElem?_eq_some_iff.1 ho).1
  obtain ⟨p, d, hd, rfl⟩ := ok.cover i hlt
  have hpl : p < rs.length := by rw [R.len]; exact (List.getElem?_eq_some_iff.1 hd).1
  have hr : rs[p]? = some (rs[p]'hpl) := List.getElem?_eq_getElem hpl
  generalize rs[p]'hpl = r at hr
  obtain ⟨hd', b, hwant, hon, hst, hoff⟩ := run_rec R hr
  rw [hd] at hd'
  cases hd'
  have hun : listed.getD r.d.ix false = false := by rw [getD_eq (by rw [I.size]; exact hlt) false true]; exact hun0
  obtain ⟨o', ho', htoI, hanc0, hpre⟩ := ok.op p r.d hd
  rw [ho] at ho'
  cases ho'
  obtain ⟨hdst, hop, hdlt, _⟩ := toI_eq htoI
  have hdlt' : ∀ t, r.d.i.dst = some t → t < N := fun t ht => hdlt t (by rw [← hdst]; exact ht)
  have hanc : ∀ x ∈ r.d.anc, listed.getD x false = true := fun x hx => by
    obtain ⟨e, he, hb, h⟩ := hanc0 x hx
    have hle := hall e he hb
    rcases h with rfl | ⟨y, d', hy, hyx, hxd⟩
    · exact hle
    · exact I.down y d' hy (by rw [hyx]; exact hle) x hxd
  have hE := I.env R ok hmax hr hd hun hanc
  -- chains that are listed and lie behind p do not have p ahead of them
  have notanc : ∀ (x : Nat) (y : Rec), rs[x]? = some y → listed.getD y.d.ix false = true → r.d.ix ∉ y.d.anc := fun x y hy hly hm => by
    have := I.down x y.d (run_rec R hy).1 hly _ hm
    rw [hun] at this; cases this
  have hag : agree (opTmps r.d.i.op.operands.toList) r.env (keepE r.env (uses r.d.i)) := fun t ht => (look_keepE_mem _ _ _ (by unfold uses; exact List.mem_append.2 (.inl ht))).symm
  have hwant' : wantedC (keepE r.env (uses r.d.i)) r.d.i.g = some b := by
    rw [← hwant]
    refine (wantedC_agree fun t b' hg => ?_).symm
    refine (look_keepE_mem _ _ _ ?_).symm
    unfold uses
    rw [hg]
    simp
  have hw := wantedC_sound hE htoI hwant'
  have isp : ∀ (x : Nat) (y : Rec), rs[x]? = some y → y.d.ix = r.d.ix → x = p := fun x y hy e => ok.inj x p y.d r.d (run_rec R hy).1 hd e
  have hset : ∀ x, (listed.setIfInBounds r.d.ix true).getD x false = true ↔ (x = r.d.ix ∨ listed.getD x false = true) := fun x => by
    by_cases e : r.d.ix = x
    · subst e
      have : r.d.ix < listed.size := by rw [I.size]; exact hlt
      simp [this]
    · rw [getD_set_ne false e]
      exact ⟨.inr, fun h => h.resolve_left (fun e2 => e e2.symm)⟩
  -- who is made at any time and is ahead of what loads or turns the heap
  have frees_before : r.on = true → (r.d.cls = .chain ∨ r.d.cls = .load) → ∀ (x : Nat) (y : Rec), x < p → rs[x]? = some y → frR y → listed.getD y.d.ix false = true := fun _ hrc x y hx hy hf => by
    have hm := ok.fr x p y.d r.d hx (run_rec R hy).1 hd hf.2.1 hf.2.2 (by rcases hrc with h | h <;> simp [h])
    exact hanc _ hm
  have chains_before : r.on = true → (r.d.cls = .chain ∨ r.d.cls = .load) → ∀ (x : Nat) (y : Rec), x < p → rs[x]? = some y → chR y → x < q := fun hro hrc x y hx hy hc => by
    have hly : listed.getD y.d.ix false = true := by
      rcases hrc with hrc | hrc
      · exact hanc _ (K.pair x p y r hx hy hr hc.1 hro hc.2 (.inl hrc))
      · exact hanc _ (K.pair x p y r hx hy hr hc.1 hro hc.2 (.inr hrc))
    rcases Nat.lt_or_ge x q with h | h
    · exact h
    · rw [I.after x y h hy hc.1 hc.2] at hly; cases hly
  have hpq : r.on = true → (r.d.cls = .chain ∨ r.d.cls = .load) → p ≤ q := fun hro hrc => by
    rcases hmax with e | ⟨c, hc, hch⟩
    · omega
    · rcases Nat.lt_or_ge q p with h | h
      · have := chains_before hro hrc q c h hc hch; omega
      · exact h
  -- no chain stands behind one that is still to be made
  have pend_chain : ∀ (x z : Nat) (y c : Rec), rs[x]? = some y → frR y → listed.getD y.d.ix false = false → x < z → z < q → rs[z]? = some c → chR c → False := fun x z y c hy hf hl hxz hzq hc hch => by
    have hm := ok.fr x z y.d c.d hxz (run_rec R hy).1 (run_rec R hc).1 hf.2.1 hf.2.2 (.inr hch.2)
    have := I.down z c.d (run_rec R hc).1 (I.before z c hzq hc hch.1 hch.2) _ hm
    rw [hl] at this; cases this
  -- what is held lies apart
  have far : ∀ (x : Nat) (y : Rec), Held rs listed q x y → (hb x).block < w.heap.size ∧ ¬ Own φ kh (hb x).block ∧ kh.length ≤ y.heap.length ∧ ¬ S y.heap.length := fun x y h => by
    have hbx : HX X rs listed q hb (hb x).block := .inr ⟨x, y, h, rfl⟩
    have hxl := (List.getElem?_eq_some_iff.1 h.2.1).1
    have hlen : kh.length ≤ y.heap.length := by
      have := heap_mono' R ok hv K h.1 (Nat.le_of_lt hxl)
      rw [hAt_some h.2.1, ← I.klen] at this
      exact this
    refine ⟨I.good.xlt _ hbx, fun ⟨l, hl, e⟩ => I.good.apart l hl (by rw [e]; exact hbx), hlen, fun hS => ?_⟩
    have := I.seq _ hS
    omega
  unfold wpOp
  rw [ho]
  simp only
  rw [hw]
  have heldS : ¬ frR r ∨ p < q → ∀ x y, Held rs (listed.setIfInBounds r.d.ix true) q x y ↔ Held rs listed q x y := fun hc x y => ⟨fun ⟨h1, h2, h3, h4⟩ => ⟨h1, h2, h3, by
      rcases (hset _).1 h4 with h | h
      · exfalso
        have := isp x y h2 h
        subst this
        rw [hr] at h2; cases h2
        rcases hc with hc | hc
        · exact hc h3
        · omega
      · exact h⟩, fun ⟨h1, h2, h3, h4⟩ => ⟨h1, h2, h3, (hset _).2 (.inr h4)⟩⟩
  -- what goes on where the heap stays
  have stay : ¬ chR r → ¬ frR r → ∀ {u : Value} {w' : World} {S' : Nat → Prop} {φ' : Nat → Loc}, Good w' (HX X rs listed q hb) S' φ' kh → SeqOk S' kh → (∀ l, S' l → S l) → Ext w S φ kh w' S' φ' kh → Rel w' (badOf (HX X rs listed q hb) φ' kh) S' φ' r.c u → next (a.put r.d.i.dst u) w' :=
    fun hnc hnf u w' S' φ' G sq hS E hrel => by
      have eX := HX_same (X := X) (hb := hb) (heldS (.inl hnf))
      refine hn _ _ S' φ' q kh hb hu (I.put R ok hr hd hlt hdlt' hun hanc (by rw [eX]; exact G) sq (I.ext.trans E) (by rw [eX]; exact E.later) (fun _ => by rw [eX]; exact hrel) (fun _ _ _ _ h => h) (Nat.le_refl _) (fun x y h => ?_) (fun _ _ => rfl) (fun _ _ => rfl) (fun h => absurd h.2.2.1 hnf) I.le (fun x y hx hy ho hc => .inr (I.before x y hx hy ho hc)) (fun x y hx hy ho hc => ⟨fun e => ?_, I.after x y hx hy ho hc⟩) I.klen (fun l => ?_) (fun x y hx hy hf hne hl => ?_))
      · obtain ⟨f1, f2, f3, f4⟩ := far x y h
        exact ⟨E.keep _ f1 f2, f4, fun hS' => f4 (hS _ hS')⟩
      · have := isp x y hy e
        subst this; rw [hr] at hy; cases hy; exact hnc ⟨ho, hc⟩
      · rcases I.kat l with h | ⟨x, y, h1, h2, h3, h4, h5⟩
        · exact .inl h
        · exact .inr ⟨x, y, h1, h2, h3, fun e => by subst e; rw [hr] at h2; cases h2; exact hnf h3, h4, h5⟩
      · obtain ⟨h1, h2⟩ := I.pend x y hx hy hf hl
        exact ⟨h1, fun h => h2 (hS _ h)⟩
  cases b with
  | false =>
    rw [if_neg (by simp), ← hdst]
    refine stay (fun h => by have := h.1; rw [hon] at this; cases this) (fun h => by have := h.1; rw [hon] at this; cases this) I.good I.seq (fun _ h => h) (Ext.refl _ _ _ _) ?_
    rw [(hoff rfl).1]
    exact undef_rel
  | true =>
    rw [if_pos rfl]
    refine .inl ?_
    have hst := hst rfl
    cases hcl : r.d.cls with
    | pure =>
      have hcl2 : ¬ chR r := fun h => by have := h.2; rw [hcl] at this; cases this
      rcases (ok.cls p r.d hd).1 hcl with hpu | hpu
      · have hnf : ¬ frR r := fun h => by
          have := h.2.2
          cases hx : r.d.i.op <;> rw [hx] at this hpu <;> simp [isNew] at this <;> simp [pureOk] at hpu
        have hcv : ¬ isCallV r.d.i.op = true := fun h => by
          cases hx : r.d.i.op <;> rw [hx] at h hpu <;> simp only [isCallV, Bool.false_eq_true] at h
          rename_i z
          obtain ⟨cal, args, ats⟩ := z
          cases cal <;> simp [pureOk] at hpu <;> simp at h
        have hp := (pure_any hpu hst).2 kh
        rw [stepOp_agree hag] at hp
        refine op_sound hcall I.good I.seq hE I.seq.alloc hop.symm hp fun u w' S' φ' G' E' hrel hnm => ?_
        rw [← hdst]
        have hS := names_same hcv hnm
        subst hS
        exact stay hcl2 hnf G' I.seq (fun _ h => h) E' hrel
      · have hfr : frR r := ⟨hon, hcl, hpu⟩
        obtain ⟨nd, hnd, hstep⟩ := free_new R hr hfr
        have hlive := new_live hpu hst hnd
        have hnext := (run_step R hr).1
        rcases Nat.lt_or_ge p q with hpq | hqp
        · -- it is made late, where room was left for it
          obtain ⟨hdead, hnS⟩ := I.pend p r hpq hr hfr hun
          have hslot : r.heap.length < kh.length := (List.getElem?_eq_some_iff.1 hdead).1
          have hp := hstep (some r.heap.length) kh rfl
          rw [stepOp_agree hag] at hp
          have hok : AllocOk S kh (some r.heap.length) := ⟨hnS, fun s e => by cases e; exact hslot⟩
          refine new_sound I.good hE hok hop.symm hpu hp fun u w' S' φ' G' E' hrel hnm => ?_
          rw [← hdst]
          obtain ⟨sq', hS'⟩ := new_names I.seq (fun s e => by cases e; exact hslot) hnm
          have e2 : (new kh (some r.heap.length) nd).2 = kh.set r.heap.length nd := rfl
          have e3 : (new kh (some r.heap.length) .dead).1 = r.heap.length := rfl
          rw [e2] at G' E' hrel sq'
          rw [e3] at hS'
          have eX := HX_same (X := X) (hb := hb) (heldS (.inr hpq))
          refine hn _ _ S' φ' q (kh.set r.heap.length nd) hb hu (I.put R ok hr hd hlt hdlt' hun hanc (by rw [eX]; exact G') sq' (I.ext.trans E') (by rw [eX]; exact E'.later) (fun _ => by rw [eX]; exact hrel) (fun _ _ _ _ h => h) (Nat.le_refl _) (fun x y h => ?_) (fun _ _ => rfl) (fun _ _ => rfl) (fun h => by have := h.1; omega) I.le (fun x y hx hy ho hc => .inr (I.before x y hx hy ho hc)) (fun x y hx hy ho hc => ⟨fun e => by
            have := isp x y hy e
            subst this; rw [hr] at hy; cases hy; exact hcl2 ⟨ho, hc⟩, I.after x y hx hy ho hc⟩) (by rw [List.length_set]; exact I.klen) (fun l => ?_) (fun x y hx hy hf hne hl => ?_))
          · obtain ⟨f1, f2, f3, f4⟩ := far x y h
            refine ⟨E'.keep _ f1 f2, f4, fun h => ?_⟩
            rcases hS' _ h with h | h
            · exact f4 h
            · omega
          · by_cases el : l = r.heap.length
            · left
              subst el
              rw [List.getElem?_set_self hslot]
              have hup := (heap_up' R ok hv K (q := p + 1) (p := q) (by omega) I.le (fun z c h1 h2 h3 h4 => pend_chain p z r c hr hfr hun (by omega) h2 h3 h4)).1
              refine (hup _ nd ?_).symm
              rw [hnext, hnd]; simp
            · rw [List.getElem?_set_ne (fun e => el e.symm)]
              rcases I.kat l with h | ⟨x, y, h1, h2, h3, h4, h5⟩
              · exact .inl h
              · refine .inr ⟨x, y, h1, h2, h3, fun e => ?_, h4, h5⟩
                subst e; rw [hr] at h2; cases h2; exact el h5.symm
          · obtain ⟨h1, h2⟩ := I.pend x y hx hy hf hl
            have hd2 : y.heap.length ≠ r.heap.length := fun e => by
              rcases Nat.lt_trichotomy x p with h | h | h
              · have := slot_lt R ok hv K h hy hr hf; omega
              · exact hne h
              · have := slot_lt R ok hv K h hr hy hfr; omega
            refine ⟨by rw [List.getElem?_set_ne (fun e => hd2 e.symm)]; exact h1, fun h => ?_⟩
            rcases hS' _ h with h | h
            · exact h2 h
            · exact hd2 h
        · -- it is made ahead of its place: it is held
          have hlen : kh.length ≤ r.heap.length := by
            have := heap_mono' R ok hv K hqp (by omega)
            rw [hAt_some hr, ← I.klen] at this
            exact this
          have hkl : (padD (r.heap.length - kh.length) kh).length = r.heap.length := by rw [pad_len]; omega
          have hp := hstep none (padD (r.heap.length - kh.length) kh) hkl
          rw [stepOp_agree hag] at hp
          have hE2 : RelE w (badOf (HX X rs listed q hb) φ (padD (r.heap.length - kh.length) kh)) S φ (keepE r.env (uses r.d.i)) a.tmps := by rw [bad_pad]; exact hE
          have sq2 : SeqOk S (padD (r.heap.length - kh.length) kh) := fun l hl => by rw [pad_len]; have := I.seq l hl; omega
          refine new_sound (good_pad I.good) hE2 sq2.alloc hop.symm hpu hp fun u w' S' φ' G' E' hrel hnm => ?_
          rw [← hdst]
          obtain ⟨_, hS'⟩ := new_names sq2 (fun s e => by cases e) hnm
          have e2 : (new (padD (r.heap.length - kh.length) kh) none nd).2 = padD (r.heap.length - kh.length) kh ++ [nd] := rfl
          have e3 : (new (padD (r.heap.length - kh.length) kh) none .dead).1 = r.heap.length := hkl
          rw [e2] at G' E' hrel
          rw [e3] at hS'
          generalize hkp : padD (r.heap.length - kh.length) kh = kp at G' E' hrel hkl
          have lvp : ∀ l, live kp l ↔ live kh l := fun l => by rw [← hkp]; exact live_pad
          have lvk : ∀ l, live kh l → l < kh.length := fun l ⟨x, h1, _⟩ => (List.getElem?_eq_some_iff.1 h1).1
          have ats : (kp ++ [nd])[r.heap.length]? = some nd := by rw [← hkl]; simp
          have lvs : live (kp ++ [nd]) r.heap.length := ⟨nd, ats, hlive⟩
          have lvo : ∀ l, live kh l → live (kp ++ [nd]) l := fun l h => by
            obtain ⟨x, h1, h2⟩ := (lvp l).2 h
            exact ⟨x, by rw [List.getElem?_append_left (List.getElem?_eq_some_iff.1 h1).1]; exact h1, h2⟩
          have lvb : ∀ l, live (kp ++ [nd]) l → l ≠ r.heap.length → live kh l := fun l ⟨x, h1, h2⟩ e => by
            have h3 := (List.getElem?_eq_some_iff.1 h1).1
            rw [List.length_append, List.length_singleton, hkl] at h3
            rw [List.getElem?_append_left (by omega)] at h1
            exact (lvp l).1 ⟨x, h1, h2⟩
          have hφ : ∀ l, S l → φ' l = φ l := fun l h => (E'.names l h).2
          have hnew : ¬ Own φ kh (φ' r.heap.length).block := fun ⟨l, h1, h2⟩ => by
            have := G'.inj l r.heap.length (lvo l h1) lvs (by rw [hφ l (I.good.inS l h1)]; exact h2)
            have := lvk l h1
            omega
          have hfresh : w.heap.size ≤ (φ' r.heap.length).block := by
            rcases E'.own _ lvs with ⟨l, h1, h2⟩ | h
            · exact absurd ⟨l, (lvp l).1 h1, h2⟩ hnew
            · exact h
          have hHself : Held rs (listed.setIfInBounds r.d.ix true) q p r := ⟨hqp, hr, hfr, (hset _).2 (.inl rfl)⟩
          have hHold : ∀ x y, Held rs (listed.setIfInBounds r.d.ix true) q x y → x ≠ p → Held rs listed q x y := fun x y ⟨h1, h2, h3, h4⟩ e => ⟨h1, h2, h3, by
            rcases (hset _).1 h4 with h | h
            · exact absurd (isp x y h2 h) e
            · exact h⟩
          have hHup : ∀ x y, Held rs listed q x y → Held rs (listed.setIfInBounds r.d.ix true) q x y ∧ x ≠ p := fun x y ⟨h1, h2, h3, h4⟩ => ⟨⟨h1, h2, h3, (hset _).2 (.inr h4)⟩, fun e => by subst e; rw [hr] at h2; cases h2; rw [hun] at h4; cases h4⟩
          generalize hL : φ' r.heap.length = L at hnew hfresh
          have hXX : ∀ b, HX X rs (listed.setIfInBounds r.d.ix true) q (setAt hb p L) b ↔ (HX X rs listed q hb b ∨ b = L.block) := fun b => by
            constructor
            · rintro (h | ⟨x, y, h1, h2⟩)
              · exact .inl (.inl h)
              · by_cases e : x = p
                · rw [e, setAt_self] at h2; exact .inr h2.symm
                · rw [setAt_ne e] at h2; exact .inl (.inr ⟨x, y, hHold x y h1 e, h2⟩)
            · rintro ((h | ⟨x, y, h1, h2⟩) | h)
              · exact .inl h
              · obtain ⟨h3, h4⟩ := hHup x y h1
                exact .inr ⟨x, y, h3, by rw [setAt_ne h4]; exact h2⟩
              · exact .inr ⟨p, r, hHself, by rw [setAt_self]; exact h.symm⟩
          have eB : badOf (HX X rs (listed.setIfInBounds r.d.ix true) q (setAt hb p L)) φ kh = badOf (HX X rs listed q hb) φ' (kp ++ [nd]) := by
            funext b
            refine propext ⟨?_, ?_⟩
            · rintro (h | ⟨l, h1, h2⟩)
              · rcases (hXX b).1 h with h | h
                · exact .inl h
                · exact .inr ⟨r.heap.length, lvs, by rw [hL]; exact h.symm⟩
              · exact .inr ⟨l, lvo l h1, by rw [hφ l (I.good.inS l h1)]; exact h2⟩
            · rintro (h | ⟨l, h1, h2⟩)
              · exact .inl ((hXX b).2 (.inl h))
              · by_cases e : l = r.heap.length
                · rw [e, hL] at h2
                  exact .inl ((hXX b).2 (.inr h2.symm))
                · have h3 := lvb l h1 e
                  exact .inr ⟨l, h3, by rw [← hφ l (I.good.inS l h3)]; exact h2⟩
          have ownp : ∀ b, Own φ kp b → Own φ kh b := fun b ⟨l, h1, h2⟩ => ⟨l, (lvp l).1 h1, h2⟩
          have hkeep : ∀ b, b < w.heap.size → ¬ Own φ kh b → w'.heap[b]? = w.heap[b]? := fun b h1 h2 => E'.keep b h1 fun h => h2 (ownp b h)
          have toMore : Later w' (badOf (HX X rs listed q hb) φ' (kp ++ [nd])) S' φ' w' (badOf (HX X rs (listed.setIfInBounds r.d.ix true) q (setAt hb p L)) φ kh) (more S r.heap.length) (updL φ r.heap.length L) :=
            ⟨fun _ _ _ _ _ h => h, fun b _ h => by rw [eB] at h; exact h, Nat.le_refl _, fun l h => by
              rcases hS' l h with h | h
              · have hl := I.seq l h
                exact ⟨.inl h, by rw [updL_ne (by omega), hφ l h]⟩
              · exact ⟨.inr h, by rw [h, updL_self, hL]⟩⟩
          have hgood : Good w' (HX X rs (listed.setIfInBounds r.d.ix true) q (setAt hb p L)) S φ kh := by
            refine ⟨fun l x hx => ?_, I.good.inS, fun l hl => Nat.lt_of_lt_of_le (I.good.size l hl) E'.size, I.good.inj, fun b h => ?_, fun l hl h => ?_⟩
            · rw [eB]
              have hxl := (List.getElem?_eq_some_iff.1 hx).1
              by_cases hxd : x = .dead
              · subst hxd; trivial
              · have hlv : live kh l := ⟨x, hx, hxd⟩
                have hx2 : (kp ++ [nd])[l]? = some x := by
                  rw [List.getElem?_append_left (by rw [hkl]; omega), ← hkp]
                  unfold padD
                  rw [List.getElem?_append_left hxl]; exact hx
                exact OkNode.narrow hφ (hφ l (I.good.inS l hlv)) (I.good.node l x hx) (G'.node l x hx2)
            · rcases (hXX b).1 h with h | h
              · exact Nat.lt_of_lt_of_le (I.good.xlt b h) E'.size
              · have := G'.size _ lvs
                rw [hL] at this
                rw [h]; exact this
            · rcases (hXX _).1 h with h | h
              · exact I.good.apart l hl h
              · exact hnew ⟨l, hl, h⟩
          refine hn _ _ S φ q kh (setAt hb p L) (setAt hu p u) (I.put R ok hr hd hlt hdlt' hun hanc hgood I.seq (I.ext.trans ⟨E'.os, E'.tape, E'.output, E'.size, hkeep, fun _ h => ⟨h, rfl⟩, fun l hl => .inl ⟨l, hl, rfl⟩⟩) ⟨fun b o v hb hs hv => ?_, fun b hs h => ?_, E'.size, fun _ h => ⟨h, rfl⟩⟩ (fun h => absurd hHself h) (fun _ _ _ _ h => h) (Nat.le_refl _) (fun x y h => ?_) (fun x e => setAt_ne e) (fun x e => setAt_ne e) (fun _ => ⟨⟨⟨⟨nd, hnd, hlive, ?_⟩, ?_⟩, ?_, ?_⟩, setAt_self .., fun x y h e => ?_⟩) I.le (fun x y hx hy ho hc => .inr (I.before x y hx hy ho hc)) (fun x y hx hy ho hc => ⟨fun e => by
            have := isp x y hy e
            subst this; rw [hr] at hy; cases hy; exact hcl2 ⟨ho, hc⟩, I.after x y hx hy ho hc⟩) I.klen (fun l => ?_) (fun x y hx hy hf hne hl => I.pend x y hx hy hf hl))
          · rw [cell_of_heap (hkeep b hs fun h => hb (.inr h))]; exact hv
          · rcases h with h | h
            · rcases (hXX b).1 h with h | h
              · exact .inl h
              · omega
            · exact .inr h
          · obtain ⟨f1, f2, f3, f4⟩ := far x y h
            exact ⟨hkeep _ f1 f2, f4, f4⟩
          · have h1 := G'.node _ nd ats
            rw [setAt_self]
            refine OkNode.moved toMore ?_ rfl h1
            rw [updL_self, hL]
          · rw [setAt_self, setAt_self]
            exact hrel.later toMore
          · rw [setAt_self]
            exact Nat.le_trans I.ext.size hfresh
          · rw [setAt_self]
            intro h
            have := I.good.xlt _ (.inl h)
            omega
          · rw [setAt_self] at e
            have := (far x y h).1
            omega
          · rcases I.kat l with h | ⟨x, y, h1, h2, h3, h4, h5⟩
            · exact .inl h
            · exact .inr ⟨x, y, h1, h2, h3, by omega, h4, h5⟩
    | load =>
      have hlo := K.load p r hr hon hcl
      have hnc : ¬ chR r := fun h => by have := h.2; rw [hcl] at this; cases this
      have hnf : ¬ frR r := fun h => by have := h.2.1; rw [hcl] at this; cases this
      -- what is still to be made lies behind
      have behind : ∀ l, l < r.heap.length → l < kh.length → kh[l]? = (hAt rs st' q)[l]? := fun l hl _ => by
        rcases I.kat l with h | ⟨x, y, h1, h2, h3, h4, h5⟩
        · exact h
        · exfalso
          rcases Nat.lt_trichotomy x p with h | h | h
          · have := frees_before hon (.inr hcl) x y h h2 h3
            rw [h4] at this; cases this
          · subst h; rw [hr] at h2; cases h2; exact hnf h3
          · have := heap_mono' R ok hv K (q := p) (p := x) (by omega) (by have := (List.getElem?_eq_some_iff.1 h2).1; omega)
            rw [hAt_some hr, hAt_some h2] at this
            omega
      have hp : stepOp P call none r.env kh r.d.i.op = some (r.c, kh) := by
        have hsame := load_any hv hlo hst
        have hpq : p < q := by
          have h1 := hpq hon (.inr hcl)
          rcases hmax with e | ⟨c, hc, hch⟩
          · omega
          · rcases Nat.lt_or_ge p q with h | h
            · exact h
            · have : p = q := by omega
              subst this; rw [hr] at hc; cases hc; have h2 := hch.2; rw [hcl] at h2; cases h2
        · have hml := heap_mono' R ok hv K (q := p) (p := q) (by omega) I.le
          rw [hAt_some hr] at hml
          by_cases hex : ∃ (x : Nat) (y : Rec), p ≤ x ∧ x < q ∧ rs[x]? = some y ∧ chR y
          · have between : ∀ (x : Nat) (y : Rec), p ≤ x → x < q → rs[x]? = some y → y.on = true → y.d.cls = .chain → Tm.apart r y = true := fun x y h1 h2 hy hyo hyc => by
              have hpx : p < x := by
                rcases Nat.lt_or_ge p x with h | h
                · exact h
                · have : x = p := by omega
                  subst this; rw [hr] at hy; cases hy; rw [hcl] at hyc; cases hyc
              exact (K.apart p x r y hpx hr hy hon hyo hcl hyc).resolve_left (notanc x y hy (I.before x y h2 hy hyo hyc))
            obtain ⟨x, y, h1, h2, hy, hyo, hyc⟩ := hex
            have hap := between x y h1 h2 hy hyo hyc
            unfold Tm.apart at hap
            cases hro : readRow r.env r.d.i.op with
            | none => rw [hro] at hap; cases hap
            | some ro =>
              refine read_row hv hlo hro (fun a ea => ?_) hst
              subst ea
              have hlr := read_lt hro hst
              have hlr2 := hlr
              rw [← hAt_some (st' := st') hr] at hlr
              obtain ⟨k, hk⟩ : ∃ k, q = p + k := ⟨q - p, by omega⟩
              have hrow := (heap_row R ok hv K p a hlr k (by rw [← hk]; exact I.le) fun x' y' g1 g2 hy' ho' hc' => by
                have hap' := between x' y' g1 (by omega) hy' ho' hc'
                unfold Tm.apart at hap'
                rw [hro] at hap'
                exact hap').1
              rw [← hk] at hrow
              rw [behind a hlr2 (by rw [I.klen]; omega), hrow, hAt_some hr]
          · have hup := (heap_up' R ok hv K (q := p) (p := q) (by omega) I.le (fun x y h1 h2 h3 h4 => hex ⟨x, y, h1, h2, h3, h4⟩)).1
            rw [hAt_some hr] at hup
            refine load_grow hv hlo hst fun l x hx => ?_
            have hl := (List.getElem?_eq_some_iff.1 hx).1
            rw [behind l hl (by rw [I.klen]; omega)]
            exact hup l x hx
      rw [stepOp_agree hag] at hp
      by_cases hcv : isCallV r.d.i.op = true
      · obtain ⟨z, hz⟩ : ∃ z, r.d.i.op = .call z := by
          cases hx : r.d.i.op <;> rw [hx] at hcv <;> simp [isCallV] at hcv
          exact ⟨_, rfl⟩
        rw [hz] at hp hcv hlo
        have hva : ∀ f cs, calleeOf (keepE r.env (uses r.d.i)) z.callee = some (f, cs) → vals f = true := fun f cs hf => by
          have he : calleeOf r.env z.callee = calleeOf (keepE r.env (uses r.d.i)) z.callee := by
            cases hx : z.callee with
            | value y =>
              simp only [calleeOf]
              rw [ev_agree hag (by rw [hz]; simp [Op.operands, Call.operands, hx])]
            | _ => rfl
          simp only [loadOk, he, hf] at hlo
          exact hlo
        refine val_sound hcall hvs I.good I.seq hE (by rw [← hop]; exact hz) hcv hva hp fun u w' G' E' hrel => ?_
        rw [← hdst]
        exact stay hnc hnf G' I.seq (fun _ h => h) E' hrel
      · refine op_sound hcall I.good I.seq hE I.seq.alloc hop.symm hp fun u w' S' φ' G' E' hrel hnm => ?_
        rw [← hdst]
        have hS := names_same hcv hnm
        subst hS
        exact stay hnc hnf G' I.seq (fun _ h => h) E' hrel
    | chain =>
      have hnf : ¬ frR r := fun h => by have := h.2.1; rw [hcl] at this; cases this
      have hqp : q ≤ p := by
        rcases Nat.lt_or_ge p q with h | h
        · have := I.before p r h hr hon hcl
          rw [hun] at this; cases this
        · exact h
      have hpe : p = q := Nat.le_antisymm (hpq hon (.inl hcl)) hqp
      have heq : hAt rs st' q = r.heap := by rw [← hpe, hAt_some hr]
      have hk : kh = r.heap := by
        refine List.ext_getElem? fun l => ?_
        rw [← heq]
        rcases I.kat l with h | ⟨x, y, h1, h2, h3, h4, h5⟩
        · exact h
        · exfalso
          have := frees_before hon (.inl hcl) x y (by omega) h2 h3
          rw [h4] at this; cases this
      have hnext := (run_step R hr).1
      have hp : stepOp P call none (keepE r.env (uses r.d.i)) kh r.d.i.op = some (r.c, hAt rs st' (p + 1)) := by
        rw [← stepOp_agree hag, hk, hnext]
        exact hst
      refine op_sound hcall I.good I.seq hE I.seq.alloc hop.symm hp fun u w' S' φ' G' E' hrel hnm => ?_
      rw [← hdst]
      have hs : ∀ x y, Held rs (listed.setIfInBounds r.d.ix true) (p + 1) x y ↔ Held rs listed q x y := fun x y => by
        rw [← heldS (.inl hnf) x y]
        refine ⟨fun h => ⟨by have := h.1; omega, h.2⟩, fun h => ⟨?_, h.2⟩⟩
        have h1 := h.1
        by_cases e : x = p
        · subst e
          have h2 := h.2.1
          rw [hr] at h2; cases h2
          exact absurd h.2.2.1 hnf
        · omega
      have eX := HX_same (X := X) (hb := hb) hs
      have sq' := I.seq.next hnm
      refine hn _ _ S' φ' (p + 1) (hAt rs st' (p + 1)) hb hu (I.put R ok hr hd hlt hdlt' hun hanc (by rw [eX]; exact G') sq' (I.ext.trans E') (by rw [eX]; exact E'.later) (fun _ => by rw [eX]; exact hrel) (fun x y hy hf h => ?_) (by omega) (fun x y h => ?_) (fun _ _ => rfl) (fun _ _ => rfl) (fun h => absurd h.2.2.1 hnf) (by omega) (fun x y hx hy ho hc => ?_) (fun x y hx hy ho hc => ?_) rfl (fun l => .inl rfl) (fun x y hx hy hf hne hl => ?_))
      · by_cases e : x = p
        · subst e
          rw [hr] at hy; cases hy
          exact absurd hf hnf
        · omega
      · obtain ⟨f1, f2, f3, f4⟩ := far x y h
        refine ⟨E'.keep _ f1 f2, f4, fun hS => ?_⟩
        have h1 := sq' _ hS
        have h2 := (hs x y).2 h
        have hxl := (List.getElem?_eq_some_iff.1 h.2.1).1
        have := heap_mono' R ok hv K (q := p + 1) (p := x) h2.1 (Nat.le_of_lt hxl)
        rw [hAt_some h.2.1] at this
        omega
      · by_cases e : x = p
        · subst e; rw [hr] at hy; cases hy; exact .inl rfl
        · exact .inr (I.before x y (by omega) hy ho hc)
      · refine ⟨fun e => ?_, ?_⟩
        · have := isp x y hy e
          omega
        · exact I.after x y (by omega) hy ho hc
      · exfalso
        have := frees_before hon (.inl hcl) x y (by omega) hy hf
        rw [hl] at this; cases this

theorem draw_all (hcall : CallOk P call) (hv : ValsOk vals call) (hvs : ValSound P vals call) (R : RunD P call ds st st' rs) (ok : DrawOk N ops ds) (K : ChkOk vals rs) {X : Nat → Prop} {w0 : World} {S0 : Nat → Prop} {φ0 : Nat → Loc} {Q : Exit → Act → World → Prop}
    (hq : ∀ S' φ' a' w', At N X st' S' φ' a' w' → Ext w0 S0 φ0 st.heap w' S' φ' st'.heap → Q .normal a' w') : ∀ (fuel : Nat) {w : World} {S : Nat → Prop} {φ : Nat → Loc} {listed : Array Bool} {a : Act} {q : Nat} {kh : Heap} {hb : Nat → Loc} {hu : Nat → Value},
    Inv ops ds rs st st' N X w0 S0 φ0 listed a w S φ q kh hb hu → (listed.toList.count false ≤ fuel) → wpAny P .any ops Q fuel listed a w := by
  -- behind all
  have fin : ∀ {w : World} {S : Nat → Prop} {φ : Nat → Loc} {listed : Array Bool} {a : Act} {q : Nat} {kh : Heap} {hb : Nat → Loc} {hu : Nat → Value}, Inv ops ds rs st st' N X w0 S0 φ0 listed a w S φ q kh hb hu → Region.ready .any ops listed = [] → Q .normal a w := by
    intro w S φ listed a q kh hb hu I h0
    obtain ⟨S, φ, q, kh, I, hmax⟩ := Inv.adv R ok hv K _ (Nat.le_refl _) I
    have all : ∀ (p : Nat) (d : D), ds[p]? = some d → listed.getD d.ix false = true := by
      intro p
      induction p using Nat.strongRecOn with
      | _ p ih =>
        intro d hd
        obtain ⟨o, ho, _, _, hpre⟩ := ok.op p d hd
        have hlt : d.ix < ops.size := (Array.getElem?_eq_some_iff.1 ho).1
        cases hl : listed.getD d.ix false with
        | true => rfl
        | false =>
          exfalso
          have hm : d.ix ∈ Region.ready .any ops listed := by
            refine mem_ready.2 ⟨by rw [getD_eq (by rw [I.size]; exact hlt) true false]; exact hl, o, ho, fun e he hb => ?_⟩
            obtain ⟨q', d', hq', hd', hix⟩ := hpre e he hb
            rw [← hix]
            exact ih q' hq' d' hd'
          rw [h0] at hm
          cases hm
    have hlast : hAt rs st' rs.length = st'.heap := by simp [hAt]
    have hel : eAt rs st' rs.length = st'.env := by simp [eAt]
    have hqe : q = rs.length := by
      rcases hmax with e | ⟨c, hc, hch⟩
      · exact e
      · have h2 := I.after q c (Nat.le_refl _) hc hch.1 hch.2
        rw [all q c.d (run_rec R hc).1] at h2
        cases h2
    have nh : ∀ x y, ¬ Held rs listed q x y := fun x y h => by
      have h1 := h.1
      have := (List.getElem?_eq_some_iff.1 h.2.1).1
      omega
    have eX : HX X rs listed q hb = X := by
      funext b
      exact propext ⟨fun h => h.elim (fun h => h) fun ⟨x, y, h1, _⟩ => absurd h1 (nh x y), .inl⟩
    have heq : st'.heap = kh := by
      rw [← hlast, ← hqe]
      refine List.ext_getElem? fun l => ?_
      rcases I.kat l with h | ⟨x, y, _, h2, _, h4, _⟩
      · exact h.symm
      · rw [all x y.d (run_rec R h2).1] at h4; cases h4
    have hgd := I.good
    rw [eX] at hgd
    refine hq S φ a w ⟨by rw [heq]; exact hgd, by rw [heq]; exact I.seq, fun t c hc => ?_, I.tmps, I.defers⟩ (by rw [heq]; exact I.ext)
    rw [heq]
    rw [← hel] at hc
    rcases env_last R t c rs.length (Nat.le_refl _) hc with ⟨x, y, hx, hy, hdy, rfl, hno⟩ | ⟨hno, hb⟩
    · have := I.writ t x y hy (all x y.d (run_rec R hy).1) hdy (fun z v hz hv _ => hno z v hz ((List.getElem?_eq_some_iff.1 hv).1) hv) (nh x y)
      rw [eX] at this; exact this
    · have := I.base t c (fun z v hv _ => hno z v ((List.getElem?_eq_some_iff.1 hv).1) hv) hb
      rw [eX] at this; exact this
  intro fuel
  induction fuel with
  | zero =>
    intro w S φ listed a q kh hb hu I hf
    have hr : Region.ready .any ops listed = [] := by
      cases hrd : Region.ready .any ops listed with
      | nil => rfl
      | cons i l =>
        exfalso
        have hm : i ∈ Region.ready .any ops listed := by rw [hrd]; simp
        obtain ⟨hun, o, ho, _⟩ := mem_ready.1 hm
        have hlt : i < listed.size := by rw [I.size]; exact (Array.getElem?_eq_some_iff.1 ho).1
        have : false ∈ listed.toList := by
          have h2 : listed[i] = false := by simpa [hlt] using hun
          rw [← h2]
          exact Array.mem_toList_iff.2 (Array.getElem_mem hlt)
        have := List.count_pos_iff.2 this
        omega
    exact ⟨hr, fin I hr⟩
  | succ fuel ih =>
    intro w S φ listed a q kh hb hu I hf
    refine ⟨fin I, fun i hi => draw_step hcall hv hvs R ok K I hi fun a' w' S' φ' q' kh' hb' hu' I' => ih I' ?_⟩
    obtain ⟨hun, o, ho, _⟩ := mem_ready.1 hi
    have hlt : i < listed.size := by rw [I.size]; exact (Array.getElem?_eq_some_iff.1 ho).1
    have h2 : listed[i] = false := by simpa [hlt] using hun
    have hcnt : (listed.setIfInBounds i true).toList.count false + 1 = listed.toList.count false := by
      simp only [Array.toList_setIfInBounds]
      have hlt' : i < listed.toList.length := by simpa using hlt
      have h3 : listed.toList[i] = false := by simpa using h2
      have hmem : false ∈ listed.toList := by rw [← h3]; exact List.getElem_mem hlt'
      have hpos := List.count_pos_iff.2 hmem
      rw [List.count_set hlt', h3]
      have e : (true == false) = false := rfl
      rw [e]
      simp only [beq_self_eq_true, if_true, Bool.false_eq_true, if_false, Nat.add_zero]
      exact Nat.sub_add_cancel hpos
    omega

theorem ext_drew {w : World} {S : Nat → Prop} {φ : Nat → Loc} {h : Heap} : Ext w S φ h { w with drawn := w.drawn + 1 } S φ h :=
  ⟨rfl, rfl, rfl, Nat.le_refl _, fun _ _ _ => rfl, fun _ h => ⟨h, rfl⟩, fun l hl => .inl ⟨l, hl, rfl⟩⟩

theorem Good.same {w w' : World} {X S : Nat → Prop} {φ : Nat → Loc} {h : Heap} (G : Good w X S φ h) (E : Ext w S φ h w' S φ h) (hk : ∀ b, b < w.heap.size → w'.heap[b]? = w.heap[b]?) : Good w' X S φ h := by
  have L := E.later (X := X)
  refine ⟨fun l x hx => ?_, G.inS, fun l hl => Nat.lt_of_lt_of_le (G.size l hl) E.size, G.inj, fun b hb => Nat.lt_of_lt_of_le (G.xlt b hb) E.size, G.apart⟩
  have hok := G.node l x hx
  cases x with
  | dead => trivial
  | row ez cs =>
    simp only [OkNode] at hok ⊢
    obtain ⟨h1, h2, h3, h4, h5⟩ := hok
    have hs := G.size l (live_of_row hx)
    refine ⟨h1, h2, h3, fun j hj => ?_, RelAt.moved L h5 fun j u _ hu => ?_⟩
    · rw [cell_of_heap (hk _ hs), World.frozen?_of_block (a := ⟨(φ l).block, (φ l).base + j, none⟩) (hk _ hs)]
      exact h4 j hj
    · rw [cell_of_heap (hk _ hs)]; exact hu
  | map es clock =>
    simp only [OkNode] at hok ⊢
    rw [hk _ (G.size l ⟨_, hx, by simp⟩)]
    exact hok

theorem draw_sound (hcall : CallOk P call) (hv : ValsOk vals call) (hvs : ValSound P vals call) (hmix : P.follows .mixedOrders = true) (ok : DrawOk N ops ds) (hr : recsD P call ds st = some (rs, st')) (hc : chk vals rs [] [] = true) {id : Nat} {X S : Nat → Prop} {φ : Nat → Loc} {a : Act} {w : World}
    (A : At N X st S φ a w) {Q : Exit → Act → World → Prop} (hq : ∀ S' φ' a' w', At N X st' S' φ' a' w' → Ext w S φ st.heap w' S' φ' st'.heap → Q .normal a' w') : (Code.region id ops true).wp P Q a w := by
  have R := recsD_run hr
  have K := (chk_some hc).1
  have E0 : Ext w S φ st.heap { w with drawn := w.drawn + 1 } S φ st.heap := ext_drew
  have nh : ∀ x y, ¬ Held rs (Array.replicate ops.size false) 0 x y := fun x y h => by
    have h4 := h.2.2.2
    revert h4; simp only [Array.getD_eq_getD_getElem?, Array.getElem?_replicate]; split <;> simp
  have eX : HX X rs (Array.replicate ops.size false) 0 (fun _ => default) = X := by
    funext b
    exact propext ⟨fun h => h.elim (fun h => h) fun ⟨x, y, h1, _⟩ => absurd h1 (nh x y), .inl⟩
  refine wp_region_any hmix (draw_all hcall hv hvs R ok K hq ops.size (q := 0) (kh := st.heap) (w := { w with drawn := w.drawn + 1 }) (S := S) (φ := φ) (hb := fun _ => default) (hu := fun _ => default) ⟨by simp, by rw [eX]; exact A.good.same E0 (fun _ _ => rfl), A.seq, A.size, A.defers,
    E0, fun p d _ h => ?_, Nat.zero_le _, fun p r h => by omega, fun p r _ hr _ _ => ?_, fun t p r hr h => ?_, fun t c _ hb => ?_, by rw [(run_zero R).1], fun l => .inl (by rw [(run_zero R).1]), fun x y hx => by omega, fun x y h => absurd h (nh x y), fun x y t h => absurd h (nh x y), fun x x' y y' h => absurd h (nh x y)⟩ ?_)
  · exfalso; revert h; simp only [Array.getD_eq_getD_getElem?, Array.getElem?_replicate]; split <;> simp
  · simp only [Array.getD_eq_getD_getElem?, Array.getElem?_replicate]; split <;> simp
  · exfalso; revert h; simp only [Array.getD_eq_getD_getElem?, Array.getElem?_replicate]; split <;> simp
  · rw [eX]; exact (A.env.later E0.later) t c hb
  · simp
end
end Go.Tm
