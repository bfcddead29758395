import Derived.Test.YtahcbcgakadfpaaTR
namespace Go.Tm
/-! ### More fuel -/
section
variable {P : Program} {vals : FuncId → Bool} {call call' : CallF} (hc : ∀ f cs h r, call f cs h = some r → call' f cs h = some r)
include hc
theorem stepOp_more {al : Option Nat} {e : Env} {h : Heap} {o : Op} {r : C × Heap} (H : stepOp P call al e h o = some r) : stepOp P call' al e h o = some r := by
  cases o with
  | call c =>
    obtain ⟨f, args, ats⟩ := c
    cases f with
    | builtin b => cases b <;> exact H
    | value f =>
      simp only [stepOp, Option.bind_eq_bind, Option.bind_eq_some_iff] at H ⊢
      obtain ⟨q, h1, cs, h2, h3⟩ := H
      exact ⟨q, h1, cs, h2, hc _ _ _ _ h3⟩
    | _ => exact H
  | makeMap t r => cases r <;> exact H
  | _ => exact H
theorem stepI_more {al : Option Nat} {i : I} {s s' : St} (H : stepI P call al i s = some s') : stepI P call' al i s = some s' := by
  simp only [stepI, Option.bind_eq_bind, Option.bind_eq_some_iff] at H ⊢
  obtain ⟨b, h1, h2⟩ := H
  refine ⟨b, h1, ?_⟩
  split at h2
  · rename_i hb
    rw [if_pos hb]
    simp only [Option.map_eq_some_iff] at h2 ⊢
    obtain ⟨r, h3, h4⟩ := h2
    exact ⟨r, stepOp_more hc h3, h4⟩
  · rename_i hb; rw [if_neg hb]; exact h2
theorem runI_more : ∀ {is : List I} {s s' : St}, runI P call is s = some s' → runI P call' is s = some s'
  | [], s, s', H => H
  | i :: is, s, s', H => by
    simp only [runI, Option.bind_eq_bind, Option.bind_eq_some_iff] at H ⊢
    obtain ⟨q, h1, h2⟩ := H
    exact ⟨q, stepI_more hc h1, runI_more h2⟩
theorem goD_more : ∀ {ds : List D} {s s' : St} {ls : List (Nat × Seen)} {cs : List Nat}, goD P vals call ds s ls cs = some s' → goD P vals call' ds s ls cs = some s'
  | [], s, s', ls, cs, H => H
  | d :: ds, s, s', ls, cs, H => by
    simp only [goD, Option.bind_eq_some_iff] at H ⊢
    obtain ⟨b, h1, h2⟩ := H
    refine ⟨b, h1, ?_⟩
    split at h2
    · rename_i hb
      rw [if_pos hb]
      simp only [Option.bind_eq_some_iff] at h2 ⊢
      obtain ⟨r, h3, h4⟩ := h2
      refine ⟨r, stepOp_more hc h3, ?_⟩
      cases hcl : d.cls with
      | pure => rw [hcl] at h4; exact goD_more h4
      | load =>
        rw [hcl] at h4
        simp only at h4 ⊢
        split at h4
        · rename_i hq; rw [if_pos hq]; exact goD_more h4
        · cases h4
      | chain =>
        rw [hcl] at h4
        simp only at h4 ⊢
        split at h4
        · rename_i hq; rw [if_pos hq]; exact goD_more h4
        · cases h4
    · rename_i hb; rw [if_neg hb]; exact goD_more h2
omit hc in
theorem andThen_more {a a' : Option (Ctl × St)} {k k' : St → Option (Ctl × St)} {r : Ctl × St} (h1 : ∀ r, a = some r → a' = some r) (h2 : ∀ s r, k s = some r → k' s = some r) (H : andThen a k = some r) : andThen a' k' = some r := by
  cases ha : a with
  | none => rw [ha] at H; cases H
  | some q =>
    rw [h1 q ha]
    rw [ha] at H
    obtain ⟨c, s⟩ := q
    cases c with
    | normal => exact h2 s r H
    | exit id => exact H
    | ret => exact H
omit hc in
theorem iter_more {b b' : St → Option (Ctl × St)} (hb : ∀ s r, b s = some r → b' s = some r) : ∀ {n n' : Nat} {s : St} {r : Ctl × St}, n ≤ n' → iter b n s = some r → iter b' n' s = some r
  | 0, _, _, _, _, H => by cases H
  | n + 1, n', s, r, hn, H => by
    obtain ⟨n', rfl⟩ : ∃ p, n' = p + 1 := ⟨n' - 1, by omega⟩
    exact andThen_more (hb s) (fun s r h => iter_more hb (by omega) h) H
theorem exec_more {n n' : Nat} (hn : n ≤ n') : ∀ {K : K} {s : St} {r : Ctl × St}, exec P vals call n K s = some r → exec P vals call' n' K s = some r
  | .skip, s, r, H => H
  | .reg ops keep, s, r, H => by
    simp only [exec, Option.map_eq_some_iff] at H ⊢
    obtain ⟨q, h1, h2⟩ := H
    exact ⟨q, runI_more hc h1, h2⟩
  | .draw ds keep, ⟨e, h⟩, r, H => by
    rw [exec_draw'] at H ⊢
    simp only [Option.bind_eq_some_iff] at H ⊢
    obtain ⟨q, h1, h2⟩ := H
    exact ⟨q, goD_more hc h1, h2⟩
  | .seq a b, s, r, H => andThen_more (fun r h => exec_more hn h) (fun s r h => exec_more hn h) H
  | .cond c a b, s, r, H => by
    simp only [exec, Option.bind_eq_some_iff] at H ⊢
    obtain ⟨t, h1, h2⟩ := H
    refine ⟨t, h1, ?_⟩
    split at h2
    · rename_i hb; rw [if_pos hb]; exact exec_more hn h2
    · rename_i hb; rw [if_neg hb]; exact exec_more hn h2
  | .block id a, s, r, H => by
    simp only [exec] at H ⊢
    cases ha : exec P vals call n a s with
    | none => rw [ha] at H; cases H
    | some q => rw [exec_more hn ha]; rw [ha] at H; exact H
  | .loop keep a, s, r, H => iter_more (fun s r h => exec_more hn h) hn H
  | .exit id, s, r, H => H
  | .ret, s, r, H => H
theorem body_more {n n' : Nat} (hn : n ≤ n') {fn : Go.Func} {K : K} {cs : List C} {h : Heap} {r : C × Heap} (H : body P vals call n fn K cs h = some r) : body P vals call' n' fn K cs h = some r := by
  unfold body at H ⊢
  split at H
  · rename_i hl
    rw [if_pos hl]
    cases he : exec P vals call n K ⟨enterE 0 cs, h⟩ with
    | none => rw [he] at H; cases H
    | some q => rw [exec_more hc hn he]; rw [he] at H; exact H
  · cases H
end
theorem callAt_more {P : Program} {tab : Tab} : ∀ {n n' : Nat}, n ≤ n' → ∀ f cs h r, callAt P tab n f cs h = some r → callAt P tab n' f cs h = some r
  | 0, _, _, _, _, _, _, H => by cases H
  | n + 1, n', hn, f, cs, h, r, H => by
    obtain ⟨n', rfl⟩ : ∃ p, n' = p + 1 := ⟨n' - 1, by omega⟩
    have ih := callAt_more (P := P) (tab := tab) (n := n) (n' := n') (by omega)
    have hb : ∀ (fn : Go.Func) (K : K) cs h r, body P (valsOf tab) (callAt P tab n) n fn K cs h = some r → body P (valsOf tab) (callAt P tab n') n' fn K cs h = some r := fun fn K cs h r H => body_more ih (by omega) H
    simp only [callAt] at H ⊢
    cases ht : tab f with
    | none => rw [ht] at H; cases H
    | some km =>
      cases hf : P.funcs[f]? with
      | none => rw [ht, hf] at H; cases H
      | some fn =>
        rw [ht, hf] at H
        obtain ⟨k, m⟩ := km
        cases m with
        | ref => exact hb _ _ _ _ _ H
        | val =>
          simp only [byVal] at H ⊢
          cases hv : mapC (view false [] depth) cs with
          | some vs =>
            rw [hv] at H
            simp only [Option.map_eq_some_iff, Option.bind_eq_some_iff] at H ⊢
            obtain ⟨c, ⟨q, h1, h2⟩, h3⟩ := H
            exact ⟨c, ⟨q, hb _ _ _ _ _ h1, h2⟩, h3⟩
          | none =>
            rw [hv] at H
            simp only [Option.map_eq_some_iff, Option.bind_eq_some_iff] at H ⊢
            obtain ⟨c, ⟨vs, h0, q, h1, h2⟩, h3⟩ := H
            exact ⟨c, ⟨vs, h0, q, hb _ _ _ _ _ h1, h2⟩, h3⟩
        | keep =>
          simp only [byValN] at H ⊢
          cases hv : mapC (viewN false [] depth) cs with
          | some vs =>
            rw [hv] at H
            simp only [Option.map_eq_some_iff, Option.bind_eq_some_iff] at H ⊢
            obtain ⟨c, ⟨q, h1, h2⟩, h3⟩ := H
            exact ⟨c, ⟨q, hb _ _ _ _ _ h1, h2⟩, h3⟩
          | none =>
            rw [hv] at H
            simp only [Option.map_eq_some_iff, Option.bind_eq_some_iff] at H ⊢
            obtain ⟨c, ⟨vs, h0, q, h1, h2⟩, h3⟩ := H
            exact ⟨c, ⟨vs, h0, q, hb _ _ _ _ _ h1, h2⟩, h3⟩
/-- A function of no arguments that is called by value: what it answers on an empty heap it answers always. -/
theorem Runs.known {P : Program} {tab : Tab} {f : FuncId} {K : K} {c : C} {k0 : Nat} (h1 : tab f = some (K, .val)) (H : callAt P tab k0 f [] [] = some (c, [])) : Runs P tab k0 f [] c := fun k hk cs h hv => by
  have hcs : cs = [] := by
    cases cs with
    | nil => rfl
    | cons a b =>
      simp only [mapC, Option.bind_eq_bind, Option.bind_eq_some_iff] at hv
      obtain ⟨_, _, _, _, h3⟩ := hv
      cases h3
  subst hcs
  have := callAt_more hk _ _ _ _ H
  cases k with
  | zero => cases this
  | succ k =>
    simp only [callAt, h1] at this ⊢
    cases hf : P.funcs[f]? with
    | none => rw [hf] at this; cases this
    | some fn =>
      rw [hf] at this
      simp only [byVal, mapC, Option.map_eq_some_iff, Prod.mk.injEq, and_true] at this ⊢
      exact this
end Go.Tm
