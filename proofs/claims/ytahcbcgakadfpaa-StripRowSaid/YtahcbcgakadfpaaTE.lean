import Derived.Test.YtahcbcgakadfpaaTD
namespace Go.Tm
section
variable {P : Program} {call : CallF} {vals : FuncId → Bool} {N : Nat} {ops : Array Oper} {ds : List D} {st st' : St} {rs : List Rec}

def hAt (rs : List Rec) (st' : St) (q : Nat) : Heap := match rs[q]? with | some r => r.heap | none => st'.heap
def eAt (rs : List Rec) (st' : St) (q : Nat) : Env := match rs[q]? with | some r => r.env | none => st'.env

theorem hAt_some {q : Nat} {r : Rec} (h : rs[q]? = some r) : hAt rs st' q = r.heap := by simp [hAt, h]
theorem eAt_some {q : Nat} {r : Rec} (h : rs[q]? = some r) : eAt rs st' q = r.env := by simp [eAt, h]

theorem run_step (R : RunD P call ds st st' rs) {q : Nat} {r : Rec} (h : rs[q]? = some r) : hAt rs st' (q + 1) = r.heap' ∧ eAt rs st' (q + 1) = putE r.env r.d.i.dst r.c := by
  cases hn : rs[q + 1]? with
  | some r' =>
    obtain ⟨e1, e2⟩ := R.next q r r' h hn
    exact ⟨by rw [hAt_some hn, e2], by rw [eAt_some hn, e1]⟩
  | none =>
    have hl : q < rs.length := (List.getElem?_eq_some_iff.1 h).1
    have hl2 : rs.length ≤ q + 1 := List.getElem?_eq_none_iff.1 hn
    have e : rs.length - 1 = q := by omega
    obtain ⟨e1, e2⟩ := R.last r (by rw [e]; exact h)
    exact ⟨by simp only [hAt, hn]; exact e2, by simp only [eAt, hn]; exact e1⟩

theorem run_zero (R : RunD P call ds st st' rs) : hAt rs st' 0 = st.heap ∧ eAt rs st' 0 = st.env := by
  cases hn : rs[0]? with
  | some r =>
    obtain ⟨e1, e2⟩ := R.first r hn
    exact ⟨by rw [hAt_some hn, e2], by rw [eAt_some hn, e1]⟩
  | none =>
    have : rs = [] := by
      cases rs with
      | nil => rfl
      | cons x xs => simp at hn
    have e := R.none this
    exact ⟨by simp only [hAt, hn, e], by simp only [eAt, hn, e]⟩

/-- A record's own run. -/
theorem run_rec (R : RunD P call ds st st' rs) {q : Nat} {r : Rec} (h : rs[q]? = some r) : ds[q]? = some r.d ∧ ∃ b, wantedC r.env r.d.i.g = some b ∧ r.on = b ∧
    (b = true → stepOp P call none r.env r.heap r.d.i.op = some (r.c, r.heap')) ∧ (b = false → r.c = undefC ∧ r.heap' = r.heap) := by
  obtain ⟨d, hd, e, hrec⟩ := R.at_ q r h
  obtain ⟨_, _, _, h4⟩ := recD_some hrec
  exact ⟨by rw [e]; exact hd, by rw [e]; exact h4⟩

/-- It turns the heap, in its place. -/
def chR (r : Rec) : Prop := r.on = true ∧ r.d.cls = .chain
/-- It makes a new row, at any time. -/
def frR (r : Rec) : Prop := r.on = true ∧ r.d.cls = .pure ∧ isNew r.d.i.op = true
theorem free_new (R : RunD P call ds st st' rs) {q : Nat} {r : Rec} (h : rs[q]? = some r) (hf : frR r) : ∃ nd, r.heap' = r.heap ++ [nd] ∧ ∀ al k, (new k al nd).1 = r.heap.length → stepOp P call al r.env k r.d.i.op = some (r.c, (new k al nd).2) := by
  obtain ⟨_, b, _, hon, h1, _⟩ := run_rec R h
  have hb : b = true := by rw [← hon]; exact hf.1
  exact new_step hf.2.2 (h1 hb)
theorem heap_quiet (R : RunD P call ds st st' rs) (ok : DrawOk N ops ds) (hv : ValsOk vals call) (K : ChkOk vals rs) {q : Nat} {r : Rec} (h : rs[q]? = some r) (hc : ¬ chR r) (hf : ¬ frR r) : r.heap' = r.heap := by
  obtain ⟨hd, b, _, hon, h1, h2⟩ := run_rec R h
  cases b with
  | false => exact (h2 rfl).2
  | true =>
    cases hcl : r.d.cls with
    | pure =>
      rcases (ok.cls q _ hd).1 hcl with hp | hp
      · exact (pure_any hp (h1 rfl)).1
      · exact absurd ⟨hon, hcl, hp⟩ hf
    | load => exact load_any hv (K.load q r h hon hcl) (h1 rfl)
    | chain => exact absurd ⟨hon, hcl⟩ hc

theorem heap_const (R : RunD P call ds st st' rs) (ok : DrawOk N ops ds) (hv : ValsOk vals call) (K : ChkOk vals rs) (q : Nat) : ∀ (k : Nat), q + k ≤ rs.length → (∀ p r, q ≤ p → p < q + k → rs[p]? = some r → ¬ chR r ∧ ¬ frR r) → hAt rs st' (q + k) = hAt rs st' q
  | 0, _, _ => rfl
  | k + 1, hle, hn => by
    have hr : rs[q + k]? = some (rs[q + k]'(by omega)) := List.getElem?_eq_getElem (by omega)
    have ih := heap_const R ok hv K q k (by omega) (fun p r h1 h2 h3 => hn p r h1 (by omega) h3)
    rw [← Nat.add_assoc, (run_step R hr).1, heap_quiet R ok hv K hr (hn _ _ (by omega) (by omega) hr).1 (hn _ _ (by omega) (by omega) hr).2, ← ih, hAt_some hr]

theorem heap_row (R : RunD P call ds st st' rs) (ok : DrawOk N ops ds) (hv : ValsOk vals call) (K : ChkOk vals rs) (q a : Nat) (ha : a < (hAt rs st' q).length) : ∀ (k : Nat), q + k ≤ rs.length →
    (∀ p r, q ≤ p → p < q + k → rs[p]? = some r → r.on = true → r.d.cls = .chain → rowStays r.env r.d.i.op r.heap r.heap' a = true) → (hAt rs st' (q + k))[a]? = (hAt rs st' q)[a]? ∧ a < (hAt rs st' (q + k)).length
  | 0, _, _ => ⟨rfl, ha⟩
  | k + 1, hle, hn => by
    have hr : rs[q + k]? = some (rs[q + k]'(by omega)) := List.getElem?_eq_getElem (by omega)
    obtain ⟨ih, il⟩ := heap_row R ok hv K q a ha k (by omega) (fun p r h1 h2 h3 => hn p r h1 (by omega) h3)
    rw [← Nat.add_assoc, (run_step R hr).1]
    rw [hAt_some hr] at ih il
    by_cases hc : chR (rs[q + k]'(by omega))
    · obtain ⟨hd, b, _, hon, h1, _⟩ := run_rec R hr
      have hb : b = true := by rw [← hon]; exact hc.1
      have hst := h1 hb
      have hch := (ok.cls _ _ hd).2 hc.2
      have hs := hn _ _ (by omega) (by omega) hr hc.1 hc.2
      unfold rowStays at hs
      by_cases hv' : isCallV (rs[q + k]'(by omega)).d.i.op = true
      · rw [if_pos hv'] at hs
        refine ⟨?_, Nat.lt_of_lt_of_le il (K.len _ _ hr hc.1 hc.2 hv')⟩
        rw [sameRow_eq hs]
        exact ih
      · rw [if_neg hv'] at hs
        have hch0 := chain0_of hch (by simpa using hv')
        refine ⟨?_, Nat.lt_of_lt_of_le il (chain_len hch0 hst)⟩
        rw [chain_keeps hch0 hst il (of_decide_eq_true hs)]
        exact ih
    · by_cases hf : frR (rs[q + k]'(by omega))
      · obtain ⟨nd, e, _⟩ := free_new R hr hf
        rw [e]
        exact ⟨by rw [List.getElem?_append_left il]; exact ih, by rw [List.length_append]; omega⟩
      · rw [heap_quiet R ok hv K hr hc hf]
        exact ⟨ih, il⟩

/-- Where nothing is turned the heap grows. -/
theorem heap_up (R : RunD P call ds st st' rs) (ok : DrawOk N ops ds) (hv : ValsOk vals call) (K : ChkOk vals rs) (q : Nat) : ∀ (k : Nat), q + k ≤ rs.length → (∀ p r, q ≤ p → p < q + k → rs[p]? = some r → ¬ chR r) →
    Grows (hAt rs st' q) (hAt rs st' (q + k)) ∧ (hAt rs st' q).length ≤ (hAt rs st' (q + k)).length ∧ ∀ l, (hAt rs st' q).length ≤ l → l < (hAt rs st' (q + k)).length → ∃ (x : Nat) (y : Rec), q ≤ x ∧ x < q + k ∧ rs[x]? = some y ∧ frR y ∧ y.heap.length = l
  | 0, _, _ => ⟨fun _ _ h => h, Nat.le_refl _, fun l h1 h2 => by rw [Nat.add_zero] at h2; omega⟩
  | k + 1, hle, hn => by
    have hr : rs[q + k]? = some (rs[q + k]'(by omega)) := List.getElem?_eq_getElem (by omega)
    obtain ⟨i1, i2, i3⟩ := heap_up R ok hv K q k (by omega) (fun p r h1 h2 h3 => hn p r h1 (by omega) h3)
    have hst := (run_step R hr).1
    rw [← Nat.add_assoc, hst]
    rw [hAt_some hr] at i1 i2 i3
    by_cases hf : frR (rs[q + k]'(by omega))
    · obtain ⟨nd, e, _⟩ := free_new R hr hf
      rw [e]
      refine ⟨fun l x hx => ?_, by rw [List.length_append]; omega, fun l h1 h2 => ?_⟩
      · have := i1 l x hx
        rw [List.getElem?_append_left (List.getElem?_eq_some_iff.1 this).1]
        exact this
      · rw [List.length_append, List.length_cons, List.length_nil] at h2
        by_cases e2 : l < (rs[q + k]'(by omega)).heap.length
        · obtain ⟨x, y, h3, h4, h5⟩ := i3 l h1 e2
          exact ⟨x, y, h3, by omega, h5⟩
        · exact ⟨q + k, _, by omega, by omega, hr, hf, by omega⟩
    · rw [heap_quiet R ok hv K hr (hn _ _ (by omega) (by omega) hr) hf]
      refine ⟨i1, i2, fun l h1 h2 => ?_⟩
      obtain ⟨x, y, h3, h4, h5⟩ := i3 l h1 h2
      exact ⟨x, y, h3, by omega, h5⟩
/-- It never gets shorter. -/
theorem heap_mono (R : RunD P call ds st st' rs) (ok : DrawOk N ops ds) (hv : ValsOk vals call) (K : ChkOk vals rs) (q : Nat) : ∀ (k : Nat), q + k ≤ rs.length → (hAt rs st' q).length ≤ (hAt rs st' (q + k)).length
  | 0, _ => Nat.le_refl _
  | k + 1, hle => by
    have hr : rs[q + k]? = some (rs[q + k]'(by omega)) := List.getElem?_eq_getElem (by omega)
    have ih := heap_mono R ok hv K q k (by omega)
    rw [← Nat.add_assoc, (run_step R hr).1]
    rw [hAt_some hr] at ih
    refine Nat.le_trans ih ?_
    by_cases hc : chR (rs[q + k]'(by omega))
    · obtain ⟨hd, b, _, hon, h1, _⟩ := run_rec R hr
      have hb : b = true := by rw [← hon]; exact hc.1
      by_cases hv' : isCallV (rs[q + k]'(by omega)).d.i.op = true
      · exact K.len _ _ hr hc.1 hc.2 hv'
      · exact chain_len (chain0_of ((ok.cls _ _ hd).2 hc.2) (by simpa using hv')) (h1 hb)
    · by_cases hf : frR (rs[q + k]'(by omega))
      · obtain ⟨nd, e, _⟩ := free_new R hr hf
        rw [e, List.length_append]; omega
      · rw [heap_quiet R ok hv K hr hc hf]; exact Nat.le_refl _
theorem heap_mono' (R : RunD P call ds st st' rs) (ok : DrawOk N ops ds) (hv : ValsOk vals call) (K : ChkOk vals rs) {q p : Nat} (h : q ≤ p) (hp : p ≤ rs.length) : (hAt rs st' q).length ≤ (hAt rs st' p).length := by
  obtain ⟨k, rfl⟩ : ∃ k, p = q + k := ⟨p - q, by omega⟩
  exact heap_mono R ok hv K q k hp
/-- The rows that are made at any time have names of their own. -/
theorem slot_lt (R : RunD P call ds st st' rs) (ok : DrawOk N ops ds) (hv : ValsOk vals call) (K : ChkOk vals rs) {x y : Nat} {r s : Rec} (h : x < y) (hr : rs[x]? = some r) (hs : rs[y]? = some s) (hf : frR r) : r.heap.length < s.heap.length := by
  have hyl := (List.getElem?_eq_some_iff.1 hs).1
  have h1 := heap_mono' R ok hv K (q := x + 1) (p := y) (by omega) (by omega)
  rw [(run_step R hr).1, hAt_some hs] at h1
  obtain ⟨nd, e, _⟩ := free_new R hr hf
  rw [e, List.length_append, List.length_cons, List.length_nil] at h1
  omega

/-- Who has last written a tmp. -/
theorem env_last (R : RunD P call ds st st' rs) (t : Nat) (c : C) : ∀ (p : Nat), p ≤ rs.length → look (eAt rs st' p) t = some c →
    (∃ (q : Nat) (r : Rec), q < p ∧ rs[q]? = some r ∧ r.d.i.dst = some t ∧ r.c = c ∧ ∀ (x : Nat) (y : Rec), q < x → x < p → rs[x]? = some y → y.d.i.dst ≠ some t) ∨
    ((∀ (x : Nat) (y : Rec), x < p → rs[x]? = some y → y.d.i.dst ≠ some t) ∧ look st.env t = some c)
  | 0, _, h => by
    rw [(run_zero R).2] at h
    exact .inr ⟨fun x y hx => by omega, h⟩
  | p + 1, hle, h => by
    have hr : rs[p]? = some (rs[p]'(by omega)) := List.getElem?_eq_getElem (by omega)
    rw [(run_step R hr).2] at h
    by_cases hd : (rs[p]'(by omega)).d.i.dst = some t
    · rw [hd] at h
      simp only [putE, look, if_true, Option.some.injEq] at h
      exact .inl ⟨p, _, by omega, hr, hd, h, fun x y h1 h2 => by omega⟩
    · have h' : look (eAt rs st' p) t = some c := by
        rw [eAt_some hr]
        cases hdd : (rs[p]'(by omega)).d.i.dst with
        | none => rw [hdd] at h; exact h
        | some u =>
          rw [hdd] at h hd
          simp only [putE, look] at h
          rw [if_neg (fun e => hd (by rw [e]))] at h
          exact h
      rcases env_last R t c p (by omega) h' with ⟨q, r, hq, hrq, hdq, hcq, hno⟩ | ⟨hno, hb⟩
      · refine .inl ⟨q, r, by omega, hrq, hdq, hcq, fun x y h1 h2 h3 => ?_⟩
        by_cases e : x = p
        · subst e; rw [hr] at h3; cases h3; exact hd
        · exact hno x y h1 (by omega) h3
      · refine .inr ⟨fun x y h1 h3 => ?_, hb⟩
        by_cases e : x = p
        · subst e; rw [hr] at h3; cases h3; exact hd
        · exact hno x y (by omega) h3

theorem look_keepE_mem : ∀ (ks : List Nat) (env : Env) (t : Nat), t ∈ ks → look (keepE env ks) t = look env t
  | [], _, _, h => by simp at h
  | k :: ks, env, t, h => by
    unfold keepE
    by_cases e : k = t
    · subst e
      cases hk : look env k with
      | some c => simp [look]
      | none =>
        simp only
        cases hl : look (keepE env ks) k with
        | none => rfl
        | some c => have := look_keepE ks env k c hl; rw [hk] at this; cases this
    · have hm : t ∈ ks := by
        rcases List.mem_cons.1 h with h | h
        · exact absurd h.symm e
        · exact h
      cases hk : look env k with
      | some c => simp only [look, if_neg e]; exact look_keepE_mem ks env t hm
      | none => exact look_keepE_mem ks env t hm

/-! ### New rows that the program makes ahead of their place -/
def Held (rs : List Rec) (listed : Array Bool) (q x : Nat) (y : Rec) : Prop := q ≤ x ∧ rs[x]? = some y ∧ frR y ∧ listed.getD y.d.ix false = true
def updL (φ : Nat → Loc) (s : Nat) (L : Loc) : Nat → Loc := fun l => if l = s then L else φ l
def more (S : Nat → Prop) (s : Nat) : Nat → Prop := fun l => S l ∨ l = s
/-- Their blocks are none of the heap's. -/
def HX (X : Nat → Prop) (rs : List Rec) (listed : Array Bool) (q : Nat) (hb : Nat → Loc) : Nat → Prop := fun b => X b ∨ ∃ x y, Held rs listed q x y ∧ (hb x).block = b
theorem updL_self (φ : Nat → Loc) (s : Nat) (L : Loc) : updL φ s L s = L := if_pos rfl
theorem updL_ne {φ : Nat → Loc} {s l : Nat} {L : Loc} (h : l ≠ s) : updL φ s L l = φ l := if_neg h
structure HoldOk (w : World) (bad S : Nat → Prop) (φ : Nat → Loc) (y : Rec) (L : Loc) (u : Value) : Prop where
  node : ∃ nd, y.heap' = y.heap ++ [nd] ∧ nd ≠ .dead ∧ OkNode w bad (more S y.heap.length) (updL φ y.heap.length L) y.heap.length nd
  val : Rel w bad (more S y.heap.length) (updL φ y.heap.length L) y.c u
theorem OkNode.moved {w w' : World} {bad bad' S S' : Nat → Prop} {φ φ' : Nat → Loc} {l : Nat} {nd : Node} (k : Later w bad S φ w' bad' S' φ') (e : φ' l = φ l) (hb : w'.heap[(φ l).block]? = w.heap[(φ l).block]?) (h : OkNode w bad S φ l nd) : OkNode w' bad' S' φ' l nd := by
  cases nd with
  | dead => trivial
  | row ez cs =>
    simp only [OkNode] at h ⊢
    rw [e]
    obtain ⟨h1, h2, h3, h4, h5⟩ := h
    refine ⟨h1, h2, h3, fun j hj => ?_, RelAt.moved k h5 fun j u _ hu => ?_⟩
    · rw [cell_of_heap hb, World.frozen?_of_block (a := ⟨(φ l).block, (φ l).base + j, none⟩) hb]
      exact h4 j hj
    · rw [cell_of_heap hb]; exact hu
  | map es clock =>
    simp only [OkNode] at h ⊢
    rw [e, hb]
    exact h
theorem later_more {w w' : World} {bad bad' S S' : Nat → Prop} {φ φ' : Nat → Loc} (k : Later w bad S φ w' bad' S' φ') (s : Nat) (L : Loc) (h1 : ¬ S s) (h2 : ¬ S' s) : Later w bad (more S s) (updL φ s L) w' bad' (more S' s) (updL φ' s L) :=
  ⟨k.cell, k.bad, k.size, fun l hl => by
    rcases hl with hl | rfl
    · obtain ⟨a, b⟩ := k.names l hl
      refine ⟨.inl a, ?_⟩
      rw [updL_ne (fun e : l = s => h1 (by rw [← e]; exact hl)), updL_ne (fun e : l = s => h2 (by rw [← e]; exact a)), b]
    · exact ⟨.inr rfl, by rw [updL_self, updL_self]⟩⟩
theorem HoldOk.later {w w' : World} {bad bad' S S' : Nat → Prop} {φ φ' : Nat → Loc} {y : Rec} {L : Loc} {u : Value} (H : HoldOk w bad S φ y L u) (k : Later w bad S φ w' bad' S' φ') (hb : w'.heap[L.block]? = w.heap[L.block]?) (h1 : ¬ S y.heap.length) (h2 : ¬ S' y.heap.length) : HoldOk w' bad' S' φ' y L u := by
  have k2 := later_more k y.heap.length L h1 h2
  obtain ⟨nd, e1, e2, e3⟩ := H.node
  exact ⟨⟨nd, e1, e2, e3.moved k2 (by rw [updL_self, updL_self]) (by rw [updL_self]; exact hb)⟩, H.val.later k2⟩
theorem HX_same {X : Nat → Prop} {listed listed' : Array Bool} {q q' : Nat} {hb : Nat → Loc} (h : ∀ x y, Held rs listed' q' x y ↔ Held rs listed q x y) : HX X rs listed' q' hb = HX X rs listed q hb := by
  funext b
  unfold HX
  simp only [h]

/-- What holds when just the listed operations have been done. -/
structure Inv (ops : Array Oper) (ds : List D) (rs : List Rec) (st st' : St) (N : Nat) (X : Nat → Prop) (w0 : World) (S0 : Nat → Prop) (φ0 : Nat → Loc) (listed : Array Bool) (a : Act) (w : World) (S : Nat → Prop) (φ : Nat → Loc) (q : Nat) (kh : Heap) (hb : Nat → Loc) (hu : Nat → Value) : Prop where
  size : listed.size = ops.size
  good : Good w (HX X rs listed q hb) S φ kh
  seq : SeqOk S kh
  tmps : a.tmps.size = N
  defers : a.defers = []
  ext : Ext w0 S0 φ0 st.heap w S φ kh
  down : ∀ (p : Nat) (d : D), ds[p]? = some d → listed.getD d.ix false = true → ∀ x ∈ d.anc, listed.getD x false = true
  le : q ≤ rs.length
  before : ∀ (p : Nat) (r : Rec), p < q → rs[p]? = some r → r.on = true → r.d.cls = .chain → listed.getD r.d.ix false = true
  after : ∀ (p : Nat) (r : Rec), q ≤ p → rs[p]? = some r → r.on = true → r.d.cls = .chain → listed.getD r.d.ix false = false
  writ : ∀ (t p : Nat) (r : Rec), rs[p]? = some r → listed.getD r.d.ix false = true → r.d.i.dst = some t →
    (∀ (x : Nat) (y : Rec), p < x → rs[x]? = some y → listed.getD y.d.ix false = true → y.d.i.dst ≠ some t) → ¬ Held rs listed q p r → ∃ u, a.tmps[t]? = some u ∧ Rel w (badOf (HX X rs listed q hb) φ kh) S φ r.c u
  base : ∀ (t : Nat) (c : C), (∀ (x : Nat) (y : Rec), rs[x]? = some y → listed.getD y.d.ix false = true → y.d.i.dst ≠ some t) → look st.env t = some c →
    ∃ u, a.tmps[t]? = some u ∧ Rel w (badOf (HX X rs listed q hb) φ kh) S φ c u
  klen : kh.length = (hAt rs st' q).length
  kat : ∀ l, kh[l]? = (hAt rs st' q)[l]? ∨ ∃ (x : Nat) (y : Rec), x < q ∧ rs[x]? = some y ∧ frR y ∧ listed.getD y.d.ix false = false ∧ y.heap.length = l
  pend : ∀ (x : Nat) (y : Rec), x < q → rs[x]? = some y → frR y → listed.getD y.d.ix false = false → kh[y.heap.length]? = some .dead ∧ ¬ S y.heap.length
  hold : ∀ (x : Nat) (y : Rec), Held rs listed q x y → HoldOk w (badOf (HX X rs listed q hb) φ kh) S φ y (hb x) (hu x) ∧ w0.heap.size ≤ (hb x).block ∧ ¬ X (hb x).block
  htmp : ∀ (x : Nat) (y : Rec) (t : Nat), Held rs listed q x y → y.d.i.dst = some t → (∀ (z : Nat) (v : Rec), x < z → rs[z]? = some v → listed.getD v.d.ix false = true → v.d.i.dst ≠ some t) → a.tmps[t]? = some (hu x)
  hinj : ∀ (x x' : Nat) (y y' : Rec), Held rs listed q x y → Held rs listed q x' y' → (hb x).block = (hb x').block → x = x'

theorem getD_eq {listed : Array Bool} {i : Nat} (h : i < listed.size) (b c : Bool) : listed.getD i b = listed.getD i c := by simp [h]

/-- The tmps that the next operation looks at. -/
theorem Inv.env (R : RunD P call ds st st' rs) (ok : DrawOk N ops ds) {X : Nat → Prop} {w0 w : World} {S0 S : Nat → Prop} {φ0 φ : Nat → Loc} {listed : Array Bool} {a : Act} {q : Nat} {kh : Heap} {hb : Nat → Loc} {hu : Nat → Value} (I : Inv ops ds rs st st' N X w0 S0 φ0 listed a w S φ q kh hb hu)
    (hmax : q = rs.length ∨ ∃ c, rs[q]? = some c ∧ chR c)
    {p : Nat} {r : Rec} (hr : rs[p]? = some r) (hd : ds[p]? = some r.d) (hun : listed.getD r.d.ix false = false) (hanc : ∀ x ∈ r.d.anc, listed.getD x false = true) :
    RelE w (badOf (HX X rs listed q hb) φ kh) S φ (keepE r.env (uses r.d.i)) a.tmps := fun t c hc => by
  by_cases hm : t ∈ uses r.d.i
  · rw [look_keepE_mem _ _ _ hm, ← eAt_some (st' := st') hr] at hc
    have hl : p < rs.length := (List.getElem?_eq_some_iff.1 hr).1
    -- a writer of t that is listed is ahead of p
    have ahead : ∀ (x : Nat) (y : Rec), rs[x]? = some y → listed.getD y.d.ix false = true → y.d.i.dst = some t → x < p := fun x y hy hly hdy => by
      have hdy' := (run_rec R hy).1
      rcases Nat.lt_trichotomy x p with h | h | h
      · exact h
      · subst h; rw [hr] at hy; cases hy; rw [hun] at hly; cases hly
      · have := ok.comp p x r.d y.d t h hd hdy' (.inr ⟨hdy, hm⟩)
        have h2 := I.down x y.d hdy' hly _ this
        rw [hun] at h2; cases h2
    rcases env_last R t c p (by omega) hc with ⟨x, y, hx, hy, hdy, rfl, hno⟩ | ⟨hno, hb⟩
    · have hdy' := (run_rec R hy).1
      have hya := ok.comp x p y.d r.d t hx hdy' hd (.inl ⟨hdy, .inl hm⟩)
      have hly := hanc _ hya
      refine I.writ t x y hy hly hdy (fun z v hz hv hlv hdv => hno z v hz (ahead z v hv hlv hdv) hv hdv) fun ⟨hq, _, hf, _⟩ => ?_
      rcases hmax with e | ⟨c, hc, hch⟩
      · have := (List.getElem?_eq_some_iff.1 hy).1; omega
      · have hqx : q < x := by
          rcases Nat.lt_or_ge q x with h | h
          · exact h
          · have : q = x := by omega
            subst this; rw [hc] at hy; cases hy; have h1 := hch.2; rw [hf.2.1] at h1; cases h1
        have h2 := hanc _ (ok.fr2 q x p c.d y.d r.d hqx (run_rec R hc).1 hdy' hd hch.2 hf.2.1 hf.2.2 hya)
        rw [I.after q c (Nat.le_refl _) hc hch.1 hch.2] at h2
        cases h2
    · exact I.base t c (fun z v hv hlv hdv => hno z v (ahead z v hv hlv hdv) hv hdv) hb
  · exfalso
    have : ∀ (ks : List Nat) (e : Env), t ∉ ks → look (keepE e ks) t = none := by
      intro ks
      induction ks with
      | nil => intro e _; rfl
      | cons k ks ih =>
        intro e hk
        unfold keepE
        cases hke : look e k with
        | some d => simp only [look]; rw [if_neg (fun e2 => hk (by simp [e2]))]; exact ih e (fun h => hk (by simp [h]))
        | none => exact ih e (fun h => hk (by simp [h]))
    rw [this _ _ hm] at hc
    cases hc

/-- One operation more is done. -/
theorem Inv.put (R : RunD P call ds st st' rs) (ok : DrawOk N ops ds) {X : Nat → Prop} {w0 w w' : World} {S0 S S' : Nat → Prop} {φ0 φ φ' : Nat → Loc} {listed : Array Bool} {a : Act} {q q' : Nat} {kh kh' : Heap} {hb hb' : Nat → Loc} {hu hu' : Nat → Value} (I : Inv ops ds rs st st' N X w0 S0 φ0 listed a w S φ q kh hb hu)
    {p : Nat} {r : Rec} (hr : rs[p]? = some r) (hd : ds[p]? = some r.d) (hi : r.d.ix < ops.size) (hlt : ∀ t, r.d.i.dst = some t → t < N) (hun : listed.getD r.d.ix false = false) (hanc : ∀ x ∈ r.d.anc, listed.getD x false = true)
    {u : Value} (G : Good w' (HX X rs (listed.setIfInBounds r.d.ix true) q' hb') S' φ' kh') (sq : SeqOk S' kh') (E : Ext w0 S0 φ0 st.heap w' S' φ' kh')
    (L : Later w (badOf (HX X rs listed q hb) φ kh) S φ w' (badOf (HX X rs (listed.setIfInBounds r.d.ix true) q' hb') φ' kh') S' φ')
    (hrel : ¬ Held rs (listed.setIfInBounds r.d.ix true) q' p r → Rel w' (badOf (HX X rs (listed.setIfInBounds r.d.ix true) q' hb') φ' kh') S' φ' r.c u)
    (hqq : ∀ (x : Nat) (y : Rec), rs[x]? = some y → frR y → q ≤ x → q' ≤ x) (hqr : q ≤ q')
    (hkeep : ∀ (x : Nat) (y : Rec), Held rs listed q x y → w'.heap[(hb x).block]? = w.heap[(hb x).block]? ∧ ¬ S y.heap.length ∧ ¬ S' y.heap.length)
    (hbE : ∀ x, x ≠ p → hb' x = hb x) (huE : ∀ x, x ≠ p → hu' x = hu x)
    (hhp : Held rs (listed.setIfInBounds r.d.ix true) q' p r → (HoldOk w' (badOf (HX X rs (listed.setIfInBounds r.d.ix true) q' hb') φ' kh') S' φ' r (hb' p) (hu' p) ∧ w0.heap.size ≤ (hb' p).block ∧ ¬ X (hb' p).block) ∧ hu' p = u ∧ ∀ (x : Nat) (y : Rec), Held rs listed q x y → (hb x).block ≠ (hb' p).block)
    (hq : q' ≤ rs.length) (hbef : ∀ (x : Nat) (y : Rec), x < q' → rs[x]? = some y → y.on = true → y.d.cls = .chain → y.d.ix = r.d.ix ∨ listed.getD y.d.ix false = true)
    (haft : ∀ (x : Nat) (y : Rec), q' ≤ x → rs[x]? = some y → y.on = true → y.d.cls = .chain → y.d.ix ≠ r.d.ix ∧ listed.getD y.d.ix false = false)
    (hkl : kh'.length = (hAt rs st' q').length) (hka : ∀ l, kh'[l]? = (hAt rs st' q')[l]? ∨ ∃ (x : Nat) (y : Rec), x < q' ∧ rs[x]? = some y ∧ frR y ∧ x ≠ p ∧ listed.getD y.d.ix false = false ∧ y.heap.length = l)
    (hpe : ∀ (x : Nat) (y : Rec), x < q' → rs[x]? = some y → frR y → x ≠ p → listed.getD y.d.ix false = false → kh'[y.heap.length]? = some .dead ∧ ¬ S' y.heap.length) :
    Inv ops ds rs st st' N X w0 S0 φ0 (listed.setIfInBounds r.d.ix true) (a.put r.d.i.dst u) w' S' φ' q' kh' hb' hu' := by
  have hset : ∀ x, (listed.setIfInBounds r.d.ix true).getD x false = true ↔ (x = r.d.ix ∨ listed.getD x false = true) := fun x => by
    by_cases e : r.d.ix = x
    · subst e
      have : r.d.ix < listed.size := by rw [I.size]; exact hi
      simp [this]
    · rw [getD_set_ne false e]
      exact ⟨.inr, fun h => h.resolve_left (fun e2 => e e2.symm)⟩
  have hsetf : ∀ x, x ≠ r.d.ix → listed.getD x false = false → (listed.setIfInBounds r.d.ix true).getD x false = false := fun x e h => by
    rw [getD_set_ne false (fun e2 => e e2.symm)]; exact h
  have same : ∀ t, r.d.i.dst ≠ some t → (a.put r.d.i.dst u).tmps[t]? = a.tmps[t]? := fun t ht => by
    cases hdd : r.d.i.dst with
    | none => rfl
    | some d => rw [hdd] at ht; simp only [Act.put]; rw [Array.getElem?_setIfInBounds_ne (fun e => ht (by rw [e]))]
  have mine : ∀ t, r.d.i.dst = some t → (a.put r.d.i.dst u).tmps[t]? = some u := fun t hdt => by
    have := hlt t hdt
    rw [hdt]
    simp [Act.put, I.tmps, this]
  have isp : ∀ (x : Nat) (y : Rec), rs[x]? = some y → y.d.ix = r.d.ix → x = p := fun x y hy e => ok.inj x p y.d r.d (run_rec R hy).1 hd e
  -- a listed writer of what is written lies ahead
  have ahead : ∀ (t x : Nat) (y : Rec), r.d.i.dst = some t → rs[x]? = some y → listed.getD y.d.ix false = true → y.d.i.dst = some t → x < p := fun t x y hdt hy hly hdy => by
    have hdy' := (run_rec R hy).1
    rcases Nat.lt_trichotomy x p with h | h | h
    · exact h
    · subst h; rw [hr] at hy; cases hy; rw [hun] at hly; cases hly
    · have := ok.comp p x r.d y.d t h hd hdy' (.inl ⟨hdt, .inr hdy⟩)
      have h2 := I.down x y.d hdy' hly _ this
      rw [hun] at h2; cases h2
  -- those that are held beside the one that is made
  have other : ∀ (x : Nat) (y : Rec), Held rs (listed.setIfInBounds r.d.ix true) q' x y → x ≠ p → Held rs listed q x y := fun x y h e => by
    obtain ⟨h1, h2, h3, h4⟩ := h
    refine ⟨by omega, h2, h3, ?_⟩
    rcases (hset _).1 h4 with h5 | h5
    · exact absurd (isp x y h2 h5) e
    · exact h5
  refine ⟨by simp [I.size], G, sq, by rw [Act.put_size]; exact I.tmps, by rw [Act.put_defers']; exact I.defers, E, fun x d hx hl y hy => ?_, hq, fun x y hx hy ho hc => ?_, fun x y hx hy ho hc => ?_, fun t x y hy hl hdy hno hnh => ?_, fun t c hno hb => ?_, hkl, fun l => ?_, fun x y hx hy hf hl => ?_, fun x y h => ?_, fun x y t h hdy hno => ?_, fun x x' y y' h h' e => ?_⟩
  · rw [hset] at hl ⊢
    rcases hl with hl | hl
    · have : x = p := ok.inj x p d r.d hx hd hl
      subst this
      rw [hd] at hx; cases hx
      exact .inr (hanc y hy)
    · exact .inr (I.down x d hx hl y hy)
  · rw [hset]; exact hbef x y hx hy ho hc
  · obtain ⟨h1, h2⟩ := haft x y hx hy ho hc; exact hsetf _ h1 h2
  · rw [hset] at hl
    have hdy' := (run_rec R hy).1
    by_cases hdt : r.d.i.dst = some t
    · have hxp : x = p := by
        rcases hl with hl | hl
        · exact isp x y hy hl
        · exfalso
          have hlt2 := ahead t x y hdt hy hl hdy
          exact hno p r hlt2 hr (by rw [hset]; exact .inl rfl) hdt
      subst hxp
      rw [hr] at hy; cases hy
      exact ⟨u, mine t hdt, hrel hnh⟩
    · rw [same t hdt]
      have hl' : listed.getD y.d.ix false = true := hl.resolve_left fun e => by
        have : x = p := isp x y hy e
        subst this; rw [hr] at hy; cases hy; exact hdt hdy
      obtain ⟨v, hv, hrl⟩ := I.writ t x y hy hl' hdy (fun z v hz hv hlv => hno z v hz hv (by rw [hset]; exact .inr hlv)) fun ⟨h1, h2, h3, h4⟩ => hnh ⟨hqq x y hy h3 h1, h2, h3, by rw [hset]; exact .inr h4⟩
      exact ⟨v, hv, Rel.later L hrl⟩
  · have hdt : r.d.i.dst ≠ some t := hno p r hr (by rw [hset]; exact .inl rfl)
    rw [same t hdt]
    obtain ⟨v, hv, hrl⟩ := I.base t c (fun z v hv hlv => hno z v hv (by rw [hset]; exact .inr hlv)) hb
    exact ⟨v, hv, Rel.later L hrl⟩
  · rcases hka l with h | ⟨x, y, h1, h2, h3, h4, h5, h6⟩
    · exact .inl h
    · exact .inr ⟨x, y, h1, h2, h3, hsetf _ (fun e => h4 (isp x y h2 e)) h5, h6⟩
  · have hne : y.d.ix ≠ r.d.ix := fun e => by
      have : (listed.setIfInBounds r.d.ix true).getD y.d.ix false = true := (hset _).2 (.inl e)
      rw [this] at hl; cases hl
    have hl2 : listed.getD y.d.ix false = false := by rw [getD_set_ne false (fun e => hne e.symm)] at hl; exact hl
    exact hpe x y hx hy hf (fun e => by subst e; rw [hr] at hy; cases hy; exact hne rfl) hl2
  · by_cases e : x = p
    · subst e
      have hyr := h.2.1
      rw [hr] at hyr; cases hyr
      exact (hhp h).1
    · have ho := other x y h e
      obtain ⟨k1, k2, k3⟩ := hkeep x y ho
      obtain ⟨i1, i2, i3⟩ := I.hold x y ho
      rw [hbE x e, huE x e]
      exact ⟨i1.later L k1 k2 k3, i2, i3⟩
  · by_cases e : x = p
    · subst e
      have hyr := h.2.1
      rw [hr] at hyr; cases hyr
      rw [(hhp h).2.1]
      exact mine t hdy
    · have ho := other x y h e
      have hdt : r.d.i.dst ≠ some t := fun hdt => hno p r (ahead t x y hdt h.2.1 ho.2.2.2 hdy) hr (by rw [hset]; exact .inl rfl) hdt
      rw [same t hdt, huE x e]
      exact I.htmp x y t ho hdy fun z v hz hv hlv => hno z v hz hv (by rw [hset]; exact .inr hlv)
  · by_cases e1 : x = p
    · by_cases e2 : x' = p
      · omega
      · exfalso
        subst e1
        have hyr := h.2.1
        rw [hr] at hyr; cases hyr
        have ho := other x' y' h' e2
        rw [hbE x' e2] at e
        exact (hhp h).2.2 x' y' ho e.symm
    · by_cases e2 : x' = p
      · exfalso
        subst e2
        have hyr := h'.2.1
        rw [hr] at hyr; cases hyr
        have ho := other x y h e1
        rw [hbE x e1] at e
        exact (hhp h').2.2 x y ho e
      · rw [hbE x e1, hbE x' e2] at e
        exact I.hinj x x' y y' (other x y h e1) (other x' y' h' e2) e
end
end Go.Tm
