import Derived.Test.YtahcbcgakadfpaaT9
namespace Go.Tm

/-! ### Code as the machine keeps it -/
def dstOk (N : Nat) : Option Nat → Bool
  | some d => decide (d < N)
  | none => true
def gOf (ops : Array Oper) : Option (Nat × Bool) → Option (Option (Nat × Bool))
  | none => some none
  | some (j, b) => ((ops[j]?).bind (·.dst)).map fun t => some (t, b)
def toI (N : Nat) (ops : Array Oper) (o : Oper) : Option I :=
  if dstOk N o.dst = true then (gOf ops o.guard).map fun g => ⟨o.dst, o.op, g⟩ else none

/-! ### The state -/
structure At (N : Nat) (X : Nat → Prop) (st : St) (S : Nat → Prop) (φ : Nat → Loc) (a : Act) (w : World) : Prop where
  good : Good w X S φ st.heap
  seq : SeqOk S st.heap
  env : RelE w (badOf X φ st.heap) S φ st.env a.tmps
  size : a.tmps.size = N
  defers : a.defers = []

section
variable {P : Program} {N : Nat} {X : Nat → Prop}

theorem Act.put_size (a : Act) (d : Option Tmp) (v : Value) : (a.put d v).tmps.size = a.tmps.size := by cases d <;> simp [Act.put]
theorem Act.put_defers' (a : Act) (d : Option Tmp) (v : Value) : (a.put d v).defers = a.defers := by cases d <;> rfl

theorem At.put {st : St} {S : Nat → Prop} {φ : Nat → Loc} {a : Act} {w : World} (A : At N X st S φ a w) {d : Option Nat} (hd : ∀ t, d = some t → t < N) {c : C} {u : Value} (hr : Rel w (badOf X φ st.heap) S φ c u) :
    At N X (st.put d c) S φ (a.put d u) w := by
  cases d with
  | none => exact A
  | some t => exact ⟨A.good, A.seq, A.env.put (by rw [A.size]; exact hd t rfl) hr, by rw [Act.put_size]; exact A.size, A.defers⟩

theorem toI_eq {ops : Array Oper} {o : Oper} {i : I} (hi : toI N ops o = some i) : i.dst = o.dst ∧ i.op = o.op ∧ (∀ t, o.dst = some t → t < N) ∧ gOf ops o.guard = some i.g := by
  unfold toI at hi
  split at hi
  · rename_i hd
    have hlt : ∀ t, o.dst = some t → t < N := fun t ht => by rw [ht] at hd; simpa [dstOk] using hd
    simp only [Option.map_eq_some_iff] at hi
    obtain ⟨g, hg, rfl⟩ := hi
    exact ⟨rfl, rfl, hlt, hg⟩
  · cases hi

theorem wantedC_sound {w : World} {bad S : Nat → Prop} {φ : Nat → Loc} {env : Env} {ops : Array Oper} {o : Oper} {i : I} {tmps : Array Value} (he : RelE w bad S φ env tmps) (hi : toI N ops o = some i) {b : Bool} (hw : wantedC env i.g = some b) :
    Region.wanted o (yielded ops tmps) = b := by
  obtain ⟨_, _, _, hg⟩ := toI_eq hi
  cases hog : o.guard with
  | none =>
    rw [hog] at hg
    simp only [gOf, Option.some.injEq] at hg
    rw [← hg] at hw
    simp only [wantedC, Option.some.injEq] at hw
    simp [Region.wanted, hog, hw]
  | some jw =>
    obtain ⟨j, want⟩ := jw
    rw [hog] at hg
    simp only [gOf, Option.map_eq_some_iff] at hg
    obtain ⟨t, ht, hgi⟩ := hg
    rw [← hgi] at hw
    simp only [wantedC] at hw
    split at hw
    · rename_i x hx
      cases hw
      obtain ⟨u, hu, hr⟩ := he t _ hx
      simp only [Rel] at hr
      obtain ⟨rfl, _⟩ := hr
      simp only [Region.wanted, hog, yielded, ht, Option.bind_some, hu]
      cases x <;> cases want <;> rfl
    · rename_i hx
      cases hw
      obtain ⟨u, hu, hr⟩ := he t _ hx
      simp only [Rel] at hr
      obtain ⟨us, rfl, _⟩ := hr
      simp only [Region.wanted, hog, yielded, ht, Option.bind_some, hu]
      rfl
    · cases hw

theorem undef_rel {w : World} {bad S : Nat → Prop} {φ : Nat → Loc} : Rel w bad S φ undefC undef := by
  simp only [undefC, Rel]; exact ⟨#[], rfl, by simp [RelL]⟩

/-- One operation, in the model's order. -/
theorem stepI_sound {call : CallF} (hcall : CallOk P call) {ops : Array Oper} {o : Oper} {i : I} (hi : toI N ops o = some i) {st st' : St} (hs : stepI P call none i st = some st') {S : Nat → Prop} {φ : Nat → Loc} {a : Act} {w : World} (A : At N X st S φ a w)
    {next : Act → World → Prop} {Q : Exit → Act → World → Prop} (hn : ∀ S' φ' a' w', At N X st' S' φ' a' w' → Ext w S φ st.heap w' S' φ' st'.heap → next a' w') :
    if Region.wanted o (yielded ops a.tmps) then o.wp P a w next Q else next (a.put o.dst undef) w := by
  simp only [stepI, Option.bind_eq_bind, Option.bind_eq_some_iff] at hs
  obtain ⟨b, hb, hs⟩ := hs
  rw [wantedC_sound A.env hi hb]
  obtain ⟨hdst, hop, hlt, _⟩ := toI_eq hi
  cases b with
  | true =>
    simp only [if_true, Option.map_eq_some_iff] at hs
    obtain ⟨⟨c, h'⟩, hst, rfl⟩ := hs
    rw [if_pos rfl]
    refine op_sound hcall A.good A.seq A.env A.seq.alloc hop.symm hst fun u w' S' φ' G' E hr hnm => ?_
    have A' : At N X ⟨st.env, h'⟩ S' φ' a w' := ⟨G', A.seq.next hnm, A.env.later (E.later), A.size, A.defers⟩
    rw [← hdst]
    exact hn S' φ' _ w' (A'.put (by rw [hdst]; exact hlt) hr) (by
      have : (St.put ⟨st.env, h'⟩ i.dst c).heap = h' := by cases i.dst <;> rfl
      rw [this]; exact E)
  | false =>
    simp only [Bool.false_eq_true, if_false, Option.some.injEq] at hs
    subst hs
    rw [if_neg (by simp), ← hdst]
    refine hn S φ _ w (A.put (by rw [hdst]; exact hlt) undef_rel) ?_
    have : (st.put i.dst undefC).heap = st.heap := by cases i.dst <;> rfl
    rw [this]
    exact Ext.refl _ _ _ _

end
end Go.Tm
