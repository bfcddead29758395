import Derived.Test.YtahcbcgakadfpaaTW0
namespace Go.Tm

def SeqOk (S : Nat → Prop) (h : Heap) : Prop := ∀ l, S l → l < h.length

/-- What a call of the machine's promises of the model's. -/
def CallOk (P : Program) (call : CallF) : Prop :=
  ∀ (f : FuncId) (cs : List C) (h : Heap) (c : C) (h' : Heap), call f cs h = some (c, h') →
    (∃ fn code, P.funcs[f]? = some fn ∧ (fn.name == "runtime.NumGoroutine") = false ∧ fn.body = some code) ∧
    ∀ (w : World) (X S : Nat → Prop) (φ : Nat → Loc) (us : List Value), Good w X S φ h → SeqOk S h → RelL w (badOf X φ h) S φ cs us →
      Calls P f us.toArray w fun e w' => ∃ u S' φ', e = .returned u ∧ Good w' X S' φ' h' ∧ Ext w S φ h w' S' φ' h' ∧ Rel w' (badOf X φ' h') S' φ' c u ∧
        ((S' = S ∧ φ' = φ ∧ h' = h) ∨ SeqOk S' h')

def NamesG (S S' : Nat → Prop) (h h' : Heap) (al : Option Nat) (cv : Prop) : Prop :=
  Names S S' h h' al ∨ (SeqOk S' h' ∧ cv)

theorem SeqOk.alloc {S : Nat → Prop} {h : Heap} (s : SeqOk S h) : AllocOk S h none := ⟨fun hs => by have := s _ hs; simp [new] at this, fun _ hs => by cases hs⟩

theorem SeqOk.next {S S' : Nat → Prop} {h h' : Heap} {cv : Prop} (s : SeqOk S h) (n : NamesG S S' h h' none cv) : SeqOk S' h' := by
  rcases n with (⟨rfl, e⟩ | ⟨rfl, e⟩) | n
  · intro l hl; rw [e]; exact s l hl
  · intro l hl
    rw [e]
    simp only [new, List.length_append, List.length_cons, List.length_nil]
    rcases hl with hl | hl
    · have := s l hl; omega
    · simp only [new] at hl; omega
  · exact n.1
theorem names_same {S S' : Nat → Prop} {h : Heap} {cv : Prop} (hc : ¬ cv) (n : NamesG S S' h h none cv) : S' = S := by
  rcases n with (⟨rfl, _⟩ | ⟨_, e⟩) | n
  · rfl
  · simp [new] at e
  · exact absurd n.2 hc

section
variable {P : Program} {w : World} {X S : Nat → Prop} {φ : Nat → Loc} {h : Heap} {al : Option Nat} {o : Oper} {a : Act} {next : Act → World → Prop} {Q : Exit → Act → World → Prop}

theorem wp_value {u : Value} {w' : World} (hrun : (execOp a.eval o).run P w = .ok (.value u) w') (hn : next (a.put o.dst u) w') : o.wp P a w next Q := by
  unfold Oper.wp; rw [hrun]; exact hn
theorem wp_skip' {w' : World} (hrun : (execOp a.eval o).run P w = .ok .skip w') (hn : next (a.put o.dst undef) w') : o.wp P a w next Q := by
  unfold Oper.wp; rw [hrun]; exact hn

/-- What is behind an operation. -/
def Goes (P : Program) (w : World) (X S : Nat → Prop) (φ : Nat → Loc) (h : Heap) (al : Option Nat) (o : Oper) (a : Act) (next : Act → World → Prop) (c : C) (h' : Heap) (cv : Prop) : Prop :=
  ∀ u w' S' φ', Good w' X S' φ' h' → Ext w S φ h w' S' φ' h' → Rel w' (badOf X φ' h') S' φ' c u → NamesG S S' h h' al cv → next (a.put o.dst u) w'

theorem goes_value {cv : Prop} (G : Good w X S φ h) {c : C} (hn : Goes P w X S φ h al o a next c h cv) {s : Sem Value} (he : (execOp a.eval o).run P w = (do pure (.value (← s)) : Sem Next).run P w)
    (hr : ∃ v, s.run P w = .ok v w ∧ Rel w (badOf X φ h) S φ c v) : o.wp P a w next Q := by
  obtain ⟨v, hv, hrel⟩ := hr
  exact wp_value (u := v) (w' := w) (by rw [he]; simp [hv]) (hn v w S φ G (Ext.refl _ _ _ _) hrel (.inl (.inl ⟨rfl, rfl⟩)))

theorem goes_done {cv : Prop} {c : C} {h' : Heap} (hn : Goes P w X S φ h al o a next c h' cv) {s : Sem Value} (he : (execOp a.eval o).run P w = (do pure (.value (← s)) : Sem Next).run P w)
    (hd : Done w X S φ h al (s.run P w) c h') : o.wp P a w next Q := by
  obtain ⟨u, w', S', φ', hr, G', E, hrel, hnm⟩ := hd
  exact wp_value (u := u) (w' := w') (by rw [he]; simp [hr]) (hn u w' S' φ' G' E hrel (.inl hnm))

theorem map_toList_parts (ps : Array (Nat × Operand)) (ρ : Operand → Value) : (ps.map fun (i, x) => (i, ρ x)).toList = ps.toList.map fun x => (x.1, ρ x.2) := by simp

theorem append_congr {ats args : Array _} {ty t tx : TypeId} {u x : Value} (ht : ats[0]? = some t) (htx : ats[1]? = some tx) (h0 : args[0]? = some u) (h1 : args[1]? = some x) : Builtin.append_ ats ty args = Builtin.append_ #[t, tx] ty #[u, x] := by
  unfold Builtin.append_
  simp only [ht, htx, h0, h1]
  rfl
theorem copy_congr {ats args : Array _} {ty t tx : TypeId} {u x : Value} (ht : ats[0]? = some t) (h0 : args[0]? = some u) (h1 : args[1]? = some x) : Builtin.copy_ ats ty args = Builtin.copy_ #[t, tx] ty #[u, x] := by
  unfold Builtin.copy_
  simp only [ht, h0, h1]
  rfl

theorem op_sound {call : CallF} (hcall : CallOk P call) (G : Good w X S φ h) (sq : SeqOk S h) {env : Env} (hE : RelE w (badOf X φ h) S φ env a.tmps) (ok : AllocOk S h al) {op : Op} (ho : o.op = op) {c : C} {h' : Heap}
    (hs : stepOp P call al env h op = some (c, h')) (hn : Goes P w X S φ h al o a next c h' (isCallV op = true)) : o.wp P a w next Q := by
  cases op with
  | move x =>
    simp only [stepOp, Option.bind_eq_bind, Option.bind_eq_some_iff, Option.some.injEq, Prod.mk.injEq] at hs
    obtain ⟨d, hd, rfl, rfl⟩ := hs
    exact goes_value G hn (s := pure (a.eval x)) (by simp [execOp, ho]) ⟨_, rfl, ev_rel hE hd⟩
  | assign x =>
    simp only [stepOp, Option.bind_eq_bind, Option.bind_eq_some_iff, Option.some.injEq, Prod.mk.injEq] at hs
    obtain ⟨d, hd, rfl, rfl⟩ := hs
    exact goes_value G hn (s := pure (a.eval x)) (by simp [execOp, ho]) ⟨_, rfl, ev_rel hE hd⟩
  | pick x y z =>
    simp only [stepOp, Option.bind_eq_bind, Option.bind_eq_some_iff] at hs
    obtain ⟨d, hd, t, ht, hs⟩ := hs
    have e := boolOf_rel (ev_rel hE hd) ht
    cases t with
    | true =>
      simp only [if_true, Option.bind_eq_some_iff, Option.some.injEq, Prod.mk.injEq] at hs
      obtain ⟨r, hr, rfl, rfl⟩ := hs
      exact goes_value G hn (s := pure (a.eval y)) (by simp [execOp, ho, e, asBool]) ⟨_, rfl, ev_rel hE hr⟩
    | false =>
      simp only [Bool.false_eq_true, if_false, Option.bind_eq_some_iff, Option.some.injEq, Prod.mk.injEq] at hs
      obtain ⟨r, hr, rfl, rfl⟩ := hs
      exact goes_value G hn (s := pure (a.eval z)) (by simp [execOp, ho, e, asBool]) ⟨_, rfl, ev_rel hE hr⟩
  | alloc e =>
    simp only [stepOp, Option.bind_eq_bind, Option.bind_eq_some_iff, Option.some.injEq, Prod.mk.injEq] at hs
    obtain ⟨z, hz, rfl, rfl⟩ := hs
    exact goes_done hn (s := Instr.alloc e true (.tuple #[])) (by simp [execOp, ho]) (alloc_sound G ok hz)
  | box e x =>
    simp only [stepOp, Option.bind_eq_bind, Option.bind_eq_some_iff] at hs
    obtain ⟨d, hd, hs⟩ := hs
    split at hs
    · rename_i hc
      simp only [Option.some.injEq, Prod.mk.injEq] at hs
      obtain ⟨rfl, rfl⟩ := hs
      exact goes_done hn (s := Instr.box e (a.eval x)) (by simp [execOp, ho]) (box_sound G ok (ev_rel hE hd) hc)
    · cases hs
  | build t ps =>
    simp only [stepOp, Option.bind_eq_bind, Option.bind_eq_some_iff, Option.some.injEq, Prod.mk.injEq] at hs
    obtain ⟨qs, hq, r, hr, rfl, rfl⟩ := hs
    exact goes_value G hn (s := Instr.build t (ps.map fun (i, x) => (i, a.eval x))) (by simp [execOp, ho]) (build_sound (by rw [map_toList_parts]; exact evParts_rel hE hq) hr)
  | buildSlice t n ps =>
    simp only [stepOp, Option.bind_eq_bind, Option.bind_eq_some_iff] at hs
    obtain ⟨qs, hq, hs⟩ := hs
    exact goes_done hn (s := Instr.buildSlice t n (ps.map fun (i, x) => (i, a.eval x))) (by simp [execOp, ho]) (buildSlice_sound G ok (by rw [map_toList_parts]; exact evParts_rel hE hq) hs)
  | load t x =>
    simp only [stepOp, Option.bind_eq_bind, Option.bind_eq_some_iff, Option.some.injEq, Prod.mk.injEq] at hs
    obtain ⟨p, hp, r, hr, rfl, rfl⟩ := hs
    exact goes_value G hn (s := Instr.loadAt t (a.eval x)) (by simp [execOp, ho]) (load_sound G (ev_rel hE hp) hr)
  | store t x y =>
    simp only [stepOp, Option.bind_eq_bind, Option.bind_eq_some_iff, Option.some.injEq, Prod.mk.injEq] at hs
    obtain ⟨p, hp, d, hd, h1, hst, rfl, rfl⟩ := hs
    obtain ⟨w', hrun, G', E, hl⟩ := store_sound G (ev_rel hE hp) (ev_rel hE hd) hst
    refine wp_skip' (w' := w') (by simp [execOp, ho, hrun]) (hn undef w' S φ G' E ?_ (.inl (.inl ⟨rfl, hl⟩)))
    simp only [undefC, Rel]
    exact ⟨#[], rfl, by simp [RelL]⟩
  | nilCheck x =>
    simp only [stepOp, Option.bind_eq_bind, Option.bind_eq_some_iff] at hs
    obtain ⟨d, hd, hs⟩ := hs
    split at hs
    · rename_i hc
      simp only [Option.some.injEq, Prod.mk.injEq] at hs
      obtain ⟨rfl, rfl⟩ := hs
      have hr := ev_rel hE hd
      obtain ⟨p, hp, hp2⟩ := isNilC_rel hr hc
      cases p with
      | none => cases hp2
      | some p => exact goes_value G hn (s := pure (a.eval x)) (by simp [execOp, ho, hp]) ⟨_, rfl, hr⟩
    · cases hs
  | binOp b t x y u =>
    simp only [stepOp, Option.bind_eq_bind, Option.bind_eq_some_iff, Option.some.injEq, Prod.mk.injEq] at hs
    obtain ⟨d, hd, e, he, r, hr, rfl, rfl⟩ := hs
    exact goes_value G hn (s := do eqGuard b t x y (a.eval x) (a.eval y); binOp b t (a.eval x) (a.eval y)) (by simp [execOp, ho]) (bin_sound (ev_rel hE hd) (ev_rel hE he) hr)
  | unOp b t x =>
    simp only [stepOp, Option.bind_eq_bind, Option.bind_eq_some_iff, Option.some.injEq, Prod.mk.injEq] at hs
    obtain ⟨d, hd, p, hp, r, hr, rfl, rfl⟩ := hs
    have e := scalar_rel (ev_rel hE hd) hp
    exact goes_value G hn (s := Op.unary b (a.eval x)) (by simp [execOp, ho]) (by rw [e]; exact pureV_sound hr)
  | convert s d x =>
    simp only [stepOp, Option.bind_eq_bind, Option.bind_eq_some_iff, Option.some.injEq, Prod.mk.injEq] at hs
    obtain ⟨e, he, r, hr, rfl, rfl⟩ := hs
    exact goes_value G hn (s := convert s d (a.eval x)) (by simp [execOp, ho]) (conv_sound G (ev_rel hE he) hr)
  | makeFunc f first caps =>
    simp only [stepOp, Option.bind_eq_bind, Option.bind_eq_some_iff] at hs
    obtain ⟨cs, hc, hs⟩ := hs
    split at hs
    · rename_i k
      split at hs
      · rename_i h0
        simp only [Option.some.injEq, Prod.mk.injEq] at hs
        obtain ⟨rfl, rfl⟩ := hs
        have e1 : first = #[] := Array.eq_empty_of_size_eq_zero h0
        subst e1
        refine goes_value G hn (s := pure (.func (.func k) #[] (caps.map a.eval))) (by simp [execOp, ho, Instr.makeFunc]) ⟨_, rfl, ?_⟩
        simp only [Rel]
        exact ⟨_, rfl, by simpa using evs_rel hE hc⟩
      · cases hs
    · cases hs
  | makeSlice t x y =>
    simp only [stepOp, Option.bind_eq_bind, Option.bind_eq_some_iff] at hs
    obtain ⟨d, hd, e, he, hs⟩ := hs
    exact goes_done hn (s := Instr.makeSlice t (a.eval x) (a.eval y)) (by simp [execOp, ho]) (makeSlice_sound G ok (ev_rel hE hd) (ev_rel hE he) hs)
  | slice t x lo hi mx =>
    simp only [stepOp, Option.bind_eq_bind, Option.bind_eq_some_iff, Option.some.injEq, Prod.mk.injEq] at hs
    obtain ⟨d, hd, l, hl, m, hm, k, hk, r, hr, rfl, rfl⟩ := hs
    exact goes_value G hn (s := Instr.sliceAt t (a.eval x) (lo.map a.eval) (hi.map a.eval) (mx.map a.eval)) (by simp [execOp, ho]) (slice_sound G (ev_rel hE hd) (evo_rel hE hl) (evo_rel hE hm) (evo_rel hE hk) hr)
  | fieldAddr t x f =>
    simp only [stepOp, Option.bind_eq_bind, Option.bind_eq_some_iff, Option.some.injEq, Prod.mk.injEq] at hs
    obtain ⟨d, hd, r, hr, rfl, rfl⟩ := hs
    exact goes_value G hn (s := Instr.fieldAt t (a.eval x) f) (by simp [execOp, ho]) (fieldAddr_sound (ev_rel hE hd) hr)
  | field t x f =>
    simp only [stepOp, Option.bind_eq_bind, Option.bind_eq_some_iff, Option.some.injEq, Prod.mk.injEq] at hs
    obtain ⟨d, hd, r, hr, rfl, rfl⟩ := hs
    exact goes_value G hn (s := Instr.field t (a.eval x) f) (by simp [execOp, ho]) (field_sound (ev_rel hE hd) hr)
  | indexAddr t x y =>
    simp only [stepOp, Option.bind_eq_bind, Option.bind_eq_some_iff, Option.some.injEq, Prod.mk.injEq] at hs
    obtain ⟨d, hd, e, he, r, hr, rfl, rfl⟩ := hs
    exact goes_value G hn (s := Instr.indexAt t (a.eval x) (a.eval y)) (by simp [execOp, ho]) (indexAddr_sound (ev_rel hE hd) (ev_rel hE he) hr)
  | index t x y =>
    simp only [stepOp, Option.bind_eq_bind, Option.bind_eq_some_iff, Option.some.injEq, Prod.mk.injEq] at hs
    obtain ⟨d, hd, e, he, r, hr, rfl, rfl⟩ := hs
    exact goes_value G hn (s := Instr.index t (a.eval x) (a.eval y)) (by simp [execOp, ho]) (index_sound (ev_rel hE hd) (ev_rel hE he) hr)
  | extract x i =>
    simp only [stepOp, Option.bind_eq_bind, Option.bind_eq_some_iff, Option.some.injEq, Prod.mk.injEq] at hs
    obtain ⟨d, hd, r, hr, rfl, rfl⟩ := hs
    exact goes_value G hn (s := Instr.extract (a.eval x) i) (by simp [execOp, ho]) (tupAt_rel (ev_rel hE hd) hr)
  | makeMap t r =>
    cases r with
    | none =>
      simp only [stepOp, Option.some.injEq, Prod.mk.injEq] at hs
      obtain ⟨rfl, rfl⟩ := hs
      exact goes_done hn (s := Instr.makeMap t none) (by simp [execOp, ho]) (makeMap_sound G ok)
    | some r => simp [stepOp] at hs
  | lookup t x i b =>
    simp only [stepOp, Option.bind_eq_bind, Option.bind_eq_some_iff, Option.some.injEq, Prod.mk.injEq] at hs
    obtain ⟨d, hd, e, he, r, hr, rfl, rfl⟩ := hs
    exact goes_value G hn (s := Instr.lookup t (a.eval x) (a.eval i) b) (by simp [execOp, ho]) (lookup_sound G (ev_rel hE hd) (ev_rel hE he) hr)
  | mapUpdate t m k v =>
    simp only [stepOp, Option.bind_eq_bind, Option.bind_eq_some_iff, Option.some.injEq, Prod.mk.injEq] at hs
    obtain ⟨d, hd, e, he, f, hf, h1, hst, rfl, rfl⟩ := hs
    obtain ⟨w', hrun, G', E, hl⟩ := mapUpd_sound G (ev_rel hE hd) (ev_rel hE he) (ev_rel hE hf) hst
    refine wp_skip' (w' := w') (by simp [execOp, ho, hrun]) (hn undef w' S φ G' E ?_ (.inl (.inl ⟨rfl, hl⟩)))
    simp only [undefC, Rel]
    exact ⟨#[], rfl, by simp [RelL]⟩
  | call k =>
    obtain ⟨cal, args, ats⟩ := k
    have two : ∀ {x y : Operand}, args[0]? = some x → args[1]? = some y → (args.map a.eval)[0]? = some (a.eval x) ∧ (args.map a.eval)[1]? = some (a.eval y) := fun h0 h1 => by simp [h0, h1]
    cases cal with
    | builtin b =>
      cases b <;> simp only [stepOp, reduceCtorEq] at hs
      case len =>
        simp only [Option.bind_eq_bind, Option.bind_eq_some_iff, Option.some.injEq, Prod.mk.injEq] at hs
        obtain ⟨t, ht, x, hx, d, hd, r, hr, rfl, rfl⟩ := hs
        exact goes_value G hn (s := Builtin.len_ ats o.type (args.map a.eval)) (by simp [execOp, ho, resolve, invoke, builtin]) (len_sound ht (by simp [hx]) (ev_rel hE hd) hr)
      case append =>
        simp only [Option.bind_eq_bind, Option.bind_eq_some_iff] at hs
        obtain ⟨t, ht, tx, htx, x, hx, y, hy, d, hd, e, he, hs⟩ := hs
        simp only [appendC, Option.bind_eq_bind, Option.bind_eq_some_iff] at hs
        obtain ⟨el, hel, el', hel', s, hsz, z, hz, i, hi, ⟨k, ys⟩, hsrc, hs⟩ := hs
        simp only at hs
        split at hs
        · rename_i hc
          obtain ⟨zi, zv, hzi, hzv, hall, rfl⟩ := zeroC_some hz
          rw [hi] at hzi
          cases hzi
          obtain ⟨si, hsi, hsz'⟩ := sz_info hsz
          rw [hi] at hsi
          cases hsi
          obtain ⟨news, hsrc', hrn⟩ := srcOf_sound (P := P) G (ev_rel hE he) (sliceE_some hel') hsrc hc.1
          obtain ⟨a0, a1⟩ := two hx hy
          refine goes_done hn (s := Builtin.append_ #[t, tx] o.type #[a.eval x, a.eval y]) ?_ (appendTo_sound G ok (sliceE_some hel) hi hsz' hzv hc.1 (by simpa using hc.2.1) hc.2.2 (ev_rel hE hd) hsrc' hrn hs)
          simp only [execOp, ho, resolve, pure_bind, invoke, builtin, append_congr ht htx a0 a1]
        · cases hs
      case copy =>
        simp only [Option.bind_eq_bind, Option.bind_eq_some_iff] at hs
        obtain ⟨t, ht, x, hx, y, hy, d, hd, e, he, hs⟩ := hs
        obtain ⟨a0, a1⟩ := two hx hy
        refine goes_done hn (s := Builtin.copy_ #[t, t] o.type #[a.eval x, a.eval y]) ?_ (copy_sound G (ev_rel hE hd) (ev_rel hE he) hs)
        simp only [execOp, ho, resolve, pure_bind, invoke, builtin, copy_congr (tx := t) ht a0 a1]
      case clear =>
        simp only [Option.bind_eq_bind, Option.bind_eq_some_iff, Option.some.injEq, Prod.mk.injEq] at hs
        obtain ⟨t, ht, x, hx, d, hd, h1, hst, rfl, rfl⟩ := hs
        obtain ⟨w', hrun, G', E, hl⟩ := clear_sound (P := P) (ty := o.type) (ats := ats) (args := args.map a.eval) G ht (by simp [hx]) (ev_rel hE hd) hst
        refine wp_value (u := .tuple #[]) (w' := w') (by simp [execOp, ho, resolve, invoke, builtin, hrun]) (hn _ w' S φ G' E ?_ (.inl (.inl ⟨rfl, hl⟩)))
        simp only [undefC, Rel]
        exact ⟨#[], rfl, by simp [RelL]⟩
      case min =>
        simp only [Option.bind_eq_bind, Option.bind_eq_some_iff, Option.some.injEq, Prod.mk.injEq] at hs
        obtain ⟨cs, hc, xs, hx, r, hr, rfl, rfl⟩ := hs
        have e := scalars_rel (evs_rel hE hc) hx
        refine goes_value G hn (s := Builtin.min_ #[] 0 xs.toArray) ?_ (pureV_sound hr)
        have e2 : args.map a.eval = xs.toArray := by rw [← e, ← Array.toList_map]
        simp only [execOp, ho, resolve, pure_bind, invoke, builtin, e2]
        rfl
      case max =>
        simp only [Option.bind_eq_bind, Option.bind_eq_some_iff, Option.some.injEq, Prod.mk.injEq] at hs
        obtain ⟨cs, hc, xs, hx, r, hr, rfl, rfl⟩ := hs
        have e := scalars_rel (evs_rel hE hc) hx
        refine goes_value G hn (s := Builtin.max_ #[] 0 xs.toArray) ?_ (pureV_sound hr)
        have e2 : args.map a.eval = xs.toArray := by rw [← e, ← Array.toList_map]
        simp only [execOp, ho, resolve, pure_bind, invoke, builtin, e2]
        rfl
    | invoke r m => simp [stepOp, calleeOf] at hs
    | value f =>
      simp only [stepOp, calleeOf, Option.bind_eq_bind, Option.bind_eq_some_iff] at hs
      obtain ⟨⟨g, caps⟩, ⟨d, hd, hg⟩, cs, hc, hs⟩ := hs
      obtain ⟨us, hus, hcaps⟩ := fnOf_rel (ev_rel hE hd) hg
      obtain ⟨⟨fn, code, hf, hname, hbody⟩, hcalls⟩ := hcall _ _ _ _ _ hs
      have hrel := RelL.append (evs_rel hE hc) hcaps
      have hrun : (execOp a.eval o).run P w = .ok (.enter g ((args.toList.map a.eval ++ us.toList).toArray)) w := by
        have e : (args.toList.map a.eval ++ us.toList).toArray = args.map a.eval ++ us := by apply Array.ext'; simp
        rw [e]
        have hname' : ¬ fn.name = "runtime.NumGoroutine" := by simpa using hname
        simp [execOp, ho, resolve, hus, Deferred.ofValue, invoke, callFunc, hf, hname', hbody]
      unfold Oper.wp
      rw [hrun, Oper.upon_enter]
      refine (hcalls w X S φ _ G sq hrel).mono fun e w' ⟨u, S', φ', he, G', E, hr, hnm⟩ => ?_
      subst he
      refine hn u w' S' φ' G' E hr ?_
      rcases hnm with ⟨rfl, rfl, rfl⟩ | hnm
      · exact .inl (.inl ⟨rfl, rfl⟩)
      · exact .inr ⟨hnm, rfl⟩
  | _ => simp [stepOp] at hs
/-- What a call by value promises of the model's. -/
def ValSound (P : Program) (vals : FuncId → Bool) (call : CallF) : Prop :=
  ∀ (f : FuncId) (cs : List C) (h : Heap) (c : C) (h' : Heap), vals f = true → call f cs h = some (c, h') →
    ∀ (w : World) (X S : Nat → Prop) (φ : Nat → Loc) (us : List Value), Good w X S φ h → SeqOk S h → RelL w (badOf X φ h) S φ cs us →
      Calls P f us.toArray w fun e w' => ∃ u, e = .returned u ∧ Good w' X S φ h ∧ Ext w S φ h w' S φ h ∧ Rel w' (badOf X φ h) S φ c u
/-- A call by value, whose names are those that were. -/
theorem val_sound {call : CallF} {vals : FuncId → Bool} (hcall : CallOk P call) (hvs : ValSound P vals call) (G : Good w X S φ h) (sq : SeqOk S h) {env : Env} (hE : RelE w (badOf X φ h) S φ env a.tmps) {q : Call} (ho : o.op = .call q) (hq : isCallV (.call q) = true)
    (hvq : ∀ f cs, calleeOf env q.callee = some (f, cs) → vals f = true) {c : C} {h' : Heap} (hs : stepOp P call none env h (.call q) = some (c, h')) (hn : ∀ u w', Good w' X S φ h → Ext w S φ h w' S φ h → Rel w' (badOf X φ h) S φ c u → next (a.put o.dst u) w') : o.wp P a w next Q := by
  obtain ⟨cal, args, ats⟩ := q
  cases cal with
  | builtin b => simp [isCallV] at hq
  | invoke r m => simp [stepOp, calleeOf] at hs
  | value f =>
    simp only [stepOp, calleeOf, Option.bind_eq_bind, Option.bind_eq_some_iff] at hs
    obtain ⟨⟨g, caps⟩, ⟨d, hd, hg⟩, cs, hc, hs⟩ := hs
    obtain ⟨us, hus, hcaps⟩ := fnOf_rel (ev_rel hE hd) hg
    obtain ⟨⟨fn, code, hf, hname, hbody⟩, _⟩ := hcall _ _ _ _ _ hs
    have hvg : vals g = true := hvq g caps (by simp only [calleeOf, hd, Option.bind_some, hg])
    have hcalls := hvs _ _ _ _ _ hvg hs
    have hrel := RelL.append (evs_rel hE hc) hcaps
    have hrun : (execOp a.eval o).run P w = .ok (.enter g ((args.toList.map a.eval ++ us.toList).toArray)) w := by
      have e : (args.toList.map a.eval ++ us.toList).toArray = args.map a.eval ++ us := by apply Array.ext'; simp
      rw [e]
      have hname' : ¬ fn.name = "runtime.NumGoroutine" := by simpa using hname
      simp [execOp, ho, resolve, hus, Deferred.ofValue, invoke, callFunc, hf, hname', hbody]
    unfold Oper.wp
    rw [hrun, Oper.upon_enter]
    refine (hcalls w X S φ _ G sq hrel).mono fun e w' ⟨u, he, G', E, hr⟩ => ?_
    subst he
    exact hn u w' G' E hr
end
end Go.Tm
