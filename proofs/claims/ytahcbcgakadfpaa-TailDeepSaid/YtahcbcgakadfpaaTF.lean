import Derived.Test.YtahcbcgakadfpaaTE
namespace Go.Tm
section
variable {P : Program} {call : CallF} {vals : FuncId → Bool} {N : Nat} {ops : Array Oper} {ds : List D} {st st' : St} {rs : List Rec}

/-- Room for rows that are to come. -/
def padD (n : Nat) (h : Heap) : Heap := h ++ List.replicate n .dead
theorem pad_len (n : Nat) (h : Heap) : (padD n h).length = h.length + n := by simp [padD]
theorem pad_at {n : Nat} {h : Heap} {l : Nat} {nd : Node} (e : (padD n h)[l]? = some nd) : h[l]? = some nd ∨ nd = .dead := by
  unfold padD at e
  rcases Nat.lt_or_ge l h.length with hl | hl
  · rw [List.getElem?_append_left hl] at e; exact .inl e
  · rw [List.getElem?_append_right hl, List.getElem?_replicate] at e
    split at e
    · cases e; exact .inr rfl
    · cases e
theorem live_pad {n : Nat} {h : Heap} {l : Nat} : live (padD n h) l ↔ live h l := by
  constructor
  · rintro ⟨nd, e, hd⟩
    rcases pad_at e with e | e
    · exact ⟨nd, e, hd⟩
    · exact absurd e hd
  · rintro ⟨nd, e, hd⟩
    refine ⟨nd, ?_, hd⟩
    unfold padD
    rw [List.getElem?_append_left (List.getElem?_eq_some_iff.1 e).1]
    exact e
theorem bad_pad {X : Nat → Prop} {φ : Nat → Loc} {n : Nat} {h : Heap} : badOf X φ (padD n h) = badOf X φ h := by
  funext b
  unfold badOf Own
  simp only [live_pad]
theorem good_pad {w : World} {X S : Nat → Prop} {φ : Nat → Loc} {h : Heap} {n : Nat} (G : Good w X S φ h) : Good w X S φ (padD n h) := by
  refine ⟨fun l nd e => ?_, fun l hl => G.inS l (live_pad.1 hl), fun l hl => G.size l (live_pad.1 hl), fun l m hl hm => G.inj l m (live_pad.1 hl) (live_pad.1 hm), G.xlt, fun l hl => G.apart l (live_pad.1 hl)⟩
  rw [bad_pad]
  rcases pad_at e with e | e
  · exact G.node l nd e
  · subst e; trivial
theorem ext_pad {w : World} {S : Nat → Prop} {φ : Nat → Loc} {h : Heap} {n : Nat} : Ext w S φ h w S φ (padD n h) :=
  ⟨rfl, rfl, rfl, Nat.le_refl _, fun _ _ _ => rfl, fun _ h => ⟨h, rfl⟩, fun l hl => .inl ⟨l, live_pad.1 hl, rfl⟩⟩
theorem new_names {S S' : Nat → Prop} {h h' : Heap} {al : Option Nat} (sq : SeqOk S h) (lt : ∀ s, al = some s → s < h.length) (n : Names S S' h h' al) : SeqOk S' h' ∧ ∀ l, S' l → S l ∨ l = (new h al .dead).1 := by
  rcases n with ⟨rfl, e⟩ | ⟨rfl, e⟩
  · exact ⟨fun l hl => by rw [e]; exact sq l hl, fun l hl => .inl hl⟩
  · refine ⟨fun l hl => ?_, fun l hl => hl⟩
    rw [e]
    cases al with
    | none =>
      simp only [new, List.length_append, List.length_cons, List.length_nil] at hl ⊢
      rcases hl with hl | hl
      · have := sq l hl; omega
      · omega
    | some s =>
      simp only [new, List.length_set] at hl ⊢
      rcases hl with hl | hl
      · exact sq l hl
      · have := lt s rfl; omega

theorem heap_const' (R : RunD P call ds st st' rs) (ok : DrawOk N ops ds) (hv : ValsOk vals call) (K : ChkOk vals rs) {q p : Nat} (hqp : q ≤ p) (hp : p ≤ rs.length) (hn : ∀ (x : Nat) (y : Rec), q ≤ x → x < p → rs[x]? = some y → ¬ chR y ∧ ¬ frR y) : hAt rs st' p = hAt rs st' q := by
  obtain ⟨k, rfl⟩ : ∃ k, p = q + k := ⟨p - q, by omega⟩
  exact heap_const R ok hv K q k hp hn
theorem heap_up' (R : RunD P call ds st st' rs) (ok : DrawOk N ops ds) (hv : ValsOk vals call) (K : ChkOk vals rs) {q p : Nat} (hqp : q ≤ p) (hp : p ≤ rs.length) (hn : ∀ (x : Nat) (y : Rec), q ≤ x → x < p → rs[x]? = some y → ¬ chR y) :
    Grows (hAt rs st' q) (hAt rs st' p) ∧ (hAt rs st' q).length ≤ (hAt rs st' p).length ∧ ∀ l, (hAt rs st' q).length ≤ l → l < (hAt rs st' p).length → ∃ (x : Nat) (y : Rec), q ≤ x ∧ x < p ∧ rs[x]? = some y ∧ frR y ∧ y.heap.length = l := by
  obtain ⟨k, rfl⟩ : ∃ k, p = q + k := ⟨p - q, by omega⟩
  exact heap_up R ok hv K q k hp hn

theorem draw_step (hcall : CallOk P call) (hv : ValsOk vals call) (hvs : ValSound P vals call) (R : RunD P call ds st st' rs) (ok : DrawOk N ops ds) (K : ChkOk vals rs) {X : Nat → Prop} {w0 w : World} {S0 S : Nat → Prop} {φ0 φ : Nat → Loc} {listed : Array Bool} {a : Act} {q : Nat} {kh : Heap}
    (I : Inv ops ds rs st st' N X w0 S0 φ0 listed a w S φ q kh) {i : Nat} (hi : i ∈ Region.ready .any ops listed) {Q : Exit → Act → World → Prop} {next : Act → World → Prop}
    (hn : ∀ a' w' S' φ' q' kh', Inv ops ds rs st st' N X w0 S0 φ0 (listed.setIfInBounds i true) a' w' S' φ' q' kh' → next a' w') : wpOp P ops Q i next a w := by
  obtain ⟨hun0, o, ho, hall⟩ := mem_ready.1 hi
  have hlt : i < ops.size := (Array.getElem?_eq_some_iff.1 ho).1
  obtain ⟨p, d, hd, rfl⟩ := ok.cover i hlt
  have hpl : p < rs.length := by rw [R.len]; exact (List.getElem?_eq_some_iff.1 hd).1
  have hr : rs[p]? = some (rs[p]'hpl) := List.getElem?_eq_getElem hpl
  generalize rs[p]'hpl = r at hr
  obtain ⟨hd', b, hwant, hon, hst, hoff⟩ := run_rec R hr
  rw [hd] at hd'
  cases hd'
  have hun : listed.getD r.d.ix false = false := by rw [getD_eq (by rw [I.size]; exact hlt) false true]; exact hun0
  obtain ⟨o', ho', htoI, hanc0, hpre⟩ := ok.op p r.d hd
  rw [ho] at ho'
  cases ho'
  obtain ⟨hdst, hop, hdlt, _⟩ := toI_eq htoI
  have hdlt' : ∀ t, r.d.i.dst = some t → t < N := fun t ht => hdlt t (by rw [← hdst]; exact ht)
  have hanc : ∀ x ∈ r.d.anc, listed.getD x false = true := fun x hx => by
    obtain ⟨e, he, hb, h⟩ := hanc0 x hx
    have hle := hall e he hb
    rcases h with rfl | ⟨y, d', hy, hyx, hxd⟩
    · exact hle
    · exact I.down y d' hy (by rw [hyx]; exact hle) x hxd
  have hE := I.env R ok hr hd hun hanc
  -- chains that are listed and lie behind p do not have p ahead of them
  have notanc : ∀ (x : Nat) (y : Rec), rs[x]? = some y → listed.getD y.d.ix false = true → r.d.ix ∉ y.d.anc := fun x y hy hly hm => by
    have := I.down x y.d (run_rec R hy).1 hly _ hm
    rw [hun] at this; cases this
  have hag : agree (opTmps r.d.i.op.operands.toList) r.env (keepE r.env (uses r.d.i)) := fun t ht => (look_keepE_mem _ _ _ (by unfold uses; exact List.mem_append.2 (.inl ht))).symm
  have hwant' : wantedC (keepE r.env (uses r.d.i)) r.d.i.g = some b := by
    rw [← hwant]
    refine (wantedC_agree fun t b' hg => ?_).symm
    refine (look_keepE_mem _ _ _ ?_).symm
    unfold uses
    rw [hg]
    simp
  have hw := wantedC_sound hE htoI hwant'
  -- who is made at any time and is ahead of what loads or turns the heap
  have frees_before : r.on = true → (r.d.cls = .chain ∨ r.d.cls = .load) → ∀ (x : Nat) (y : Rec), x < p → rs[x]? = some y → frR y → listed.getD y.d.ix false = true := fun _ hrc x y hx hy hf => by
    have hm := (ok.fr x p y.d r.d hx (run_rec R hy).1 hd).1 hf.2.1 hf.2.2 (by rcases hrc with h | h <;> simp [h])
    exact hanc _ hm
  have chains_listed : r.on = true → (r.d.cls = .chain ∨ r.d.cls = .load ∨ frR r) → ∀ (x : Nat) (y : Rec), x < p → rs[x]? = some y → chR y → listed.getD y.d.ix false = true := fun hro hrc x y hx hy hc => by
    rcases hrc with hrc | hrc | hrc
    · exact hanc _ (K.pair x p y r hx hy hr hc.1 hro hc.2 (.inl hrc))
    · exact hanc _ (K.pair x p y r hx hy hr hc.1 hro hc.2 (.inr hrc))
    · exact hanc _ ((ok.fr x p y.d r.d hx (run_rec R hy).1 hd).2 hc.2 hrc.2.1 hrc.2.2)
  have chains_before : r.on = true → (r.d.cls = .chain ∨ r.d.cls = .load ∨ frR r) → ∀ (x : Nat) (y : Rec), x < p → rs[x]? = some y → chR y → x < q := fun hro hrc x y hx hy hc => by
    have hly := chains_listed hro hrc x y hx hy hc
    rcases Nat.lt_or_ge x q with h | h
    · exact h
    · rw [I.after x y h hy hc.1 hc.2] at hly; cases hly
  -- no chain stands behind one that is still to be made
  have pend_chain : ∀ (x z : Nat) (y c : Rec), rs[x]? = some y → frR y → listed.getD y.d.ix false = false → x < z → z < q → rs[z]? = some c → chR c → False := fun x z y c hy hf hl hxz hzq hc hch => by
    have hm := (ok.fr x z y.d c.d hxz (run_rec R hy).1 (run_rec R hc).1).1 hf.2.1 hf.2.2 (.inr hch.2)
    have := I.down z c.d (run_rec R hc).1 (I.before z c hzq hc hch.1 hch.2) _ hm
    rw [hl] at this; cases this
  unfold wpOp
  rw [ho]
  simp only
  rw [hw]
  -- what goes on where the heap stays
  have stay : ¬ chR r → ¬ frR r → ∀ {u : Value} {w' : World} {S' : Nat → Prop} {φ' : Nat → Loc}, Good w' X S' φ' kh → SeqOk S' kh → (∀ l, S' l → S l) → Ext w S φ kh w' S' φ' kh → Rel w' (badOf X φ' kh) S' φ' r.c u → next (a.put r.d.i.dst u) w' :=
    fun hnc hnf u w' S' φ' G sq hS E hu => hn _ _ S' φ' q kh (I.put R ok hr hd hlt hdlt' hun hanc G sq E hu I.le (fun x y hx hy ho hc => .inr (I.before x y hx hy ho hc)) (fun x y hx hy ho hc => ⟨fun e => by
      have : x = p := ok.inj x p y.d r.d (run_rec R hy).1 hd e
      subst this; rw [hr] at hy; cases hy; exact hnc ⟨ho, hc⟩, I.after x y hx hy ho hc⟩) I.klen (fun l => by
      rcases I.kat l with h | ⟨x, y, h1, h2, h3, h4, h5⟩
      · exact .inl h
      · exact .inr ⟨x, y, h1, h2, h3, fun e => by subst e; rw [hr] at h2; cases h2; exact hnf h3, h4, h5⟩)
      (fun x y hx hy hf hne hl => by
        obtain ⟨h1, h2⟩ := I.pend x y hx hy hf hl
        exact ⟨h1, fun h => h2 (hS _ h)⟩)
      (fun x y hx hy hf => ⟨fun e => by subst e; rw [hr] at hy; cases hy; exact hnf hf, I.late x y hx hy hf⟩))
  cases b with
  | false =>
    rw [if_neg (by simp), ← hdst]
    refine stay (fun h => by have := h.1; rw [hon] at this; cases this) (fun h => by have := h.1; rw [hon] at this; cases this) I.good I.seq (fun _ h => h) (Ext.refl _ _ _ _) ?_
    rw [(hoff rfl).1]
    exact undef_rel
  | true =>
    rw [if_pos rfl]
    refine .inl ?_
    have hst := hst rfl
    cases hcl : r.d.cls with
    | pure =>
      rcases (ok.cls p r.d hd).1 hcl with hpu | hpu
      · have hnf : ¬ frR r := fun h => by
          have := h.2.2
          cases hx : r.d.i.op <;> rw [hx] at this hpu <;> simp [isNew] at this <;> simp [pureOk] at hpu
        have hcv : ¬ isCallV r.d.i.op = true := fun h => by
          cases hx : r.d.i.op <;> rw [hx] at h hpu <;> simp only [isCallV, Bool.false_eq_true] at h
          rename_i z
          obtain ⟨cal, args, ats⟩ := z
          cases cal <;> simp [pureOk] at hpu <;> simp at h
        have hp := (pure_any hpu hst).2 kh
        rw [stepOp_agree hag] at hp
        refine op_sound hcall I.good I.seq hE I.seq.alloc hop.symm hp fun u w' S' φ' G' E' hrel hnm => ?_
        rw [← hdst]
        have hS := names_same hcv hnm
        subst hS
        exact stay (fun h => by have := h.2; rw [hcl] at this; cases this) hnf G' I.seq (fun _ h => h) E' hrel
      · have hfr : frR r := ⟨hon, hcl, hpu⟩
        obtain ⟨nd, hnd, hstep⟩ := free_new R hr hfr
        have hnext := (run_step R hr).1
        rcases Nat.lt_or_ge p q with hpq | hqp
        · -- it is made late, where room was left for it
          obtain ⟨hdead, hnS⟩ := I.pend p r hpq hr hfr hun
          have hslot : r.heap.length < kh.length := (List.getElem?_eq_some_iff.1 hdead).1
          have hp := hstep (some r.heap.length) kh rfl
          rw [stepOp_agree hag] at hp
          have hok : AllocOk S kh (some r.heap.length) := ⟨hnS, fun s e => by cases e; exact hslot⟩
          refine new_sound I.good hE hok hop.symm hpu hp fun u w' S' φ' G' E' hrel hnm => ?_
          rw [← hdst]
          obtain ⟨sq', hS'⟩ := new_names I.seq (fun s e => by cases e; exact hslot) hnm
          have hcl2 : ¬ chR r := fun h => by have := h.2; rw [hcl] at this; cases this
          have e2 : (new kh (some r.heap.length) nd).2 = kh.set r.heap.length nd := rfl
          rw [e2] at G' E' hrel sq'
          refine hn _ _ S' φ' q (kh.set r.heap.length nd) (I.put R ok hr hd hlt hdlt' hun hanc G' sq' E' hrel I.le (fun x y hx hy ho hc => .inr (I.before x y hx hy ho hc)) (fun x y hx hy ho hc => ⟨fun e => by
            have : x = p := ok.inj x p y.d r.d (run_rec R hy).1 hd e
            subst this; rw [hr] at hy; cases hy; exact hcl2 ⟨ho, hc⟩, I.after x y hx hy ho hc⟩) (by rw [List.length_set]; exact I.klen) (fun l => ?_) (fun x y hx hy hf hne hl => ?_) (fun x y hx hy hf => ⟨fun e => by omega, I.late x y hx hy hf⟩))
          · by_cases el : l = r.heap.length
            · left
              subst el
              rw [List.getElem?_set_self hslot]
              have hup := (heap_up' R ok hv K (q := p + 1) (p := q) (by omega) I.le (fun z c h1 h2 h3 h4 => pend_chain p z r c hr hfr hun (by omega) h2 h3 h4)).1
              refine (hup _ nd ?_).symm
              rw [hnext, hnd]; simp
            · rw [List.getElem?_set_ne (fun e => el e.symm)]
              rcases I.kat l with h | ⟨x, y, h1, h2, h3, h4, h5⟩
              · exact .inl h
              · refine .inr ⟨x, y, h1, h2, h3, fun e => ?_, h4, h5⟩
                subst e; rw [hr] at h2; cases h2; exact el h5.symm
          · obtain ⟨h1, h2⟩ := I.pend x y hx hy hf hl
            have hd2 : y.heap.length ≠ r.heap.length := fun e => by
              rcases Nat.lt_trichotomy x p with h | h | h
              · have := slot_lt R ok hv K h hy hr hf; omega
              · exact hne h
              · have := slot_lt R ok hv K h hr hy hfr; omega
            refine ⟨by rw [List.getElem?_set_ne (fun e => hd2 e.symm)]; exact h1, fun h => ?_⟩
            rcases hS' _ h with h | h
            · exact h2 h
            · exact hd2 h
        · -- it is made ahead of all that stands behind it
          have nochain : ∀ (x : Nat) (y : Rec), q ≤ x → x < p → rs[x]? = some y → ¬ chR y := fun x y h1 h2 hy hc => by
            have := chains_before hon (.inr (.inr hfr)) x y h2 hy hc
            omega
          obtain ⟨hg, hlen, hnews⟩ := heap_up' R ok hv K hqp (by omega) nochain
          rw [hAt_some hr] at hg hlen hnews
          have hkl : (padD (r.heap.length - kh.length) kh).length = r.heap.length := by rw [pad_len, I.klen]; omega
          have hp := hstep none (padD (r.heap.length - kh.length) kh) hkl
          rw [stepOp_agree hag] at hp
          have hE2 : RelE w (badOf X φ (padD (r.heap.length - kh.length) kh)) S φ (keepE r.env (uses r.d.i)) a.tmps := by rw [bad_pad]; exact hE
          have sq2 : SeqOk S (padD (r.heap.length - kh.length) kh) := fun l hl => by rw [pad_len]; have := I.seq l hl; omega
          refine new_sound (good_pad I.good) hE2 sq2.alloc hop.symm hpu hp fun u w' S' φ' G' E' hrel hnm => ?_
          rw [← hdst]
          obtain ⟨sq', hS'⟩ := new_names sq2 (fun s e => by cases e) hnm
          have e2 : (new (padD (r.heap.length - kh.length) kh) none nd).2 = padD (r.heap.length - kh.length) kh ++ [nd] := rfl
          have e3 : (new (padD (r.heap.length - kh.length) kh) none .dead).1 = r.heap.length := hkl
          rw [e2] at G' E' hrel sq'
          rw [e3] at hS'
          have hcl2 : ¬ chR r := fun h => by have := h.2; rw [hcl] at this; cases this
          refine hn _ _ S' φ' (p + 1) (padD (r.heap.length - kh.length) kh ++ [nd]) (I.put R ok hr hd hlt hdlt' hun hanc G' sq' (ext_pad.trans E') hrel (by omega) (fun x y hx hy ho hc => ?_) (fun x y hx hy ho hc => ⟨fun e => ?_, I.after x y (by omega) hy ho hc⟩) ?_ (fun l => ?_) (fun x y hx hy hf hne hl => ?_) (fun x y hx hy hf => ⟨by omega, I.late x y (by omega) hy hf⟩))
          · by_cases e : x = p
            · subst e; rw [hr] at hy; cases hy; exact .inl rfl
            · exact .inr (I.before x y (chains_before hon (.inr (.inr hfr)) x y (by omega) hy ⟨ho, hc⟩) hy ho hc)
          · have : x = p := ok.inj x p y.d r.d (run_rec R hy).1 hd e
            omega
          · rw [hnext, hnd, List.length_append, List.length_append, hkl]
          · rw [hnext, hnd]
            rcases Nat.lt_trichotomy l r.heap.length with hl | hl | hl
            · rw [List.getElem?_append_left (by rw [hkl]; exact hl), List.getElem?_append_left hl]
              rcases Nat.lt_or_ge l kh.length with hlk | hlk
              · have ep : (padD (r.heap.length - kh.length) kh)[l]? = kh[l]? := by unfold padD; rw [List.getElem?_append_left hlk]
                rw [ep]
                rcases I.kat l with h | ⟨x, y, h1, h2, h3, h4, h5⟩
                · left
                  rw [h]
                  have hx : (hAt rs st' q)[l]? = some ((hAt rs st' q)[l]'(by rw [← I.klen]; exact hlk)) := List.getElem?_eq_getElem _
                  rw [hx, hg _ _ hx]
                · exact .inr ⟨x, y, by omega, h2, h3, by omega, h4, h5⟩
              · obtain ⟨x, y, h1, h2, h3, h4, h5⟩ := hnews l (by rw [← I.klen]; exact hlk) hl
                exact .inr ⟨x, y, by omega, h3, h4, by omega, I.late x y h1 h3 h4, h5⟩
            · left
              subst hl
              rw [List.getElem?_append_right (by rw [hkl]; exact Nat.le_refl _), List.getElem?_append_right (Nat.le_refl _), hkl]
            · left
              rw [List.getElem?_eq_none (by rw [List.length_append, hkl]; simp; omega), List.getElem?_eq_none (by rw [List.length_append]; simp; omega)]
          · rcases Nat.lt_or_ge x q with hxq | hxq
            · obtain ⟨h1, h2⟩ := I.pend x y hxq hy hf hl
              have hs := (List.getElem?_eq_some_iff.1 h1).1
              refine ⟨by rw [List.getElem?_append_left (by rw [pad_len]; omega)]; unfold padD; rw [List.getElem?_append_left hs]; exact h1, fun h => ?_⟩
              rcases hS' _ h with h | h
              · exact h2 h
              · have := slot_lt R ok hv K (x := x) (y := p) (by omega) hy hr hf; omega
            · have hs1 := slot_lt R ok hv K (x := x) (y := p) (by omega) hy hr hf
              have hs2 := heap_mono' R ok hv K hxq (by omega)
              rw [hAt_some hy, ← I.klen] at hs2
              refine ⟨?_, fun h => ?_⟩
              · rw [List.getElem?_append_left (by rw [hkl]; exact hs1)]
                unfold padD
                rw [List.getElem?_append_right hs2, List.getElem?_replicate, if_pos (by omega)]
              · rcases hS' _ h with h | h
                · have := I.seq _ h; omega
                · omega
    | load =>
      have hlo := K.load p r hr hon hcl
      have hnc : ¬ chR r := fun h => by have := h.2; rw [hcl] at this; cases this
      have hnf : ¬ frR r := fun h => by have := h.2.1; rw [hcl] at this; cases this
      -- what is still to be made lies behind
      have behind : ∀ l, l < r.heap.length → l < kh.length → kh[l]? = (hAt rs st' q)[l]? := fun l hl _ => by
        rcases I.kat l with h | ⟨x, y, h1, h2, h3, h4, h5⟩
        · exact h
        · exfalso
          rcases Nat.lt_trichotomy x p with h | h | h
          · have := frees_before hon (.inr hcl) x y h h2 h3
            rw [h4] at this; cases this
          · subst h; rw [hr] at h2; cases h2; exact hnf h3
          · have := heap_mono' R ok hv K (q := p) (p := x) (by omega) (by have := (List.getElem?_eq_some_iff.1 h2).1; omega)
            rw [hAt_some hr, hAt_some h2] at this
            omega
      have hp : stepOp P call none r.env kh r.d.i.op = some (r.c, kh) := by
        have hsame := load_any hv hlo hst
        rcases Nat.lt_or_ge p q with hpq | hqp
        · have hml := heap_mono' R ok hv K (q := p) (p := q) (by omega) I.le
          rw [hAt_some hr] at hml
          by_cases hex : ∃ (x : Nat) (y : Rec), p ≤ x ∧ x < q ∧ rs[x]? = some y ∧ chR y
          · have between : ∀ (x : Nat) (y : Rec), p ≤ x → x < q → rs[x]? = some y → y.on = true → y.d.cls = .chain → Tm.apart r y = true := fun x y h1 h2 hy hyo hyc => by
              have hpx : p < x := by
                rcases Nat.lt_or_ge p x with h | h
                · exact h
                · have : x = p := by omega
                  subst this; rw [hr] at hy; cases hy; rw [hcl] at hyc; cases hyc
              exact (K.apart p x r y hpx hr hy hon hyo hcl hyc).resolve_left (notanc x y hy (I.before x y h2 hy hyo hyc))
            obtain ⟨x, y, h1, h2, hy, hyo, hyc⟩ := hex
            have hap := between x y h1 h2 hy hyo hyc
            unfold Tm.apart at hap
            cases hro : readRow r.env r.d.i.op with
            | none => rw [hro] at hap; cases hap
            | some ro =>
              refine read_row hv hlo hro (fun a ea => ?_) hst
              subst ea
              have hlr := read_lt hro hst
              have hlr2 := hlr
              rw [← hAt_some (st' := st') hr] at hlr
              obtain ⟨k, hk⟩ : ∃ k, q = p + k := ⟨q - p, by omega⟩
              have hrow := (heap_row R ok hv K p a hlr k (by rw [← hk]; exact I.le) fun x' y' g1 g2 hy' ho' hc' => by
                have hap' := between x' y' g1 (by omega) hy' ho' hc'
                unfold Tm.apart at hap'
                rw [hro] at hap'
                exact hap').1
              rw [← hk] at hrow
              rw [behind a hlr2 (by rw [I.klen]; omega), hrow, hAt_some hr]
          · have hup := (heap_up' R ok hv K (q := p) (p := q) (by omega) I.le (fun x y h1 h2 h3 h4 => hex ⟨x, y, h1, h2, h3, h4⟩)).1
            rw [hAt_some hr] at hup
            refine load_grow hv hlo hst fun l x hx => ?_
            have hl := (List.getElem?_eq_some_iff.1 hx).1
            rw [behind l hl (by rw [I.klen]; omega)]
            exact hup l x hx
        · have heq : hAt rs st' q = r.heap := by
            rw [← hAt_some (st' := st') hr]
            exact (heap_const' R ok hv K hqp (by omega) fun x y h1 h2 hy => ⟨fun hc => by
              have := chains_before hon (.inr (.inl hcl)) x y h2 hy hc
              omega, fun hf => by
              have h3 := frees_before hon (.inr hcl) x y h2 hy hf
              rw [I.late x y h1 hy hf] at h3; cases h3⟩).symm
          have hk : kh = r.heap := by
            refine List.ext_getElem? fun l => ?_
            by_cases hl : l < r.heap.length
            · rw [behind l hl (by rw [I.klen, heq]; exact hl), heq]
            · rw [List.getElem?_eq_none (by rw [I.klen, heq]; omega), List.getElem?_eq_none (by omega)]
          rw [hk]
          rw [hsame] at hst
          exact hst
      rw [stepOp_agree hag] at hp
      by_cases hcv : isCallV r.d.i.op = true
      · obtain ⟨z, hz⟩ : ∃ z, r.d.i.op = .call z := by
          cases hx : r.d.i.op <;> rw [hx] at hcv <;> simp [isCallV] at hcv
          exact ⟨_, rfl⟩
        rw [hz] at hp hcv hlo
        have hva : ∀ f cs, calleeOf (keepE r.env (uses r.d.i)) z.callee = some (f, cs) → vals f = true := fun f cs hf => by
          have he : calleeOf r.env z.callee = calleeOf (keepE r.env (uses r.d.i)) z.callee := by
            cases hx : z.callee with
            | value y =>
              simp only [calleeOf]
              rw [ev_agree hag (by rw [hz]; simp [Op.operands, Call.operands, hx])]
            | _ => rfl
          simp only [loadOk, he, hf] at hlo
          exact hlo
        refine val_sound hcall hvs I.good I.seq hE (by rw [← hop]; exact hz) hcv hva hp fun u w' G' E' hrel => ?_
        rw [← hdst]
        exact stay hnc hnf G' I.seq (fun _ h => h) E' hrel
      · refine op_sound hcall I.good I.seq hE I.seq.alloc hop.symm hp fun u w' S' φ' G' E' hrel hnm => ?_
        rw [← hdst]
        have hS := names_same hcv hnm
        subst hS
        exact stay hnc hnf G' I.seq (fun _ h => h) E' hrel
    | chain =>
      have hnf : ¬ frR r := fun h => by have := h.2.1; rw [hcl] at this; cases this
      have hqp : q ≤ p := by
        rcases Nat.lt_or_ge p q with h | h
        · have := I.before p r h hr hon hcl
          rw [hun] at this; cases this
        · exact h
      have heq : hAt rs st' q = r.heap := by
        rw [← hAt_some (st' := st') hr]
        exact (heap_const' R ok hv K hqp (by omega) fun x y h1 h2 hy => ⟨fun hc => by
          have := chains_before hon (.inl hcl) x y h2 hy hc
          omega, fun hf => by
          have h3 := frees_before hon (.inl hcl) x y h2 hy hf
          rw [I.late x y h1 hy hf] at h3; cases h3⟩).symm
      have hk : kh = r.heap := by
        refine List.ext_getElem? fun l => ?_
        rw [← heq]
        rcases I.kat l with h | ⟨x, y, h1, h2, h3, h4, h5⟩
        · exact h
        · exfalso
          have := frees_before hon (.inl hcl) x y (by omega) h2 h3
          rw [h4] at this; cases this
      have hnext := (run_step R hr).1
      have hp : stepOp P call none (keepE r.env (uses r.d.i)) kh r.d.i.op = some (r.c, hAt rs st' (p + 1)) := by
        rw [← stepOp_agree hag, hk, hnext]
        exact hst
      refine op_sound hcall I.good I.seq hE I.seq.alloc hop.symm hp fun u w' S' φ' G' E' hrel hnm => ?_
      rw [← hdst]
      refine hn _ _ S' φ' (p + 1) (hAt rs st' (p + 1)) (I.put R ok hr hd hlt hdlt' hun hanc G' (I.seq.next hnm) E' hrel (by omega) (fun x y hx hy ho hc => ?_) (fun x y hx hy ho hc => ?_) rfl (fun l => .inl rfl) (fun x y hx hy hf hne hl => ?_) (fun x y hx hy hf => ⟨by omega, I.late x y (by omega) hy hf⟩))
      · by_cases e : x = p
        · subst e; rw [hr] at hy; cases hy; exact .inl rfl
        · exact .inr (I.before x y (chains_before hon (.inl hcl) x y (by omega) hy ⟨ho, hc⟩) hy ho hc)
      · refine ⟨fun e => ?_, ?_⟩
        · have : x = p := ok.inj x p y.d r.d (run_rec R hy).1 hd e
          omega
        · exact I.after x y (by omega) hy ho hc
      · exfalso
        have := frees_before hon (.inl hcl) x y (by omega) hy hf
        rw [hl] at this; cases this

theorem draw_all (hcall : CallOk P call) (hv : ValsOk vals call) (hvs : ValSound P vals call) (R : RunD P call ds st st' rs) (ok : DrawOk N ops ds) (K : ChkOk vals rs) {X : Nat → Prop} {w0 : World} {S0 : Nat → Prop} {φ0 : Nat → Loc} {Q : Exit → Act → World → Prop}
    (hq : ∀ S' φ' a' w', At N X st' S' φ' a' w' → Ext w0 S0 φ0 st.heap w' S' φ' st'.heap → Q .normal a' w') : ∀ (fuel : Nat) {w : World} {S : Nat → Prop} {φ : Nat → Loc} {listed : Array Bool} {a : Act} {q : Nat} {kh : Heap},
    Inv ops ds rs st st' N X w0 S0 φ0 listed a w S φ q kh → (listed.toList.count false ≤ fuel) → wpAny P .any ops Q fuel listed a w := by
  -- behind all
  have fin : ∀ {w : World} {S : Nat → Prop} {φ : Nat → Loc} {listed : Array Bool} {a : Act} {q : Nat} {kh : Heap}, Inv ops ds rs st st' N X w0 S0 φ0 listed a w S φ q kh → Region.ready .any ops listed = [] → Q .normal a w := by
    intro w S φ listed a q kh I h0
    have all : ∀ (p : Nat) (d : D), ds[p]? = some d → listed.getD d.ix false = true := by
      intro p
      induction p using Nat.strongRecOn with
      | _ p ih =>
        intro d hd
        obtain ⟨o, ho, _, _, hpre⟩ := ok.op p d hd
        have hlt : d.ix < ops.size := (Array.getElem?_eq_some_iff.1 ho).1
        cases hl : listed.getD d.ix false with
        | true => rfl
        | false =>
          exfalso
          have hm : d.ix ∈ Region.ready .any ops listed := by
            refine mem_ready.2 ⟨by rw [getD_eq (by rw [I.size]; exact hlt) true false]; exact hl, o, ho, fun e he hb => ?_⟩
            obtain ⟨q', d', hq', hd', hix⟩ := hpre e he hb
            rw [← hix]
            exact ih q' hq' d' hd'
          rw [h0] at hm
          cases hm
    have hlast : hAt rs st' rs.length = st'.heap := by simp [hAt]
    have hel : eAt rs st' rs.length = st'.env := by simp [eAt]
    have heq : st'.heap = kh := by
      rw [← hlast]
      have h1 : hAt rs st' rs.length = hAt rs st' q := heap_const' R ok hv K I.le (Nat.le_refl _) fun x y h1 _ hy => ⟨(fun hc => by
        have h2 := I.after x y h1 hy hc.1 hc.2
        rw [all x y.d (run_rec R hy).1] at h2
        cases h2), (fun hf => by
        have h2 := I.late x y h1 hy hf
        rw [all x y.d (run_rec R hy).1] at h2
        cases h2)⟩
      rw [h1]
      refine List.ext_getElem? fun l => ?_
      rcases I.kat l with h | ⟨x, y, _, h2, _, h4, _⟩
      · exact h.symm
      · rw [all x y.d (run_rec R h2).1] at h4; cases h4
    refine hq S φ a w ⟨by rw [heq]; exact I.good, by rw [heq]; exact I.seq, fun t c hc => ?_, I.tmps, I.defers⟩ (by rw [heq]; exact I.ext)
    rw [heq]
    rw [← hel] at hc
    rcases env_last R t c rs.length (Nat.le_refl _) hc with ⟨x, y, hx, hy, hdy, rfl, hno⟩ | ⟨hno, hb⟩
    · exact I.writ t x y hy (all x y.d (run_rec R hy).1) hdy fun z v hz hv _ => hno z v hz ((List.getElem?_eq_some_iff.1 hv).1) hv
    · exact I.base t c (fun z v hv _ => hno z v ((List.getElem?_eq_some_iff.1 hv).1) hv) hb
  intro fuel
  induction fuel with
  | zero =>
    intro w S φ listed a q kh I hf
    have hr : Region.ready .any ops listed = [] := by
      cases hrd : Region.ready .any ops listed with
      | nil => rfl
      | cons i l =>
        exfalso
        have hm : i ∈ Region.ready .any ops listed := by rw [hrd]; simp
        obtain ⟨hun, o, ho, _⟩ := mem_ready.1 hm
        have hlt : i < listed.size := by rw [I.size]; exact (Array.getElem?_eq_some_iff.1 ho).1
        have : false ∈ listed.toList := by
          have h2 : listed[i] = false := by simpa [hlt] using hun
          rw [← h2]
          exact Array.mem_toList_iff.2 (Array.getElem_mem hlt)
        have := List.count_pos_iff.2 this
        omega
    exact ⟨hr, fin I hr⟩
  | succ fuel ih =>
    intro w S φ listed a q kh I hf
    refine ⟨fin I, fun i hi => draw_step hcall hv hvs R ok K I hi fun a' w' S' φ' q' kh' I' => ih I' ?_⟩
    obtain ⟨hun, o, ho, _⟩ := mem_ready.1 hi
    have hlt : i < listed.size := by rw [I.size]; exact (Array.getElem?_eq_some_iff.1 ho).1
    have h2 : listed[i] = false := by simpa [hlt] using hun
    have hcnt : (listed.setIfInBounds i true).toList.count false + 1 = listed.toList.count false := by
      simp only [Array.toList_setIfInBounds]
      have hlt' : i < listed.toList.length := by simpa using hlt
      have h3 : listed.toList[i] = false := by simpa using h2
      have hmem : false ∈ listed.toList := by rw [← h3]; exact List.getElem_mem hlt'
      have hpos := List.count_pos_iff.2 hmem
      rw [List.count_set hlt', h3]
      have e : (true == false) = false := rfl
      rw [e]
      simp only [beq_self_eq_true, if_true, Bool.false_eq_true, if_false, Nat.add_zero]
      exact Nat.sub_add_cancel hpos
    omega

theorem ext_drew {w : World} {S : Nat → Prop} {φ : Nat → Loc} {h : Heap} : Ext w S φ h { w with drawn := w.drawn + 1 } S φ h :=
  ⟨rfl, rfl, rfl, Nat.le_refl _, fun _ _ _ => rfl, fun _ h => ⟨h, rfl⟩, fun l hl => .inl ⟨l, hl, rfl⟩⟩

theorem Good.same {w w' : World} {X S : Nat → Prop} {φ : Nat → Loc} {h : Heap} (G : Good w X S φ h) (E : Ext w S φ h w' S φ h) (hk : ∀ b, b < w.heap.size → w'.heap[b]? = w.heap[b]?) : Good w' X S φ h := by
  have L := E.later (X := X)
  refine ⟨fun l x hx => ?_, G.inS, fun l hl => Nat.lt_of_lt_of_le (G.size l hl) E.size, G.inj, fun b hb => Nat.lt_of_lt_of_le (G.xlt b hb) E.size, G.apart⟩
  have hok := G.node l x hx
  cases x with
  | dead => trivial
  | row ez cs =>
    simp only [OkNode] at hok ⊢
    obtain ⟨h1, h2, h3, h4, h5⟩ := hok
    have hs := G.size l (live_of_row hx)
    refine ⟨h1, h2, h3, fun j hj => ?_, RelAt.moved L h5 fun j u _ hu => ?_⟩
    · rw [cell_of_heap (hk _ hs), World.frozen?_of_block (a := ⟨(φ l).block, (φ l).base + j, none⟩) (hk _ hs)]
      exact h4 j hj
    · rw [cell_of_heap (hk _ hs)]; exact hu
  | map es clock =>
    simp only [OkNode] at hok ⊢
    rw [hk _ (G.size l ⟨_, hx, by simp⟩)]
    exact hok

theorem draw_sound (hcall : CallOk P call) (hv : ValsOk vals call) (hvs : ValSound P vals call) (hmix : P.follows .mixedOrders = true) (ok : DrawOk N ops ds) (hr : recsD P call ds st = some (rs, st')) (hc : chk vals rs [] [] = true) {id : Nat} {X S : Nat → Prop} {φ : Nat → Loc} {a : Act} {w : World}
    (A : At N X st S φ a w) {Q : Exit → Act → World → Prop} (hq : ∀ S' φ' a' w', At N X st' S' φ' a' w' → Ext w S φ st.heap w' S' φ' st'.heap → Q .normal a' w') : (Code.region id ops true).wp P Q a w := by
  have R := recsD_run hr
  have K := (chk_some hc).1
  have E0 : Ext w S φ st.heap { w with drawn := w.drawn + 1 } S φ st.heap := ext_drew
  refine wp_region_any hmix (draw_all hcall hv hvs R ok K hq ops.size (q := 0) (kh := st.heap) (w := { w with drawn := w.drawn + 1 }) (S := S) (φ := φ) ⟨by simp, A.good.same E0 (fun _ _ => rfl), A.seq, A.size, A.defers,
    E0, fun p d _ h => ?_, Nat.zero_le _, fun p r h => by omega, fun p r _ hr _ _ => ?_, fun t p r hr h => ?_, fun t c _ hb => ?_, by rw [(run_zero R).1], fun l => .inl (by rw [(run_zero R).1]), fun x y hx => by omega, fun x y _ _ _ => ?_⟩ ?_)
  · exfalso; revert h; simp only [Array.getD_eq_getD_getElem?, Array.getElem?_replicate]; split <;> simp
  · simp only [Array.getD_eq_getD_getElem?, Array.getElem?_replicate]; split <;> simp
  · exfalso; revert h; simp only [Array.getD_eq_getD_getElem?, Array.getElem?_replicate]; split <;> simp
  · exact (A.env.later E0.later) t c hb
  · simp only [Array.getD_eq_getD_getElem?, Array.getElem?_replicate]; split <;> simp
  · simp
end
end Go.Tm
