import Derived.Test.YtkcimaibaicdcaaTE
namespace Go.Tm
section
variable {P : Program} {call : CallF} {vals : FuncId → Bool} {N : Nat} {ops : Array Oper} {ds : List D} {st st' : St} {rs : List Rec}

theorem heap_const' (R : RunD P call ds st st' rs) (ok : DrawOk N ops ds) (hv : ValsOk vals call) (K : ChkOk vals rs) {q p : Nat} (hqp : q ≤ p) (hp : p ≤ rs.length) (hn : ∀ (x : Nat) (y : Rec), q ≤ x → x < p → rs[x]? = some y → ¬ (y.on = true ∧ y.d.cls = .chain)) : hAt rs st' p = hAt rs st' q := by
  obtain ⟨k, rfl⟩ : ∃ k, p = q + k := ⟨p - q, by omega⟩
  exact heap_const R ok hv K q k hp hn

theorem draw_step (hcall : CallOk P call) (hv : ValsOk vals call) (R : RunD P call ds st st' rs) (ok : DrawOk N ops ds) (K : ChkOk vals rs) {X : Nat → Prop} {w0 w : World} {S0 S : Nat → Prop} {φ0 φ : Nat → Loc} {listed : Array Bool} {a : Act} {q : Nat}
    (I : Inv ops ds rs st st' N X w0 S0 φ0 listed a w S φ q) {i : Nat} (hi : i ∈ Region.ready .any ops listed) {Q : Exit → Act → World → Prop} {next : Act → World → Prop}
    (hn : ∀ a' w' S' φ' q', Inv ops ds rs st st' N X w0 S0 φ0 (listed.setIfInBounds i true) a' w' S' φ' q' → next a' w') : wpOp P ops Q i next a w := by
  obtain ⟨hun0, o, ho, hall⟩ := mem_ready.1 hi
  have hlt : i < ops.size := (Array.getElem?_eq_some_iff.1 ho).1
  obtain ⟨p, d, hd, rfl⟩ := ok.cover i hlt
  have hpl : p < rs.length := by rw [R.len]; exact (List.getElem?_eq_some_iff.1 hd).1
  have hr : rs[p]? = some (rs[p]'hpl) := List.getElem?_eq_getElem hpl
  generalize rs[p]'hpl = r at hr
  obtain ⟨hd', b, hwant, hon, hst, hoff⟩ := run_rec R hr
  rw [hd] at hd'
  cases hd'
  have hun : listed.getD r.d.ix false = false := by rw [getD_eq (by rw [I.size]; exact hlt) false true]; exact hun0
  obtain ⟨o', ho', htoI, hanc0, hpre⟩ := ok.op p r.d hd
  rw [ho] at ho'
  cases ho'
  obtain ⟨hdst, hop, hdlt, _⟩ := toI_eq htoI
  have hdlt' : ∀ t, r.d.i.dst = some t → t < N := fun t ht => hdlt t (by rw [← hdst]; exact ht)
  have hanc : ∀ x ∈ r.d.anc, listed.getD x false = true := fun x hx => by
    obtain ⟨e, he, hb, h⟩ := hanc0 x hx
    have hle := hall e he hb
    rcases h with rfl | ⟨y, d', hy, hyx, hxd⟩
    · exact hle
    · exact I.down y d' hy (by rw [hyx]; exact hle) x hxd
  have hE := I.env R ok hr hd hun hanc
  -- chains that are listed and lie behind p do not have p ahead of them
  have notanc : ∀ (x : Nat) (y : Rec), rs[x]? = some y → listed.getD y.d.ix false = true → r.d.ix ∉ y.d.anc := fun x y hy hly hm => by
    have := I.down x y.d (run_rec R hy).1 hly _ hm
    rw [hun] at this; cases this
  have hag : agree (opTmps r.d.i.op.operands.toList) r.env (keepE r.env (uses r.d.i)) := fun t ht => (look_keepE_mem _ _ _ (by unfold uses; exact List.mem_append.2 (.inl ht))).symm
  have hwant' : wantedC (keepE r.env (uses r.d.i)) r.d.i.g = some b := by
    rw [← hwant]
    refine (wantedC_agree fun t b' hg => ?_).symm
    refine (look_keepE_mem _ _ _ ?_).symm
    unfold uses
    rw [hg]
    simp
  have hw := wantedC_sound hE htoI hwant'
  -- the positions of the chains against q
  have chains_before : r.on = true → (r.d.cls = .chain ∨ r.d.cls = .load) → ∀ (x : Nat) (y : Rec), x < p → rs[x]? = some y → y.on = true → y.d.cls = .chain → x < q := fun hro hrc x y hx hy hyo hyc => by
    have hm := K.pair x p y r hx hy hr hyo hro hyc hrc
    have hly := hanc _ hm
    rcases Nat.lt_or_ge x q with h | h
    · exact h
    · rw [I.after x y h hy hyo hyc] at hly; cases hly
  unfold wpOp
  rw [ho]
  simp only
  rw [hw]
  -- what goes on where the heap stays
  have stay : ¬ (r.on = true ∧ r.d.cls = .chain) → ∀ {u : Value} {w' : World} {S' : Nat → Prop} {φ' : Nat → Loc}, Good w' X S' φ' (hAt rs st' q) → SeqOk S' (hAt rs st' q) → Ext w S φ (hAt rs st' q) w' S' φ' (hAt rs st' q) → Rel w' (badOf X φ' (hAt rs st' q)) S' φ' r.c u → next (a.put r.d.i.dst u) w' :=
    fun hnc u w' S' φ' G sq E hu => hn _ _ S' φ' q (I.put R ok hr hd hlt hdlt' hun hanc G sq E hu I.le (fun x y hx hy ho hc => .inr (I.before x y hx hy ho hc)) fun x y hx hy ho hc => ⟨fun e => by
      have : x = p := ok.inj x p y.d r.d (run_rec R hy).1 hd e
      subst this; rw [hr] at hy; cases hy; exact hnc ⟨ho, hc⟩, I.after x y hx hy ho hc⟩)
  cases b with
  | false =>
    rw [if_neg (by simp), ← hdst]
    refine stay (fun ⟨h, _⟩ => by rw [hon] at h; cases h) I.good I.seq (Ext.refl _ _ _ _) ?_
    rw [(hoff rfl).1]
    exact undef_rel
  | true =>
    rw [if_pos rfl]
    refine .inl ?_
    have hst := hst rfl
    cases hcl : r.d.cls with
    | pure =>
      have hp := (pure_any ((ok.cls p r.d hd).1 hcl) hst).2 (hAt rs st' q)
      rw [stepOp_agree hag] at hp
      refine op_sound hcall I.good I.seq hE I.seq.alloc hop.symm hp fun u w' S' φ' G' E' hrel hnm => ?_
      rw [← hdst]
      exact stay (fun ⟨_, h⟩ => by rw [hcl] at h; cases h) G' (I.seq.next hnm) E' hrel
    | load =>
      have hlo := K.load p r hr hon hcl
      have hp : stepOp P call none r.env (hAt rs st' q) r.d.i.op = some (r.c, hAt rs st' q) := by
        have hsame := load_any hv hlo hst
        -- chains between p and q are listed, and do not have p ahead
        have between : ∀ (x : Nat) (y : Rec), p ≤ x → x < q → rs[x]? = some y → y.on = true → y.d.cls = .chain → Tm.apart r y = true := fun x y h1 h2 hy hyo hyc => by
          have hpx : p < x := by
            rcases Nat.lt_or_ge p x with h | h
            · exact h
            · have : x = p := by omega
              subst this; rw [hr] at hy; cases hy; rw [hcl] at hyc; cases hyc
          exact (K.apart p x r y hpx hr hy hon hyo hcl hyc).resolve_left (notanc x y hy (I.before x y h2 hy hyo hyc))
        have same : q ≤ p → hAt rs st' q = r.heap := fun hqp => by
          rw [← hAt_some (st' := st') hr]
          exact (heap_const' R ok hv K hqp (by omega) fun x y h1 h2 hy hc => by
            have := chains_before hon (.inr hcl) x y h2 hy hc.1 hc.2
            omega).symm
        rcases Nat.lt_or_ge p q with hpq | hqp
        · -- the heap has gone on: what is loaded has stayed
          by_cases hex : ∃ (x : Nat) (y : Rec), p ≤ x ∧ x < q ∧ rs[x]? = some y ∧ y.on = true ∧ y.d.cls = .chain
          · obtain ⟨x, y, h1, h2, hy, hyo, hyc⟩ := hex
            have hap := between x y h1 h2 hy hyo hyc
            unfold Tm.apart at hap
            cases hro : readRow r.env r.d.i.op with
            | none => rw [hro] at hap; cases hap
            | some ro =>
              refine read_row hv hlo hro (fun a ea => ?_) hst
              subst ea
              have hlr := read_lt hro hst
              rw [← hAt_some (st' := st') hr] at hlr
              obtain ⟨k, hk⟩ : ∃ k, q = p + k := ⟨q - p, by omega⟩
              have hrow := (heap_row R ok hv K p a hlr k (by rw [← hk]; exact I.le) fun x' y' g1 g2 hy' ho' hc' => by
                have hap' := between x' y' g1 (by omega) hy' ho' hc'
                unfold Tm.apart at hap'
                rw [hro] at hap'
                exact hap').1
              rw [← hk] at hrow
              rw [hrow, hAt_some hr]
          · have heq : hAt rs st' q = hAt rs st' p := heap_const' R ok hv K (by omega) I.le fun x y h1 h2 hy hc => hex ⟨x, y, h1, h2, hy, hc.1, hc.2⟩
            rw [heq, hAt_some hr]
            rw [hsame] at hst
            exact hst
        · rw [same hqp]
          rw [hsame] at hst
          exact hst
      rw [stepOp_agree hag] at hp
      refine op_sound hcall I.good I.seq hE I.seq.alloc hop.symm hp fun u w' S' φ' G' E' hrel hnm => ?_
      rw [← hdst]
      exact stay (fun ⟨_, h⟩ => by rw [hcl] at h; cases h) G' (I.seq.next hnm) E' hrel
    | chain =>
      have hqp : q ≤ p := by
        rcases Nat.lt_or_ge p q with h | h
        · have := I.before p r h hr hon hcl
          rw [hun] at this; cases this
        · exact h
      have heq : hAt rs st' q = r.heap := by
        rw [← hAt_some (st' := st') hr]
        exact (heap_const' R ok hv K hqp (by omega) fun x y h1 h2 hy hc => by
          have := chains_before hon (.inl hcl) x y h2 hy hc.1 hc.2
          omega).symm
      have hnext := (run_step R hr).1
      have hp : stepOp P call none (keepE r.env (uses r.d.i)) (hAt rs st' q) r.d.i.op = some (r.c, hAt rs st' (p + 1)) := by
        rw [← stepOp_agree hag, heq, hnext]
        exact hst
      refine op_sound hcall I.good I.seq hE I.seq.alloc hop.symm hp fun u w' S' φ' G' E' hrel hnm => ?_
      rw [← hdst]
      refine hn _ _ S' φ' (p + 1) (I.put R ok hr hd hlt hdlt' hun hanc G' (I.seq.next hnm) E' hrel (by omega) (fun x y hx hy ho hc => ?_) fun x y hx hy ho hc => ?_)
      · by_cases e : x = p
        · subst e; rw [hr] at hy; cases hy; exact .inl rfl
        · exact .inr (I.before x y (chains_before hon (.inl hcl) x y (by omega) hy ho hc) hy ho hc)
      · refine ⟨fun e => ?_, ?_⟩
        · have : x = p := ok.inj x p y.d r.d (run_rec R hy).1 hd e
          omega
        · exact I.after x y (by omega) hy ho hc

theorem draw_all (hcall : CallOk P call) (hv : ValsOk vals call) (R : RunD P call ds st st' rs) (ok : DrawOk N ops ds) (K : ChkOk vals rs) {X : Nat → Prop} {w0 : World} {S0 : Nat → Prop} {φ0 : Nat → Loc} {Q : Exit → Act → World → Prop}
    (hq : ∀ S' φ' a' w', At N X st' S' φ' a' w' → Ext w0 S0 φ0 st.heap w' S' φ' st'.heap → Q .normal a' w') : ∀ (fuel : Nat) {w : World} {S : Nat → Prop} {φ : Nat → Loc} {listed : Array Bool} {a : Act} {q : Nat},
    Inv ops ds rs st st' N X w0 S0 φ0 listed a w S φ q → (listed.toList.count false ≤ fuel) → wpAny P .any ops Q fuel listed a w := by
  -- behind all
  have fin : ∀ {w : World} {S : Nat → Prop} {φ : Nat → Loc} {listed : Array Bool} {a : Act} {q : Nat}, Inv ops ds rs st st' N X w0 S0 φ0 listed a w S φ q → Region.ready .any ops listed = [] → Q .normal a w := by
    intro w S φ listed a q I h0
    have all : ∀ (p : Nat) (d : D), ds[p]? = some d → listed.getD d.ix false = true := by
      intro p
      induction p using Nat.strongRecOn with
      | _ p ih =>
        intro d hd
        obtain ⟨o, ho, _, _, hpre⟩ := ok.op p d hd
        have hlt : d.ix < ops.size := (Array.getElem?_eq_some_iff.1 ho).1
        cases hl : listed.getD d.ix false with
        | true => rfl
        | false =>
          exfalso
          have hm : d.ix ∈ Region.ready .any ops listed := by
            refine mem_ready.2 ⟨by rw [getD_eq (by rw [I.size]; exact hlt) true false]; exact hl, o, ho, fun e he hb => ?_⟩
            obtain ⟨q', d', hq', hd', hix⟩ := hpre e he hb
            rw [← hix]
            exact ih q' hq' d' hd'
          rw [h0] at hm
          cases hm
    have hlast : hAt rs st' rs.length = st'.heap := by simp [hAt]
    have hel : eAt rs st' rs.length = st'.env := by simp [eAt]
    have heq : st'.heap = hAt rs st' q := by
      rw [← hlast]
      exact heap_const' R ok hv K I.le (Nat.le_refl _) fun x y h1 _ hy hc => by
        have h2 := I.after x y h1 hy hc.1 hc.2
        rw [all x y.d (run_rec R hy).1] at h2
        cases h2
    refine hq S φ a w ⟨by rw [heq]; exact I.good, by rw [heq]; exact I.seq, fun t c hc => ?_, I.tmps, I.defers⟩ (by rw [heq]; exact I.ext)
    rw [heq]
    rw [← hel] at hc
    rcases env_last R t c rs.length (Nat.le_refl _) hc with ⟨x, y, hx, hy, hdy, rfl, hno⟩ | ⟨hno, hb⟩
    · exact I.writ t x y hy (all x y.d (run_rec R hy).1) hdy fun z v hz hv _ => hno z v hz ((List.getElem?_eq_some_iff.1 hv).1) hv
    · exact I.base t c (fun z v hv _ => hno z v ((List.getElem?_eq_some_iff.1 hv).1) hv) hb
  intro fuel
  induction fuel with
  | zero =>
    intro w S φ listed a q I hf
    have hr : Region.ready .any ops listed = [] := by
      cases hrd : Region.ready .any ops listed with
      | nil => rfl
      | cons i l =>
        exfalso
        have hm : i ∈ Region.ready .any ops listed := by rw [hrd]; simp
        obtain ⟨hun, o, ho, _⟩ := mem_ready.1 hm
        have hlt : i < listed.size := by rw [I.size]; exact (Array.getElem?_eq_some_iff.1 ho).1
        have : false ∈ listed.toList := by
          have h2 : listed[i] = false := by simpa [hlt] using hun
          rw [← h2]
          exact Array.mem_toList_iff.2 (Array.getElem_mem hlt)
        have := List.count_pos_iff.2 this
        omega
    exact ⟨hr, fin I hr⟩
  | succ fuel ih =>
    intro w S φ listed a q I hf
    refine ⟨fin I, fun i hi => draw_step hcall hv R ok K I hi fun a' w' S' φ' q' I' => ih I' ?_⟩
    obtain ⟨hun, o, ho, _⟩ := mem_ready.1 hi
    have hlt : i < listed.size := by rw [I.size]; exact (Array.getElem?_eq_some_iff.1 ho).1
    have h2 : listed[i] = false := by simpa [hlt] using hun
    have hcnt : (listed.setIfInBounds i true).toList.count false + 1 = listed.toList.count false := by
      simp only [Array.toList_setIfInBounds]
      have hlt' : i < listed.toList.length := by simpa using hlt
      have h3 : listed.toList[i] = false := by simpa using h2
      have hmem : false ∈ listed.toList := by rw [← h3]; exact List.getElem_mem hlt'
      have hpos := List.count_pos_iff.2 hmem
      rw [List.count_set hlt', h3]
      have e : (true == false) = false := rfl
      rw [e]
      simp only [beq_self_eq_true, if_true, Bool.false_eq_true, if_false, Nat.add_zero]
      exact Nat.sub_add_cancel hpos
    omega

theorem ext_drew {w : World} {S : Nat → Prop} {φ : Nat → Loc} {h : Heap} : Ext w S φ h { w with drawn := w.drawn + 1 } S φ h :=
  ⟨rfl, rfl, rfl, Nat.le_refl _, fun _ _ _ => rfl, fun _ h => ⟨h, rfl⟩, fun l hl => .inl ⟨l, hl, rfl⟩⟩

theorem Good.same {w w' : World} {X S : Nat → Prop} {φ : Nat → Loc} {h : Heap} (G : Good w X S φ h) (E : Ext w S φ h w' S φ h) (hk : ∀ b, b < w.heap.size → w'.heap[b]? = w.heap[b]?) : Good w' X S φ h := by
  have L := E.later (X := X)
  refine ⟨fun l x hx => ?_, G.inS, fun l hl => Nat.lt_of_lt_of_le (G.size l hl) E.size, G.inj, fun b hb => Nat.lt_of_lt_of_le (G.xlt b hb) E.size, G.apart⟩
  have hok := G.node l x hx
  cases x with
  | dead => trivial
  | row ez cs =>
    simp only [OkNode] at hok ⊢
    obtain ⟨h1, h2, h3, h4, h5⟩ := hok
    have hs := G.size l (live_of_row hx)
    refine ⟨h1, h2, h3, fun j hj => ?_, RelAt.moved L h5 fun j u _ hu => ?_⟩
    · rw [cell_of_heap (hk _ hs), World.frozen?_of_block (a := ⟨(φ l).block, (φ l).base + j, none⟩) (hk _ hs)]
      exact h4 j hj
    · rw [cell_of_heap (hk _ hs)]; exact hu
  | map es clock =>
    simp only [OkNode] at hok ⊢
    rw [hk _ (G.size l ⟨_, hx, by simp⟩)]
    exact hok

theorem draw_sound (hcall : CallOk P call) (hv : ValsOk vals call) (hmix : P.follows .mixedOrders = true) (ok : DrawOk N ops ds) (hr : recsD P call ds st = some (rs, st')) (hc : chk vals rs [] [] = true) {id : Nat} {X S : Nat → Prop} {φ : Nat → Loc} {a : Act} {w : World}
    (A : At N X st S φ a w) {Q : Exit → Act → World → Prop} (hq : ∀ S' φ' a' w', At N X st' S' φ' a' w' → Ext w S φ st.heap w' S' φ' st'.heap → Q .normal a' w') : (Code.region id ops true).wp P Q a w := by
  have R := recsD_run hr
  have K := (chk_some hc).1
  have E0 : Ext w S φ st.heap { w with drawn := w.drawn + 1 } S φ st.heap := ext_drew
  refine wp_region_any hmix (draw_all hcall hv R ok K hq ops.size (q := 0) (w := { w with drawn := w.drawn + 1 }) (S := S) (φ := φ) ⟨by simp, by rw [(run_zero R).1]; exact A.good.same E0 (fun _ _ => rfl), by rw [(run_zero R).1]; exact A.seq, A.size, A.defers,
    by rw [(run_zero R).1]; exact E0, fun p d _ h => ?_, Nat.zero_le _, fun p r h => by omega, fun p r _ hr _ _ => ?_, fun t p r hr h => ?_, fun t c _ hb => ?_⟩ ?_)
  · exfalso; revert h; simp only [Array.getD_eq_getD_getElem?, Array.getElem?_replicate]; split <;> simp
  · simp only [Array.getD_eq_getD_getElem?, Array.getElem?_replicate]; split <;> simp
  · exfalso; revert h; simp only [Array.getD_eq_getD_getElem?, Array.getElem?_replicate]; split <;> simp
  · rw [(run_zero R).1]
    exact (A.env.later E0.later) t c hb
  · simp
end
end Go.Tm
