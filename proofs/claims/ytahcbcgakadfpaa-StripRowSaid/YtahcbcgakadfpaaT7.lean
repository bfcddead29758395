import Derived.Test.YtahcbcgakadfpaaT6
namespace Go.Tm
section
variable {P : Program} {w : World} {X S : Nat → Prop} {φ : Nat → Loc} {h : Heap} {bad : Nat → Prop} {al : Option Nat}

theorem sliceE_some {t e : TypeId} (he : sliceE P t = some e) : P.underlying t = some (.slice e) := by
  unfold sliceE at he
  split at he
  · rename_i e' hu; cases he; exact hu
  · cases he

theorem made_rep (z : Array Value) (hz : 0 < z.size) : ∀ (n : Nat), (madeCells z (n * z.size)).toList = (List.replicate n z.toList).flatten := by
  intro n
  apply List.ext_getElem?
  intro i
  have hlen : ((List.replicate n z.toList).flatten).length = n * z.size := by simp
  by_cases hi : i < n * z.size
  · have key : ∀ (n i : Nat), i < n * z.size → ((List.replicate n z.toList).flatten)[i]? = some (z[i % z.size]'(Nat.mod_lt _ hz)) := by
      intro n
      induction n with
      | zero => intro i hi; simp at hi
      | succ n ih =>
        intro i hi
        rw [List.replicate_succ, List.flatten_cons]
        by_cases hlt : i < z.size
        · rw [List.getElem?_append_left (by simpa using hlt)]
          simp [Nat.mod_eq_of_lt hlt, hlt]
        · rw [List.getElem?_append_right (by simpa using hlt)]
          have h2 : i - z.size < n * z.size := by rw [Nat.succ_mul] at hi; omega
          have := ih (i - z.size) h2
          simp only [Array.length_toList]
          rw [this]
          congr 1
          congr 1
          exact (Nat.mod_eq_sub_mod (by omega)).symm
    rw [key n i hi]
    simp only [madeCells]
    simp [hi, Nat.mod_lt _ hz]
  · rw [List.getElem?_eq_none (by simp [madeCells]; omega), List.getElem?_eq_none (by rw [hlen]; omega)]

theorem relL_flatten {z : List C} {us : List Value} (hr : RelL w bad S φ z us) : ∀ n, RelL w bad S φ (rep n z) (List.replicate n us).flatten
  | 0 => by simp [rep, RelL]
  | n + 1 => by
    have := relL_flatten hr n
    simp only [rep, List.replicate_succ, List.flatten_cons] at this ⊢
    exact RelL.append hr this

theorem rowOf_some {e : TypeId} {n s : Nat} {cs : List C} (hr : rowOf P e n = some (s, cs)) : ∃ i zv, P.info? e = some i ∧ i.size = s ∧ i.zero = some zv ∧ zv.cells.size = s ∧ 0 < s ∧ zv.cells.toList.all oneCell = true ∧ cs = rep n (zv.cells.toList.map .v) := by
  simp only [rowOf, Option.bind_eq_bind, Option.bind_eq_some_iff] at hr
  obtain ⟨s', hs, z, hz, hr⟩ := hr
  split at hr
  · rename_i hc
    cases hr
    obtain ⟨i, zv, hi, hzv, hall, rfl⟩ := zeroC_some hz
    obtain ⟨i', hi', hsz⟩ := sz_info hs
    rw [hi] at hi'
    cases hi'
    refine ⟨i, zv, hi, hsz, hzv, by simpa using hc.2, hc.1, hall, rfl⟩
  · cases hr

theorem flatten_one {z : List Value} (h1 : ∀ x ∈ z, x.oneCell' = true) (n : Nat) : ∀ x ∈ (List.replicate n z).flatten, x.oneCell' = true := fun x hx => by
  obtain ⟨l, hl, hx⟩ := List.mem_flatten.1 hx
  rw [List.mem_replicate] at hl
  exact h1 x (hl.2 ▸ hx)

theorem makeSlice_sound (G : Good w X S φ h) (ok : AllocOk S h al) {t : TypeId} {a b c : C} {u v : Value} {h' : Heap} (hu : Rel w (badOf X φ h) S φ a u) (hv : Rel w (badOf X φ h) S φ b v) (hm : makeSliceC P h al t a b = some (c, h')) :
    Done w X S φ h al ((Instr.makeSlice t u v).run P w) c h' := by
  simp only [makeSliceC, Option.bind_eq_bind, Option.bind_eq_some_iff] at hm
  obtain ⟨e, he, ⟨k, n⟩, hn, ⟨k', m⟩, hm', i, hi, ⟨s, cs⟩, hrow, hm⟩ := hm
  have ht := sliceE_some he
  obtain ⟨i', zv, hi', hsz, hzv, hzs, hs0, hall, rfl⟩ := rowOf_some hrow
  rw [hi] at hi'
  cases hi'
  simp only at hm
  split at hm
  · rename_i hc
    obtain ⟨c1, c2, c3, c4⟩ := hc
    cases hm
    have eu := intOf_rel hu hn
    have ev := intOf_rel hv hm'
    subst eu
    subst ev
    have hcm : m.toNat ≤ 2 ^ 36 := by unfold maxRow at c3; omega
    have hbytes : (i.bytes : Int) * m ≤ 281474976710656 := by
      have h1 : i.bytes * m.toNat ≤ 2 ^ 10 * 2 ^ 36 := Nat.mul_le_mul c4 hcm
      have h2 : ((i.bytes * m.toNat : Nat) : Int) = (i.bytes : Int) * m := by rw [Int.natCast_mul, Int.toNat_of_nonneg (by omega)]
      omega
    have hrun := run_make (P := P) w t e i zv ht hi hzv k k' n m c1 c2 hbytes (by omega)
    have hz1 : ∀ x ∈ zv.cells.toList, x.oneCell' = true := fun x hx => List.all_eq_true.1 hall x hx
    have hrow' : (madeCells zv.cells (m.toNat * i.size)).toList = (List.replicate m.toNat zv.cells.toList).flatten ++ [] := by
      rw [List.append_nil, hsz, ← hzs]
      exact made_rep zv.cells (by omega) m.toNat
    obtain ⟨G', E⟩ := good_alloc (w' := w.alloc (.cells (madeCells zv.cells (m.toNat * i.size)) e)) (ez := s) (extra := []) G ok hrow' (relL_flatten (relL_vs hall) m.toNat) (flatten_one hz1 _) rfl rfl rfl rfl
    refine ⟨_, _, _, _, hrun, G', E, ?_, .inr ⟨by rw [new_name h al _ .dead], new_len_row _ _ _⟩⟩
    simp only [Rel, upd_same]
    refine ⟨.inr trivial, w.heap.size, 0, m.toNat, rfl, by omega, fun c hc => by cases hc; rfl, .inr ⟨rfl, rfl⟩, .inr ?_, fun hc => by cases hc⟩
    rw [size_madeCells, hsz]
    omega
  · cases hm

theorem buildSlice_sound (G : Good w X S φ h) (ok : AllocOk S h al) {t : TypeId} {n : Nat} {qs : List (Nat × C)} {vs : Array (Nat × Value)} {c : C} {h' : Heap} (hq : RelP w (badOf X φ h) S φ qs vs.toList) (hb : buildSliceC P h al t n qs = some (c, h')) :
    Done w X S φ h al ((Instr.buildSlice t n vs).run P w) c h' := by
  simp only [buildSliceC, Option.bind_eq_bind, Option.bind_eq_some_iff] at hb
  obtain ⟨e, he, ⟨s, cs⟩, hrow, cs', hf, hb⟩ := hb
  have ht := sliceE_some he
  obtain ⟨i, zv, hi, hsz, hzv, hzs, hs0, hall, rfl⟩ := rowOf_some hrow
  simp only at hf hb
  split at hb
  · rename_i hc
    cases hb
    have hz1 : ∀ x ∈ zv.cells.toList, x.oneCell' = true := fun x hx => List.all_eq_true.1 hall x hx
    have hmade : (madeCells zv.cells (n * s)).toList = (List.replicate n zv.cells.toList).flatten := by
      rw [← hzs]; exact made_rep zv.cells (by omega) n
    obtain ⟨us', hfill, hrel, h1⟩ := fill_sound (place' := fun i => some (i * s, s)) (us := madeCells zv.cells (n * s)) (fun i x hx => hx) hf hq (by rw [hmade]; exact relL_flatten (relL_vs hall) n) (by rw [hmade]; exact flatten_one hz1 _)
    obtain ⟨G', E⟩ := good_alloc (w' := w.alloc (.cells us' e)) (ez := s) (extra := []) G ok (by simp) hrel h1 rfl rfl rfl rfl
    have hl := RelL.length hrel
    have hfl : ∀ {qs : List (Nat × C)} {a b : List C}, fillC (fun i => some (i * s, s)) a qs = some b → b.length = a.length := by
      intro qs
      induction qs with
      | nil => intro a b hh; simp only [fillC, Option.some.injEq] at hh; rw [hh]
      | cons q qs ih =>
        intro a b hh
        obtain ⟨i, x⟩ := q
        simp only [fillC] at hh
        split at hh
        · rename_i hcc
          rw [ih hh, put_length _ _ _ (by omega)]
        · cases hh
    have hlen : us'.size = n * s := by
      have h2 := hfl hf
      simp only [Array.length_toList] at hl
      rw [hl, h2]
      simp [rep, hzs]
    refine ⟨.slice (some ⟨w.heap.size, 0, none⟩) n n, _, _, _, ?_, G', E, ?_, .inr ⟨by rw [new_name h al _ .dead], new_len_row _ _ _⟩⟩
    · have hn24 : ¬ (16777216 < n * s) := by omega
      by_cases h0 : n * s = 0
      · have hm0 : madeCells zv.cells 0 = #[] := by simp [madeCells]
        rw [h0, hm0] at hfill
        have hr0 : Array.map (fun _ => (default : Value)) (Array.range 0) = #[] := by simp [Array.range_zero']
        simp [Instr.buildSlice, run_underlying ht, sizeOf, run_info hi, hsz, h0, hr0, hfill, Go.newRow]
      · have hfill' : Instr.fill (fun i => some (i * s, s)) (Array.map (fun x => zv.cells[x % zv.cells.size]!) (Array.range (n * s))) vs.toList = some us' := hfill
        simp [Instr.buildSlice, run_underlying ht, sizeOf, run_info hi, hsz, h0, hn24, zeroValue, hzv, hfill', Go.newRow]
    · simp only [Rel, upd_same]
      refine ⟨.inr trivial, w.heap.size, 0, n, rfl, Nat.le_refl _, fun c hc => by cases hc; rfl, .inr ⟨rfl, rfl⟩, .inr ?_, fun hc => by cases hc⟩
      omega
  · cases hb

/-! ### Append and copy -/
theorem srcOf_sound (G : Good w X S φ h) {s k : Nat} {x : C} {u : Value} {ys : List C} {tx e' : TypeId} (hx : Rel w (badOf X φ h) S φ x u) (hk : P.underlying tx = some (.slice e')) (hs : srcOf h s x = some (k, ys)) (h0 : 0 < s) :
    ∃ news : List Value, Src P s tx u k news w ∧ RelL w (badOf X φ h) S φ ys news := by
  unfold srcOf at hs
  split at hs
  · cases hs
    simp only [Rel] at hx
    obtain ⟨rfl, _⟩ := hx
    exact ⟨[], Src.ofNil w hk 0, by simp [RelL]⟩
  · rename_i l off len _
    split at hs
    · rename_i ez cs hl
      simp only [takeN, Option.map_eq_some_iff] at hs
      obtain ⟨xs, hxs, hs⟩ := hs
      split at hxs
      · rename_i hle
        cases hxs
        cases hs
        simp only [Rel] at hx
        obtain ⟨hS, b, o, cap', rfl, hlc, _, hadr, _, _⟩ := hx
        have hok := G.node l _ hl
        simp only [OkNode] at hok
        obtain ⟨us, hul, hrel, hra, hone⟩ := RelAt.reads (RelAt.take (k * s) (RelAt.drop off hok.2.2.2.2))
        have hul' : us.length = k * s := by rw [hul, List.length_take]; omega
        rcases Nat.eq_zero_or_pos k with rfl | hk0
        · have : us = [] := List.eq_nil_of_length_eq_zero (by omega)
          subst this
          exact ⟨[], Src.ofSlice w hk _ 0 cap' [] (by simp) (fun j u hj => by simp at hj) (by simp), hrel⟩
        · obtain ⟨hb, ho⟩ := hadr.resolve_left (by omega)
          refine ⟨us, Src.ofSlice w hk _ k cap' us hul' (fun j u hj => ?_) hone, hrel⟩
          rw [Addr.add_mid, hb, ho]
          exact hra j u hj
      · cases hxs
    · cases hs
  · rename_i xs len _
    simp only [takeN, Option.map_eq_some_iff] at hs
    obtain ⟨ys', hys, hs⟩ := hs
    split at hys
    · rename_i hle
      cases hys
      cases hs
      simp only [Rel] at hx
      rcases hx with ⟨⟨a0, rfl⟩, rfl, rfl, _⟩ | ⟨b, o, cap', rfl, hlc, _, hat⟩
      · cases a0 with
        | none => exact ⟨[], Src.ofNil w hk 0, by simp [RelL]⟩
        | some a0 => exact ⟨[], Src.ofSlice w hk a0 0 0 [] (by simp) (fun j u hj => by simp at hj) (by simp), by simp [RelL]⟩
      · skip
        obtain ⟨us, hul, hrel, hra, hone⟩ := RelAt.reads (RelAt.take (k * s) (Fro.relAt hat))
        refine ⟨us, Src.ofSlice w hk _ k cap' us (by rw [hul, List.length_take]; omega) (fun j u hj => ?_) hone, hrel⟩
        rw [Addr.add_mid]
        exact hra j u hj
    · cases hys
  · cases hs

theorem firstCells_drew {s n : Nat} {a : Addr} {len cap : Nat} {olds : List Value} (hl : olds.length = n * s) (hr : w.rangeAt a.block a.off olds) (hsp : a.spot = none) : (Builtin.firstCells s n (.slice (some a) len cap)).run P w.drew = .ok olds.toArray w.drew := by
  refine run_firstCells_some (P := P) w.drew s n a len cap olds hl (fun j v hv => ?_)
  obtain ⟨b, o, sp⟩ := a
  simp only at hsp hr
  subst hsp
  rw [Addr.add_mid, World.cell?_drew]
  exact hr j v hv

theorem bytes_fit {need old bytes : Nat} (ho : old < need) (hn : need ≤ maxRow) (hb : bytes ≤ 2 ^ 10) : Builtin.nextslicecap need old * bytes ≤ 281474976710656 := by
  refine growslice_fits ho ?_
  unfold maxRow at hn
  have := Nat.mul_le_mul hn hb
  omega

/-- A grown row in new memory. -/
theorem grow_sound (G : Good w X S φ h) (ok : AllocOk S h al) {t tx ty e : TypeId} {i : TypeInfo} {zv : Value} {s : Nat} (ht : P.underlying t = some (.slice e)) (hi : P.info? e = some i) (hsz : i.size = s) (hzv : i.zero = some zv) (h0 : 0 < s)
    (hb : i.bytes ≤ 2 ^ 10) {base : Option Addr} {len cap k : Nat} {old ys : List C} {olds news : List Value} {x : Value} (hold : (Builtin.firstCells s len (.slice base len cap)).run P w.drew = .ok olds.toArray w.drew)
    (hro : RelL w (badOf X φ h) S φ old olds) (ho1 : ∀ x ∈ olds, x.oneCell' = true) (hlo : olds.length = len * s) (hsrc : Src P s tx x k news w) (hrn : RelL w (badOf X φ h) S φ ys news) (hg : cap < len + k) (hm : len + k ≤ maxRow) (hzs : zv.cells.size = s) :
    Done w X S φ h al ((Builtin.append_ #[t, tx] ty #[.slice base len cap, x]).run P w) (newRow h al s (len + k) (old ++ ys)).1 (newRow h al s (len + k) (old ++ ys)).2 := by
  subst hsz
  have hm' : len + k ≤ 2 ^ 36 := hm
  have hrun := run_append_grow_src (P := P) w t tx ty e i zv ht hi hzv base len cap olds hold x k news hsrc hg (by omega) (bytes_fit hg hm hb)
  have hone : ∀ x ∈ olds ++ news, x.oneCell' = true := fun x hx => by
    rcases List.mem_append.1 hx with hx | hx
    · exact ho1 x hx
    · exact hsrc.one x hx
  have hrel := RelL.append hro hrn
  obtain ⟨G', E⟩ := good_alloc (w' := w.drew.alloc (.cells ((olds ++ news).toArray ++ Builtin.zeroCells zv.cells (grownCap w (len + k) cap e - (len + k))) e)) (ez := i.size) (extra := (Builtin.zeroCells zv.cells (grownCap w (len + k) cap e - (len + k))).toList) G ok (by simp) hrel hone rfl rfl rfl rfl
  refine ⟨_, _, _, _, hrun, G', E, ?_, .inr ⟨by rw [new_name h al _ .dead], new_len_row _ _ _⟩⟩
  have hge := grownCap_ge w (len + k) cap e
  have hl := RelL.length hrel
  have hln := hsrc.newsLen
  simp only [newRow, Rel, upd_same]
  refine ⟨.inr trivial, w.heap.size, 0, _, rfl, hge, (fun c hc => by cases hc), .inr ⟨rfl, rfl⟩, .inr ?_, fun _ => ?_⟩
  · simp only [Array.size_append, List.size_toArray, size_zeroCells, List.length_append, hlo, hln, hzs, ← Nat.add_mul]
    rw [Nat.zero_add]
    exact Nat.mul_le_mul_right _ (by omega)
  · simp only [List.length_append] at hl ⊢
    rw [← hl, hlo, hln, ← Nat.add_mul, Nat.zero_add]
    exact Nat.mul_le_mul_right _ hge

theorem Done.kill {a : Nat} {r : Result Value} {c : C} {h' : Heap} (Ek : Ext w S φ h w S φ (h.set a .dead)) (d : Done w X S φ (h.set a .dead) al r c h') : Done w X S φ h al r c h' := by
  obtain ⟨u, w', S', φ', hr, G', E, hrel, hn⟩ := d
  refine ⟨u, w', S', φ', hr, G', Ek.trans E, hrel, ?_⟩
  rcases hn with ⟨h1, h2⟩ | ⟨h1, h2⟩
  · exact .inl ⟨h1, by simpa using h2⟩
  · refine .inr ⟨?_, ?_⟩
    · rw [h1]
      funext l
      rw [new_name_set h al a .dead .dead .dead]
    · rw [h2]
      cases al <;> simp [new]

theorem appendTo_sound (G : Good w X S φ h) (ok : AllocOk S h al) {t tx ty e : TypeId} {i : TypeInfo} {zv : Value} {s : Nat} (ht : P.underlying t = some (.slice e)) (hi : P.info? e = some i) (hsz : i.size = s) (hzv : i.zero = some zv) (h0 : 0 < s)
    (hzs : zv.cells.size = s) (hb : i.bytes ≤ 2 ^ 10) {k : Nat} {d c : C} {u x : Value} {ys : List C} {news : List Value} {h' : Heap} (hd : Rel w (badOf X φ h) S φ d u) (hsrc : Src P s tx x k news w) (hrn : RelL w (badOf X φ h) S φ ys news)
    (ha : appendTo h al s k ys d = some (c, h')) : Done w X S φ h al ((Builtin.append_ #[t, tx] ty #[u, x]).run P w) c h' := by
  have nothing : ∀ {base : Option Addr} {len cap : Nat}, u = .slice base len cap → len ≤ cap → k = 0 → (Builtin.append_ #[t, tx] ty #[u, x]).run P w = .ok u w := by
    intro base len cap hu hle hk
    subst hu
    subst hk
    have hn : news = [] := List.eq_nil_of_length_eq_zero (by rw [hsrc.newsLen]; simp)
    subst hn
    exact run_append_nothing w t tx ty e i ht hi base len cap hle x (hsz ▸ hsrc)
  unfold appendTo at ha
  split at ha
  · -- nil
    simp only [Rel] at hd
    obtain ⟨rfl, h1⟩ := hd
    split at ha
    · rename_i hk
      cases ha
      exact Done.pure G ⟨_, nothing rfl (Nat.le_refl _) hk, by simp only [Rel]; exact ⟨trivial, h1⟩⟩
    · rename_i hk
      split at ha
      · rename_i hkm
        cases ha
        have := grow_sound (ty := ty) G ok ht hi hsz hzv h0 hb (base := none) (len := 0) (cap := 0) (old := []) (olds := []) (by simp [Builtin.firstCells]) (by simp [RelL]) (by simp) (by simp) hsrc hrn (by omega) (by omega) hzs
        simpa [newRow] using this
      · cases ha
  · rename_i a off len cap
    split at ha
    · rename_i e' cs hl
      split at ha
      · rename_i hc
        obtain ⟨rfl, hmax⟩ := hc
        have hd' := hd
        simp only [Rel] at hd
        obtain ⟨hS, b, o, cap', rfl, hle, hcap, hadr, hroom, hkn⟩ := hd
        have hok := G.node a _ hl
        simp only [OkNode] at hok
        obtain ⟨k1, k2, k3, k4, k5⟩ := hok
        have hyl := RelL.length hrn
        have hnl := hsrc.newsLen
        have hmul : (len + k) * e' = len * e' + k * e' := Nat.add_mul _ _ _
        -- in place
        have inplace : len + k ≤ cap' → off + (len + k) * e' ≤ cs.length → cap' ≠ 0 → Done w X S φ h al ((Builtin.append_ #[t, tx] ty #[.slice (some ⟨b, o, none⟩) len cap', x]).run P w) (.os a off (len + k) cap) (h.set a (.row e' (put cs (off + len * e') ys))) := by
          intro hfit hcells hne
          obtain ⟨hb2, ho2⟩ := hadr.resolve_left hne
          have hro := hroom.resolve_left hne
          obtain ⟨G', E⟩ := good_store (off := off + len * e') (us := news) G hl (by omega) hrn hsrc.one
          have hth : ∀ j, j < news.length → (w.cell? ⟨b, o + len * e' + j, none⟩).isSome = true ∧ w.frozen? ⟨b, o + len * e' + j, none⟩ = false := fun j hj => by
            have := k4 (off + len * e' + j) (by omega)
            rw [hb2, ho2]
            have e1 : (φ a).base + off + len * e' + j = (φ a).base + (off + len * e' + j) := by omega
            rw [e1]
            exact this
          have hrun := run_append_room_src (P := P) w t tx ty e i ht hi b o len cap' x k news (hsz ▸ hsrc) hfit (fun j hj => by rw [hsz]; exact (hth j hj).1) (fun j hj => by rw [hsz]; exact (hth j hj).2)
          have e1 : o + len * i.size = (φ a).base + (off + len * e') := by rw [hsz, ho2]; omega
          rw [e1, hb2] at hrun
          refine ⟨.slice (some ⟨b, o, none⟩) (len + k) cap', _, S, φ, by rw [hb2]; exact hrun, G', E, ?_, .inl ⟨rfl, by simp⟩⟩
          simp only [Rel]
          exact ⟨hS, b, o, cap', rfl, hfit, hcap, hadr, hroom, hkn⟩
        -- in new memory
        have fresh : cap' < len + k → ∀ old, takeN (len * e') (cs.drop off) = some old → Done w X S φ h al ((Builtin.append_ #[t, tx] ty #[.slice (some ⟨b, o, none⟩) len cap', x]).run P w) (newRow h al e' (len + k) (old ++ ys)).1 (newRow h al e' (len + k) (old ++ ys)).2 := by
          intro hg old hold
          simp only [takeN] at hold
          split at hold
          · rename_i hle2
            cases hold
            obtain ⟨us, hul, hrel, hra, hone⟩ := RelAt.reads (RelAt.take (len * e') (RelAt.drop off k5))
            have hul' : us.length = len * e' := by rw [hul, List.length_take]; omega
            have hfc : (Builtin.firstCells e' len (.slice (some ⟨b, o, none⟩) len cap')).run P w.drew = .ok us.toArray w.drew := by
              refine firstCells_drew hul' (fun j v hv => ?_) rfl
              rcases Nat.eq_zero_or_pos len with rfl | hlp
              · have : us = [] := List.eq_nil_of_length_eq_zero (by omega)
                subst this; simp at hv
              · obtain ⟨hb2, ho2⟩ := hadr.resolve_left (by omega)
                simp only
                rw [hb2, ho2]
                exact hra j v hv
            exact grow_sound (ty := ty) G ok ht hi hsz hzv h0 hb hfc hrel hone hul' hsrc hrn hg hmax hzs
          · cases hold
        split at ha
        · rename_i c0
          have hcc := hcap c0 rfl
          split at ha
          · rename_i hfit
            split at ha
            · rename_i hcells
              cases ha
              by_cases hne : cap' = 0
              · have hl0 : len = 0 := by omega
                have hk0 : k = 0 := by omega
                have hys : ys = [] := List.eq_nil_of_length_eq_zero (by rw [← hyl, hnl, hk0]; simp)
                subst hys
                have hput : put cs (off + len * e') [] = cs := by simp [put]
                rw [hput]
                have hset : h.set a (.row e' cs) = h := by
                  apply List.ext_getElem?
                  intro j
                  by_cases ej : a = j
                  · subst ej
                    have hlt : a < h.length := (List.getElem?_eq_some_iff.1 hl).1
                    rw [List.getElem?_set_self hlt, hl]
                  · rw [List.getElem?_set_ne ej]
                rw [hset]
                subst hk0
                exact Done.pure G ⟨_, nothing rfl hle rfl, hd'⟩
              · exact inplace (by omega) hcells hne
            · cases ha
          · rename_i hfit
            split at ha
            · rename_i old hold
              cases ha
              exact fresh (by omega) old hold
            · cases ha
        · split at ha
          · rename_i hk
            cases ha
            subst hk
            exact Done.pure G ⟨_, nothing rfl hle rfl, hd'⟩
          · rename_i hk
            have hkn' := hkn rfl
            rw [k1, k2] at hkn'
            split at ha
            · rename_i hcells
              cases ha
              have hcap1 : len + k ≤ cap' := by
                have h2 : (len + k) * e' ≤ cap' * e' := by omega
                exact Nat.le_of_mul_le_mul_right h2 h0
              exact inplace hcap1 hcells (by omega)
            · split at ha
              · rename_i hend
                cases ha
                by_cases hg : cap' < len + k
                · -- it grows
                  have htk : takeN (len * e') (cs.drop off) = some (cs.drop off) := by
                    simp only [takeN, List.length_drop]
                    rw [if_pos (by omega), List.take_of_length_le (by simp; omega)]
                  obtain ⟨Gk, Ek⟩ := good_kill G a
                  have L := Ek.later (X := X)
                  have ok' : AllocOk S (h.set a .dead) al := ⟨by rw [new_name_set h al a .dead .dead .dead]; exact ok.free, fun s hs => by simpa using ok.lt s hs⟩
                  obtain ⟨us, hul, hrel, hra, hone⟩ := RelAt.reads (RelAt.drop off k5)
                  have hul' : us.length = len * e' := by rw [hul, List.length_drop]; omega
                  have hfc : (Builtin.firstCells e' len (.slice (some ⟨b, o, none⟩) len cap')).run P w.drew = .ok us.toArray w.drew := by
                    refine firstCells_drew hul' (fun j v hv => ?_) rfl
                    rcases Nat.eq_zero_or_pos len with rfl | hlp
                    · have : us = [] := List.eq_nil_of_length_eq_zero (by omega)
                      subst this; simp at hv
                    · obtain ⟨hb2, ho2⟩ := hadr.resolve_left (by omega)
                      simp only
                      rw [hb2, ho2]
                      exact hra j v hv
                  exact Done.kill Ek (grow_sound (ty := ty) Gk ok' ht hi hsz hzv h0 hb hfc (RelL.later L hrel) hone hul' hsrc (RelL.later L hrn) hg hmax hzs)
                · -- there is room
                  have hne : cap' ≠ 0 := by omega
                  obtain ⟨hb2, ho2⟩ := hadr.resolve_left hne
                  have hro := hroom.resolve_left hne
                  rw [k1] at hro
                  have hcm : (len + k) * e' ≤ cap' * e' := Nat.mul_le_mul_right _ (by omega)
                  obtain ⟨G', E⟩ := good_reuse (off := off) (us := news) G ok hl (by omega) hrn hsrc.one (by omega)
                  have hth : ∀ j, j < news.length → (w.cell? ⟨b, o + len * e' + j, none⟩).isSome = true ∧ w.frozen? ⟨b, o + len * e' + j, none⟩ = false := fun j hj => by
                    have := k4 (off + len * e' + j) (by omega)
                    rw [hb2, ho2]
                    have e1 : (φ a).base + off + len * e' + j = (φ a).base + (off + len * e' + j) := by omega
                    rw [e1]
                    exact this
                  have hrun := run_append_room_src (P := P) w t tx ty e i ht hi b o len cap' x k news (hsz ▸ hsrc) (by omega) (fun j hj => by rw [hsz]; exact (hth j hj).1) (fun j hj => by rw [hsz]; exact (hth j hj).2)
                  have e1 : o + len * i.size = (φ a).base + cs.length := by rw [hsz, ho2]; omega
                  rw [e1, hb2] at hrun
                  refine ⟨.slice (some ⟨b, o, none⟩) (len + k) cap', _, _, _, by rw [hb2]; exact hrun, G', E, ?_, .inr ⟨?_, ?_⟩⟩
                  · simp only [newRow, Rel, upd_same]
                    refine ⟨.inr trivial, b, o, cap', rfl, by omega, fun c hc => (by cases hc), .inr ⟨hb2, by omega⟩, .inr (by omega), fun _ => ?_⟩
                    simp only [List.length_append, List.length_drop]
                    omega
                  · funext l
                    rw [new_name_set h al a .dead _ .dead]
                  · rw [new_len (h.set a .dead) al _ .dead]
                    cases al <;> simp [new]
              · cases ha
      · cases ha
    · cases ha
  · rename_i xs len cap
    split at ha
    · rename_i hk
      cases ha
      have hd' := hd
      simp only [Rel] at hd
      rcases hd with ⟨⟨_, rfl⟩, _⟩ | ⟨b, o, cap', rfl, hle, _⟩
      · exact Done.pure G ⟨_, nothing rfl (Nat.le_refl _) hk, hd'⟩
      · exact Done.pure G ⟨_, nothing rfl hle hk, hd'⟩
    · split at ha
      · rename_i c0
        split at ha
        · rename_i hc
          split at ha
          · rename_i old hold
            cases ha
            simp only [takeN] at hold
            split at hold
            · rename_i hle2
              cases hold
              simp only [Rel] at hd
              rcases hd with ⟨⟨a0, rfl⟩, rfl, rfl, hcap⟩ | ⟨b, o, cap', rfl, hle, hcap, hat⟩
              · have := grow_sound (ty := ty) G ok ht hi hsz hzv h0 hb (base := a0) (len := 0) (cap := 0) (old := []) (olds := []) (by cases a0 <;> simp [Builtin.firstCells, loadCells, loadCellsFrom]) (by simp [RelL]) (by simp) (by simp) hsrc hrn (by omega) hc.2 hzs
                simpa [newRow] using this
              · have hcc := hcap c0 rfl
                obtain ⟨us, hul, hrel, hra, hone⟩ := RelAt.reads (RelAt.take (len * s) (Fro.relAt hat))
                have hul' : us.length = len * s := by rw [hul, List.length_take]; omega
                exact grow_sound (ty := ty) G ok ht hi hsz hzv h0 hb (firstCells_drew hul' hra rfl) hrel hone hul' hsrc hrn (by omega) hc.2 hzs
            · cases hold
          · cases ha
        · cases ha
      · cases ha
  · cases ha
end
end Go.Tm
