import Derived.Test.YtahcbcgakadfpaaVB
set_option linter.unusedVariables false
namespace Go.Tm.V
open Go.Tm.Q (ifK ifK_inv forceN forceN_eq forceZ forceZ_eq forceB forceB_eq optK optK_inv dropK dropK_eq nthK nthK_inv takeK takeK_inv appK appK_eq overK overK_inv lenN lenN_eq forceO forceO_eq take2K take2K_eq lensK noCall)
noncomputable section
section
variable {R : Type} {P : Program} {call : CallF} {σ : Nat → Nat}
theorem mem2 {a b : Operand} : b ∈ [a, b] := by simp
def shV (off : Nat) (x : Rd R) : Vl R := fun e h k => x e fun p => ptrW p (fun l o => forceN (Nat.add o off) fun o => k (.op l o) h) (fun xs => dropK off xs fun ys => k (.fp ys) h)
theorem fieldAddr_ref {t : TypeId} {f off n : Nat} {o : Operand} {x : Rd R} (hf : (structF P t f).bind (fun fd => (sz P fd.type).map fun n => (fd.offset, n)) = some (off, n + 1)) (hx : RdRef σ o x) : VlRef P call σ (.fieldAddr t o f) (shV off x) := fun e eo h hp k r hcl ha hr H => by
  obtain ⟨p, h4, h5⟩ := hx.get ha (opTmps_mem (by simp [Op.operands])) H
  rcases ptrW_inv h5 with ⟨l, o', rfl, h8⟩ | ⟨xs, rfl, h8⟩
  · rw [forceN_eq] at h8
    exact ⟨_, h, hp, by simp only [stepOp, h4, fieldAddr_fact hf, W.c, shiftC, Option.bind_eq_bind, Option.bind_some]; rfl, hr, h8⟩
  · rw [dropK_eq] at h8
    exact ⟨_, h, hp, by simp only [stepOp, h4, fieldAddr_fact hf, W.c, shiftC, Option.bind_eq_bind, Option.bind_some, cL_drop], hr, h8⟩
def fiV (off : Nat) (x : Rd R) : Vl R := fun e h k => x e fun a => agW a fun cs => nthK off cs fun c => k c h
theorem field_ref {t : TypeId} {f off n : Nat} {o : Operand} {x : Rd R} (hf : (structF P t f).bind (fun fd => (sz P fd.type).bind fun n => (aggT P fd.type).map fun b => (fd.offset, n, b)) = some (off, n, false)) (hx : RdRef σ o x) : VlRef P call σ (.field t o f) (fiV off x) := fun e eo h hp k r hcl ha hr H => by
  obtain ⟨a, h5, h6⟩ := hx.get ha (opTmps_mem (by simp [Op.operands])) H
  obtain ⟨cs, rfl, h7⟩ := agW_inv h6
  obtain ⟨c, h8, h9⟩ := nthK_inv h7
  exact ⟨c, h, hp, by simp only [stepOp, h5, W.c, fieldS_fact hf, Option.bind_eq_bind, Option.bind_some]; rw [← cL_drop, head_c h8]; rfl, hr, h9⟩
def fiaV (off n : Nat) (x : Rd R) : Vl R := fun e h k => x e fun a => agW a fun cs => dropK off cs fun ys => takeK n ys fun zs => k (.ag zs) h
theorem fieldA_ref {t : TypeId} {f off n : Nat} {o : Operand} {x : Rd R} (hf : (structF P t f).bind (fun fd => (sz P fd.type).bind fun n => (aggT P fd.type).map fun b => (fd.offset, n, b)) = some (off, n, true)) (hx : RdRef σ o x) : VlRef P call σ (.field t o f) (fiaV off n x) := fun e eo h hp k r hcl ha hr H => by
  obtain ⟨a, h5, h6⟩ := hx.get ha (opTmps_mem (by simp [Op.operands])) H
  obtain ⟨cs, rfl, h7⟩ := agW_inv h6
  rw [dropK_eq] at h7
  obtain ⟨h8, h9⟩ := takeK_inv h7
  refine ⟨_, h, hp, ?_, hr, h9⟩
  simp only [stepOp, h5, W.c, fieldA_fact hf, Option.bind_eq_bind, Option.bind_some, takeN]
  rw [← cL_drop, if_pos (by rw [cL_len]; exact h8), cL_take]; rfl
def ixV (s : Nat) (x i : Rd R) : Vl R := fun e h k => x e fun a => i e fun b => natW b fun n => sliW a (fun l off len _ => ifK (Nat.ble (Nat.succ n) len) (forceN (Nat.add off (Nat.mul n s)) fun o => k (.op l o) h)) (fun xs len _ => ifK (Nat.ble (Nat.succ n) len) (dropK (Nat.mul n s) xs fun ys => k (.fp ys) h)) none
theorem index_ref {t el : TypeId} {s : Nat} {o q : Operand} {x i : Rd R} (hu : sliceE P t = some el) (hs : sz P el = some s) (hx : RdRef σ o x) (hi : RdRef σ q i) : VlRef P call σ (.indexAddr t o q) (ixV s x i) := fun e eo h hp k r hcl ha hr H => by
  obtain ⟨a, h1, h2⟩ := hx.get ha (opTmps_mem (by simp [Op.operands])) H
  obtain ⟨b, h3, h4⟩ := hi.get ha (opTmps_mem (by simp [Op.operands])) h2
  obtain ⟨j, n, h5, h6⟩ := natW_inv h4
  rcases sliW_inv h6 with ⟨l, off, len, cap, rfl, h7⟩ | ⟨xs, len, cap, rfl, h7⟩ | ⟨_, h7⟩
  · obtain ⟨h8, h9⟩ := ifK_inv h7
    have := Nat.le_of_ble_eq_true h8
    rw [forceN_eq] at h9
    refine ⟨_, h, hp, ?_, hr, h9⟩
    simp only [stepOp, h1, h3, h5, W.c, index_fact hu hs, Option.bind_eq_bind, Option.bind_some, idxC]
    rw [if_pos ⟨Int.natCast_nonneg n, by show (n : Int) < len; omega⟩]; rfl
  · obtain ⟨h8, h9⟩ := ifK_inv h7
    have := Nat.le_of_ble_eq_true h8
    rw [dropK_eq] at h9
    refine ⟨_, h, hp, ?_, hr, h9⟩
    simp only [stepOp, h1, h3, h5, W.c, index_fact hu hs, Option.bind_eq_bind, Option.bind_some, idxC, cL_drop]
    rw [if_pos ⟨Int.natCast_nonneg n, by show (n : Int) < len; omega⟩]; rfl
  · cases h7
def ixaV (len s : Nat) (x i : Rd R) : Vl R := fun e h k => x e fun a => i e fun b => natW b fun n => ifK (Nat.ble (Nat.succ n) len) (ptrW a (fun l off => forceN (Nat.add off (Nat.mul n s)) fun o => k (.op l o) h) (fun xs => dropK (Nat.mul n s) xs fun ys => k (.fp ys) h))
theorem indexA_ref {t el : TypeId} {len s : Nat} {o q : Operand} {x i : Rd R} (hu : P.underlying t = some (.array len el)) (hs : sz P el = some s) (hx : RdRef σ o x) (hi : RdRef σ q i) : VlRef P call σ (.indexAddr t o q) (ixaV len s x i) := fun e eo h hp k r hcl ha hr H => by
  obtain ⟨a, h1, h2⟩ := hx.get ha (opTmps_mem (by simp [Op.operands])) H
  obtain ⟨b, h3, h4⟩ := hi.get ha (opTmps_mem (by simp [Op.operands])) h2
  obtain ⟨j, n, h5, h6⟩ := natW_inv h4
  obtain ⟨h8, h9⟩ := ifK_inv h6
  have := Nat.le_of_ble_eq_true h8
  have hc : (0 : Int) ≤ Int.ofNat n ∧ Int.ofNat n < (len : Int) := ⟨Int.natCast_nonneg n, by show (n : Int) < len; omega⟩
  rcases ptrW_inv h9 with ⟨l, off, rfl, h7⟩ | ⟨xs, rfl, h7⟩
  · rw [forceN_eq] at h7
    refine ⟨_, h, hp, ?_, hr, h7⟩
    simp only [stepOp, h1, h3, h5, W.c, indexAddrC, intOf, hu, hs, Option.bind_eq_bind, Option.bind_some]
    rw [if_pos hc]; rfl
  · rw [dropK_eq] at h7
    refine ⟨_, h, hp, ?_, hr, h7⟩
    simp only [stepOp, h1, h3, h5, W.c, indexAddrC, intOf, hu, hs, Option.bind_eq_bind, Option.bind_some, cL_drop]
    rw [if_pos hc]; rfl
def lenV (x : Rd R) : Vl R := fun e h k => x e fun a => sliW a (fun _ _ len _ => k (.z (Int.ofNat len)) h) (fun _ len _ => k (.z (Int.ofNat len)) h) (k (.z (Int.ofNat 0)) h)
theorem len_ref {t el : TypeId} {o : Operand} {x : Rd R} (hu : sliceE P t = some el) (hx : RdRef σ o x) : VlRef P call σ (.call ⟨.builtin .len, #[o], #[t]⟩) (lenV x) := fun e eo h hp k r hcl ha hr H => by
  obtain ⟨a, h1, h2⟩ := hx.get ha (opTmps_mem (by simp [Op.operands, Call.operands])) H
  have key : ∀ {n : Nat}, lenS a.c = some (.v (.int .i64 (Int.ofNat n))) → stepOp P call none eo hp (.call ⟨.builtin .len, #[o], #[t]⟩) = some ((W.z (Int.ofNat n)).c, hp) := fun hn => by
    simp only [stepOp, List.getElem?_toArray, List.getElem?_cons_zero, h1, Option.bind_eq_bind, Option.bind_some]
    rw [len_fact hu, hn]; rfl
  rcases sliW_inv h2 with ⟨l, off, len, cap, rfl, h7⟩ | ⟨xs, len, cap, rfl, h7⟩ | ⟨rfl, h7⟩
  · exact ⟨_, h, hp, key (by simp only [W.c]; rfl), hr, h7⟩
  · exact ⟨_, h, hp, key (by simp only [W.c]; rfl), hr, h7⟩
  · exact ⟨_, h, hp, key (by simp only [W.c]; rfl), hr, h7⟩
def lensV (x : Rd R) : Vl R := fun e h k => x e fun a => lensK a.c fun c => k (ofC c) h
theorem lens_ref {t : TypeId} {o : Operand} {x : Rd R} (hu : P.underlying t = some .string) (hx : RdRef σ o x) : VlRef P call σ (.call ⟨.builtin .len, #[o], #[t]⟩) (lensV x) := fun e eo h hp k r hcl ha hr H => by
  obtain ⟨a, h1, h2⟩ := hx.get ha (opTmps_mem (by simp [Op.operands, Call.operands])) H
  unfold lensK at h2
  split at h2
  · rename_i s hs
    rw [forceN_eq] at h2
    refine ⟨_, h, hp, ?_, hr, h2⟩
    simp only [stepOp, List.getElem?_toArray, List.getElem?_cons_zero, h1, hs, Option.bind_eq_bind, Option.bind_some, lenStr_fact hu, c_ofC]
    rfl
  · cases h2
def extV (i : Nat) (x : Rd R) : Vl R := fun e h k => x e fun a => tuW a fun cs => nthK i cs fun c => k c h
theorem extract_ref {i : Nat} {o : Operand} {x : Rd R} (hx : RdRef σ o x) : VlRef P call σ (.extract o i) (extV i x) := fun e eo h hp k r hcl ha hr H => by
  obtain ⟨a, h1, h2⟩ := hx.get ha (opTmps_mem (by simp [Op.operands])) H
  obtain ⟨cs, rfl, h3⟩ := tuW_inv h2
  obtain ⟨c, h4, h5⟩ := nthK_inv h3
  refine ⟨c, h, hp, ?_, hr, h5⟩
  have : tupAt (W.tu cs).c i = some c.c := by
    have := head_c h4
    rw [cL_drop, List.head?_drop] at this
    simpa only [W.c, tupAt] using this
  simp only [stepOp, h1, this, Option.bind_eq_bind, Option.bind_some]
def srcW (h : H) (s : Nat) (x : W) (k : Nat → List W → Option R) : Option R := sliW x (fun l off len _ => rowK h l fun _ cs => dropK off cs fun ys => takeK (Nat.mul len s) ys (k len)) (fun xs len _ => takeK (Nat.mul len s) xs (k len)) (k 0 [])
theorem srcW_inv {h : H} {hp : Heap} (hr : RepH h hp) {s : Nat} {x : W} {k : Nat → List W → Option R} {r : R} (H : srcW h s x k = some r) : ∃ n ys, srcOf hp s x.c = some (n, cL ys) ∧ ys.length = n * s ∧ k n ys = some r := by
  rcases sliW_inv H with ⟨l, off, len, cap, rfl, h7⟩ | ⟨xs, len, cap, rfl, h7⟩ | ⟨rfl, h7⟩
  · obtain ⟨e, cs, h1, h2⟩ := rowK_inv hr h7
    rw [dropK_eq] at h2
    obtain ⟨h3, h4⟩ := takeK_inv h2
    have h3' : len * s ≤ (cs.drop off).length := h3
    refine ⟨len, _, ?_, ?_, h4⟩
    · simp only [W.c, srcOf, h1, takeN]; rw [← cL_drop, if_pos (by rw [cL_len]; exact h3'), cL_take]; rfl
    · rw [List.length_take]; exact Nat.min_eq_left h3
  · obtain ⟨h3, h4⟩ := takeK_inv h7
    have h3' : len * s ≤ xs.length := h3
    refine ⟨len, _, ?_, ?_, h4⟩
    · simp only [W.c, srcOf, takeN]; rw [if_pos (by rw [cL_len]; exact h3'), cL_take]; rfl
    · rw [List.length_take]; exact Nat.min_eq_left h3
  · exact ⟨0, [], by simp only [W.c, srcOf, cL_nil], by simp, h7⟩
def rowNewK (h : H) (s n : Nat) (cs : List W) (k : W → H → Option R) : Option R := newK h (.row s cs) fun l h => k (.os l 0 n none) h
theorem rowNewK_inv {h : H} {hp : Heap} (hr : RepH h hp) {s n : Nat} {cs : List W} {k : W → H → Option R} {r : R} (H : rowNewK h s n cs k = some r) : ∃ c h', newRow hp none s n (cL cs) = (c.c, (newRow hp none s n (cL cs)).2) ∧ RepH h' (newRow hp none s n (cL cs)).2 ∧ k c h' = some r := by
  obtain ⟨h', h1, h2⟩ := newK_inv hr H
  exact ⟨_, h', by simp only [W.c, newRow, new], h1, h2⟩
def apW (h : H) (s n : Nat) (ys : List W) (d : W) (k : W → H → Option R) : Option R := sliW d
  (fun a off len cap => rowK h a fun e cs => ifK (Nat.beq e s) (forceN (Nat.add len n) fun tot => ifK (Nat.ble tot 68719476736) (
      @Option.rec Nat (fun _ => Option R)
        (@Nat.rec (fun _ => Option R) (k d h) (fun _ _ => forceN (lenN cs) fun m => @Bool.rec (fun _ => Option R)
          (ifK (Nat.beq (Nat.add off (Nat.mul len s)) m) (storeK h a .dead fun h => dropK off cs fun zs => appK zs ys fun zs => rowNewK h s tot zs k))
          (putK (Nat.add off (Nat.mul len s)) ys cs fun zs => storeK h a (.row s zs) fun h => k (.os a off tot none) h)
          (Nat.ble (Nat.add off (Nat.mul tot s)) m)) n)
        (fun c => @Bool.rec (fun _ => Option R)
          (dropK off cs fun zs => takeK (Nat.mul len s) zs fun old => appK old ys fun zs => rowNewK h s tot zs k)
          (putK (Nat.add off (Nat.mul len s)) ys cs fun zs => storeK h a (.row s zs) fun h => k (.os a off tot (some c)) h)
          (Nat.ble tot c)) cap)))
  (fun xs len cap => @Nat.rec (fun _ => Option R) (k d h) (fun _ _ => @Option.rec Nat (fun _ => Option R) none (fun c => ifK (Nat.ble (Nat.succ c) (Nat.add len n)) (ifK (Nat.ble (Nat.add len n) 68719476736) (takeK (Nat.mul len s) xs fun old => appK old ys fun zs => forceN (Nat.add len n) fun tot => rowNewK h s tot zs k))) cap) n)
  (@Nat.rec (fun _ => Option R) (k d h) (fun _ _ => ifK (Nat.ble n 68719476736) (rowNewK h s n ys k)) n)
theorem apW_inv {h : H} {hp : Heap} (hr : RepH h hp) {s n : Nat} {ys : List W} (hy : ys.length = n * s) {d : W} {k : W → H → Option R} {r : R} (H : apW h s n ys d k = some r) : ∃ c h' hp', appendTo hp none s n (cL ys) d.c = some (c.c, hp') ∧ RepH h' hp' ∧ k c h' = some r := by
  have mr : maxRow = 68719476736 := by decide
  have hyl : (cL ys).length = n * s := by rw [cL_len]; exact hy
  rcases sliW_inv H with ⟨a, off, len, cap, rfl, H1⟩ | ⟨xs, len, cap, rfl, H1⟩ | ⟨rfl, H1⟩
  · obtain ⟨e, cs, h1, h2⟩ := rowK_inv hr H1
    obtain ⟨h3, h4⟩ := ifK_inv h2
    obtain rfl := Nat.eq_of_beq_eq_true h3
    rw [forceN_eq] at h4
    obtain ⟨h5, h6⟩ := ifK_inv h4
    have h5' : len + n ≤ maxRow := by have := Nat.le_of_ble_eq_true h5; rw [mr]; exact this
    have e1 : off + (len + n) * e = off + len * e + (cL ys).length := by rw [hyl, Nat.add_mul]; omega
    simp only [W.c, appendTo, h1]
    rw [if_pos ⟨trivial, h5'⟩]
    cases cap with
    | none =>
      cases n with
      | zero => exact ⟨_, h, hp, by simp [W.c], hr, h6⟩
      | succ n =>
        have h6' : forceN (lenN cs) (fun m => @Bool.rec (fun _ => Option R)
          (ifK (Nat.beq (off + len * e) m) (storeK h a .dead fun h => dropK off cs fun zs => appK zs ys fun zs => rowNewK h e (len + (n + 1)) zs k))
          (putK (off + len * e) ys cs fun zs => storeK h a (.row e zs) fun h => k (.os a off (len + (n + 1)) none) h)
          (Nat.ble (off + (len + (n + 1)) * e) m)) = some r := h6
        rw [forceN_eq, lenN_eq] at h6'
        simp only
        rw [if_neg (by omega)]
        cases hb : Nat.ble (off + (len + (n + 1)) * e) cs.length with
        | true =>
          rw [hb] at h6'
          obtain ⟨h7, zs, h7', h8⟩ := putK_inv h6'
          obtain ⟨h', h9, h10⟩ := storeK_inv hr h8
          refine ⟨_, h', _, ?_, h9, h10⟩
          rw [if_pos (by rw [cL_len]; exact Nat.le_of_ble_eq_true hb)]
          simp only [W.c, N.node, h7']
        | false =>
          rw [hb] at h6'
          obtain ⟨h7, h8⟩ := ifK_inv h6'
          obtain ⟨h1', h9, h10⟩ := storeK_inv hr h8
          rw [dropK_eq, appK_eq] at h10
          obtain ⟨c, h', h10', h11, h12⟩ := rowNewK_inv h9 h10
          refine ⟨c, h', _, ?_, h11, h12⟩
          rw [if_neg (fun q => by rw [cL_len] at q; rw [Nat.ble_eq_true_of_le q] at hb; cases hb), if_pos (by rw [cL_len]; exact Nat.eq_of_beq_eq_true h7), ← h10']
          simp only [cL_append, cL_drop, N.node]
    | some c =>
      have h6' : @Bool.rec (fun _ => Option R)
          (dropK off cs fun zs => takeK (len * e) zs fun old => appK old ys fun zs => rowNewK h e (len + n) zs k)
          (putK (off + len * e) ys cs fun zs => storeK h a (.row e zs) fun h => k (.os a off (len + n) (some c)) h)
          (Nat.ble (len + n) c) = some r := h6
      simp only
      cases hb : Nat.ble (len + n) c with
      | true =>
        rw [hb] at h6'
        obtain ⟨h7, zs, h7', h8⟩ := putK_inv h6'
        obtain ⟨h', h9, h10⟩ := storeK_inv hr h8
        refine ⟨_, h', _, ?_, h9, h10⟩
        rw [if_pos (Nat.le_of_ble_eq_true hb), if_pos (by rw [e1, cL_len, cL_len]; omega)]
        simp only [W.c, N.node, h7']
      | false =>
        rw [hb] at h6'
        have h6'' : (dropK off cs fun zs => takeK (len * e) zs fun old => appK old ys fun zs => rowNewK h e (len + n) zs k) = some r := h6'
        rw [dropK_eq] at h6''
        obtain ⟨h7, h8⟩ := takeK_inv h6''
        rw [appK_eq] at h8
        obtain ⟨c', h', h10', h11, h12⟩ := rowNewK_inv hr h8
        refine ⟨c', h', _, ?_, h11, h12⟩
        rw [if_neg (fun q => by rw [Nat.ble_eq_true_of_le q] at hb; cases hb)]
        simp only [takeN]
        rw [← cL_drop, if_pos (by rw [cL_len]; exact h7), ← h10', ← cL_take]
        simp only [cL_append]
  · cases n with
    | zero => exact ⟨_, h, hp, by simp [appendTo, W.c], hr, H1⟩
    | succ n =>
      cases cap with
      | none => cases H1
      | some c =>
        have H' : ifK (Nat.ble (Nat.succ c) (len + (n + 1))) (ifK (Nat.ble (len + (n + 1)) 68719476736) (takeK (len * s) xs fun old => appK old ys fun zs => forceN (len + (n + 1)) fun tot => rowNewK h s tot zs k)) = some r := H1
        obtain ⟨h1, h2⟩ := ifK_inv H'
        obtain ⟨h3, h4⟩ := ifK_inv h2
        obtain ⟨h5, h6⟩ := takeK_inv h4
        rw [appK_eq, forceN_eq] at h6
        obtain ⟨c', h', h6', h7, h8⟩ := rowNewK_inv hr h6
        refine ⟨c', h', _, ?_, h7, h8⟩
        have a1 := Nat.le_of_ble_eq_true h1
        have a2 := Nat.le_of_ble_eq_true h3
        simp only [appendTo, W.c]
        rw [if_neg (by omega), if_pos ⟨by omega, by rw [mr]; exact a2⟩]
        simp only [takeN]
        rw [if_pos (by rw [cL_len]; exact h5), ← h6', ← cL_take]
        simp only [cL_append]
  · cases n with
    | zero => exact ⟨_, h, hp, by simp only [W.c]; rfl, hr, H1⟩
    | succ n =>
      obtain ⟨h1, h2⟩ := ifK_inv H1
      obtain ⟨c', h', h3', h3, h4⟩ := rowNewK_inv hr h2
      have := Nat.le_of_ble_eq_true h1
      refine ⟨c', h', _, ?_, h3, h4⟩
      simp only [appendTo, W.c]
      rw [if_neg (by omega), if_pos (by omega), ← h3']
def apV (s : Nat) (x y : Rd R) : Vl R := fun e h k => x e fun d => y e fun a => srcW h s a fun n ys => apW h s n ys d k
theorem append_ref {t tx el el' : TypeId} {s : Nat} {z : List C} {o q : Operand} {x y : Rd R} (he : sliceE P t = some el) (he' : sliceE P tx = some el') (hs : sz P el = some s) (hz : zeroC P el = some z) (hi : ∃ i, P.info? el = some i ∧ (0 < s ∧ z.length = s ∧ i.bytes ≤ 2 ^ 10)) (hx : RdRef σ o x) (hy : RdRef σ q y) : VlRef P call σ (.call ⟨.builtin .append, #[o, q], #[t, tx]⟩) (apV s x y) := fun e eo h hp k r hcl ha hr H => by
  obtain ⟨a, h3, h4⟩ := hx.get ha (opTmps_mem (by simp [Op.operands, Call.operands])) H
  obtain ⟨b, h5, h6⟩ := hy.get ha (opTmps_mem (by simp [Op.operands, Call.operands])) h4
  obtain ⟨n, ys, h7, h8, h9⟩ := srcW_inv hr h6
  obtain ⟨c, h', hp', h10, h11, h12⟩ := apW_inv hr h8 h9
  obtain ⟨i, hi, hcond⟩ := hi
  refine ⟨c, h', hp', ?_, h11, h12⟩
  simp only [stepOp, List.getElem?_toArray, List.getElem?_cons_zero, List.getElem?_cons_succ, h3, h5, appendC, he, he', hs, hz, hi, h7, Option.bind_eq_bind, Option.bind_some]
  rw [if_pos hcond]
  exact h10
end
end
end Go.Tm.V
