import Derived.Test.YtahcbcgakadfpaaTY
set_option linter.unusedVariables false
namespace Go.Tm.Q
noncomputable section
section
variable {R : Type}
/-! ### Slices, copies, maps -/
def take2K (n : Nat) (xs : List C) (k : List C → Option R) : Option R :=
  @Nat.rec (fun _ => List C → (List C → Option R) → Option R) (fun _ k => k []) (fun _ ih xs k => @List.rec C (fun _ => Option R) (k []) (fun x r _ => ih r fun ys => k (x :: ys)) xs) n xs k
theorem take2K_eq : ∀ (n : Nat) (xs : List C) (k : List C → Option R), take2K n xs k = k (xs.take n)
  | 0, xs, k => rfl
  | n + 1, [], k => rfl
  | n + 1, x :: xs, k => take2K_eq n xs fun ys => k (x :: ys)
def forceO (o : Option Nat) (k : Option Nat → Option R) : Option R := @Option.rec Nat (fun _ => Option R) (k none) (fun n => forceN n fun n => k (some n)) o
theorem forceO_eq (o : Option Nat) (k : Option Nat → Option R) : forceO o k = k o := by
  cases o with
  | none => rfl
  | some n => exact forceN_eq n fun n => k (some n)
def evoK (x : Option X) (e : E) (k : Option C → Option R) : Option R := @Option.rec X (fun _ => Option R) (k none) (fun x => evK x e fun c => k (some c)) x
def compXo : Option Operand → Option (Option X)
  | none => some none
  | some o => (compX o).map some
theorem evoK_inv {o : Option Operand} {x : Option X} {e : E} {k : Option C → Option R} {r : R} (hx : compXo o = some x) (H : evoK x e k = some r) : ∃ c, evo e.env o = some c ∧ k c = some r := by
  cases o with
  | none => cases hx; exact ⟨none, rfl, H⟩
  | some o =>
    simp only [compXo, Option.map_eq_some_iff] at hx
    obtain ⟨y, h1, rfl⟩ := hx
    obtain ⟨c, h2, h3⟩ := evK_inv h1 H
    exact ⟨some c, by simp [evo, h2], h3⟩
def slK (h : H) (s : Nat) (x : C) (lo hi mx : Option C) (k : C → Option R) : Option R := match x with
  | .v (.slice none 0 0) => optK (bnds lo hi mx 0 0) fun _ => k x
  | .os a off len cap => rowK h a fun e cs => ifK (Nat.beq e s) (optK (bnds lo hi mx len (capk cap len off s cs)) fun b => forceN (Nat.add off (Nat.mul b.1 s)) fun o => forceN (Nat.sub b.2.1 b.1) fun n => forceO (capLeft cap b.2.2 b.1) fun c => k (.os a o n c))
  | .fs xs len cap => optK (bnds lo hi mx len len) fun b => dropK (Nat.mul b.1 s) xs fun ys => take2K (Nat.mul (Nat.sub b.2.1 b.1) s) ys fun zs => forceN (Nat.sub b.2.1 b.1) fun n => forceO (capLeft cap b.2.2 b.1) fun c => k (.fs zs n c)
  | _ => none
theorem slK_inv {P : Program} {t e : TypeId} {s : Nat} (hu : sliceE P t = some e) (hs : sz P e = some s) {h : H} {hp : Heap} (hr : RepH h hp) {x : C} {lo hi mx : Option C} {k : C → Option R} {r : R} (H : slK h s x lo hi mx k = some r) : ∃ c, sliceC P hp t x lo hi mx = some c ∧ k c = some r := by
  rw [slice_fact hu hs]
  unfold slK at H
  split at H
  · obtain ⟨b, h1, h2⟩ := optK_inv H
    exact ⟨_, by simp only [h1]; rfl, h2⟩
  · rename_i a off len cap
    obtain ⟨e', cs, h1, h2⟩ := rowK_inv hr H
    obtain ⟨h3, h4⟩ := ifK_inv h2
    obtain ⟨b, h5, h6⟩ := optK_inv h4
    rw [forceN_eq, forceN_eq, forceO_eq] at h6
    refine ⟨_, ?_, h6⟩
    simp only [h1]
    rw [if_pos (Nat.eq_of_beq_eq_true h3), h5]
    rfl
  · rename_i xs len cap
    obtain ⟨b, h5, h6⟩ := optK_inv H
    rw [dropK_eq, take2K_eq, forceN_eq, forceO_eq] at h6
    exact ⟨_, by simp only [h5]; rfl, h6⟩
  · cases H
def cpK (h : H) (s n : Nat) (ys : List C) (d : C) (k : C → H → Option R) : Option R := match d with
  | .v (.slice none 0 0) => k (.v (.int .i64 0)) h
  | .os a off len _ => rowK h a fun e cs => ifK (Nat.beq e s) (forceN (Nat.min n len) fun m => take2K (Nat.mul m s) ys fun zs => putK off zs cs fun cs' => storeK h a (.row e cs') fun h => k (.v (.int .i64 (Int.ofNat m))) h)
  | _ => none
theorem cpK_inv {P : Program} {t e : TypeId} {s n : Nat} (hu : sliceE P t = some e) (hs : sz P e = some s) {h : H} {hp : Heap} (hr : RepH h hp) {ys : List C} (hy : ys.length = n * s) {d x : C} (hx : srcOf hp s x = some (n, ys)) {k : C → H → Option R} {r : R} (H : cpK h s n ys d k = some r) : ∃ c h' hp', copyC P hp t d x = some (c, hp') ∧ RepH h' hp' ∧ k c h' = some r := by
  unfold cpK at H
  simp only [copyC, hu, hs, hx, Option.bind_eq_bind, Option.bind_some]
  split at H
  · exact ⟨_, h, hp, rfl, hr, H⟩
  · rename_i a off len cap
    obtain ⟨e', cs, h1, h2⟩ := rowK_inv hr H
    obtain ⟨h3, h4⟩ := ifK_inv h2
    obtain rfl := Nat.eq_of_beq_eq_true h3
    rw [forceN_eq, take2K_eq] at h4
    obtain ⟨h5, h6⟩ := putK_inv h4
    obtain ⟨h', h7, h8⟩ := storeK_inv hr h6
    have hle : Nat.min n len * e' ≤ ys.length := by rw [hy]; exact Nat.mul_le_mul_right _ (Nat.min_le_left _ _)
    have hl : (ys.take (Nat.mul (Nat.min n len) e')).length = Nat.min n len * e' := by rw [List.length_take]; exact Nat.min_eq_left hle
    refine ⟨_, h', _, ?_, h7, h8⟩
    simp only [h1]
    rw [if_pos ⟨trivial, by rw [hl] at h5; exact h5⟩]
    rfl
  · cases H

def cvK (P : Program) (h : H) (s d : TypeId) (a : C) (k : C → Option R) : Option R :=
  @Option.rec Value (fun _ => Option R) (ifK (isBytes P s d) (srcK h 1 a fun _ ys => optK (bytesOf ys) fun ns => k (.v (.string (strOf ns))))) (fun p => optK (pureV P (convert s d p)) k) (scalar a)
theorem cvK_inv {P : Program} {s d : TypeId} {h : H} {hp : Heap} (hr : RepH h hp) {a : C} {k : C → Option R} {r : R} (H : cvK P h s d a k = some r) : ∃ c, convC P hp s d a = some c ∧ k c = some r := by
  unfold cvK at H
  unfold convC
  cases hs : scalar a with
  | none =>
    rw [hs] at H
    obtain ⟨h1, h2⟩ := ifK_inv H
    obtain ⟨n, ys, h3, _, h4⟩ := srcK_inv hr h2
    obtain ⟨ns, h5, h6⟩ := optK_inv h4
    exact ⟨_, by simp only [h3, h5, Option.bind_some, Option.map_some]; rw [if_pos h1], h6⟩
  | some p =>
    rw [hs] at H
    exact optK_inv H
def clrK (h : H) (s : Nat) (z : List C) (d : C) (k : H → Option R) : Option R := match d with
  | .v (.slice none 0 0) => k h
  | .os a off len _ => @Nat.rec (fun _ => Option R) (k h) (fun _ _ => rowK h a fun e cs => ifK (Nat.beq e s) (repK len z fun zs => putK off zs cs fun cs' => storeK h a (.row e cs') k)) len
  | _ => none
theorem clrK_inv {P : Program} {t e : TypeId} {s : Nat} {z : List C} (hu : sliceE P t = some e) (hs : sz P e = some s) (hz : zeroC P e = some z) (hl : 0 < s ∧ z.length = s) {h : H} {hp : Heap} (hr : RepH h hp) {d : C} {k : H → Option R} {r : R} (H : clrK h s z d k = some r) : ∃ h' hp', clearC P hp t d = some hp' ∧ RepH h' hp' ∧ k h' = some r := by
  unfold clrK at H
  simp only [clearC, hu, Option.bind_eq_bind, Option.bind_some]
  split at H
  · exact ⟨h, hp, rfl, hr, H⟩
  · rename_i a off len cap
    cases len with
    | zero => exact ⟨h, hp, by simp, hr, H⟩
    | succ len =>
      obtain ⟨e', cs, h1, h2⟩ := rowK_inv hr H
      obtain ⟨h3, h4⟩ := ifK_inv h2
      obtain rfl := Nat.eq_of_beq_eq_true h3
      rw [repK_eq] at h4
      obtain ⟨h5, h6⟩ := putK_inv h4
      obtain ⟨h', h7, h8⟩ := storeK_inv hr h6
      have hrep : (rep (len + 1) z).length = (len + 1) * e' := by simp [rep, hl.2]
      refine ⟨h', _, ?_, h7, h8⟩
      simp only
      rw [if_neg (by omega), h1]
      simp only [rowOf, hs, hz, Option.bind_eq_bind, Option.bind_some]
      rw [if_pos hl]
      simp only [Option.bind_some]
      rw [if_pos ⟨trivial, by rw [hrep] at h5; exact h5⟩]
  · cases H

abbrev CallQ := FuncId → List C → H → Option (C × H)
def noCall : CallF := fun _ _ _ => none
def callK (call : CallQ) (f : FuncId) (cs : List C) (h : H) (k : C → H → Option R) : Option R :=
  @Option.rec (C × H) (fun _ => Option R) none (fun p => @Prod.rec C H (fun _ => Option R) k p) (call f cs h)

/-- One operation, and what comes next. -/
def stepK (P : Program) (call : CallQ) (o : O) (e : E) (h : H) (k : C → H → Option R) : Option R := match o with
  | .mv x => evK x e fun c => k c h
  | .pick c a b => evK c e fun d => boolK d fun t => @Bool.rec (fun _ => Option R) (evK b e fun c => k c h) (evK a e fun c => k c h) t
  | .alloc z => newK h (.row 0 z) fun l h => k (.op l 0) h
  | .box x => evK x e fun c => cellsK c fun cs => newK h (.row 0 cs) fun l h => k (.op l 0) h
  | .build z ps => fillK e ps z fun cs => k (.agg cs) h
  | .bsl s n z ps => repK n z fun cs => fillK e ps cs fun cs => newK h (.row s cs) fun l h => k (.os l 0 n (some n)) h
  | .ld x => evK x e fun p => ldK h p fun c => k c h
  | .lda n x => evK x e fun p => ldaK h n p fun c => k c h
  | .st n x y => evK x e fun p => evK y e fun c => stK h n p c (k undefC)
  | .nilc x => evK x e fun p => match p with
    | .op _ _ => k p h
    | .fp _ => k p h
    | _ => none
  | .bin op t ox oy x y => evK x e fun a => evK y e fun b => binK P op t ox oy a b fun c => k c h
  | .not x => evK x e fun a => match a with
    | .v (.bool b) => @Bool.rec (fun _ => Option R) (k (.v (.bool true)) h) (k (.v (.bool false)) h) b
    | _ => none
  | .pure o => optK (stepOp P noCall none e.env [] o) fun r => k r.1 h
  | .ms s z l c => evK l e fun a => evK c e fun b => msK h s z a b k
  | .sl s x lo hi mx => evK x e fun a => evoK lo e fun l => evoK hi e fun m => evoK mx e fun n => slK h s a l m n fun c => k c h
  | .fa off x => evK x e fun p => fshiftK off p fun c => k c h
  | .fi off x => evK x e fun a => fiK off a fun c => k c h
  | .fia off n x => evK x e fun a => fiaK off n a fun c => k c h
  | .ix s x i => evK x e fun a => evK i e fun b => ixK s a b fun c => k c h
  | .ixa len s x i => evK x e fun a => evK i e fun b => ixaK len s a b fun c => k c h
  | .len x => evK x e fun a => lenK a fun c => k c h
  | .lens x => evK x e fun a => lensK a fun c => k c h
  | .ext x i => evK x e fun a => extK a i fun c => k c h
  | .app s x y => evK x e fun d => evK y e fun a => srcK h s a fun n ys => apK h s n ys d k
  | .cpy s x y => evK x e fun d => evK y e fun a => srcK h s a fun n ys => cpK h s n ys d k
  | .cvt s d x => evK x e fun a => cvK P h s d a fun c => k c h
  | .clr s z x => evK x e fun d => clrK h s z d (k undefC)
  | .mm => newK h (.map #[] 0) fun l h => k (.om l) h
  | .lk t x i ok => evK x e fun a => evK i e fun b => match a with
    | .om l => mapK h l fun es _ => optK (lookupN P t es.toList b ok) fun c => k c h
    | _ => none
  | .mu t m x y => evK m e fun a => evK x e fun b => evK y e fun c => match a with
    | .om l => mapK h l fun es clock => optK (mapUpdN P t es clock b c) fun nd => storeK h l nd (k undefC)
    | _ => none
  | .call f xs => evsK xs e fun cs => callK call f cs h k
  | .callv x xs => evK x e fun c => optK (fnOf c) fun q => evsK xs e fun cs => callK call q.1 (cs ++ q.2) h k

def guardO (b : Bool) (o : O) : Option O := if b = true then some o else none
def compO (P : Program) : Op → Option O
  | .move x | .assign x => (compX x).map .mv
  | .pick c a b => (compX c).bind fun c => (compX a).bind fun a => (compX b).bind fun b => some (.pick c a b)
  | .alloc t => (zeroC P t).map .alloc
  | .box _ x => (compX x).map .box
  | .build t ps => (zeroC P t).bind fun z => match P.underlying t with
    | some (.struct fs) => if fs.toList.all (fun f => (sz P f.type).isSome) = true then (compPs (places P fs.toList) ps.toList).map (.build z) else none
    | some (.array _ e) => (sz P e).bind fun s => (compPs (fun i => some (i * s, s)) ps.toList).map (.build z)
    | _ => none
  | .buildSlice t n ps => (sliceE P t).bind fun e => (sz P e).bind fun s => (zeroC P e).bind fun z => if 0 < s ∧ z.length = s ∧ n * s ≤ 2 ^ 24 then (compPs (fun i => some (i * s, s)) ps.toList).map (.bsl s n z) else none
  | .load t x => (sz P t).bind fun n => (aggT P t).bind fun b => (compX x).bind fun x => some (if b = true then .lda n x else .ld x)
  | .store t x y => (sz P t).bind fun n => (compX x).bind fun x => (compX y).bind fun y => some (.st n x y)
  | .nilCheck x => (compX x).map .nilc
  | .binOp op t x y _ => (compX x).bind fun a => (compX y).bind fun b => some (.bin op t x y a b)
  | .unOp .not _ x => (compX x).map .not
  | .convert s d x => (compX x).map (.cvt s d)
  | .makeSlice t l c => (sliceE P t).bind fun e => (sz P e).bind fun s => (zeroC P e).bind fun z => (P.info? e).bind fun i => if 0 < s ∧ z.length = s ∧ i.bytes ≤ 2 ^ 10 then (compX l).bind fun l => (compX c).bind fun c => some (.ms s z l c) else none
  | .slice t x lo hi mx => match sliceE P t with
    | some e => (sz P e).bind fun s => (compX x).bind fun x => (compXo lo).bind fun lo => (compXo hi).bind fun hi => (compXo mx).bind fun mx => some (.sl s x lo hi mx)
    | none => none
  | .fieldAddr t x f => (structF P t f).bind fun fd => (sz P fd.type).bind fun n => if n = 0 then none else (compX x).map (.fa fd.offset)
  | .field t x f => (structF P t f).bind fun fd => (sz P fd.type).bind fun n => (aggT P fd.type).bind fun b => (compX x).bind fun x => some (if b = true then .fia fd.offset n x else .fi fd.offset x)
  | .indexAddr t x i => match P.underlying t with
    | some (.slice e) => (sz P e).bind fun s => (compX x).bind fun x => (compX i).bind fun i => some (.ix s x i)
    | some (.array len e) => (sz P e).bind fun s => (compX x).bind fun x => (compX i).bind fun i => some (.ixa len s x i)
    | _ => none
  | .extract x i => (compX x).map fun x => .ext x i
  | .makeMap _ none => some .mm
  | .lookup t x i ok => (compX x).bind fun x => (compX i).bind fun i => some (.lk t x i ok)
  | .mapUpdate t m k v => (compX m).bind fun m => (compX k).bind fun k => (compX v).bind fun v => some (.mu t m k v)
  | .call c => match c.callee with
    | .builtin .len => match c.argTypes.toList, c.args.toList with
      | [t], [x] => match P.underlying t with
        | some (.slice _) => (compX x).map .len
        | some .string => (compX x).map .lens
        | _ => some (.pure (.call c))
      | _, _ => none
    | .builtin .append => match c.argTypes.toList, c.args.toList with
      | [t, tx], [x, y] => (sliceE P t).bind fun e => (sliceE P tx).bind fun _ => (sz P e).bind fun s => (zeroC P e).bind fun z => (P.info? e).bind fun i => if 0 < s ∧ z.length = s ∧ i.bytes ≤ 2 ^ 10 then (compX x).bind fun x => (compX y).bind fun y => some (.app s x y) else none
      | _, _ => none
    | .builtin .copy => match c.argTypes.toList, c.args.toList with
      | t :: _, [x, y] => (sliceE P t).bind fun e => (sz P e).bind fun s => (compX x).bind fun x => (compX y).bind fun y => some (.cpy s x y)
      | _, _ => none
    | .builtin .clear => match c.argTypes.toList, c.args.toList with
      | [t], [x] => (sliceE P t).bind fun e => (sz P e).bind fun s => (zeroC P e).bind fun z => if 0 < s ∧ z.length = s then (compX x).map (.clr s z) else none
      | _, _ => none
    | .value (.func f) => (compXs c.args.toList).map (.call f)
    | .value x => (compX x).bind fun x => (compXs c.args.toList).map (.callv x)
    | _ => guardO (pureOk (.call c)) (.pure (.call c))
  | o => guardO (pureOk o) (.pure o)
end
/-- What a call of the quick machine promises of the tree machine's. -/
def CallRef (callq : CallQ) (call : CallF) : Prop := ∀ f cs h hp c h', callq f cs h = some (c, h') → RepH h hp → ∃ hp', call f cs hp = some (c, hp') ∧ RepH h' hp'
section
variable {R : Type}
theorem callK_inv {callq : CallQ} {call : CallF} (hc : CallRef callq call) {f : FuncId} {cs : List C} {h : H} {hp : Heap} (hr : RepH h hp) {k : C → H → Option R} {r : R} (H : callK callq f cs h k = some r) : ∃ c h' hp', call f cs hp = some (c, hp') ∧ RepH h' hp' ∧ k c h' = some r := by
  unfold callK at H
  cases hq : callq f cs h with
  | none => rw [hq] at H; cases H
  | some p =>
    rw [hq] at H
    obtain ⟨c, h'⟩ := p
    obtain ⟨hp', h1, h2⟩ := hc f cs h hp c h' hq hr
    exact ⟨c, h', hp', h1, h2, H⟩
theorem pureK_inv {P : Program} {call : CallF} {o : Op} (ho : pureOk o = true) {e : E} {h : H} {hp : Heap} (hr : RepH h hp) {k : C → H → Option R} {r : R} (H : optK (stepOp P noCall none e.env [] o) (fun r => k r.1 h) = some r) : ∃ c h' hp', stepOp P call none e.env hp o = some (c, hp') ∧ RepH h' hp' ∧ k c h' = some r := by
  obtain ⟨⟨c, h0⟩, h1, h2⟩ := optK_inv H
  have h3 := stepOp_more (P := P) (call := noCall) (call' := call) (fun _ _ _ _ h => by cases h) h1
  obtain ⟨_, h4⟩ := pure_any ho h3
  exact ⟨c, h, hp, h4 hp, hr, h2⟩
theorem stepK_inv {P : Program} {callq : CallQ} {call : CallF} (hcall : CallRef callq call) {op : Op} {o : O} (hc : compO P op = some o) {e : E} {h : H} {hp : Heap} (hr : RepH h hp) {k : C → H → Option R} {r : R} (H : stepK P callq o e h k = some r) : ∃ c h' hp', stepOp P call none e.env hp op = some (c, hp') ∧ RepH h' hp' ∧ k c h' = some r := by
  have gd : ∀ {b : Bool} {o' : O}, guardO b o' = some o → b = true ∧ o = o' := fun {b o'} h => by
    unfold guardO at h
    split at h
    · cases h; exact ⟨by assumption, rfl⟩
    · cases h
  have pur : ∀ {op' : Op}, guardO (pureOk op') (.pure op') = some o → op' = op → ∃ c h' hp', stepOp P call none e.env hp op = some (c, hp') ∧ RepH h' hp' ∧ k c h' = some r := fun {op'} h1 h2 => by
    obtain ⟨h3, rfl⟩ := gd h1
    subst h2
    exact pureK_inv h3 hr H
  cases op with
  | move x =>
    simp only [compO, Option.map_eq_some_iff] at hc
    obtain ⟨x', h1, rfl⟩ := hc
    obtain ⟨c, h2, h3⟩ := evK_inv h1 H
    exact ⟨c, h, hp, by simp [stepOp, h2], hr, h3⟩
  | assign x =>
    simp only [compO, Option.map_eq_some_iff] at hc
    obtain ⟨x', h1, rfl⟩ := hc
    obtain ⟨c, h2, h3⟩ := evK_inv h1 H
    exact ⟨c, h, hp, by simp [stepOp, h2], hr, h3⟩
  | pick x a b =>
    simp only [compO, Option.bind_eq_some_iff, Option.some.injEq] at hc
    obtain ⟨x', h1, a', h2, b', h3, rfl⟩ := hc
    obtain ⟨c, h4, h5⟩ := evK_inv h1 H
    obtain ⟨t, h6, h7⟩ := boolK_inv h5
    cases t with
    | true =>
      obtain ⟨d, h8, h9⟩ := evK_inv h2 h7
      exact ⟨d, h, hp, by simp [stepOp, h4, h6, h8], hr, h9⟩
    | false =>
      obtain ⟨d, h8, h9⟩ := evK_inv h3 h7
      exact ⟨d, h, hp, by simp [stepOp, h4, h6, h8], hr, h9⟩
  | alloc t =>
    simp only [compO, Option.map_eq_some_iff] at hc
    obtain ⟨z, h1, rfl⟩ := hc
    have H' : newK h (.row 0 z) (fun l h => k (.op l 0) h) = some r := H
    obtain ⟨h', h2, h3⟩ := newK_inv hr H'
    exact ⟨_, h', _, by simp [stepOp, h1, new], h2, h3⟩
  | box t x =>
    simp only [compO, Option.map_eq_some_iff] at hc
    obtain ⟨x', h1, rfl⟩ := hc
    obtain ⟨c, h2, h3⟩ := evK_inv h1 H
    obtain ⟨h4, h5⟩ := cellsK_inv h3
    obtain ⟨h', h6, h7⟩ := newK_inv hr h5
    exact ⟨_, h', _, by simp only [stepOp, h2, Option.bind_eq_bind, Option.bind_some]; rw [if_pos h4]; rfl, h6, h7⟩
  | build t ps =>
    simp only [compO, Option.bind_eq_some_iff] at hc
    obtain ⟨z, hz, hc⟩ := hc
    split at hc
    · rename_i fs hu
      split at hc
      · rename_i hall
        simp only [Option.map_eq_some_iff] at hc
        obtain ⟨qs, h1, rfl⟩ := hc
        obtain ⟨vs, cs', h2, h3, h4⟩ := fillK_inv h1 H
        refine ⟨_, h, hp, ?_, hr, h4⟩
        simp only [stepOp, h2, buildC, hz, hu, Option.bind_eq_bind, Option.bind_some]
        rw [if_pos hall, h3]
        rfl
      · cases hc
    · rename_i len el hu
      simp only [Option.bind_eq_some_iff, Option.map_eq_some_iff] at hc
      obtain ⟨s, hs, qs, h1, rfl⟩ := hc
      obtain ⟨vs, cs', h2, h3, h4⟩ := fillK_inv h1 H
      refine ⟨_, h, hp, ?_, hr, h4⟩
      simp only [stepOp, h2, buildC, hz, hu, hs, h3, Option.bind_eq_bind, Option.bind_some]
    · cases hc
  | buildSlice t n ps =>
    simp only [compO, Option.bind_eq_some_iff] at hc
    obtain ⟨el, he, s, hs, z, hz, hc⟩ := hc
    split at hc
    · rename_i hcond
      simp only [Option.map_eq_some_iff] at hc
      obtain ⟨qs, h1, rfl⟩ := hc
      have H' : repK n z (fun cs => fillK e qs cs fun cs => newK h (.row s cs) fun l h => k (.os l 0 n (some n)) h) = some r := H
      rw [repK_eq] at H'
      obtain ⟨vs, cs', h2, h3, h4⟩ := fillK_inv h1 H'
      obtain ⟨h', h5, h6⟩ := newK_inv hr h4
      refine ⟨_, h', _, ?_, h5, h6⟩
      simp only [stepOp, h2, buildSliceC, rowOf, he, hs, hz, Option.bind_eq_bind, Option.bind_some]
      rw [if_pos ⟨hcond.1, hcond.2.1⟩]
      simp only [Option.bind_some, h3]
      rw [if_pos hcond.2.2]
      rfl
    · cases hc
  | load t x =>
    simp only [compO, Option.bind_eq_some_iff, Option.some.injEq] at hc
    obtain ⟨n, h1, b, h2, x', h3, rfl⟩ := hc
    cases b with
    | true =>
      obtain ⟨p, h4, h5⟩ := evK_inv h3 H
      obtain ⟨c, h6, h7⟩ := ldaK_inv hr h5
      refine ⟨c, h, hp, ?_, hr, h7⟩
      simp only [stepOp, h4, loadC, Option.bind_eq_bind, Option.bind_some]
      simp only [Option.bind_eq_some_iff, Option.map_eq_some_iff] at h6
      obtain ⟨cs, g1, ys, g2, rfl⟩ := h6
      simp [g1, fieldOf, h1, h2, g2]
    | false =>
      obtain ⟨p, h4, h5⟩ := evK_inv h3 H
      obtain ⟨c, h6, h7⟩ := ldK_inv hr h5
      refine ⟨c, h, hp, ?_, hr, h7⟩
      simp only [stepOp, h4, Option.bind_eq_bind, Option.bind_some, loadS_fact h1 h2, h6]
  | store t x y =>
    simp only [compO, Option.bind_eq_some_iff, Option.some.injEq] at hc
    obtain ⟨n, h1, x', h2, y', h3, rfl⟩ := hc
    obtain ⟨p, h4, h5⟩ := evK_inv h2 H
    obtain ⟨c, h6, h7⟩ := evK_inv h3 h5
    obtain ⟨h', hp', h8, h9, h10⟩ := stK_inv hr h1 h7
    exact ⟨_, h', hp', by simp [stepOp, h4, h6, h8], h9, h10⟩
  | nilCheck x =>
    simp only [compO, Option.map_eq_some_iff] at hc
    obtain ⟨x', h1, rfl⟩ := hc
    obtain ⟨c, h2, h3⟩ := evK_inv h1 H
    cases c <;> first | exact ⟨_, h, hp, by simp [stepOp, h2, isNilC], hr, h3⟩ | cases h3
  | binOp b t x y u =>
    simp only [compO, Option.bind_eq_some_iff, Option.some.injEq] at hc
    obtain ⟨x', h1, y', h2, rfl⟩ := hc
    obtain ⟨p, h4, h5⟩ := evK_inv h1 H
    obtain ⟨c, h6, h7⟩ := evK_inv h2 h5
    obtain ⟨d, h8, h9⟩ := binK_inv h7
    exact ⟨d, h, hp, by simp [stepOp, h4, h6, h8], hr, h9⟩
  | unOp b t x =>
    cases b with
    | not =>
      simp only [compO, Option.map_eq_some_iff] at hc
      obtain ⟨x', h1, rfl⟩ := hc
      obtain ⟨c, h2, h3⟩ := evK_inv h1 H
      split at h3
      · rename_i b
        refine ⟨.v (.bool (!b)), h, hp, ?_, hr, ?_⟩
        · rw [op_not, h2]; rfl
        · cases b <;> exact h3
      · cases h3
    | _ => exact pur hc rfl
  | convert s d x =>
    simp only [compO, Option.map_eq_some_iff] at hc
    obtain ⟨x', h1, rfl⟩ := hc
    obtain ⟨a, h2, h3⟩ := evK_inv h1 H
    obtain ⟨c, h4, h5⟩ := cvK_inv hr h3
    exact ⟨c, h, hp, by simp [stepOp, h2, h4], hr, h5⟩
  | makeSlice t x y =>
    simp only [compO, Option.bind_eq_some_iff] at hc
    obtain ⟨el, he, s, hs, z, hz, i, hi, hc⟩ := hc
    split at hc
    · rename_i hcond
      simp only [Option.bind_eq_some_iff, Option.some.injEq] at hc
      obtain ⟨x', h1, y', h2, rfl⟩ := hc
      obtain ⟨a, h3, h4⟩ := evK_inv h1 H
      obtain ⟨b, h5, h6⟩ := evK_inv h2 h4
      unfold msK at h6
      obtain ⟨j, n, rfl, h7⟩ := natK_inv h6
      obtain ⟨j', c, rfl, h8⟩ := natK_inv h7
      obtain ⟨h9, h10⟩ := ifK_inv h8
      obtain ⟨h11, h12⟩ := ifK_inv h10
      rw [repK_eq] at h12
      obtain ⟨h', h13, h14⟩ := newK_inv hr h12
      refine ⟨_, h', _, ?_, h13, h14⟩
      have mr : maxRow = 68719476736 := by decide
      have a1 := Nat.le_of_ble_eq_true h9
      have a2 := Nat.le_of_ble_eq_true h11
      simp only [stepOp, h3, h5, makeSliceC, rowOf, he, hs, hz, hi, intOf, Option.bind_eq_bind, Option.bind_some]
      rw [if_pos ⟨hcond.1, hcond.2.1⟩]
      simp only [Option.bind_some]
      rw [if_pos ⟨Int.natCast_nonneg n, by show (n : Int) ≤ (c : Int); omega, by show (c : Int) ≤ ((maxRow : Nat) : Int); rw [mr]; omega, hcond.2.2⟩]
      rfl
    · cases hc
  | slice t x lo hi mx =>
    simp only [compO] at hc
    split at hc
    · rename_i el he
      simp only [Option.bind_eq_some_iff, Option.some.injEq] at hc
      obtain ⟨s, hs, x', h1, lo', h2, hi', h3, mx', h4, rfl⟩ := hc
      obtain ⟨a, g1, g2⟩ := evK_inv h1 H
      obtain ⟨l, g3, g4⟩ := evoK_inv h2 g2
      obtain ⟨m, g5, g6⟩ := evoK_inv h3 g4
      obtain ⟨n, g7, g8⟩ := evoK_inv h4 g6
      obtain ⟨c, g9, g10⟩ := slK_inv he hs hr g8
      exact ⟨c, h, hp, by simp [stepOp, g1, g3, g5, g7, g9], hr, g10⟩
    · cases hc
  | fieldAddr t x f =>
    simp only [compO, Option.bind_eq_some_iff] at hc
    obtain ⟨fd, h1, n, h2, hc⟩ := hc
    split at hc
    · cases hc
    · rename_i hn
      simp only [Option.map_eq_some_iff] at hc
      obtain ⟨x', h3, rfl⟩ := hc
      obtain ⟨p, h4, h5⟩ := evK_inv h3 H
      obtain ⟨c, h6, h7⟩ := fshiftK_inv h5
      refine ⟨c, h, hp, ?_, hr, h7⟩
      have : fieldAddrC P t p f = shiftC p fd.offset := by
        refine fieldAddr_fact (n := n - 1) ?_ p
        have : n = n - 1 + 1 := by omega
        rw [h1]; simp only [Option.bind_some, h2, Option.map_some]; rw [← this]
      simp [stepOp, h4, this, h6]
  | field t x f =>
    simp only [compO, Option.bind_eq_some_iff, Option.some.injEq] at hc
    obtain ⟨fd, h1, n, h2, b, h3, x', h4, rfl⟩ := hc
    cases b with
    | true =>
      obtain ⟨a, h5, h6⟩ := evK_inv h4 H
      cases a <;> simp only [fiaK, reduceCtorEq] at h6
      rename_i cs
      rw [dropK_eq] at h6
      obtain ⟨h7, h8⟩ := takeK_inv h6
      refine ⟨_, h, hp, ?_, hr, h8⟩
      simp only [stepOp, h5, Option.bind_eq_bind, Option.bind_some]
      rw [fieldA_fact (off := fd.offset) (n := n) (by simp [h1, h2, h3])]
      simp only [takeN]
      rw [if_pos h7]; rfl
    | false =>
      obtain ⟨a, h5, h6⟩ := evK_inv h4 H
      cases a <;> simp only [fiK, reduceCtorEq] at h6
      rename_i cs
      obtain ⟨c, h7, h8⟩ := nthK_inv h6
      refine ⟨c, h, hp, ?_, hr, h8⟩
      simp only [stepOp, h5, Option.bind_eq_bind, Option.bind_some]
      rw [fieldS_fact (off := fd.offset) (n := n) (by simp [h1, h2, h3]), h7]; rfl
  | indexAddr t x i =>
    simp only [compO] at hc
    split at hc
    · rename_i el hu
      simp only [Option.bind_eq_some_iff, Option.some.injEq] at hc
      obtain ⟨s, hs, x', h1, y', h2, rfl⟩ := hc
      obtain ⟨a, h3, h4⟩ := evK_inv h1 H
      obtain ⟨b, h5, h6⟩ := evK_inv h2 h4
      obtain ⟨c, h7, h8⟩ := ixK_inv (P := P) (t := t) (e := el) (by unfold sliceE; rw [hu]) hs h6
      exact ⟨c, h, hp, by simp [stepOp, h3, h5, h7], hr, h8⟩
    · rename_i len el hu
      simp only [Option.bind_eq_some_iff, Option.some.injEq] at hc
      obtain ⟨s, hs, x', h1, y', h2, rfl⟩ := hc
      obtain ⟨a, h3, h4⟩ := evK_inv h1 H
      obtain ⟨b, h5, h6⟩ := evK_inv h2 h4
      obtain ⟨c, h7, h8⟩ := ixaK_inv hu hs h6
      exact ⟨c, h, hp, by simp [stepOp, h3, h5, h7], hr, h8⟩
    · cases hc
  | extract x i =>
    simp only [compO, Option.map_eq_some_iff] at hc
    obtain ⟨x', h1, rfl⟩ := hc
    obtain ⟨a, h3, h4⟩ := evK_inv h1 H
    obtain ⟨c, h5, h6⟩ := extK_inv h4
    exact ⟨c, h, hp, by simp [stepOp, h3, h5], hr, h6⟩
  | makeMap t o =>
    cases o with
    | none =>
      cases hc
      have H' : newK h (.map #[] 0) (fun l h => k (.om l) h) = some r := H
      obtain ⟨h', h2, h3⟩ := newK_inv hr H'
      exact ⟨_, h', _, rfl, h2, h3⟩
    | some o => exact pur hc rfl
  | lookup t x i ok =>
    simp only [compO, Option.bind_eq_some_iff, Option.some.injEq] at hc
    obtain ⟨x', h1, y', h2, rfl⟩ := hc
    obtain ⟨a, h3, h4⟩ := evK_inv h1 H
    obtain ⟨b, h5, h6⟩ := evK_inv h2 h4
    cases a <;> simp only [reduceCtorEq] at h6
    rename_i l
    obtain ⟨es, cl, h7, h8⟩ := mapK_inv hr h6
    obtain ⟨c, h9, h10⟩ := optK_inv h8
    exact ⟨c, h, hp, by simp [stepOp, h3, h5, lookupC, h7, h9], hr, h10⟩
  | mapUpdate t m x y =>
    simp only [compO, Option.bind_eq_some_iff, Option.some.injEq] at hc
    obtain ⟨m', h0, x', h1, y', h2, rfl⟩ := hc
    obtain ⟨a, h3, h4⟩ := evK_inv h0 H
    obtain ⟨b, h5, h6⟩ := evK_inv h1 h4
    obtain ⟨c, h7, h8⟩ := evK_inv h2 h6
    cases a <;> simp only [reduceCtorEq] at h8
    rename_i l
    obtain ⟨es, cl, h9, h10⟩ := mapK_inv hr h8
    obtain ⟨nd, h11, h12⟩ := optK_inv h10
    obtain ⟨h', h13, h14⟩ := storeK_inv hr h12
    exact ⟨_, h', _, by simp [stepOp, h3, h5, h7, mapUpdC, h9, h11], h13, h14⟩
  | call c =>
    obtain ⟨cal, args, ats⟩ := c
    simp only [compO] at hc
    split at hc
    · -- len
      split at hc
      · rename_i t x ht hx
        have ht0 : ats[0]? = some t := by rw [← Array.getElem?_toList, ht]; rfl
        have hx0 : args[0]? = some x := by rw [← Array.getElem?_toList, hx]; rfl
        split at hc
        · rename_i el hu
          simp only [Option.map_eq_some_iff] at hc
          obtain ⟨x', h1, rfl⟩ := hc
          obtain ⟨a, h3, h4⟩ := evK_inv h1 H
          obtain ⟨c, h5, h6⟩ := lenK_inv h4
          refine ⟨c, h, hp, ?_, hr, h6⟩
          simp only [stepOp, ht0, hx0, h3, Option.bind_eq_bind, Option.bind_some]
          rw [len_fact (e := el) (by unfold sliceE; rw [hu]), h5]; rfl
        · rename_i hu
          simp only [Option.map_eq_some_iff] at hc
          obtain ⟨x', h1, rfl⟩ := hc
          obtain ⟨a, h3, h4⟩ := evK_inv h1 H
          unfold lensK at h4
          split at h4
          · rename_i s
            rw [forceN_eq] at h4
            refine ⟨_, h, hp, ?_, hr, h4⟩
            simp only [stepOp, ht0, hx0, h3, Option.bind_eq_bind, Option.bind_some, lenStr_fact hu]
            rfl
          · cases h4
        · cases hc
          exact pureK_inv (by rfl) hr H
      · cases hc
    · -- append
      split at hc
      · rename_i t tx x y ht hx
        have ht0 : ats[0]? = some t := by rw [← Array.getElem?_toList, ht]; rfl
        have ht1 : ats[1]? = some tx := by rw [← Array.getElem?_toList, ht]; rfl
        have hx0 : args[0]? = some x := by rw [← Array.getElem?_toList, hx]; rfl
        have hx1 : args[1]? = some y := by rw [← Array.getElem?_toList, hx]; rfl
        simp only [Option.bind_eq_some_iff] at hc
        obtain ⟨el, he, el', he', s, hs, z, hz, i, hi, hc⟩ := hc
        split at hc
        · rename_i hcond
          simp only [Option.bind_eq_some_iff, Option.some.injEq] at hc
          obtain ⟨x', h1, y', h2, rfl⟩ := hc
          obtain ⟨a, h3, h4⟩ := evK_inv h1 H
          obtain ⟨b, h5, h6⟩ := evK_inv h2 h4
          obtain ⟨n, ys, h7, h8, h9⟩ := srcK_inv hr h6
          obtain ⟨c, h', hp', h10, h11, h12⟩ := apK_inv hr h8 h9
          refine ⟨c, h', hp', ?_, h11, h12⟩
          simp only [stepOp, ht0, ht1, hx0, hx1, h3, h5, appendC, he, he', hs, hz, hi, h7, Option.bind_eq_bind, Option.bind_some]
          rw [if_pos hcond]
          exact h10
        · cases hc
      · cases hc
    · -- copy
      split at hc
      · rename_i t tr x y ht hx
        have ht0 : ats[0]? = some t := by rw [← Array.getElem?_toList, ht]; rfl
        have hx0 : args[0]? = some x := by rw [← Array.getElem?_toList, hx]; rfl
        have hx1 : args[1]? = some y := by rw [← Array.getElem?_toList, hx]; rfl
        simp only [Option.bind_eq_some_iff, Option.some.injEq] at hc
        obtain ⟨el, he, s, hs, x', h1, y', h2, rfl⟩ := hc
        obtain ⟨a, h3, h4⟩ := evK_inv h1 H
        obtain ⟨b, h5, h6⟩ := evK_inv h2 h4
        obtain ⟨n, ys, h7, h8, h9⟩ := srcK_inv hr h6
        obtain ⟨c, h', hp', h10, h11, h12⟩ := cpK_inv he hs hr h8 h7 h9
        refine ⟨c, h', hp', ?_, h11, h12⟩
        simp only [stepOp, ht0, hx0, hx1, h3, h5, Option.bind_eq_bind, Option.bind_some]
        exact h10
      · cases hc
    · -- clear
      split at hc
      · rename_i t x ht hx
        have ht0 : ats[0]? = some t := by rw [← Array.getElem?_toList, ht]; rfl
        have hx0 : args[0]? = some x := by rw [← Array.getElem?_toList, hx]; rfl
        simp only [Option.bind_eq_some_iff] at hc
        obtain ⟨el, he, s, hs, z, hz, hc⟩ := hc
        split at hc
        · rename_i hcond
          simp only [Option.map_eq_some_iff] at hc
          obtain ⟨x', h1, rfl⟩ := hc
          obtain ⟨a, h3, h4⟩ := evK_inv h1 H
          obtain ⟨h', hp', h10, h11, h12⟩ := clrK_inv he hs hz hcond hr h4
          refine ⟨_, h', hp', ?_, h11, h12⟩
          simp only [stepOp, ht0, hx0, h3, h10, Option.bind_eq_bind, Option.bind_some]
        · cases hc
      · cases hc
    · -- a function
      simp only [Option.map_eq_some_iff] at hc
      obtain ⟨xs, h1, rfl⟩ := hc
      obtain ⟨cs, h3, h4⟩ := evsK_inv h1 H
      obtain ⟨c, h', hp', h5, h6, h7⟩ := callK_inv hcall hr h4
      refine ⟨c, h', hp', ?_, h6, h7⟩
      simp [stepOp, calleeOf, ev, fnOf, h3, h5]
    · -- a function's value
      simp only [Option.bind_eq_some_iff, Option.map_eq_some_iff] at hc
      obtain ⟨x', h0, xs, h1, rfl⟩ := hc
      obtain ⟨a, h2, h3⟩ := evK_inv h0 H
      obtain ⟨q, h4, h5⟩ := optK_inv h3
      obtain ⟨cs, h6, h7⟩ := evsK_inv h1 h5
      obtain ⟨c, h', hp', h8, h9, h10⟩ := callK_inv hcall hr h7
      refine ⟨c, h', hp', ?_, h9, h10⟩
      simp [stepOp, calleeOf, h2, h4, h6, h8]
    · exact pur hc rfl
  | _ => exact pur hc rfl
end
end
end Go.Tm.Q
