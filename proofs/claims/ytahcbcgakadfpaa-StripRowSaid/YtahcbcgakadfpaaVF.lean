import Derived.Test.YtahcbcgakadfpaaVE
set_option linter.unusedVariables false
namespace Go.Tm.V
noncomputable section
section
variable {P : Program} {call : CallF} {σ : Nat → Nat}
def compPure (P : Program) (σ : Nat → Nat) (o : Op) : Option (Vl R) := if pureOk o = true then (tmpRs σ (opTmps o.operands.toList)).map (puV P o) else none
theorem compPure_ref {o : Op} {f : Vl R} (h : compPure P σ o = some f) : VlRef P call σ o f := by
  unfold compPure at h
  split at h
  · rename_i ho
    simp only [Option.map_eq_some_iff] at h
    obtain ⟨rs, h1, rfl⟩ := h
    exact pure_ref ho h1
  · cases h
def compV (P : Program) (σ : Nat → Nat) : Op → Option (Vl R)
  | .move x | .assign x => (compRd σ x).map mvV
  | .pick c a b => (compRd σ c).bind fun c => (compRd σ a).bind fun a => (compRd σ b).bind fun b => some (pickV c a b)
  | .alloc t => (zeroC P t).map fun z => allocV (ofL z)
  | .box _ x => (compRd σ x).map boxV
  | .build t ps => (zeroC P t).bind fun z => match P.underlying t with
    | some (.struct fs) => if fs.toList.all (fun f => (sz P f.type).isSome) = true then (compFl σ (places P fs.toList) ps.toList).map (buildV (ofL z)) else none
    | some (.array _ e) => (sz P e).bind fun s => (compFl σ (fun i => some (i * s, s)) ps.toList).map (buildV (ofL z))
    | _ => none
  | .buildSlice t n ps => (sliceE P t).bind fun e => (sz P e).bind fun s => (zeroC P e).bind fun z => if 0 < s ∧ (ofL z).length = s ∧ n * s ≤ 2 ^ 24 then (compFl σ (fun i => some (i * s, s)) ps.toList).map (bslV s n (ofL z)) else none
  | .load t x => (sz P t).bind fun n => (aggT P t).bind fun b => (compRd σ x).bind fun x => some (@Bool.rec (fun _ => Vl R) (ldV x) (ldaV n x) b)
  | .store t x y => (sz P t).bind fun n => (compRd σ x).bind fun x => (compRd σ y).bind fun y => some (stV n x y)
  | .nilCheck x => (compRd σ x).map nilcV
  | .binOp op t x y u => compBin P σ op t x y u
  | .unOp .not _ x => (compRd σ x).map notV
  | .convert s d x => (compRd σ x).map (cvV P s d)
  | .makeSlice t l c => (sliceE P t).bind fun e => (sz P e).bind fun s => (zeroC P e).bind fun z => (P.info? e).bind fun i => if 0 < s ∧ (ofL z).length = s ∧ i.bytes ≤ 2 ^ 10 then (compRd σ l).bind fun l => (compRd σ c).bind fun c => some (msV s (ofL z) l c) else none
  | .slice t x lo hi mx => match sliceE P t with
    | some e => (sz P e).bind fun s => (compRd σ x).bind fun x => (compRo σ lo).bind fun lo => (compRo σ hi).bind fun hi => (compRo σ mx).bind fun mx => some (slV s x lo hi mx)
    | none => none
  | .fieldAddr t x f => (structF P t f).bind fun fd => (sz P fd.type).bind fun n => match n with
    | 0 => none
    | _ + 1 => (compRd σ x).map (shV fd.offset)
  | .field t x f => (structF P t f).bind fun fd => (sz P fd.type).bind fun n => (aggT P fd.type).bind fun b => (compRd σ x).bind fun x => some (@Bool.rec (fun _ => Vl R) (fiV fd.offset x) (fiaV fd.offset n x) b)
  | .indexAddr t x i => match P.underlying t with
    | some (.slice e) => (sz P e).bind fun s => (compRd σ x).bind fun x => (compRd σ i).bind fun i => some (ixV s x i)
    | some (.array len e) => (sz P e).bind fun s => (compRd σ x).bind fun x => (compRd σ i).bind fun i => some (ixaV len s x i)
    | _ => none
  | .extract x i => (compRd σ x).map (extV i)
  | .makeMap _ none => some mmV
  | .lookup t x i ok => (compRd σ x).bind fun x => (compRd σ i).bind fun i => some (lkV P t ok x i)
  | .mapUpdate t m k v => (compRd σ m).bind fun m => (compRd σ k).bind fun k => (compRd σ v).bind fun v => some (muV P t m k v)
  | .call c => match c.callee with
    | .builtin .len => match c.argTypes.toList, c.args.toList with
      | [t], [x] => match P.underlying t with
        | some (.slice _) => (compRd σ x).map lenV
        | some .string => (compRd σ x).map lensV
        | _ => compPure P σ (.call c)
      | _, _ => none
    | .builtin .append => match c.argTypes.toList, c.args.toList with
      | [t, tx], [x, y] => (sliceE P t).bind fun e => (sliceE P tx).bind fun _ => (sz P e).bind fun s => (zeroC P e).bind fun z => (P.info? e).bind fun i => if 0 < s ∧ z.length = s ∧ i.bytes ≤ 2 ^ 10 then (compRd σ x).bind fun x => (compRd σ y).bind fun y => some (apV s x y) else none
      | _, _ => none
    | .builtin .copy => match c.argTypes.toList, c.args.toList with
      | t :: _, [x, y] => (sliceE P t).bind fun e => (sz P e).bind fun s => (compRd σ x).bind fun x => (compRd σ y).bind fun y => some (cpV s x y)
      | _, _ => none
    | .builtin .clear => match c.argTypes.toList, c.args.toList with
      | [t], [x] => (sliceE P t).bind fun e => (sz P e).bind fun s => (zeroC P e).bind fun z => if 0 < s ∧ (ofL z).length = s then (compRd σ x).map (clrV s (ofL z)) else none
      | _, _ => none
    | .value (.func f) => (compRs σ c.args.toList).map (caV f)
    | .value x => (compRd σ x).bind fun x => (compRs σ c.args.toList).map (cavV x)
    | _ => compPure P σ (.call c)
  | o => compPure P σ o
theorem compV_ref {op : Op} {f : Vl R} (hc : compV P σ op = some f) : VlRef P call σ op f := by
  cases op with
  | move x =>
    simp only [compV, Option.map_eq_some_iff] at hc
    obtain ⟨x', h1, rfl⟩ := hc
    exact move_ref (compRd_ref h1)
  | assign x =>
    simp only [compV, Option.map_eq_some_iff] at hc
    obtain ⟨x', h1, rfl⟩ := hc
    exact assign_ref (compRd_ref h1)
  | pick x a b =>
    simp only [compV, Option.bind_eq_some_iff, Option.some.injEq] at hc
    obtain ⟨x', h1, a', h2, b', h3, rfl⟩ := hc
    exact pick_ref (compRd_ref h1) (compRd_ref h2) (compRd_ref h3)
  | alloc t =>
    simp only [compV, Option.map_eq_some_iff] at hc
    obtain ⟨z, h1, rfl⟩ := hc
    exact alloc_ref (by rw [c_ofL]; exact h1)
  | box t x =>
    simp only [compV, Option.map_eq_some_iff] at hc
    obtain ⟨x', h1, rfl⟩ := hc
    exact box_ref (compRd_ref h1)
  | build t ps =>
    simp only [compV, Option.bind_eq_some_iff] at hc
    obtain ⟨z, hz, hc⟩ := hc
    split at hc
    · rename_i fs hu
      split at hc
      · rename_i hall
        simp only [Option.map_eq_some_iff] at hc
        obtain ⟨qs, h1, rfl⟩ := hc
        exact buildS_ref hu (by rw [c_ofL]; exact hz) hall (compFl_ref h1)
      · cases hc
    · rename_i len el hu
      simp only [Option.bind_eq_some_iff, Option.map_eq_some_iff] at hc
      obtain ⟨s, hs, qs, h1, rfl⟩ := hc
      exact buildA_ref hu (by rw [c_ofL]; exact hz) hs (compFl_ref h1)
    · cases hc
  | buildSlice t n ps =>
    simp only [compV, Option.bind_eq_some_iff] at hc
    obtain ⟨el, he, s, hs, z, hz, hc⟩ := hc
    split at hc
    · rename_i hcond
      simp only [Option.map_eq_some_iff] at hc
      obtain ⟨qs, h1, rfl⟩ := hc
      exact buildSlice_ref he hs (by rw [c_ofL]; exact hz) hcond (compFl_ref h1)
    · cases hc
  | load t x =>
    simp only [compV, Option.bind_eq_some_iff, Option.some.injEq] at hc
    obtain ⟨n, h1, b, h2, x', h3, rfl⟩ := hc
    cases b with
    | true => exact loadA_ref h1 h2 (compRd_ref h3)
    | false => exact load_ref h1 h2 (compRd_ref h3)
  | store t x y =>
    simp only [compV, Option.bind_eq_some_iff, Option.some.injEq] at hc
    obtain ⟨n, h1, x', h2, y', h3, rfl⟩ := hc
    exact store_ref h1 (compRd_ref h2) (compRd_ref h3)
  | nilCheck x =>
    simp only [compV, Option.map_eq_some_iff] at hc
    obtain ⟨x', h1, rfl⟩ := hc
    exact nilCheck_ref (compRd_ref h1)
  | binOp b t x y u => exact compBin_ref hc
  | unOp b t x =>
    cases b with
    | not =>
      simp only [compV, Option.map_eq_some_iff] at hc
      obtain ⟨x', h1, rfl⟩ := hc
      exact not_ref (compRd_ref h1)
    | _ => exact compPure_ref hc
  | convert s d x =>
    simp only [compV, Option.map_eq_some_iff] at hc
    obtain ⟨x', h1, rfl⟩ := hc
    exact convert_ref (compRd_ref h1)
  | makeSlice t x y =>
    simp only [compV, Option.bind_eq_some_iff] at hc
    obtain ⟨el, he, s, hs, z, hz, i, hi, hc⟩ := hc
    split at hc
    · rename_i hcond
      simp only [Option.bind_eq_some_iff, Option.some.injEq] at hc
      obtain ⟨x', h1, y', h2, rfl⟩ := hc
      exact makeSlice_ref he hs (by rw [c_ofL]; exact hz) ⟨i, hi, hcond⟩ (compRd_ref h1) (compRd_ref h2)
    · cases hc
  | slice t x lo hi mx =>
    simp only [compV] at hc
    split at hc
    · rename_i el he
      simp only [Option.bind_eq_some_iff, Option.some.injEq] at hc
      obtain ⟨s, hs, x', h1, lo', h2, hi', h3, mx', h4, rfl⟩ := hc
      exact slice_ref he hs (compRd_ref h1) (compRo_ref h2) (compRo_ref h3) (compRo_ref h4)
    · cases hc
  | fieldAddr t x f =>
    simp only [compV, Option.bind_eq_some_iff] at hc
    obtain ⟨fd, h1, n, h2, hc⟩ := hc
    cases n with
    | zero => cases hc
    | succ n =>
      simp only [Option.map_eq_some_iff] at hc
      obtain ⟨x', h3, rfl⟩ := hc
      exact fieldAddr_ref (n := n) (by rw [h1]; simp only [Option.bind_some, h2, Option.map_some]) (compRd_ref h3)
  | field t x f =>
    simp only [compV, Option.bind_eq_some_iff, Option.some.injEq] at hc
    obtain ⟨fd, h1, n, h2, b, h3, x', h4, rfl⟩ := hc
    cases b with
    | true => exact fieldA_ref (off := fd.offset) (n := n) (by simp [h1, h2, h3]) (compRd_ref h4)
    | false => exact field_ref (off := fd.offset) (n := n) (by simp [h1, h2, h3]) (compRd_ref h4)
  | indexAddr t x i =>
    simp only [compV] at hc
    split at hc
    · rename_i el hu
      simp only [Option.bind_eq_some_iff, Option.some.injEq] at hc
      obtain ⟨s, hs, x', h1, y', h2, rfl⟩ := hc
      exact index_ref (el := el) (by unfold sliceE; rw [hu]) hs (compRd_ref h1) (compRd_ref h2)
    · rename_i len el hu
      simp only [Option.bind_eq_some_iff, Option.some.injEq] at hc
      obtain ⟨s, hs, x', h1, y', h2, rfl⟩ := hc
      exact indexA_ref hu hs (compRd_ref h1) (compRd_ref h2)
    · cases hc
  | extract x i =>
    simp only [compV, Option.map_eq_some_iff] at hc
    obtain ⟨x', h1, rfl⟩ := hc
    exact extract_ref (compRd_ref h1)
  | makeMap t o =>
    cases o with
    | none => cases hc; exact makeMap_ref
    | some o => exact compPure_ref hc
  | lookup t x i ok =>
    simp only [compV, Option.bind_eq_some_iff, Option.some.injEq] at hc
    obtain ⟨x', h1, y', h2, rfl⟩ := hc
    exact lookup_ref (compRd_ref h1) (compRd_ref h2)
  | mapUpdate t m x y =>
    simp only [compV, Option.bind_eq_some_iff, Option.some.injEq] at hc
    obtain ⟨m', h0, x', h1, y', h2, rfl⟩ := hc
    exact mapUpdate_ref (compRd_ref h0) (compRd_ref h1) (compRd_ref h2)
  | call c =>
    obtain ⟨cal, args, ats⟩ := c
    have arr : ∀ {α : Type} {a : Array α} {l : List α}, a.toList = l → a = l.toArray := fun h => by rw [← h]
    simp only [compV] at hc
    split at hc
    · split at hc
      · rename_i t x ht hx
        have ht0 : ats = #[t] := arr ht
        have hx0 : args = #[x] := arr hx
        subst ht0 hx0
        split at hc
        · rename_i el hu
          simp only [Option.map_eq_some_iff] at hc
          obtain ⟨x', h1, rfl⟩ := hc
          exact len_ref (el := el) (by unfold sliceE; rw [hu]) (compRd_ref h1)
        · rename_i hu
          simp only [Option.map_eq_some_iff] at hc
          obtain ⟨x', h1, rfl⟩ := hc
          exact lens_ref hu (compRd_ref h1)
        · exact compPure_ref hc
      · cases hc
    · split at hc
      · rename_i t tx x y ht hx
        have ht0 : ats = #[t, tx] := arr ht
        have hx0 : args = #[x, y] := arr hx
        subst ht0 hx0
        simp only [Option.bind_eq_some_iff] at hc
        obtain ⟨el, he, el', he', s, hs, z, hz, i, hi, hc⟩ := hc
        split at hc
        · rename_i hcond
          simp only [Option.bind_eq_some_iff, Option.some.injEq] at hc
          obtain ⟨x', h1, y', h2, rfl⟩ := hc
          exact append_ref he he' hs hz ⟨i, hi, hcond⟩ (compRd_ref h1) (compRd_ref h2)
        · cases hc
      · cases hc
    · split at hc
      · rename_i t tr x y ht hx
        have hx0 : args = #[x, y] := arr hx
        subst hx0
        have ht0 : ats[0]? = some t := by rw [← Array.getElem?_toList, ht]; rfl
        simp only [Option.bind_eq_some_iff, Option.some.injEq] at hc
        obtain ⟨el, he, s, hs, x', h1, y', h2, rfl⟩ := hc
        exact copy_ref ht0 he hs (compRd_ref h1) (compRd_ref h2)
      · cases hc
    · split at hc
      · rename_i t x ht hx
        have ht0 : ats = #[t] := arr ht
        have hx0 : args = #[x] := arr hx
        subst ht0 hx0
        simp only [Option.bind_eq_some_iff] at hc
        obtain ⟨el, he, s, hs, z, hz, hc⟩ := hc
        split at hc
        · rename_i hcond
          simp only [Option.map_eq_some_iff] at hc
          obtain ⟨x', h1, rfl⟩ := hc
          exact clear_ref he hs (by rw [c_ofL]; exact hz) hcond (compRd_ref h1)
        · cases hc
      · cases hc
    · simp only [Option.map_eq_some_iff] at hc
      obtain ⟨xs, h1, rfl⟩ := hc
      exact call_ref (compRs_ref h1)
    · simp only [Option.bind_eq_some_iff, Option.map_eq_some_iff] at hc
      obtain ⟨x', h0, xs, h1, rfl⟩ := hc
      exact callv_ref (compRd_ref h0) (compRs_ref h1)
    · exact compPure_ref hc
  | _ => exact compPure_ref hc
end
end
end Go.Tm.V
