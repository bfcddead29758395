/- The law planish/plnlaw11.SemAlike returns true at every input. No condition. -/
import Derived.Test.YtahcbcgakadfpaaRows
import Derived.WalkKit
import Derived.ProofKit
import Derived.OpenShut
import Derived.ShutString
import Derived.ChangeOld
import Derived.Below
import Derived.SizedLaws
import Derived.Carry
import Derived.Test.YtahcbcgakadfpaaSemAlike5
namespace Go.Proofs.Ytahcbcgakadfpaa.Ts
open Go.Tm
theorem o_num : Opens Try.prog 3 (fun n => [int n]) okI := opens_num Try.underlying3
theorem o_i64 : Opens Try.prog 2 (fun n => [int n]) okI := opens_num Try.underlying2
theorem o_ints : Opens Try.prog 52 (fun l => [ints l]) (fun l => (∀ x ∈ l, okI x) ∧ l.length ≤ 17592186044416) := opens_ints Try.underlying2 Try.underlying52 (by kernel_rfl) (by kernel_rfl)
theorem o_str : Opens Try.prog 9 (fun b => [str b]) (fun b => b.size ≤ 140737488351232) := opens_string Try.underlying9
theorem o_event : Opens Try.prog 58 encEvent (fun _ => True) :=
  opens_struct Try.underlying58 (opensF_cons (s := 1) (s2 := 2) rfl (by kernel_rfl) o_str (opensF_cons (s := 1) (s2 := 1) rfl (by kernel_rfl) o_ints (opensF_one (s := 1) rfl (by kernel_rfl) o_i64)))
    (by kernel_rfl) (fun y => ⟨y.1, y.2.1, y.2.2⟩) (fun _ => rfl) (fun _ _ => trivial)
theorem o_events : Opens Try.prog 47 (fun l => [events l]) (fun _ => True) :=
  (opens_slice (b := 48) (s := 3) Try.underlying47 o_event (fun _ => rfl) (by omega) (by kernel_rfl) (by kernel_rfl)).mono fun l _ => trivial
theorem o_told : Opens Try.prog 49 encTold (fun _ => True) :=
  opens_struct Try.underlying49 (opensF_cons (s := 1) (s2 := 4) rfl (by kernel_rfl) o_num (opensF_cons (s := 1) (s2 := 3) rfl (by kernel_rfl) o_num (opensF_cons (s := 1) (s2 := 2) rfl (by kernel_rfl) o_i64 (opensF_cons (s := 1) (s2 := 1) rfl (by kernel_rfl) o_num (opensF_one (s := 1) rfl (by kernel_rfl) o_events)))))
    (by kernel_rfl) (fun y => ⟨y.1, y.2.1, y.2.2.1, y.2.2.2.1, y.2.2.2.2⟩) (fun _ => rfl) (fun _ _ => trivial)
end Go.Proofs.Ytahcbcgakadfpaa.Ts
namespace Go.Proofs.Ytahcbcgakadfpaa.semAlike
open Go.ChangeShapes Go.WideShapes Go.ChangeAt Go.RowKit Go.Tm Go.Proofs.Ytahcbcgakadfpaa.Ts
open Go.ChangeMaps (open_string shut_string)
set_option linter.unusedVariables false
theorem own : ownKnob Try.prog.godebug = none := by kernel_rfl
theorem laidOut : laidOutB Try.prog = true := by kernel_rfl
set_option maxRecDepth 100000 in
theorem lifted (os : Os) (started : os.Started) (H : Type) (enc : TypeId × Value → H) :
    ReturnsInHanded {} Try.checked os 8 .any (Rows.semAlikeSpec.pre6 enc Try.prog Try.f8 Rows.semAlikeRow.domain false) (Rows.semAlikeSpec.post enc Try.prog Try.f8 false true false false) := by
  refine returnsInHanded_of_change_sized (C := Try.checked) own started (by kernel_rfl) Try.func8
    (ChangeSpec.witness6 (enc := enc) (C := Try.checked) false ⟨#[], #[.agg #[.int .i64 0, .int .i64 0, .int .i64 0, .int .i64 0, .slice none 0 0], .agg #[.int .i64 0, .int .i64 0, .int .i64 0, .int .i64 0, .slice none 0 0], .int .i64 0], []⟩ 8 (by kernel_rfl) (by kernel_rfl) (by kernel_rfl) (by kernel_rfl)) ?_
  intro W base args ds gs before hval0 hW hcnd hsz0 _
  have hsz : (DataW.weightsEach Try.prog (Try.f8.params.toList ++ Rows.semAlikeSpec.plain.varTypes Try.prog) (ds ++ gs)).all (· ≤ reachBytes) = true := hsz0
  have hval : ∀ (j : Nat) t v, Try.f8.params[j]? = some t → args[j]? = some v → Value.okWide Try.prog W .any base t v := hval0
  have hW' := hW
  obtain ⟨p, q, hA0, hV, rfl, hfz, hnd⟩ := hW
  have hA : DataW.TrodAll enc Try.prog W 0 (fun _ => true) true Try.f8.params.toList args.toList ds p := hA0
  rw [Try.params8] at hA hval hsz
  obtain ⟨v0, vs0, d0, ds0, p0, q0, hargs, rfl, rfl, h0, r0⟩ := trodAll_cons hA
  obtain ⟨v1, vs1, d1, ds1, p1, q1, rfl, rfl, rfl, h1, r1⟩ := trodAll_cons r0
  obtain ⟨v2, vs2, d2, ds2, p2, q2, rfl, rfl, rfl, h2, r2⟩ := trodAll_cons r1
  obtain ⟨rfl, rfl, rfl⟩ := trodAll_nil r2
  obtain rfl : args = #[v0, v1, v2] := by cases args; simp_all
  obtain ⟨rfl, rfl⟩ := trodVars_none hV
  have k0 := h0
  have k1 := h1
  have lt0 : ∀ x ∈ p0, x.block < W.heap.size := by obtain ⟨m, hm⟩ := k0; exact DataW.trod_lt m _ _ _ hm
  have lt1 : ∀ x ∈ p1, x.block < W.heap.size := by obtain ⟨m, hm⟩ := k1; exact DataW.trod_lt m _ _ _ hm
  obtain ⟨fuel0, hf0⟩ := h0
  obtain ⟨fuel1, hf1⟩ := h1
  obtain ⟨cs0, rfl, _⟩ := okWide_struct Try.underlying49 (hval 0 49 v0 rfl rfl)
  obtain ⟨cs1, rfl, _⟩ := okWide_struct Try.underlying49 (hval 1 49 v1 rfl rfl)
  obtain ⟨x0, ⟨hR0, hO0⟩, hb0⟩ := o_told H enc W 0 fuel0 _ _ _ (fun _ => default) hf0 (List.all_eq_true.2 fun z hz => List.all_eq_true.1 hsz z (DataW.weights_mem_each (j := 0) (t := 49) rfl rfl z hz))
  obtain ⟨x1, ⟨hR1, hO1⟩, hb1⟩ := o_told H enc W 0 fuel1 _ _ _ (fun _ => default) hf1 (List.all_eq_true.2 fun z hz => List.all_eq_true.1 hsz z (DataW.weights_mem_each (j := 1) (t := 49) rfl rfl z hz))
  obtain ⟨a2, rfl, rfl, rfl, w2⟩ := open_int Try.underlying3 (hval 2 3 v2 rfl rfl) h2
  clear hA0 hval0 hsz0 hsz
  have run := semAlike x0 x1 a2 _ (Nat.le_refl _) [.agg (encTold x0), .agg (encTold x1), int a2] [] (by simp only [mapC_cons, mapC_nil, depth, view_told, view_int, Option.bind_some])
  have rel : RelL W noBad noName (fun _ => default) [.agg (encTold x0), .agg (encTold x1), int a2] [.agg cs0, .agg cs1, .int .i64 a2] := by
    simp only [RelL, Rel]
    exact ⟨_, _, rfl, ⟨_, rfl, hR0, hO0⟩, _, _, rfl, ⟨_, rfl, hR1, hO1⟩, _, _, rfl, ⟨rfl, rfl⟩, rfl⟩
  refine (law_calls (callAt_ok mix tab_ok _) run rel).mono fun e W' ⟨he, bel⟩ => ?_
  subst he
  exact ⟨_, rfl, _, _, _, [], _, [], hW', trodAll_mk1 (shut_bool Try.underlying4 _), (trodAll_cons_mk (Below.trod laidOut (by kernel_rfl) (of_decide_eq_true (by kernel_rfl)) k0 bel lt0) (trodAll_cons_mk (Below.trod laidOut (by kernel_rfl) (of_decide_eq_true (by kernel_rfl)) k1 bel lt1) (trodAll_cons_mk (shut_int Try.underlying3 w2) trodAll_mk0))), rfl, bel.frame _, fun h => by cases h⟩
theorem over : Rows.semAlikeRow.holds Try.pinned (OpenSpec.ofChange Rows.semAlikeSpec) :=
  OpenClaim.holds_of_wide 8 Try.f8 rfl rfl rfl rfl rfl rfl rfl ⟨rfl, rfl, rfl, rfl, rfl⟩ rfl rfl rfl rfl rfl (by kernel_rfl) Try.func8 (by kernel_rfl)
    (of_decide_eq_true (by kernel_rfl)) (by unfold Func.isWrapper; first | (rw [if_pos (by decide +kernel)]; kernel_rfl) | (rw [if_neg (by decide +kernel)]; exact ⟨rfl, rfl⟩))
    (fun os started H enc _ => lifted os started H enc)
theorem proved : Rows.SemAlikeSaid := over
#print axioms proved
end Go.Proofs.Ytahcbcgakadfpaa.semAlike
namespace Go.Proofs.Ytahcbcgakadfpaa
theorem semAlike_holds : Rows.SemAlikeSaid := semAlike.proved
end Go.Proofs.Ytahcbcgakadfpaa
