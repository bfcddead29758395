/- A part of the proof of the law of DomWays: lemmas and walks, out of this session's texts, with what the claim does not use struck out. -/
import Derived.Test.YtkcimaibaicdcaaD6
namespace Go.Proofs.Ytkcimaibaicdcaa.P
open Go.RowKit Go.Proofs.YtkcimaibaicdcaaW.PrintWords Go.Proofs.YtkcimaibaicdcaaW.PrintLast Go.Proofs.YtkcimaibaicdcaaW.PrintMore
attribute [local go_sem] max2_int min2_int max_two min_two max_three min_three max_four min_four   
set_option linter.unusedVariables false
set_option linter.unusedSimpArgs false
def B56 (x : S56) : Prop := (Lit.int .i64 x.f0).wf = true ∧ (Lit.int .i64 x.f1).wf = true ∧ (Lit.int .i64 x.f2).wf = true ∧ (Lit.int .i64 x.f3).wf = true ∧ (Lit.int .i64 x.f4).wf = true ∧ (x.f5.length * 8 ≤ 140737488351232 ∧ ∀ x_ ∈ x.f5, (Lit.int .i64 x_).wf = true) ∧ x.f6.length * 8 ≤ 140737488351232 ∧ ∀ x_ ∈ x.f6, (Lit.int .i64 x_).wf = true
theorem opn56 : Opn Try.prog 56 k56 B56 := opn_struct Try.underlying56 (opnF_cons rfl (by kernel_rfl) (opn_int Try.underlying3) (opnF_cons rfl (by kernel_rfl) (opn_int Try.underlying3) (opnF_cons rfl (by kernel_rfl) (opn_int Try.underlying3) (opnF_cons rfl (by kernel_rfl) (opn_int Try.underlying3) (opnF_cons rfl (by kernel_rfl) (opn_int Try.underlying2) (opnF_cons rfl (by kernel_rfl) (opn_slice Try.underlying22 (opn_int Try.underlying3) (by kernel_rfl) (by kernel_rfl)) (opnF_one rfl (by kernel_rfl) (opn_slice Try.underlying22 (opn_int Try.underlying3) (by kernel_rfl) (by kernel_rfl))))))))) (by kernel_rfl) _ (fun y => ⟨y.1, y.2.1, y.2.2.1, y.2.2.2.1, y.2.2.2.2.1, y.2.2.2.2.2.1, y.2.2.2.2.2.2⟩) (fun _ => rfl)
def B54 (x : S54) : Prop := x.f0.length * 88 ≤ 140737488351232 ∧ ∀ x_ ∈ x.f0, B56 x_
theorem opn54 : Opn Try.prog 54 k54 B54 := opn_struct Try.underlying54 (opnF_one rfl (by kernel_rfl) (opn_slice Try.underlying52 opn56 (by kernel_rfl) (by kernel_rfl))) (by kernel_rfl) _ (fun y => ⟨y⟩) (fun _ => rfl)
def B25 (x : S25) : Prop := x.f0.size ≤ 140737488351232 ∧ True ∧ (x.f2.length * 8 ≤ 140737488351232 ∧ ∀ x_ ∈ x.f2, (Lit.int .i64 x_).wf = true) ∧ (Lit.int .i64 x.f3).wf = true ∧ x.f4.length * 24 ≤ 140737488351232 ∧ ∀ x_ ∈ x.f4, B54 x_
theorem opn25 : Opn Try.prog 25 k25 B25 := opn_struct Try.underlying25 (opnF_cons rfl (by kernel_rfl) (opn_string Try.underlying9) (opnF_cons rfl (by kernel_rfl) (opn_bool Try.underlying4) (opnF_cons rfl (by kernel_rfl) (opn_slice Try.underlying22 (opn_int Try.underlying3) (by kernel_rfl) (by kernel_rfl)) (opnF_cons rfl (by kernel_rfl) (opn_int Try.underlying3) (opnF_one rfl (by kernel_rfl) (opn_slice Try.underlying23 opn54 (by kernel_rfl) (by kernel_rfl))))))) (by kernel_rfl) _ (fun y => ⟨y.1, y.2.1, y.2.2.1, y.2.2.2.1, y.2.2.2.2⟩) (fun _ => rfl)
end Go.Proofs.Ytkcimaibaicdcaa.P
