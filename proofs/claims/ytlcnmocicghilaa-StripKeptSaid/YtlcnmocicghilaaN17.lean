/- The law returns true at every input. No condition. -/
import Derived.Test.YtlcnmocicghilaaRows
import Derived.WalkKit
import Derived.ProofKit
import Derived.OpenShut
import Derived.ShutString
import Derived.ChangeOld
import Derived.Below
import Derived.SizedLaws
import Derived.Carry
import Derived.Test.YtlcnmocicghilaaN9
import Derived.Test.YtlcnmocicghilaaN16
set_option linter.unusedSimpArgs false
set_option linter.unusedVariables false
namespace Go.Proofs.Ytlcnmocicghilaa.stripKept
open Go.ChangeShapes Go.WideShapes Go.ChangeAt Go.RowKit Go.Tm Go.Proofs.Ytlcnmocicghilaa.Tk
open Go.ChangeMaps (open_string shut_string)
theorem own:ownKnob Try.prog.godebug=none:=by kernel_rfl
theorem laidOut:laidOutB Try.prog=true:=by kernel_rfl
set_option maxRecDepth 100000 in
theorem lifted (os:Os) (started:os.Started) (H:Type) (enc:TypeId×Value→H):
  ReturnsInHanded {} Try.checked os 3 .any (Rows.stripKeptSpec.pre6 enc Try.prog Try.f3 Rows.stripKeptRow.domain false) (Rows.stripKeptSpec.post enc Try.prog Try.f3 false true false false):=by
 refine returnsInHanded_of_change_sized (C:=Try.checked) own started (by kernel_rfl) Try.func3
  (ChangeSpec.witness6 (enc:=enc) (C:=Try.checked) false ⟨#[], #[.agg #[.slice none 0 0,.slice none 0 0,.slice none 0 0,.slice none 0 0]],[]⟩ 8 (by kernel_rfl) (by kernel_rfl) (by kernel_rfl) (by kernel_rfl)) ?_
 intro W base args ds gs before hval0 hW hcnd hsz0 _
 have hsz:(DataW.weightsEach Try.prog (Try.f3.params.toList++Rows.stripKeptSpec.plain.varTypes Try.prog) (ds++gs)).all (· ≤reachBytes)=true:=hsz0
 have hval:∀(j:Nat) t v,Try.f3.params[j]?=some t→args[j]?=some v→Value.okWide Try.prog W .any base t v:=hval0
 have hW':=hW
 obtain⟨p,q,hA0,hV,rfl,hfz,hnd⟩:=hW
 have hA:DataW.TrodAll enc Try.prog W 0 (fun _=>true) true Try.f3.params.toList args.toList ds p:=hA0
 rw[Try.params3] at hA hval hsz
 obtain⟨v0,vs0,d0,ds0,p0,q0,hargs,rfl,rfl,h0,r0⟩:=trodAll_cons hA
 obtain⟨rfl,rfl,rfl⟩:=trodAll_nil r0
 obtain rfl:args= #[v0]:=by cases args;simp_all
 obtain⟨rfl,rfl⟩:=trodVars_none hV
 have k0:=h0
 have lt0:∀x∈p0,x.block<W.heap.size:=by obtain⟨m,hm⟩:=k0;exact DataW.trod_lt m _ _ _ hm
 obtain⟨fuel0,hf0⟩:=h0
 obtain⟨cs0,rfl,_⟩:=okWide_struct Try.underlying27 (hval 0 27 v0 rfl rfl)
 obtain⟨x0,⟨hR0,hO0⟩,hb0⟩:=o_module H enc W 0 fuel0 _ _ _ (fun _=>default) hf0 (List.all_eq_true.2 fun z hz=>List.all_eq_true.1 hsz z (DataW.weights_mem_each (j:=0) (t:=27) rfl rfl z hz))
 clear hA0 hval0 hsz0 hsz
 have run:=stripKept x0 (fun f hf b hb=>Nat.lt_of_le_of_lt ((hb0.funcs f hf).blocks b hb).len (by decide)) _ (Nat.le_refl _) [.agg (encModule x0)] [] (by rw[enc_module];simp +decide -implicitDefEqProofs only[depth,go_sem])
 have rel:RelL W noBad noName (fun _=>default) [.agg (encModule x0)] [.agg cs0]:=by
  simp only[RelL,Rel]
  exact⟨_,_,rfl,⟨_,rfl,hR0,hO0⟩,rfl⟩
 refine(law_calls (callAt_ok mix tab_ok _) run rel).mono fun e W' ⟨he,bel⟩=> ?_
 subst he
 exact⟨_,rfl,_,_,_,[],_,[],hW',trodAll_mk1 (shut_bool Try.underlying4 _),(trodAll_cons_mk (Below.trod laidOut (by kernel_rfl) (of_decide_eq_true (by kernel_rfl)) k0 bel lt0) trodAll_mk0),rfl,bel.frame _,fun h=>by cases h⟩
theorem over:Rows.stripKeptRow.holds Try.pinned (OpenSpec.ofChange Rows.stripKeptSpec):=
 OpenClaim.holds_of_wide 3 Try.f3 rfl rfl rfl rfl rfl rfl rfl ⟨rfl,rfl,rfl,rfl,rfl⟩ rfl rfl rfl rfl rfl (by kernel_rfl) Try.func3 (by kernel_rfl)
  (of_decide_eq_true (by kernel_rfl)) (by unfold Func.isWrapper;first|(rw[if_pos (by decide +kernel)];kernel_rfl)|(rw[if_neg (by decide +kernel)];exact⟨rfl,rfl⟩))
  (fun os started H enc _=>lifted os started H enc)
theorem proved:Rows.StripKeptSaid:=over
#print axioms proved
end Go.Proofs.Ytlcnmocicghilaa.stripKept
namespace Go.Proofs.Ytlcnmocicghilaa
theorem stripKept_holds:Rows.StripKeptSaid:=stripKept.proved
end Go.Proofs.Ytlcnmocicghilaa
