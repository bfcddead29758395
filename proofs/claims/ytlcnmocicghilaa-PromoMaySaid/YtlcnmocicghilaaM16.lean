/- The law returns true at every input. No condition. -/
import Derived.Test.YtlcnmocicghilaaRows
import Derived.WalkKit
import Derived.ProofKit
import Derived.OpenShut
import Derived.ShutString
import Derived.ChangeOld
import Derived.Below
import Derived.SizedLaws
import Derived.Carry
import Derived.Test.YtlcnmocicghilaaM9
import Derived.Test.YtlcnmocicghilaaM15
set_option linter.unusedSimpArgs false
set_option linter.unusedVariables false
namespace Go.Proofs.Ytlcnmocicghilaa.promoMay
open Go.ChangeShapes Go.WideShapes Go.ChangeAt Go.RowKit Go.Tm Go.Proofs.Ytlcnmocicghilaa.Tk
open Go.ChangeMaps (open_string shut_string)
theorem own:ownKnob Try.prog.godebug=none:=by kernel_rfl
theorem laidOut:laidOutB Try.prog=true:=by kernel_rfl
set_option maxRecDepth 100000 in
theorem lifted (os:Os) (started:os.Started) (H:Type) (enc:TypeId×Value→H):
  ReturnsInHanded {} Try.checked os 5 .any (Rows.promoMaySpec.pre6 enc Try.prog Try.f5 Rows.promoMayRow.domain false) (Rows.promoMaySpec.post enc Try.prog Try.f5 false true false false):=by
 refine returnsInHanded_of_change_sized (C:=Try.checked) own started (by kernel_rfl) Try.func5
  (ChangeSpec.witness6 (enc:=enc) (C:=Try.checked) false ⟨#[], #[.agg #[.slice none 0 0,.slice none 0 0,.slice none 0 0,.slice none 0 0],.int .i64 0],[]⟩ 8 (by kernel_rfl) (by kernel_rfl) (by kernel_rfl) (by kernel_rfl)) ?_
 intro W base args ds gs before hval0 hW hcnd hsz0 _
 have hsz:(DataW.weightsEach Try.prog (Try.f5.params.toList++Rows.promoMaySpec.plain.varTypes Try.prog) (ds++gs)).all (· ≤reachBytes)=true:=hsz0
 have hval:∀(j:Nat) t v,Try.f5.params[j]?=some t→args[j]?=some v→Value.okWide Try.prog W .any base t v:=hval0
 have hW':=hW
 obtain⟨p,q,hA0,hV,rfl,hfz,hnd⟩:=hW
 have hA:DataW.TrodAll enc Try.prog W 0 (fun _=>true) true Try.f5.params.toList args.toList ds p:=hA0
 rw[Try.params5] at hA hval hsz
 obtain⟨v0,vs0,d0,ds0,p0,q0,hargs,rfl,rfl,h0,r0⟩:=trodAll_cons hA
 obtain⟨v1,vs1,d1,ds1,p1,q1,rfl,rfl,rfl,h1,r1⟩:=trodAll_cons r0
 obtain⟨rfl,rfl,rfl⟩:=trodAll_nil r1
 obtain rfl:args= #[v0,v1]:=by cases args;simp_all
 obtain⟨rfl,rfl⟩:=trodVars_none hV
 have k0:=h0
 have lt0:∀x∈p0,x.block<W.heap.size:=by obtain⟨m,hm⟩:=k0;exact DataW.trod_lt m _ _ _ hm
 obtain⟨fuel0,hf0⟩:=h0
 obtain⟨cs0,rfl,_⟩:=okWide_struct Try.underlying27 (hval 0 27 v0 rfl rfl)
 obtain⟨x0,⟨hR0,hO0⟩,hb0⟩:=o_module H enc W 0 fuel0 _ _ _ (fun _=>default) hf0 (List.all_eq_true.2 fun z hz=>List.all_eq_true.1 hsz z (DataW.weights_mem_each (j:=0) (t:=27) rfl rfl z hz))
 obtain⟨a1,rfl,rfl,rfl,w1⟩:=open_int Try.underlying3 (hval 1 3 v1 rfl rfl) h1
 clear hA0 hval0 hsz0 hsz
 have run:=promoMay x0 (fun f hf b hb=>Nat.lt_of_le_of_lt ((hb0.funcs f hf).blocks b hb).len (by decide)) a1 _ (Nat.le_refl _) [.agg (encModule x0),int a1] [] (by rw[enc_module];simp +decide -implicitDefEqProofs only[depth,go_sem])
 have rel:RelL W noBad noName (fun _=>default) [.agg (encModule x0),int a1] [.agg cs0,.int .i64 a1]:=by
  simp only[RelL,Rel]
  exact⟨_,_,rfl,⟨_,rfl,hR0,hO0⟩,_,_,rfl,⟨rfl,rfl⟩,rfl⟩
 refine(law_calls (callAt_ok mix tab_ok _) run rel).mono fun e W' ⟨he,bel⟩=> ?_
 subst he
 exact⟨_,rfl,_,_,_,[],_,[],hW',trodAll_mk1 (shut_bool Try.underlying4 _),(trodAll_cons_mk (Below.trod laidOut (by kernel_rfl) (of_decide_eq_true (by kernel_rfl)) k0 bel lt0) (trodAll_cons_mk (shut_int Try.underlying3 w1) trodAll_mk0)),rfl,bel.frame _,fun h=>by cases h⟩
theorem over:Rows.promoMayRow.holds Try.pinned (OpenSpec.ofChange Rows.promoMaySpec):=
 OpenClaim.holds_of_wide 5 Try.f5 rfl rfl rfl rfl rfl rfl rfl ⟨rfl,rfl,rfl,rfl,rfl⟩ rfl rfl rfl rfl rfl (by kernel_rfl) Try.func5 (by kernel_rfl)
  (of_decide_eq_true (by kernel_rfl)) (by unfold Func.isWrapper;first|(rw[if_pos (by decide +kernel)];kernel_rfl)|(rw[if_neg (by decide +kernel)];exact⟨rfl,rfl⟩))
  (fun os started H enc _=>lifted os started H enc)
theorem proved:Rows.PromoMaySaid:=over
#print axioms proved
end Go.Proofs.Ytlcnmocicghilaa.promoMay
namespace Go.Proofs.Ytlcnmocicghilaa
theorem promoMay_holds:Rows.PromoMaySaid:=promoMay.proved
end Go.Proofs.Ytlcnmocicghilaa
