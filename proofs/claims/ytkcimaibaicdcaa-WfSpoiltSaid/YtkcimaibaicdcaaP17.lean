/- The law returns true at every input. No condition. -/
import Derived.Test.YtkcimaibaicdcaaRows
import Derived.WalkKit
import Derived.ProofKit
import Derived.OpenShut
import Derived.ShutString
import Derived.ChangeOld
import Derived.Below
import Derived.SizedLaws
import Derived.Carry
import Derived.Test.YtkcimaibaicdcaaP9
import Derived.Test.YtkcimaibaicdcaaP16
set_option linter.unusedSimpArgs false
set_option linter.unusedVariables false
set_option maxHeartbeats 16000000
set_option maxRecDepth 100000
namespace Go.Proofs.Ytkcimaibaicdcaa.wfSpoilt
open Go.ChangeShapes Go.WideShapes Go.ChangeAt Go.RowKit Go.Tm Go.Proofs.Ytkcimaibaicdcaa.Tk
open Go.ChangeMaps (open_string shut_string)
theorem own:ownKnob Try.prog.godebug=none:=by kernel_rfl
theorem laidOut:laidOutB Try.prog=true:=by kernel_rfl
set_option maxRecDepth 100000 in
theorem lifted (os:Os) (started:os.Started) (H:Type) (enc:TypeId×Value→H):
  ReturnsInHanded {} Try.checked os 13 .any (Rows.wfSpoiltSpec.pre6 enc Try.prog Try.f13 Rows.wfSpoiltRow.domain false) (Rows.wfSpoiltSpec.post enc Try.prog Try.f13 false true false false):=by
 refine returnsInHanded_of_change_sized (C:=Try.checked) own started (by kernel_rfl) Try.func13
  (ChangeSpec.witness6 (enc:=enc) (C:=Try.checked) false ⟨#[],#[.agg #[.slice none 0 0,.slice none 0 0,.slice none 0 0,.slice none 0 0],.int .i64 0,.int .i64 0,.int .i64 0,.int .i64 0],[]⟩ 8 (by kernel_rfl) (by kernel_rfl) (by kernel_rfl) (by kernel_rfl)) ?_
 intro W base args ds gs before hval0 hW hcnd hsz0 _
 have hsz:(DataW.weightsEach Try.prog (Try.f13.params.toList++Rows.wfSpoiltSpec.plain.varTypes Try.prog) (ds++gs)).all (· ≤reachBytes)=true:=hsz0
 have hval:∀(j:Nat) t v,Try.f13.params[j]?=some t→args[j]?=some v→Value.okWide Try.prog W .any base t v:=hval0
 have hW':=hW
 obtain⟨p,q,hA0,hV,rfl,hfz,hnd⟩:=hW
 have hA:DataW.TrodAll enc Try.prog W 0 (fun _=>true) true Try.f13.params.toList args.toList ds p:=hA0
 rw[Try.params13] at hA hval hsz
 obtain⟨v0,vs0,d0,ds0,p0,q0,hargs,rfl,rfl,h0,r0⟩:=trodAll_cons hA
 obtain⟨v1,vs1,d1,ds1,p1,q1,rfl,rfl,rfl,h1,r1⟩:=trodAll_cons r0
 obtain⟨v2,vs2,d2,ds2,p2,q2,rfl,rfl,rfl,h2,r2⟩:=trodAll_cons r1
 obtain⟨v3,vs3,d3,ds3,p3,q3,rfl,rfl,rfl,h3,r3⟩:=trodAll_cons r2
 obtain⟨v4,vs4,d4,ds4,p4,q4,rfl,rfl,rfl,h4,r4⟩:=trodAll_cons r3
 obtain⟨rfl,rfl,rfl⟩:=trodAll_nil r4
 obtain rfl:args= #[v0,v1,v2,v3,v4]:=by cases args;simp_all
 obtain⟨rfl,rfl⟩:=trodVars_none hV
 have k0:=h0
 have lt0:∀x∈p0,x.block<W.heap.size:=by obtain⟨m,hm⟩:=k0;exact DataW.trod_lt m _ _ _ hm
 obtain⟨fuel0,hf0⟩:=h0
 obtain⟨cs0,rfl,_⟩:=okWide_struct Try.underlying49 (hval 0 49 v0 rfl rfl)
 obtain⟨x0,⟨hR0,hO0⟩,hb0⟩:=o_module H enc W 0 fuel0 _ _ _ (fun _=>default) hf0 (List.all_eq_true.2 fun z hz=>List.all_eq_true.1 hsz z (DataW.weights_mem_each (j:=0) (t:=49) rfl rfl z hz))
 obtain⟨a1,rfl,rfl,rfl,w1⟩:=open_int Try.underlying3 (hval 1 3 v1 rfl rfl) h1
 obtain⟨a2,rfl,rfl,rfl,w2⟩:=open_int Try.underlying3 (hval 2 3 v2 rfl rfl) h2
 obtain⟨a3,rfl,rfl,rfl,w3⟩:=open_int Try.underlying3 (hval 3 3 v3 rfl rfl) h3
 obtain⟨a4,rfl,rfl,rfl,w4⟩:=open_int Try.underlying3 (hval 4 3 v4 rfl rfl) h4
 clear hA0 hval0 hsz0 hsz
 have run:=wfSpoilt x0 (fun f hf b hb=>Nat.lt_of_le_of_lt ((hb0.funcs f hf).blocks b hb).len (by decide)) a1 a2 a3 a4 _ (Nat.le_refl _) [.agg (encModule x0),int a1,int a2,int a3,int a4] [] (by rw[enc_module];simp +decide -implicitDefEqProofs only[depth,go_sem])
 have rel:RelL W noBad noName (fun _=>default) [.agg (encModule x0),int a1,int a2,int a3,int a4] [.agg cs0,.int .i64 a1,.int .i64 a2,.int .i64 a3,.int .i64 a4]:=by
  simp only[RelL,Rel]
  exact⟨_,_,rfl,⟨_,rfl,hR0,hO0⟩,_,_,rfl,⟨rfl,rfl⟩,_,_,rfl,⟨rfl,rfl⟩,_,_,rfl,⟨rfl,rfl⟩,_,_,rfl,⟨rfl,rfl⟩,rfl⟩
 refine(law_calls (callAt_ok mix tab_ok _) run rel).mono fun e W' ⟨he,bel⟩=>?_
 subst he
 exact⟨_,rfl,_,_,_,[],_,[],hW',trodAll_mk1 (shut_bool Try.underlying4 _),(trodAll_cons_mk (Below.trod laidOut (by kernel_rfl) (of_decide_eq_true (by kernel_rfl)) k0 bel lt0) (trodAll_cons_mk (shut_int Try.underlying3 w1) (trodAll_cons_mk (shut_int Try.underlying3 w2) (trodAll_cons_mk (shut_int Try.underlying3 w3) (trodAll_cons_mk (shut_int Try.underlying3 w4) trodAll_mk0))))),rfl,bel.frame _,fun h=>by cases h⟩
theorem over:Rows.wfSpoiltRow.holds Try.pinned (OpenSpec.ofChange Rows.wfSpoiltSpec):=
 OpenClaim.holds_of_wide 13 Try.f13 rfl rfl rfl rfl rfl rfl rfl ⟨rfl,rfl,rfl,rfl,rfl⟩ rfl rfl rfl rfl rfl (by kernel_rfl) Try.func13 (by kernel_rfl)
  (of_decide_eq_true (by kernel_rfl)) (by unfold Func.isWrapper;first|(rw[if_pos (by decide +kernel)];kernel_rfl)|(rw[if_neg (by decide +kernel)];exact⟨rfl,rfl⟩))
  (fun os started H enc _=>lifted os started H enc)
theorem proved:Rows.WfSpoiltSaid:=over
#print axioms proved
end Go.Proofs.Ytkcimaibaicdcaa.wfSpoilt
namespace Go.Proofs.Ytkcimaibaicdcaa
theorem wfSpoilt_holds:Rows.WfSpoiltSaid:=wfSpoilt.proved
end Go.Proofs.Ytkcimaibaicdcaa
