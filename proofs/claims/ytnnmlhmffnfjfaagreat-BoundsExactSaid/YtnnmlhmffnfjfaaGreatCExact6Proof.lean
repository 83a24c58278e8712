/-
 The law partsynclaw06.BoundsExact returns true for every input and leaves its arguments as they were. No condition.
-/
import Derived.Test.YtnnmlhmffnfjfaaGreatCExact6
import Derived.Test.YtnnmlhmffnfjfaaGreatC23
set_option maxHeartbeats 400000000
namespace Go.Proofs.YtnnmlhmffnfjfaaGreat.boundsExact
open Go.ChangeShapes Go.WideShapes Go.ChangeAt Go.RowKit
set_option maxRecDepth 100000
set_option linter.unusedVariables false
set_option maxRecDepth 100000 in
theorem lifted (l:Os)(V:l.Started)(H:Type)(enc:TypeId×Value->H) :
 ReturnsInHanded {} Tryz.checked l 8 .any (Rows.boundsExactSpec.pre6 enc Tryz.prog Tryz.f8 Rows.boundsExactRow.domain false) (Rows.boundsExactSpec.post enc Tryz.prog Tryz.f8 false true false false):=by
 refine returnsInHanded_of_change (C:=Tryz.checked) own V (by kernel_rfl) Tryz.func8
  (ChangeSpec.witness6 (enc:=enc) (C:=Tryz.checked) false ⟨#[],#[zN,.agg #[zO,zO,zO,zO,zO,zO,zS,zO,zO,zO,zO,zS,zN],zN],[]⟩ 8 (by kernel_rfl) (by kernel_rfl) (by kernel_rfl) (by kernel_rfl)) ?_
 intro W base args y a7 a3 k d a9 _;have a:∀(j:Nat) t v,Tryz.f8.params[j]?=some t->args[j]?=some v->Value.okWide Tryz.prog W .any base t v:=k;have g:=d;obtain⟨p,q,c,E,rfl,b0,b1⟩:=d;have b:DataW.TrodAll enc Tryz.prog W 0 (fun _=>true) true Tryz.f8.params.toList args.toList y p:=c;rw[Tryz.params8]at b a;have D:=b;obtain⟨m,b4,d0,a4,p0,q0,a8,rfl,rfl,z,O⟩:=trodAll_cons b;obtain⟨n,b5,d1,a5,p1,q1,rfl,rfl,rfl,A,P⟩:=trodAll_cons O;obtain⟨o,b6,d2,a6,p2,q2,rfl,rfl,rfl,B,Q⟩:=trodAll_cons P;obtain⟨rfl,rfl,rfl⟩:=trodAll_nil Q;obtain rfl:args=#[m,n,o]:=by cases args;simp_all
 obtain⟨rfl,rfl⟩:=trodVars_none E;obtain⟨r,M,u,a0,rfl,R,Y,N,U,I,K⟩:=bV3 (a 0 22 m rfl rfl) z;obtain⟨s,A1,n1,c1,rfl,S,X⟩:=open_pd (a 1 64 n rfl rfl) A;obtain⟨A2,n2,c2,a1,rfl,T,b2,b3,J,L⟩:=bO5 (a 2 65 o rfl rfl) B;clear c k;refine(aX4 r M u a0 s A1 n1 c1 A2 n2 c2 a1 W R Y N U I K S X T (Nat.le_trans J L)).mono fun e a2 ⟨F,bel⟩=>?_;subst F;exact⟨_,rfl,_,_,_,[],_,[],g,trodAll_mk1 (shut_bool Tryz.underlying4 _),sR laidOut bel (fun t i=>by simp at i;rcases i with rfl|rfl|rfl<;>exact⟨by kernel_rfl,of_decide_eq_true (by kernel_rfl)⟩) D (fun x G=>g.lt x (List.mem_append_left _ G)),rfl,bel.frame _,fun h=>by cases h⟩
theorem closed:joinedFacts Tryz.pinned.checked.prog 8 Tryz.f8 Rows.boundsExactSpec Rows.boundsExactRow=true:=by
 unfold joinedFacts;simp only[Bool.and_eq_true]
 repeat' apply And.intro
 all_goals as_aux_lemma=>kernel_rfl
theorem over:Rows.boundsExactRow.holds Tryz.pinned (OpenSpec.ofChange Rows.boundsExactSpec) :=
 OpenClaim.holds_of_wide 8 Tryz.f8 rfl rfl rfl rfl rfl rfl rfl ⟨rfl,rfl,rfl,rfl,rfl⟩ rfl rfl rfl rfl rfl (by kernel_rfl) Tryz.func8 closed
  (of_decide_eq_true (by kernel_rfl)) (by unfold Func.isWrapper;first|(rw[if_pos (by decide +kernel)];kernel_rfl)|(rw[if_neg (by decide +kernel)];exact⟨rfl,rfl⟩))
  (fun a b H enc _=>lifted a b H enc)
theorem proved:Rows.BoundsExactSaid:=over
#print axioms proved
end Go.Proofs.YtnnmlhmffnfjfaaGreat.boundsExact
