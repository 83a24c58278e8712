/- Texts on which the walk stands. -/
import Derived.Test.YtnnmlhmffnfjfaaGreatC22
open List renaming getElem?_eq_getElem → aN
set_option linter.unusedVariables false
set_option maxRecDepth 100000
namespace Go.Proofs.YtnnmlhmffnfjfaaGreat
section
open Go.ChangeShapes Go.WideShapes Go.ChangeAt Go.RowKit
open Rg
section
variable {H:Type} {enc:TypeId×Value→H} {W:World} {base:Nat}
theorem bS8 {fuel:Nat}{cs:List Value}{x:DataW H×List MemPlace}(h:DataW.trod enc Tryz.prog W base (fun _=>true) true fuel 59 cs=some x) :
 ∃y:Vl,cs=y.cs/\pV y:=by
 obtain⟨n,q,g⟩:=wY Tryz.underlying59 h;have r:cs.length=3:=q.trans (by kernel_rfl)
 match cs,r with
 |
  [v0,v1,v2],_ =>
  obtain⟨A,m⟩:=g 0 _ rfl;obtain⟨B,o⟩:=g 1 _ rfl;obtain⟨C,p⟩:=g 2 _ rfl;obtain⟨a,c,_,_⟩:=DataW.trod_int (k:=.i64) (by kernel_rfl) m;obtain⟨b,d,_,t⟩:=DataW.trod_int (k:=.i64) (by kernel_rfl) o;obtain⟨s,e,_,u⟩:=DataW.trod_string (by kernel_rfl) p;have i:v0=.int .i64 a:=by have:[v0]=[.int .i64 a]:=c;injection this
  have j:v1=.int .i64 b:=by have:[v1]=[.int .i64 b]:=d;injection this
  have l:v2=.string s:=by have:[v2]=[.string s]:=e;injection this
  subst i j l;refine⟨⟨a,b,s⟩,rfl,?_⟩;have v:IntKind.i64.min = -9223372036854775808:=by decide
  have z:IntKind.i64.max=9223372036854775807:=by decide
  simp only[Lit.wf,Bool.and_eq_true,decide_eq_true_eq]at t;show -9223372036854775808<=b/\b<9223372036854775808;omega
theorem bB3 {t e:TypeId}{fuel:Nat}{cs:List Value}{x:DataW H×List MemPlace}(p:Tryz.prog.underlying t=some (.slice e))(h:DataW.trod enc Tryz.prog W base (fun _=>true) true fuel t cs=some x) :
 (cs=([zN]:List Value))\/∃(a:Addr) (len b n:Nat),fuel=n+1/\cs=([.slice (some a) len b]:List Value)/\len<=b /\
  ∀i,i<len->∃c y,W.cells? base (a.add (i*Tryz.prog.cellsOf e)) (Tryz.prog.cellsOf e)=some c/\DataW.trod enc Tryz.prog W base (fun _=>true) true n e c=some y:=by
 rcases DataW.trod_slice p h with⟨d,_⟩|⟨a,len,b,q,rest,n,o,d,_,_,m,_,r,l,_⟩
 . exact .inl d
 . refine .inr ⟨a,len,b,n,o,d,m,fun i hi=>?_⟩;have g:=l i hi;rw[aN (by omega)]at g;obtain⟨c,j,k⟩:=Option.bind_eq_some_iff.1 g;exact⟨c,_,j,k⟩
structure PtD where
 p:List Iv×Rg
 A:Option Addr
 n:Nat
 c:Nat
 x:Int
 f:Bool
 A':Option Addr
 n':Nat
 c':Nat
end
end
section
open Go.ChangeShapes Go.WideShapes Go.ChangeAt Go.RowKit
open Pd
structure PdD where
 p:Pd
 A:Option Addr
 n:Nat
 c:Nat
theorem bG6:∀ {p:Pd},(∀q∈p.args,nT q)->nS p
 |.nil _,_=>trivial
 |.cons a t,h=>⟨(h a (by simp[args])).1,(h a (by simp[args])).2,bG6 fun q b=>h q (by simp[args,b])⟩
section
variable {H:Type} {enc:TypeId×Value→H} {W:World} {base:Nat}
theorem bG8 {fuel:Nat}{cs:List Value}{x:DataW H×List MemPlace}(h:DataW.trod enc Tryz.prog W base (fun _=>true) true fuel 61 cs=some x) :
 ∃y:Od,cs=([y.k,y.ix,y.v.k,y.v.i,y.v.t]:List Value)/\iR y.v:=by
 obtain⟨n,s,g⟩:=wY Tryz.underlying61 h;have u:cs.length=5:=s.trans (by kernel_rfl)
 match cs,u with
 |
  [v0,v1,v2,v3,v4],_ =>
  obtain⟨C,p⟩:=g 0 _ rfl;obtain⟨D,q⟩:=g 1 _ rfl;obtain⟨E,r⟩:=g 2 _ rfl;obtain⟨a,e,_,_⟩:=DataW.trod_int (k:=.i64) (by kernel_rfl) p;obtain⟨b,j,_,_⟩:=DataW.trod_int (k:=.i64) (by kernel_rfl) q;obtain⟨v,l,z⟩:=bS8 r;have d:Tryz.prog.cellsOf 59=3:=by kernel_rfl
  have m:v0=.int .i64 a:=by have:[v0]=[(a:Value)]:=e;injection this
  have o:v1=.int .i64 b:=by have:[v1]=[(b:Value)]:=j;injection this
  have c:[v2,v3,v4]=v.cs:=by rw[<- l];simp[d]
  simp only[Vl.cs,List.cons.injEq,and_true]at c;obtain⟨rfl,rfl,rfl⟩:=c;subst m o;refine⟨⟨a,b,v⟩,rfl,?_⟩;have B:gV = -9223372036854775808:=rfl;have A : -9223372036854775808<=v.i/\v.i<9223372036854775808:=z;show gV<=v.i/\v.i<=9223372036854775807;omega
theorem trod_pd:∀(fuel:Nat) (cs:List Value) (I:DataW H×List MemPlace),DataW.trod enc Tryz.prog W base (fun _=>true) true fuel 64 cs=some I ->
 ∃(p:Pd) (A:Option Addr) (n c:Nat),cs=(iK p.h A n c).toList/\PrdS W A n c p/\nT p:=by
 intro fuel
 induction fuel using Nat.strongRecOn with
 |
  _ fuel ih =>
  intro cs I h;obtain⟨G,s,b5,_,a5,b1,g⟩:=DataW.trod_struct Tryz.underlying64 h;have a6:cs.length=13:=a5.trans (by kernel_rfl);have b0:G.length=5:=b1.trans (by kernel_rfl)
  match cs,a6,G,b0 with
  |[v0,v1,v2,v3,v4,v5,v6,v7,v8,v9,v10,v11,v12],_,[x0,x1,x2,x3,x4],_ =>
  have x:DataW.trod enc Tryz.prog W base (fun _=>true) true s 3 [v0]=some x0:=g 0 _ rfl;have Q:DataW.trod enc Tryz.prog W base (fun _=>true) true s 3 [v1]=some x1:=g 1 _ rfl;have R:DataW.trod enc Tryz.prog W base (fun _=>true) true s 61 [v2,v3,v4,v5,v6]=some x2:=g 2 _ rfl;have S:DataW.trod enc Tryz.prog W base (fun _=>true) true s 61 [v7,v8,v9,v10,v11]=some x3:=g 3 _ rfl;have T:DataW.trod enc Tryz.prog W base (fun _=>true) true s 62 [v12]=some x4:=g 4 _ rfl;obtain⟨op,M,_,_⟩:=DataW.trod_int (k:=.i64) (by kernel_rfl) x;obtain⟨t,N,_,_⟩:=DataW.trod_int (k:=.i64) (by kernel_rfl) Q;obtain⟨l,C,E⟩:=bG8 R;obtain⟨r,D,F⟩:=bG8 S;have O:v0=.int .i64 op:=by have:[v0]=[(op:Value)]:=M;injection this
  have P:v1=.int .i64 t:=by have:[v1]=[(t:Value)]:=N;injection this
  subst O P;simp only[List.cons.injEq,and_true]at C D;obtain⟨rfl,rfl,rfl,rfl,rfl⟩:=C;obtain⟨rfl,rfl,rfl,rfl,rfl⟩:=D;rcases bB3 Tryz.underlying62 T with e|⟨a,len,K,n1,b6,e,a7,hc⟩
  . injection e with e;subst e;exact⟨.nil ⟨op,t,l,r⟩,none,0,0,rfl,PrdS.nil _,⟨E,F⟩,trivial⟩
  . injection e with e;subst e;have J:Tryz.prog.cellsOf 64=13:=(by kernel_rfl);rw[J]at hc;have a1:∀i,i<len->∃d:PdD,(∀(j:Nat) (u:Value),(iK d.p.h d.A d.n d.c)[j]?=some u->W.cell? ((a.add (i*13)).add j)=some u)/\PrdS W d.A d.n d.c d.p/\nT d.p:=(by intro i hi;obtain⟨b3,x',V,X⟩:=hc i hi;obtain⟨_,b4,a0⟩:=World.cells?_some V;obtain⟨p,A,n,c,rfl,B,a9⟩:=ih n1 (by omega) _ _ X;refine⟨⟨p,A,n,c⟩,fun j u v=>?_,B,a9⟩;have a3:j<13:=(by have:=(Array.getElem?_eq_some_iff.1 v).1;simpa[iK]using this);rw[a0 j a3,<- v,Array.getElem?_toList]);obtain⟨L,Y,y⟩:=xP len a1;refine⟨uA ⟨op,t,l,r⟩ (L.map PdD.p),some a,len,K,by rw[aO0];rfl,⟨⟨a7,fun h=>(by cases h)⟩,by rw[Pd.len_mk,List.length_map,Y],fun b7=>?_⟩,⟨by rw[aO0];exact⟨E,F⟩,bG6 fun q m=>?_⟩⟩
    . obtain⟨b,o,b2⟩:=a;have U:0<L.length:=(by omega);have x:=(y 0 _ (aN U)).1 0 _ rfl;have a8:b2=none:=(by have:=World.cell?_spot x;simpa[Addr.add]using this);subst a8;refine⟨b,o,rfl,PdP.of fun k q m=>?_⟩;rw[sM,List.getElem?_map]at m;obtain⟨d,z,rfl⟩:=Option.map_eq_some_iff.1 m;obtain⟨a2,B,_⟩:=y k d z;have at_:∀(j:Nat) (u:Value),(iK d.p.h d.A d.n d.c)[j]?=some u->W.cell? ⟨b,o+k*13+j,none⟩=some u:=fun j u v=>(by have:=a2 j u v;rw[lF,lF]at this;exact this);exact⟨d.A,d.n,d.c,at_ 0 _ rfl,at_ 1 _ rfl,at_ 2 _ rfl,at_ 3 _ rfl,at_ 4 _ rfl,at_ 5 _ rfl,at_ 6 _ rfl,at_ 7 _ rfl,at_ 8 _ rfl,at_ 9 _ rfl,at_ 10 _ rfl,at_ 11 _ rfl,at_ 12 _ rfl,B⟩
    . rw[sM]at m;obtain⟨d,z,rfl⟩:=List.mem_map.1 m;obtain⟨k,a4⟩:=List.getElem?_of_mem z;exact(y k d a4).2.2
theorem open_pd {r:Reach}{a:Nat}{v:Value}{d:DataW H}{q:List MemPlace}(j:Value.okWide Tryz.prog W r a 64 v)(h:DataW.Trod enc Tryz.prog W base (fun _=>true) true 64 v d q) :
 ∃(p:Pd) (A:Option Addr) (n c:Nat),v=.agg (iK p.h A n c)/\PrdS W A n c p/\nT p:=by
 obtain⟨cs,rfl,_⟩:=okWide_struct Tryz.underlying64 j;obtain⟨fuel,g⟩:=h;obtain⟨p,A,n,c,b,i,k⟩:=trod_pd fuel _ _ g;have e:cs.toList=(iK p.h A n c).toList:=b;refine⟨p,A,n,c,?_,i,k⟩;rw[show cs=iK p.h A n c from Array.toList_inj.1 e]
end
end
section
open Go.ChangeShapes Go.WideShapes Go.ChangeAt Go.RowKit
theorem bO5 {H:Type}{enc:TypeId×Value->H}{W:World}{base:Nat}{r:Reach}{y:Nat}{v:Value}{d:DataW H}{p:List MemPlace}(t:Value.okWide Tryz.prog W r y 65 v)(h:DataW.Trod enc Tryz.prog W base (fun _=>true) true 65 v d p) :
 ∃(A:Option Addr) (n c:Nat) (q:List Int),v=.slice A n c/\Sl 1 xS W A n q/\(A=none->n=0/\c=0)/\(∀l,A=some l->l.spot=none)/\n<=c/\c<=9223372036854775807:=by
 obtain⟨A,n,c,rfl⟩:=okWide_slice Tryz.underlying65 t;obtain⟨z,s,B,C⟩:=nI Tryz.underlying65 t;obtain⟨fuel,D⟩:=h;have E:DataW.trod enc Tryz.prog W base (fun _=>true) true fuel 65 [.slice A n c]=some (d,p):=D;rcases open_ints Tryz.underlying65 Tryz.underlying3 (by kernel_rfl) E with⟨g,_⟩|⟨a,len,J,q,g,hb,L,M,G,_,hc,O⟩
 . injection g with g;injection g with e1 e2 e3;subst e1 e2 e3;exact⟨none,0,0,[],rfl,Sl.nil,fun _=>⟨rfl,rfl⟩,fun l e=>(by cases e),Nat.le_refl _,by omega⟩
 . injection g with g;injection g with e1 e2 e3;subst e1 e2 e3;refine⟨some a,n,c,q.take n,rfl,⟨?_,fun N=>?_⟩,z,s,B,C⟩
   . rw[List.length_take,G];simp;omega
   . obtain⟨b,o,I⟩:=a;obtain rfl:I=none:=s _ rfl;refine⟨b,o,rfl,fun k x i j u m=>?_⟩;rw[List.getElem?_take]at i;split at i
     . rename_i K;rcases j with _|j
       . simp only[xS,List.getElem?_cons_zero,Option.some.injEq]at m;subst m;have F:=(List.getElem?_eq_some_iff.1 i).1;have:=hc k F;rw[lF]at this;rw[Nat.mul_one,Nat.add_zero,this,List.getD,i];rfl
       . simp[xS]at m
     . cases i
end
end Go.Proofs.YtnnmlhmffnfjfaaGreat
