/- Texts on which the walk stands. -/
import Derived.Test.YtnnmlhmffnfjfaaGreatC3
open Go renaming wpQuiet_nil → aA
open Go.RowKit.Below renaming refl → aB
open Nat renaming le_refl → aD, le_trans → bI, add_zero → bX, zero_add → cA, lt_or_ge → cJ
open Bool renaming and_eq_true → aI
open List renaming mem_of_getElem? → aJ, getElem?_cons_zero → aL, getElem?_eq_getElem → aN, flatMap_append → aP, eq_nil_of_length_eq_zero → aR, drop_eq_nil_of_le → aU, getD_eq_getElem?_getD → bG, length_cons → bL, take_of_length_le → bW, getElem?_map → cE, length_append → cF, append_assoc → cH
open Go.World renaming size_alloc → aX
open Int renaming lt_or_le → cD
set_option maxHeartbeats 4000000
set_option linter.unusedVariables false
set_option maxRecDepth 100000
namespace Go.Proofs.YtnnmlhmffnfjfaaGreat
open Go.RowKit
theorem aD6:∀t q:List UInt8,dN t q<0->dN (t++[0]) q<=0
 |[],[],h=>by simp[dN]at h
 |
  [],b::q,_=>by
  simp only[List.nil_append,dN];split
  . omega
  . split
    . rename_i e c;exact absurd c (UInt8.not_lt.2 (by rw[UInt8.le_iff_toNat_le];simp))
    . cases q<;>simp[dN]
 |_::_,[],h=>by simp[dN]at h
 |
  a::t,b::q,h=>by
  have d:=aD6 t q;simp only[List.cons_append,dN]at h ⊢
  repeat' split at h
  all_goals(repeat' split)
  all_goals first|omega|exact d h
theorem vT:∀t:List UInt8,dN t (t++[0])<0
 |[]=>by simp[dN]
 |
  a::t=>by
  have b:=vT t;simp only[List.cons_append,dN,UInt8.lt_irrefl,if_false];exact b
theorem aZ0:∀(n:Nat) (q:List UInt8),q.length<=n->¬dN (List.replicate n 255) q<0
 |0,[],_=>by simp[dN]
 |0,_::_,h=>by simp at h
 |n+1,[],_=>by simp[List.replicate_succ,dN]
 |
  n+1,b::q,h=>by
  have c:=aZ0 n q (by simpa using h);rw[List.replicate_succ];simp only[dN];split
  . rename_i a;rw[UInt8.lt_iff_toNat_lt]at a;have:=b.toNat_lt;have e:(255:UInt8).toNat=255:=rfl;omega
  . split
    . omega
    . exact c
theorem bG7 {c:UInt8}(h:c≠255):(c+1).toNat=c.toNat+1:=by
 have a:c.toNat≠255:=fun e=>h (UInt8.toNat_inj.1 e);have b:=c.toNat_lt;rw[UInt8.toNat_add];have e:(1:UInt8).toNat=1:=rfl;omega
theorem bK9 (c:UInt8)(hc:c≠255)(n:Nat):∀(p q:List UInt8),q.length<=p.length+1+n->dN (p++c::List.replicate n 255) q<0->dN (p++[c+1]) q<=0
 |[],[],_,h=>by simp[dN]at h
 |
  [],b::q,hl,h=>by
  have e:=bG7 hc;have g:=aZ0 n q (by simp at hl;omega);simp only[List.nil_append,dN,UInt8.lt_iff_toNat_lt]at h ⊢
  repeat' split at h
  all_goals(repeat' split)
  all_goals first|omega|(cases q<;>simp[dN])
 |_::_,[],_,h=>by simp[dN]at h
 |
  a::p,b::q,hl,h=>by
  have d:=bK9 c hc n p q (by simp at hl ⊢;omega);simp only[List.cons_append,dN]at h ⊢
  repeat' split at h
  all_goals(repeat' split)
  all_goals first|omega|exact d h
theorem aD4 (c:UInt8)(hc:c≠255)(n:Nat):∀p:List UInt8,dN (p++c::List.replicate n 255) (p++[c+1])<0
 |
  []=>by
  have e:=bG7 hc;simp only[List.nil_append,dN,UInt8.lt_iff_toNat_lt];split<;>omega
 |
  a::p=>by
  have b:=aD4 c hc n p;simp only[List.cons_append,dN,UInt8.lt_irrefl,if_false];exact b
theorem zJ (t:List UInt8):∀n,fC t n<=n
 |0=>by simp[fC]
 |
  n+1=>by
  have:=zJ t n;unfold fC;split<;>omega
theorem wZ (t:List UInt8):∀n,n<=t.length->fC t n≠0->∃c,c≠(255:UInt8)/\t.getD (fC t n-1) 0=c/\t.take n=t.take (fC t n-1)++c::List.replicate (n-fC t n) 255
 |0,_,h=>absurd rfl h
 |
  n+1,hn,h=>by
  unfold fC at h ⊢;by_cases hc:t.getD n 0=255
  . rw[if_pos hc]at h ⊢;obtain⟨c,a,b,d⟩:=wZ t n (by omega) h;refine⟨c,a,b,?_⟩;have e:=zJ t n;rw[List.take_add_one,d,aN (by omega),cH,List.cons_append];congr 2;have:t[n]'(by omega)=255:=(by rw[<- hc,bG,aN (by omega)];rfl);rw[Option.toList_some,this,show n+1-fC t n=(n-fC t n)+1 by omega,List.replicate_succ']
  . rw[if_neg hc]at h ⊢;refine⟨t.getD n 0,hc,rfl,?_⟩;rw[Nat.add_sub_cancel,Nat.sub_self,List.replicate_zero,List.take_add_one,aN (by omega)];congr 1;rw[bG,aN (by omega)];rfl
theorem eW (t:ByteArray):t.toList=t.data.toList:=ByteArray.toList_eq t
theorem aZ7 (t s:ByteArray):(t++s).toList=t.toList++s.toList:=by
 rw[eW,eW,eW,ByteArray.data_append,Array.toList_append]
theorem bC9 (t:ByteArray)(p:t.size<=64):((iG t).2=true->(iG t).1.k=5/\(iG t).1.i=0/\(iG t).1.t.size<=64/\dN t.toList (iG t).1.t.toList<0/\∀q:ByteArray,q.size<=64->dN t.toList q.toList<0->dN (iG t).1.t.toList q.toList<=0) /\
 ((iG t).2=false->(iG t).1=bE):=by
 unfold iG;by_cases g:t.size<64
 . rw[if_pos g];refine⟨fun _=>⟨rfl,rfl,?_,?_,fun q l b=>?_⟩,fun h=>by cases h⟩
   . show(t++⟨#[0]⟩:ByteArray).size<=64;rw[ByteArray.size_append];have:(⟨#[0]⟩:ByteArray).size=1:=rfl;omega
   . show dN t.toList (t++⟨#[0]⟩:ByteArray).toList<0;rw[aZ7,eW ⟨#[0]⟩];exact vT _
   . show dN (t++⟨#[0]⟩:ByteArray).toList q.toList<=0;rw[aZ7,eW ⟨#[0]⟩];exact aD6 _ _ b
 . rw[if_neg g];by_cases d:fC t.data.toList t.size=0
   . rw[if_pos d];exact⟨(fun h=>by cases h),fun _=>rfl⟩
   . rw[if_neg d];have o:t.data.toList.length=t.size:=(by simp);obtain⟨c,c1,c2,a⟩:=wZ t.data.toList t.size (by omega) d;have n:=zJ t.data.toList t.size;rw[bW (by omega)]at a;have e:(upT t (fC t.data.toList t.size)).toList=t.data.toList.take (fC t.data.toList t.size-1)++[c+1]:=(by rw[eW];unfold upT;rw[c2]);have m:(upT t (fC t.data.toList t.size)).size=(upT t (fC t.data.toList t.size)).toList.length:=(by rw[eW];simp);clear c2;generalize upT t (fC t.data.toList t.size)=U at *;generalize fC t.data.toList t.size=s at *;generalize t.data.toList.take (s-1)=P at *;have j:=congrArg List.length a;simp only[cF,bL,List.length_replicate]at j;refine⟨fun _=>⟨rfl,rfl,?_,?_,fun q l b=>?_⟩,fun h=>by cases h⟩
     . show U.size<=64;rw[m,e];simp;omega
     . show dN t.toList U.toList<0;rw[e,eW t,a];exact aD4 c c1 _ _
     . show dN U.toList q.toList<=0;rw[e];rw[eW t,a]at b;refine bK9 c c1 _ _ _ ?_ b;have:q.toList.length=q.size:=(by rw[eW];simp);omega
theorem zD {t:ByteArray}(h:t.toList.isEmpty=true):t=⟨#[]⟩:=by
 rw[wB];simpa using h
theorem lL {v:Vl}(h:bT v=true):(v.k=1/\v.i=0/\v.t=⟨#[]⟩)\/(v.k=2/\v.i=0/\v.t=⟨#[]⟩)\/(v.k=3/\(v.i=0\/v.i=1)/\v.t=⟨#[]⟩)\/(v.k=4/\v.t=⟨#[]⟩)\/(v.k=5/\v.i=0/\v.t.size<=64):=by
 unfold bT at h;by_cases a:v.k=1\/v.k=2
 . rw[if_pos a,aI]at h;have g:v.i=0:=(by simpa using h.1);have j:=zD h.2;rcases a with e|e
   . exact .inl ⟨e,g,j⟩
   . exact .inr (.inl ⟨e,g,j⟩)
 . rw[if_neg a]at h;by_cases b:v.k=3
   . rw[if_pos b,aI]at h;exact .inr (.inr (.inl ⟨b,by simpa using h.1,zD h.2⟩))
   . rw[if_neg b]at h;by_cases c:v.k=4
     . rw[if_pos c]at h;exact .inr (.inr (.inr (.inl ⟨c,zD h⟩)))
     . rw[if_neg c]at h;by_cases d:v.k=5
       . rw[if_pos d,aI]at h;exact .inr (.inr (.inr (.inr ⟨d,by simpa using h.1,by simpa using h.2⟩)))
       . rw[if_neg d]at h;cases h
theorem jF {a b:Vl}(h:a.k<b.k):bZ a b = -1:=by
 unfold bZ;rw[if_pos h]
theorem vP {a b:Vl}(h:a.k=b.k)(c:a.i<b.i):bZ a b = -1:=by
 unfold bZ;rw[if_neg (by omega),if_neg (by omega),if_pos c]
theorem jD {a b:Vl}(h:a.k=b.k)(c:a.i=b.i):bZ a b=dN a.t.toList b.t.toList:=by
 unfold bZ;rw[if_neg (by omega),if_neg (by omega),if_neg (by omega),if_neg (by omega)]
theorem gA {a b:Vl}(h:bZ a b<0):a.k<b.k\/(a.k=b.k/\a.i<b.i)\/(a.k=b.k/\a.i=b.i/\dN a.t.toList b.t.toList<0):=by
 unfold bZ at h
 repeat' split at h
 all_goals first|omega|skip
def vY (v:Vl):Prop:=((dF v).2=true→bT (dF v).1=true∧iR (dF v).1∧bZ v (dF v).1<0∧∀q,bT q=true→iR q→bZ v q<0→bZ (dF v).1 q≤0)∧((dF v).2=false→(dF v).1=bE)
theorem rS {v n:Vl}(e:dF v=(n,true))(a:bT n=true)(b:iR n)(c:bZ v n<0)(d:∀q,bT q=true->iR q->bZ v q<0->bZ n q<=0):vY v:=by
 unfold vY;rw[e];exact⟨fun _=>⟨a,b,c,d⟩,fun h=>by cases h⟩
theorem rR:dN (⟨#[]⟩:ByteArray).toList (⟨#[]⟩:ByteArray).toList=0:=sI _
theorem wJ (q:List UInt8):dN (⟨#[]⟩:ByteArray).toList q<=0:=by
 rw[eW];cases q<;>simp[dN]
theorem pF {v:Vl}(x:bT v=true)(y:iR v):vY v:=by
 obtain⟨k,i,t⟩:=v;have s:gV = -9223372036854775808:=rfl;unfold iR at y;rw[s]at y;dsimp only at y;rcases lL x with⟨m,r,o⟩|⟨m,r,o⟩|⟨m,r,o⟩|⟨m,o⟩|⟨m,r,o⟩
 . simp only at m r o;subst m r o;refine rS (n:=⟨2,0,⟨#[]⟩⟩) (by decide +kernel) (by decide +kernel) ⟨by simp[s],by simp⟩ (by decide +kernel) fun q p u l=>?_;rcases lL p with⟨c,d,g⟩|⟨c,d,g⟩|⟨c,d,g⟩|⟨c,g⟩|⟨c,d,g⟩
   . rcases gA l with h|⟨_,h⟩|⟨_,_,h⟩
     . simp only at h;omega
     . simp only at h;omega
     . rw[g,rR]at h;omega
   . rw[jD c.symm d.symm];exact wJ _
   all_goals(rw[jF (by simp only;omega)];omega)
 . simp only at m r o;subst m r o;refine rS (n:=⟨3,0,⟨#[]⟩⟩) (by decide +kernel) (by decide +kernel) ⟨by simp[s],by simp⟩ (by decide +kernel) fun q p u l=>?_;rcases lL p with⟨c,d,g⟩|⟨c,d,g⟩|⟨c,d,g⟩|⟨c,g⟩|⟨c,d,g⟩
   . rcases gA l with h|⟨j,h⟩|⟨j,_,h⟩
     . simp only at h;omega
     . simp only at j;omega
     . simp only at j;omega
   . rcases gA l with h|⟨_,h⟩|⟨_,_,h⟩
     . simp only at h;omega
     . simp only at h;omega
     . rw[g,rR]at h;omega
   . rcases d with d|d
     . rw[jD c.symm d.symm];exact wJ _
     . rw[vP c.symm (by simp only;omega)];omega
   all_goals(rw[jF (by simp only;omega)];omega)
 . simp only at m r o;subst m o;rcases r with rfl|rfl
   . refine rS (n:=⟨3,1,⟨#[]⟩⟩) (by decide +kernel) (by decide +kernel) ⟨by simp[s],by simp⟩ (by decide +kernel) fun q p u l=>?_;rcases lL p with⟨c,d,g⟩|⟨c,d,g⟩|⟨c,d,g⟩|⟨c,g⟩|⟨c,d,g⟩
     . rcases gA l with h|⟨j,h⟩|⟨j,_,h⟩
       . simp only at h;omega
       . simp only at j;omega
       . simp only at j;omega
     . rcases gA l with h|⟨j,h⟩|⟨j,_,h⟩
       . simp only at h;omega
       . simp only at j;omega
       . simp only at j;omega
     . rcases d with d|d
       . rcases gA l with h|⟨_,h⟩|⟨_,_,h⟩
         . simp only at h;omega
         . simp only at h;omega
         . rw[g,rR]at h;omega
       . rw[jD c.symm d.symm];exact wJ _
     all_goals(rw[jF (by simp only;omega)];omega)
   . refine rS (n:=⟨4,gV,⟨#[]⟩⟩) (by decide +kernel) (by decide +kernel) ⟨by simp,by simp[s]⟩ (by decide +kernel) fun q p u l=>?_;rcases lL p with⟨c,d,g⟩|⟨c,d,g⟩|⟨c,d,g⟩|⟨c,g⟩|⟨c,d,g⟩
     . rcases gA l with h|⟨j,h⟩|⟨j,_,h⟩
       . simp only at h;omega
       . simp only at j;omega
       . simp only at j;omega
     . rcases gA l with h|⟨j,h⟩|⟨j,_,h⟩
       . simp only at h;omega
       . simp only at j;omega
       . simp only at j;omega
     . rcases gA l with h|⟨_,h⟩|⟨_,j,h⟩
       . simp only at h;omega
       . simp only at h;rcases d with d|d<;>omega
       . rw[g,rR]at h;omega
     . rcases cD gV q.i with h|h
       . rw[vP c.symm h];omega
       . rw[jD c.symm (by have:=u.1;simp only;omega)];exact wJ _
     . rw[jF (by simp only;omega)];omega
 . simp only at m o;subst m o;by_cases E:i<9223372036854775807
   . have e:dF ⟨4,i,⟨#[]⟩⟩=(⟨4,i+1,⟨#[]⟩⟩,true):=(by unfold dF;rw[if_pos x,if_neg (by simp),if_pos ⟨rfl,E⟩];have:wrap64 (i+1)=i+1:=(by unfold wrap64;omega);rw[this]);refine rS e (by simp[bT,eW]) ⟨by show gV<=i+1;rw[s];omega,by show i+1<=9223372036854775807;omega⟩ ?_ fun q p u l=>?_
     . rw[vP (a:=⟨4,i,⟨#[]⟩⟩) (b:=⟨4,i+1,⟨#[]⟩⟩) rfl (by simp only;omega)];omega
     . rcases lL p with⟨c,d,g⟩|⟨c,d,g⟩|⟨c,d,g⟩|⟨c,g⟩|⟨c,d,g⟩
       iterate 3
        . rcases gA l with h|⟨j,h⟩|⟨j,_,h⟩
          . simp only at h;omega
          . simp only at j;omega
          . simp only at j;omega
       . rcases gA l with h|⟨_,h⟩|⟨_,_,h⟩
         . simp only at h;omega
         . simp only at h;rcases cD (i+1) q.i with D|D
           . rw[vP c.symm D];omega
           . rw[jD c.symm (by simp only;omega)];exact wJ _
         . rw[g,rR]at h;omega
       . rw[jF (by simp only;omega)];omega
   . refine rS (n:=⟨5,0,⟨#[]⟩⟩) (wK x E) (by decide +kernel) ⟨by simp[s],by simp⟩ (by rw[jF (by simp)];omega) fun q p u l=>?_;rcases lL p with⟨c,d,g⟩|⟨c,d,g⟩|⟨c,d,g⟩|⟨c,g⟩|⟨c,d,g⟩
     iterate 3
      . rcases gA l with h|⟨j,h⟩|⟨j,_,h⟩
        . simp only at h;omega
        . simp only at j;omega
        . simp only at j;omega
     . rcases gA l with h|⟨_,h⟩|⟨_,_,h⟩
       . simp only at h;omega
       . simp only at h;have:=u.2;omega
       . rw[g,rR]at h;omega
     . rw[jD c.symm d.symm];exact wJ _
 . simp only at m r o;subst m r;have e:dF ⟨5,0,t⟩=iG t:=(by unfold dF;rw[if_pos x,if_neg (by simp),if_neg (by simp),if_pos rfl]);obtain⟨G,H⟩:=bC9 t o;unfold vY;rw[e];refine⟨fun h=>?_,H⟩;obtain⟨z,A,F,B,C⟩:=G h;generalize (iG t).1=n at *;obtain⟨K,J,I⟩:=n;simp only at z A F B C;subst z A;refine⟨by simp[bT];omega,⟨by simp[s],by simp⟩,by rw[jD (a:=⟨5,0,t⟩) (b:=⟨5,0,I⟩) rfl rfl];exact B,fun q p u l=>?_⟩;rcases lL p with⟨c,d,g⟩|⟨c,d,g⟩|⟨c,d,g⟩|⟨c,g⟩|⟨c,d,g⟩
   iterate 4
    . rcases gA l with h|⟨j,h⟩|⟨j,_,h⟩
      . simp only at h;omega
      . simp only at j;omega
      . simp only at j;omega
   . rcases gA l with h|⟨_,h⟩|⟨_,_,h⟩
     . simp only at h;omega
     . simp only at h;omega
     . rw[jD c.symm d.symm];exact C q.t g h
abbrev xW:=Hd×List Iv
def aA6 (p:xW):List Value:=[.slice p.1.1 p.1.2.1 p.1.2.2]
structure LstOk (w:World) (p:xW):Prop where
 rd:kH w p.1.1 p.1.2.1 p.2
 sm:p.1.2.1≤64
theorem LstOk.keep {w a:World}{p:xW}(h:LstOk w p)(b:dW w a):LstOk a p:=⟨h.rd.keep b,h.sm⟩
structure LstsS (w:World) (A:Option Addr) (n:Nat) (ps:List xW):Prop where
 sl:Sl 1 aA6 w A n ps
 ok:∀ p∈ps,LstOk w p
theorem LstsS.keep {w b:World}{A:Option Addr}{n:Nat}{ps:List xW}(h:LstsS w A n ps)(a:dW w b):LstsS b A n ps:=⟨h.sl.keep a,fun p c=>(h.ok p c).keep a⟩
structure PSt (w0:World) (col:List Vl) (Ao:Option Addr) (no co:Nat) (wr:World):Prop where
 ex:∃ qs:List eY,qs.map (·.2)=col.map (fun v=>[v])∧wr.ownsRow w0.heap.size 53 1 (.slice Ao no co) no (qs.flatMap iF)∧∀ q∈qs,jL wr w0.heap.size q
 len:col.length=no
 bel:Below w0.heap.size w0 wr
theorem PSt.below {w0:World}{d:List Vl}{b:Option Addr}{e c:Nat}{a i:World}(h:PSt w0 d b e c a)(hb:Below a a i):PSt w0 d b e c i:=by
 obtain⟨o,j,k,l⟩:=h.ex;exact⟨⟨o,j,fJ k (fun g _ m _=>hb.block g m),fun q n=>(l q n).below hb⟩,h.len,cC1 h.bel hb⟩
theorem bU8 {w:World}{base g:Nat}{v:Vl}(h:aT w g 59 #[v.k,v.i,v.t])(hb:base<=g):jL w base ((some ⟨g,0,none⟩,1,1),[v]) :=
 ⟨⟨rfl,.inr ⟨g,1,_,rfl,hb,h,aD 1,by decide,rfl,rfl⟩⟩,rfl⟩
theorem cD0 {w0:World}{e:List Vl}{j:Option Addr}{a m:Nat}{W:World}{v:Vl}{c:List eY}(b:c.map (·.2)=e.map (fun v=>[v]))(y:e.length=a)
 (z:W.ownsRow w0 53 1 (.slice j a m) a (c.flatMap iF))(B:∀q∈c,jL W w0 q)(u:Below w0 w0 W){g:Nat}(r:aT W g 59 #[v.k,v.i,v.t])(x:w0.heap.size<=g)
 {n l:Nat}{d:World}(A:d.ownsRow w0 53 1 (.slice (some ⟨n,0,none⟩) (a+1) l) (a+1) (c.flatMap iF++[.slice (some ⟨g,0,none⟩) 1 1]))
 (o:(W.alloc (.cells #[.slice (some ⟨g,0,none⟩) 1 1] 53)).grownBy d (Value.slice j a m).ownBlock)(s:Below w0 W d):PSt w0 (e++[v]) (some ⟨n,0,none⟩) (a+1) l d:=by
 have p:=z.alloc (.cells #[.slice (some ⟨g,0,none⟩) 1 1] 53);refine⟨⟨c++[((some ⟨g,0,none⟩,1,1),[v])],by simp[b],by rw[aP];simpa[iF]using A,fun q b=>?_⟩,by simp[y],u.trans s⟩;rw[List.mem_append,List.mem_singleton]at b;rcases b with b|rfl
 . exact((B q b).below ((aB _ _).alloc (aD _) _)).grown p o
 . exact((bU8 r x).below ((aB _ _).alloc (aD _) _)).grown p o
theorem bU7 {w:World}{base l:Nat}{e:TypeId}{size n:Nat}{v:Value}{j k:List Value}(h:w.ownsRow base e size v n j)(i:w.ownsRow l e size v n k):j=k:=by
 rcases h.2 with⟨rfl,o⟩|⟨g,r,t,rfl,_,m,_,_,_,p⟩
 . have a:=h.1;have c:=i.1;rw[o,Nat.zero_mul]at a c;rw[aR a,aR c]
 . rcases i.2 with⟨d,_⟩|⟨x,s,u,d,_,b,_,_,_,q⟩
   . cases d
   . injection d with a c h3;injection a with a;injection a with a;subst a;rw[m]at b;injection b with b;injection b with hc;subst hc;rw[<- p,<- q]
def nZ (ls:List (List Iv)):List Vl:=ls.flatMap cR
def PRel (w0:World) (ps:List xW) (n:Nat) (x i:Value) (wr:World):Prop :=
 ∃(k:Nat) (col:List Vl) (Ao:Option Addr) (no co:Nat),k≤n∧i=.int .i64 (k:Int)∧x=.slice Ao no co∧no≤128*k∧col=nZ ((ps.take k).map (·.2))∧PSt w0 col Ao no co wr
def PRelI (w0 w1:World) (l:List Iv) (col0:List Vl) (n0 m:Nat) (x i:Value) (wr:World):Prop :=
 ∃(j:Nat) (col:List Vl) (Ao:Option Addr) (no co:Nat),j≤m∧i=.int .i64 (j:Int)∧x=.slice Ao no co∧no≤n0+2*j∧col=col0++cR (l.take j)∧PSt w0 col Ao no co wr∧w1.heap.size≤wr.heap.size
theorem xC (A:Option Addr)(n c:Nat)(ps:List xW)(w:World)(hs:LstsS w A n ps)(hn:n<=1000) :
 Calls Tryz.prog 234 #[.slice A n c] w fun e w'=>∃(A':Option Addr) (c':Nat) (L:List Vl),L.map (fun v=>[v])=sP ((nZ (ps.map (·.2))).map fun v=>[v])/\e=.returned (.slice A' L.length c')/\qA w' A' L.length L/\Below w w w':=by
 obtain⟨i0,hi,d6,d7,d8⟩:=info_parts vB;have b2:=Z hs;have e9:=Z hs.sl.len;clear hs;go_enter Tryz.func234,Tryz.ntmps234;go_wp2;go_loopw [3,13] (fun x i wr=>PRel w ps n x i wr) (fun _ i _=>n-(intOf i).toNat);case atStart=>exact⟨0,[],none,0,0,by omega,rfl,rfl,by omega,rfl,⟨⟨[],rfl,⟨by simp,.inl ⟨rfl,rfl⟩⟩,by simp⟩,rfl,aB _ _⟩⟩
 case round =>
  obtain⟨k,b5,a1,K,a6,hk,rfl,rfl,j2,c0,b8⟩:=hrel;have H:=Z b8;have b4:=Z c0;clear b8 c0;obtain⟨a0,rfl⟩:∃a0:World,a0=wr:=⟨_,rfl⟩;by_cases hlt:k<n
  . obtain⟨b,o,p,rfl,hp,c6⟩:=b2.out.sl.at hlt;have F:=aC H.out.bel;have e1:=aW F (c6 0 _ rfl);simp only[Nat.mul_one,bX]at e1;have W:=b2.out.ok p (aJ hp);have f0:=Z (cU hp);obtain⟨⟨p1,m,p3⟩,l⟩:=p;dsimp only[aA6]at e1;have hm:m<=64:=W.sm;have e4:=Z W;have e8:Hid (l.length=m):=W.rd.len;clear hp c6 W F;go_wp2;go_loopw [3,19] (fun x i wr=>PRelI w a0 l b5 K m x i wr) (fun _ i _=>m-(intOf i).toNat);case atStart=>exact⟨0,b5,a1,K,a6,by omega,rfl,rfl,by omega,by simp[cR],H.out,aD _⟩
    case round =>
     obtain⟨j,P,a2,u,a7,hj,rfl,rfl,j3,c3,S,hwz⟩:=hrel;have a4:=Z c3;have j4:=S.bel.size;obtain⟨qs,hq,ho,hr⟩:=S.ex;have HQ:=Z hq;have e7:=Z hr;have M:=Z S;clear c3 S hq hr;by_cases g4:j<m
     . obtain⟨i3,o2,x,rfl,hx,d5⟩:=(e4.out.rd.keep (aC M.out.bel)).at g4;have N:=Z (cU hx);obtain⟨⟨r,d,s⟩,⟨D,C,E⟩,z⟩:=x;obtain⟨O,c1,c2,f3,f4,f5,f6⟩:=IvAt.of d5;dsimp only at O c1 c2 f3 f4 f5 f6;clear hx d5;have b9:∀(B y:Nat) (a:World),a.ownsRow w 53 1 (.slice (some ⟨B,0,none⟩) (u+1) y) (u+1) (qs.flatMap iF++[.slice (some ⟨wr.heap.size+1,0,none⟩) 1 1]) ->
        (((wr.alloc (.cells #[r,d,s,D,C,E,.bool z] 187)).alloc (.cells #[r,d,s] 59)).alloc (.cells #[.slice (some ⟨wr.heap.size+1,0,none⟩) 1 1] 53)).grownBy a (Value.slice a2 u a7).ownBlock ->
        Below w ((wr.alloc (.cells #[r,d,s,D,C,E,.bool z] 187)).alloc (.cells #[r,d,s] 59)) a->PSt w (P++[⟨r,d,s⟩]) (some ⟨B,0,none⟩) (u+1) y a:=by
        intro B y a h1 h2 h3;have hbb:Below wr wr ((wr.alloc (.cells #[r,d,s,D,C,E,.bool z] 187)).alloc (.cells #[r,d,s] 59)):=((aB _ _).alloc (aD _) _).alloc (by simp) _;have b6:=aT.new (wr.alloc (.cells #[r,d,s,D,C,E,.bool z] 187)) 59 #[r,d,s];rw[aX]at b6;exact cD0 (v:=⟨r,d,s⟩) HQ.out M.out.len ((ho.alloc _).alloc _) (fun q hq=>(e7.out q hq).below hbb) (cC1 M.out.bel hbb) b6 (by omega) h1 h2 h3
       have b1:=Z b9;clear b9;go_wp2_with (first
        |(at_builtin;refine cB (by rfl) (.tmp 23) (.tmp 27) _ (by rfl) w.heap.size 53 i0 _ 1 24 Tryz.underlying100 hi d6 d7 d8 (by rfl) (by omega) (.slice a2 u a7) (u) _ (by rfl) _ _ ((ho.alloc _).alloc _) (wr.heap.size+1+1) (by simp) (by rfl) (by rfl) (kL ((some ⟨wr.heap.size+1,0,none⟩,1,1),[])) (by simp only[maxLen];omega) (by omega) (by simp;omega) ?_;intro B y a G I Q g0 g5;have j0:=(aT.grown (((aT.new wr 187 #[.int .i64 r,.int .i64 d,.string s,.int .i64 D,.int .i64 C,.string E,.bool z]).alloc _).alloc _) I (jH ho)).cell;have g9:=I.size;simp only[aX]at g9)
        |(at_builtin;refine cB (by rfl) (.tmp 32) (.tmp 36) _ (by rfl) w.heap.size 53 i0 _ 1 24 Tryz.underlying100 hi d6 d7 d8 (by rfl) (by omega) (.slice (some ⟨B,0,none⟩) (u+1) y) (u+1) _ (by rfl) _ _ (G.alloc _) (a.heap.size+1) (by simp) (by rfl) (by rfl) (kL ((some ⟨a.heap.size,0,none⟩,1,1),[])) (by simp only[maxLen];omega) (by omega) (by simp;omega) ?_;intro i7 f7 w7 g6 c4 f9 i9 j1))
       . go_roundw;case rel =>
          have V:=b1.out B y a G I Q;obtain⟨h6,g7,c5,g8⟩:=V.ex;refine⟨j+1,P++[⟨r,d,s⟩]++[⟨D,C,E⟩],_,u+1+1,f7,by omega,by go_num,rfl,by omega,?_,?_,?_⟩
          . have b0:z=false:=(by simpa using ‹(!z)=true›);rw[N.out,rL,if_neg (by simp[b0]),a4.out];simp
          . have hbb:Below a a (a.alloc (.cells #[D,C,E] 59)):=(aB _ _).alloc (aD _) _;have he:h6.flatMap iF=qs.flatMap iF++[.slice (some ⟨wr.heap.size+1,0,none⟩) 1 1]:=bU7 c5 G;exact cD0 (v:=⟨D,C,E⟩) g7 V.len (c5.alloc _) (fun q hq=>(g8 q hq).below hbb) (cC1 V.bel hbb) (aT.new _ _ _) V.bel.size (by rw[he];exact g6) c4 f9
          . have:=c4.size;simp at this;omega
         case measure=>simp[intOf];omega
       . go_roundw;case rel=>refine⟨j+1,P++[⟨r,d,s⟩],_,u+1,y,by omega,by go_num,rfl,by omega,?_,b1.out B y a G I Q,by omega⟩;have b0:z=true:=(by simpa using ‹(!z)=false›);rw[N.out,rL,if_pos (by simp[b0]),a4.out];simp
         case measure=>simp[intOf];omega
     . go_wp2;go_roundw;case rel=>refine⟨k+1,P,a2,u,a7,by omega,by go_num,rfl,by omega,?_,M.out⟩;have e1:l.take j=l:=bW (by have:=e8.out;omega);rw[a4.out,b4.out,f0.out,e1];simp[nZ]
       case measure=>simp[intOf];omega
  . obtain⟨qs,hq,ho,hr⟩:=H.out.ex;have a8:qs.length=K:=(by have:=congrArg List.length hq;simpa[H.out.len]using this);obtain⟨f1,f2,f8⟩:=rN ho;have g2:a6<=9223372036854775807:=by
     rcases ho.2 with⟨hv,_⟩|⟨g,i5,i6,hv,_,_,_,hm,_⟩
     . injection hv with _ _ h3;omega
     . injection hv with _ _ h3;simp only[maxLen]at hm;omega
    have d2:RowsS a0 a1 K qs:=⟨cC3 (cs:=iF) (fun _=>rfl) a8 ho,fun q hq=>(hr q hq).ok⟩;have hq1:∀q∈qs,q.1.2.1<=4398046511104:=fun q c9=>(by have h1:=(hr q c9).2;have h2:q.2∈qs.map (·.2):=List.mem_map_of_mem c9;rw[hq,List.mem_map]at h2;obtain⟨v,_,hv⟩:=h2;rw[<- hv]at h1;simp at h1;omega);have a5:Hid (aR3 qs=sP ((nZ (ps.map (·.2))).map fun v=>[v])):=(by show _=_;rw[bH5,hq,b4.out,bW (by have:=e9.out;omega)]);have e6:=Z d2;have a3:=Z (And.intro f1 (And.intro f2 hq1));have e3:=Z a8;clear hq ho hr a8 f1 f2 d2 hq1;go_wp2_with fail;refine(bT9 a1 K a6 qs _ e6.out a3.out.1 a3.out.2.1 f8 g2 (by omega) a3.out.2.2).mono ?_;intro e Y c7;obtain⟨d9,A2,c2,rfl,J,T,hb2⟩:=c7.rows;rw[a5.out]at J T;rw[a5.out];have e0:=Z (cC1 H.out.bel hb2);obtain⟨L,R⟩:=aG3 (nZ (ps.map (·.2)));have U:(sP ((nZ (ps.map (·.2))).map fun v=>[v])).length=L.length:=(by rw[<- R];simp);rw[U]at T;rw[U];rw[<- R]at J;have e2:=Z R;have b3:=Z T;have e5:=Z J;have i2:Hid (d9.length=L.length):=(by show _=_;have:=congrArg List.length J;simpa using this);have i8:L.length<=1000000:=(by have h1:L.length=(aR3 qs).length:=(by rw[a5.out,U]);have h2:(aR3 qs).length<=128*k:=(by rw[bH5];have h3:=aR6 (qs.map (·.2));rw[List.length_map,e3.out]at h3;omega);omega);clear R T J U c7 hb2;obtain⟨i1,g3,h0,h4,h5⟩:=info_parts aN7;go_wp2;go_loopw [8,43] (fun x i wr=>∃(t:Nat) (A':Option Addr) (c':Nat),t<=L.length/\i=.int .i64 (t:Int)/\x=.slice A' t c'/\wr.ownsRow Y 59 3 (.slice A' t c') t ((L.take t).flatMap Vl.cs)/\Below Y Y wr) (fun _ i _=>L.length-(intOf i).toNat);case atStart=>exact⟨0,none,0,by omega,rfl,rfl,⟨by simp,.inl ⟨rfl,rfl⟩⟩,aB _ _⟩
    case round =>
     obtain⟨t,A',c',ht,rfl,rfl,ho,hb⟩:=hrel;have g1:=hb.size;by_cases a9:t<L.length
     . obtain⟨b,o,q,rfl,hq,c8⟩:=b3.out.sl.at a9;have F:=aC hb;have e1:=aW F (c8 0 _ rfl);simp only[Nat.mul_one,bX]at e1;have d0:=(b3.out.ok q (aJ hq)).keep F;have hv:∃v,L[t]?=some v/\q.2=[v]:=(by have h1:(d9.map (·.2))[t]?=some q.2:=(by rw[cE,hq];rfl);rw[e5.out,cE,aN a9]at h1;simp only[Option.map_some,Option.some.injEq]at h1;exact⟨_,aN a9,h1.symm⟩);obtain⟨v,b7,d1⟩:=hv;obtain⟨⟨q1,q2,q3⟩,j6⟩:=q;dsimp only[iF]at e1 d1;subst d1;have X:=d0.rd;dsimp only at X;obtain rfl:1=q2:=X.len;obtain⟨i4,j5,j7,rfl,d3,d4⟩:=X.at (k:=0) (by omega);simp only[aL,Option.some.injEq]at d3;subst d3;have N:=Z (cU b7);obtain⟨h8,h7,h9⟩:=v;obtain⟨O,c1,c2⟩:=VlAt.of d4;dsimp only at O c1 c2;simp only[Nat.zero_mul,bX]at O c1 c2;clear hq c8 d0 X d4 b7 F;go_wp2_with (at_builtin;refine bH (by rfl) (.tmp 47) (.tmp 51) _ (by rfl) Y 59 i1 _ 3 32 Tryz.underlying52 g3 h0 h4 h5 (by rfl) (by omega) (.slice A' t c') t _ (by rfl) _ _ ho wr (by rfl) (by rfl) (by rfl) (aM9 ⟨h8,h7,h9⟩) (by simp only[maxLen];omega) (by omega) g1 ?_;intro B y a G I Q g0 g5);go_roundw;case rel=>refine⟨t+1,_,y,by omega,by go_num,rfl,?_,hb.trans Q⟩;rw[N.out,aP];simpa[Vl.cs]using G
       case measure=>simp[intOf];omega
     . go_wp2;go_ret;obtain rfl:t=L.length:=(by omega);rw[List.take_length]at ho;exact⟨A',c',L,e2.out,rfl,cC3 Vl.cs_len rfl ho,cC1 e0.out hb⟩
theorem aV7 (A:Option Addr)(n c:Nat)(l:List Iv)(w:World)(hn:n<=64)(hs:kH w A n l) :
 Calls Tryz.prog 159 #[.slice A n c] w fun e w'=>e=.returned (.bool (cL none l))/\Below w w w':=by
 have N:=Z hs;have a5:=hs.len;clear hs;go_enter Tryz.func159,Tryz.ntmps159;go_wp2;go_loopw [10] (fun i wr=>∃k:Nat,k<=n/\i=.int .i64 (k:Int)/\Hid (cL none l=cL (mT l k) (l.drop k))/\Below w w wr) (fun i _=>n-(intOf i).toNat);case atStart=>exact⟨0,by omega,rfl,by simp[Hid,mT],aB _ _⟩
 case round =>
  obtain⟨k,hk,rfl,I,hb⟩:=hrel;by_cases hlt:k<n
  . have z:=N.out.keep (aC hb);obtain⟨b,o,x,rfl,hx,hc⟩:=z.at hlt;have hi:=aU6 hx I.out;obtain⟨⟨s,r,t⟩,⟨K,J,L⟩,M⟩:=x;obtain⟨O,c1,c2,P,Q,R,S⟩:=IvAt.of hc;dsimp only at O c1 c2 P Q R S;rw[bV8]at hi;obtain⟨B,D⟩:=zE (decide (k+1=l.length));rw[D.out]at hi;obtain⟨Y,E⟩:=zE (aM3 (mT l k) ⟨s,r,t⟩);rw[E.out]at hi;have C:=Z hi;clear hi I hc hx;go_wp2_with (first|(go_at_call 125;refine(jY ⟨_,_,_⟩ _).mono ?_;rintro e w1 ⟨rfl,hb1⟩))
    . go_ret;refine⟨bR ?_,?_⟩
      . rw[C.out];simp_all
      . exact cC1 (hb.alloc hb.size _) hb1
    . have q:=aC hb1;obtain⟨p,e1,e2,e3,d,g,m⟩:=(IvAt.new wr 187 ⟨⟨s,r,t⟩,⟨K,J,L⟩,M⟩).keep q;dsimp only at p e1 e2 e3 d g m;simp only[cA]at e1 e2 e3 d g m;clear O c1 c2 P Q R S;have X:=@bK w1;refine mA (by kernel_rfl) (by kernel_rfl) ?_;rcases Nat.eq_zero_or_pos k with v|v
      . have F:decide (0<k)=false:=(by simp[v]);obtain rfl:Y=true:=(by rw[<- E.out,v];rfl);clear v;clear z;repeat(go_big_quiet_step (fail))
        refine aA ?_;intro w2 hb2;have a:=cC1 (hb.alloc hb.size _) (cC1 hb1 hb2);have G:=(IvAt.new wr 187 ⟨⟨s,r,t⟩,⟨K,J,L⟩,M⟩).keep (q.trans (aC hb2));clear hb1 p e1 e2 e3 d g m X q F;obtain⟨p,e1,e2,e3,d,g,m⟩:=G;dsimp only at p e1 e2 e3 d g m;simp only[cA]at e1 e2 e3 d g m;go_wp2_with (first
         |(go_at_call 125;refine(jY ⟨_,_,_⟩ _).mono ?_;rintro e w3 ⟨rfl,u⟩;replace a:=cC1 a u;have a0:=bL4 u)
         |(go_at_call 93;refine(eT ⟨_,_,_⟩ ⟨_,_,_⟩ _).mono ?_;rintro e w4 ⟨rfl,H⟩;replace a:=cC1 a H))
        all_goals
         have hl:=D.out;have hi:=C.out;first
          |(
           go_ret;refine⟨bR ?_,a⟩;rw[hi];first|(simp[*];done)|(simp[*];intros;omega)|(obtain rfl:B=false:=(by rw[<- hl];simp;omega);simp[*]))
          |(
           go_roundw;case rel=>refine⟨k+1,by omega,by go_num,?_,a⟩;show _=_;rw[hi];first|(simp_all;done)|(obtain rfl:B=true:=(by rw[<- hl];simp;omega);simp_all)
           case measure=>simp[intOf];omega)
      . have F:decide (0<k)=true:=(by simp[v]);obtain⟨b',o',y,W,hy,hd⟩:=z.at (show k-1<n by omega);obtain⟨rfl,rfl⟩:b=b'/\o=o':=(by injection W with h;injection h with h1 h2;exact⟨h1,h2⟩);obtain⟨⟨pk,a6,a7⟩,⟨a3,a2,a4⟩,a8⟩:=y;obtain⟨T,U,V⟩:=(IvAt.of hd).to_.keep ((aM _ _).trans q);dsimp only at T U V;obtain rfl:decide (bZ ⟨a3,a2,a4⟩ ⟨s,r,t⟩<0)=Y:=(by rw[<- E.out];have:mT l k=l[k-1]?:=(by obtain⟨j,rfl⟩:∃j,k=j+1:=⟨k-1,by omega⟩;rfl);rw[this,hy];rfl);clear hy hd W z;repeat(go_big_quiet_step (first|(go_at_call 93;exact aA7 (eT ⟨_,_,_⟩ ⟨_,_,_⟩ _))))
        refine aA ?_;intro w2 hb2;have a:=cC1 (hb.alloc hb.size _) (cC1 hb1 hb2);have G:=(IvAt.new wr 187 ⟨⟨s,r,t⟩,⟨K,J,L⟩,M⟩).keep (q.trans (aC hb2));clear hb1 p e1 e2 e3 d g m X q F T U V;obtain⟨p,e1,e2,e3,d,g,m⟩:=G;dsimp only at p e1 e2 e3 d g m;simp only[cA]at e1 e2 e3 d g m;go_wp2_with (first
         |(go_at_call 125;refine(jY ⟨_,_,_⟩ _).mono ?_;rintro e w3 ⟨rfl,u⟩;replace a:=cC1 a u;have a0:=bL4 u)
         |(go_at_call 93;refine(eT ⟨_,_,_⟩ ⟨_,_,_⟩ _).mono ?_;rintro e w4 ⟨rfl,H⟩;replace a:=cC1 a H))
        all_goals
         have hl:=D.out;have hi:=C.out;first
          |(
           go_ret;refine⟨bR ?_,a⟩;rw[hi];first|(simp[*];done)|(simp[*];intros;omega)|(obtain rfl:B=false:=(by rw[<- hl];simp;omega);simp[*]))
          |(
           go_roundw;case rel=>refine⟨k+1,by omega,by go_num,?_,a⟩;show _=_;rw[hi];first|(simp_all;done)|(obtain rfl:B=true:=(by rw[<- hl];simp;omega);simp_all)
           case measure=>simp[intOf];omega)
  . go_wp2;go_ret;exact⟨bR (by rw[I.out];have a1:k=l.length:=(by have:=N.out.len;omega);subst a1;simp[cL]),hb⟩
theorem bM2 (A:Option Addr)(n c:Nat)(w:World)(hn:64<n) :
 Calls Tryz.prog 159 #[.slice A n c] w fun e w'=>e=.returned zF/\Below w w w':=by
 go_enter Tryz.func159,Tryz.ntmps159;go_wp2;go_ret;exact⟨rfl,aB _ _⟩
theorem jT (A:Option Addr)(n c:Nat)(l:List Iv)(w:World)(a:kH w A n l) :
 Calls Tryz.prog 159 #[.slice A n c] w fun e b=>e=.returned (.bool (cM l))/\Below w w b:=by
 have d:=a.len;rcases cJ 64 n with h|h
 . have:cM l=false:=(by simp[cM];omega);rw[this];exact bM2 A n c w h
 . have:cM l=cL none l:=(by simp[cM];omega);rw[this];exact aV7 A n c l w h a
theorem opI_any (x y:Bool)(w:World):Calls Tryz.prog 240 #[.bool x,.bool y] w fun e w'=>e=.returned (.bool (x&&y))/\w=w':=by
 cases x<;>cases y <;>
 . go_enter Tryz.func240,Tryz.ntmps240;go_wp2;go_ret;exact⟨rfl,rfl⟩
def cT (op:Bool→Bool→Bool) (a b:List Iv):List Iv×Int :=
 if cM a&&cM b then (if (eD op a b).length≤64 then (eD op a b,0)else ([],2))else ([],30)
def cB6 (w:World) (r:List Iv×Int) (e:Ending) (w':World):Prop :=
 ∃(A':Option Addr) (c':Nat),e=.returned (.tuple #[.slice A' r.1.length c',.int .i64 r.2])∧kH w' A' r.1.length r.1∧Below w.heap.size w w'
theorem wM {w a:World}{r:List Iv×Int}{x:Int}(h:r=([],x))(hb:Below w w a):cB6 w r (.returned (.tuple #[zN,x])) a:=by
 subst h;exact⟨none,0,rfl,Sl.nil,hb⟩
theorem aY6 (F:Nat)(op:Bool->Bool->Bool)(H:∀args w,(callFunc F args).run Tryz.prog w=.ok (.enter F args) w)
 (s:∀x y W,Calls Tryz.prog F #[.bool x,.bool y] W fun e w'=>e=.returned (.bool (op x y))/\W=w')
 (A B:Option Addr)(n m ca cb:Nat)(a b:List Iv)(w:World)(g:kH w A n a)(i:kH w B m b) :
 Calls Tryz.prog 220 #[.slice A n ca,.slice B m cb,.func (.func F) #[] #[]] w fun e w'=>cB6 w (cT op a b) e w':=by
 have C:=Z s;have l:=Z g;have HB:=Z i;have r:=g.len;have q:=i.len;have z:=Z r;have v:=Z q;clear s g i r q;obtain⟨I,c⟩:=zE (cM a);obtain⟨J,d⟩:=zE (cM b);go_enter Tryz.func220,Tryz.ntmps220;go_wp2_with fail;refine(jT A n ca a _ l.out).mono ?_;rintro e K ⟨rfl,hb1⟩;rw[c.out];cases I
 . go_wp2;go_ret2;exact wM (by simp[cT,c.out]) hb1
 . go_wp2_with fail;refine(jT B m cb b _ (HB.out.keep (aC hb1))).mono ?_;rintro e L ⟨rfl,hb2⟩;rw[d.out];have k:=cC1 hb1 hb2;cases J
   . go_wp2;go_ret2;exact wM (by simp[cT,c.out,d.out]) k
   . have hn:n<=64:=(by have h:=c.out;have:=z.out;simp[cM]at h;omega);have hm:m<=64:=(by have h:=d.out;have:=v.out;simp[cM]at h;omega);have j:=aC k;go_wp2_with fail;refine(bP0 F op H C.out A B n m ca cb a b _ hn hm (l.out.keep j) (HB.out.keep j)).mono ?_;rintro e M ⟨t,D,rfl,o,G⟩;have p:=cC1 k G;have u:=Z o;clear o j;rcases cJ 64 (eD op a b).length with E|E
     . go_wp2;go_ret2;exact wM (by simp[cT,c.out,d.out];omega) p
     . go_wp2;go_ret2;have hr:cT op a b=(eD op a b,0):=(by simp[cT,c.out,d.out];omega);rw[hr];exact⟨t,D,rfl,u.out,p⟩
def vZ:Bool→Bool→Bool:=fun x y=>x || y
def qN:Bool→Bool→Bool:=fun x y=>x&&y
def mU:Bool→Bool→Bool:=fun x y=>x && !y
theorem entI:∀args w,(callFunc 240 args).run Tryz.prog w=.ok (.enter 240 args) w:=Go.Proofs.enters_of Tryz.func240 (by kernel_rfl) rfl
theorem aF2 (A B:Option Addr)(n m ca cb:Nat)(a b:List Iv)(w:World)(c:kH w A n a)(d:kH w B m b) :
 Calls Tryz.prog 202 #[.slice A n ca,.slice B m cb] w fun e w'=>cB6 w (cT qN a b) e w':=by
 have i:=Z c;have HB:=Z d;clear c d;go_enter Tryz.func202,Tryz.ntmps202;go_wp2_with fail;refine(aY6 240 qN entI opI_any A B n m ca cb a b _ i.out HB.out).mono ?_;rintro e k ⟨A1,c1,rfl,g,hb1⟩;have j:=Z g;clear g;go_wp2;go_ret2;exact⟨A1,c1,rfl,j.out,hb1⟩
def lE:List Iv:=[⟨⟨1,0,⟨#[]⟩⟩,bE,true⟩]
theorem tT {w:World}{g:Nat}{T:TypeId}{x:Iv}(h:aT w g T #[x.f.k,x.f.i,x.f.t,x.t.k,x.t.i,x.t.t,.bool x.o]):kH w (some ⟨g,0,none⟩) 1 [x]:=by
 refine⟨rfl,fun _=>⟨g,0,rfl,fun k y a j u b=>?_⟩⟩;obtain⟨rfl,rfl⟩:k=0/\x=y:=by
  rcases k with _|k
  . exact⟨rfl,by simpa using a⟩
  . simp at a
 rw[show 0+0*7+j=j by omega,h.cell];simpa[Iv.cs]using b
def gB (f:Vl):List Iv×Int:=if bT f then ([⟨f,bE,true⟩],0)else ([],10)
theorem opU_any (x y:Bool)(w:World):Calls Tryz.prog 222 #[.bool x,.bool y] w fun e w'=>e=.returned (.bool (x || y))/\w=w':=by
 cases x<;>cases y <;>
 . go_enter Tryz.func222,Tryz.ntmps222;go_wp2;go_ret;exact⟨rfl,rfl⟩
theorem opM_any (x y:Bool)(w:World):Calls Tryz.prog 221 #[.bool x,.bool y] w fun e w'=>e=.returned (.bool (x && !y))/\w=w':=by
 cases x<;>cases y <;>
 . go_enter Tryz.func221,Tryz.ntmps221;go_wp2;go_ret;exact⟨rfl,rfl⟩
theorem entU:∀args w,(callFunc 222 args).run Tryz.prog w=.ok (.enter 222 args) w:=Go.Proofs.enters_of Tryz.func222 (by kernel_rfl) rfl
theorem entM:∀args w,(callFunc 221 args).run Tryz.prog w=.ok (.enter 221 args) w:=Go.Proofs.enters_of Tryz.func221 (by kernel_rfl) rfl
theorem has_any (A:Option Addr)(n c:Nat)(l:List Iv)(v:Vl)(w:World)(hs:kH w A n l) :
 Calls Tryz.prog 95 #[.slice A n c,.agg #[v.k,v.i,v.t]] w fun e w'=>e=.returned (.bool (aW6 l v))/\Below w w w':=by
 obtain⟨d,a,g⟩:=v;have M:=Z hs;have L:=Z hs.len;clear hs;obtain⟨v1,G⟩:=zE (bT ⟨d,a,g⟩);obtain⟨v2,p⟩:=zE (cM l);generalize hr:aW6 l ⟨d,a,g⟩=r;have q:=Z hr;clear hr;go_enter Tryz.func95,Tryz.ntmps95;go_wp2_with fail;refine(jY ⟨d,a,g⟩ _).mono ?_;rintro e w1 ⟨rfl,hb1⟩;rw[G.out];have R:=(aT.new w 59 #[d,a,g]).below hb1;have B:Below w w w1:=cC1 ((aB _ _).alloc (aD _) _) hb1;cases v1
 . go_wp2;go_ret;exact⟨bR (by rw[<- q.out];simp[aW6,G.out]),B⟩
 . go_wp2_with fail;refine(jT A n c l _ (M.out.keep (aC B))).mono ?_;rintro e S ⟨rfl,hb2⟩;rw[p.out];have m:=cC1 B hb2;have a3:=R.below hb2;cases v2
   . go_wp2;go_ret;exact⟨bR (by rw[<- q.out];simp[aW6,p.out]),m⟩
   . have hn:n<=64:=(by have h:=p.out;have:=L.out;simp[cM]at h;omega);have T:Hid (eP (l.drop 0) ⟨d,a,g⟩=r):=(by show _=_;rw[<- q.out];simp[aW6,G.out,p.out]);have a0:=Z (M.out.keep (aC m));clear R hb1 B hb2 q;go_wp2;go_loopw [17] (fun i wr=>∃k:Nat,k<=n/\i=.int .i64 (k:Int)/\Hid (eP (l.drop k) ⟨d,a,g⟩=r)/\Below S S wr) (fun i _=>n-(intOf i).toNat);case atStart=>exact⟨0,by omega,rfl,T,aB _ _⟩
     case round =>
      obtain⟨k,hk,rfl,Q,hb⟩:=hrel;by_cases hlt:k<n
      . obtain⟨b,o,x,rfl,hx,hc⟩:=(a0.out.keep (aC hb)).at hlt;have s:=Z (bJ7 hx Q.out);obtain⟨⟨y,u,z⟩,⟨D,C,E⟩,K⟩:=x;obtain⟨U,c1,c2,V,W,X,Y⟩:=IvAt.of hc;dsimp only at U c1 c2 V W X Y;clear hx hc;have a4:=a3.below hb;have P:=a4.alloc (.cells #[y,u,z,D,C,E,.bool K] 187);have a2:=P.cell;obtain⟨d1,j⟩:=zE (bZ ⟨y,u,z⟩ ⟨d,a,g⟩);obtain⟨d2,F⟩:=zE (bZ ⟨d,a,g⟩ ⟨D,C,E⟩);go_wp2_with fail;refine(eT ⟨y,u,z⟩ ⟨d,a,g⟩ _).mono ?_;rintro e w3 ⟨rfl,J⟩;rw[j.out];have I:=cC1 (hb.alloc hb.size _) J;have z1:=(P.below J).cell;have z2:=((aT.new wr 187 #[y,u,z,D,C,E,.bool K]).below J).cell;clear a2;by_cases H:d1<=0
        . cases K
          . go_wp2_with fail;refine(eT ⟨d,a,g⟩ ⟨D,C,E⟩ _).mono ?_;rintro e w4 ⟨rfl,a1⟩;rw[F.out];have O:=cC1 I a1;rcases cD d2 0 with N|N
            . go_wp2;go_ret;exact⟨bR (by rw[s.out];simp[xL,j.out,F.out,H,N]),cC1 m O⟩
            . go_wp2;go_roundw;case rel=>exact⟨k+1,by omega,by go_num,(by show _=_;rw[s.out];simp[xL,j.out,F.out,H];omega),O⟩
              case measure=>simp[intOf];omega
          . go_wp2;go_ret;exact⟨bR (by rw[s.out];simp[xL,j.out,H]),cC1 m I⟩
        . go_wp2;go_roundw;case rel=>exact⟨k+1,by omega,by go_num,(by show _=_;rw[s.out];simp[xL,j.out];intros;omega),I⟩
          case measure=>simp[intOf];omega
      . go_wp2;go_ret;exact⟨bR (by rw[<- Q.out,aU (by have:=L.out;omega)];rfl),cC1 m hb⟩
theorem aM0 (A:Option Addr)(n c:Nat)(l:List Iv)(v:Vl)(w:World)(hs:kH w A n l)(hn:n<=1000000) :
 Calls Tryz.prog 264 #[.slice A n c,.agg #[v.k,v.i,v.t]] w fun e w'=>e=.returned (.bool (eP l v))/\Below w w w':=by
 obtain⟨d,a,g⟩:=v;have R:=Z hs;have Q:=Z hs.len;clear hs;generalize hr:eP l ⟨d,a,g⟩=r;have P:Hid (eP (l.drop 0) ⟨d,a,g⟩=r):=by show _=_;simpa using hr
 clear hr;have a3:=aT.new w 59 #[d,a,g];have j:Below w w (w.alloc (.cells #[d,a,g] 59)):=(aB _ _).alloc (aD _) _;have a0:=Z (R.out.keep (aC j));go_enter Tryz.func264,Tryz.ntmps264;go_wp2;generalize w.alloc (.cells #[d,a,g] 59)=O at *;generalize N:w.heap.size=z at *;have E:=Z N;clear N;go_loopw [9] (fun i wr=>∃k:Nat,k<=n/\i=.int .i64 (k:Int)/\Hid (eP (l.drop k) ⟨d,a,g⟩=r)/\Below O O wr) (fun i _=>n-(intOf i).toNat);case atStart=>exact⟨0,by omega,rfl,P,aB _ _⟩
 case round =>
  obtain⟨k,hk,rfl,M,hb⟩:=hrel;by_cases hlt:k<n
  . obtain⟨b,o,x,rfl,hx,hc⟩:=(a0.out.keep (aC hb)).at hlt;have p:=Z (bJ7 hx M.out);obtain⟨⟨s,q,u⟩,⟨B,y,C⟩,I⟩:=x;obtain⟨S,c1,c2,T,U,V,W⟩:=IvAt.of hc;dsimp only at S c1 c2 T U V W;clear hx hc;have a4:=a3.below hb;have L:=a4.alloc (.cells #[s,q,u,B,y,C,.bool I] 187);have a2:=L.cell;obtain⟨X,m⟩:=zE (bZ ⟨s,q,u⟩ ⟨d,a,g⟩);obtain⟨Y,D⟩:=zE (bZ ⟨d,a,g⟩ ⟨B,y,C⟩);go_wp2_with fail;refine(eN ⟨s,q,u⟩ ⟨d,a,g⟩ _).mono ?_;rintro e w3 ⟨rfl,H⟩;rw[m.out];have G:=cC1 (hb.alloc hb.size _) H;have z1:=(L.below H).cell;have z2:=((aT.new wr 187 #[s,q,u,B,y,C,.bool I]).below H).cell;clear a2;by_cases F:X<=0
    . cases I
      . go_wp2_with fail;refine(eN ⟨d,a,g⟩ ⟨B,y,C⟩ _).mono ?_;rintro e w4 ⟨rfl,a1⟩;rw[D.out];have K:=cC1 G a1;rcases cD Y 0 with J|J
        . go_wp2;go_ret;exact⟨bR (by rw[p.out];simp[xL,m.out,D.out,F,J]),by rw[<- E.out]at j;exact cC1 j K⟩
        . go_wp2;go_roundw;case rel=>exact⟨k+1,by omega,by go_num,(by show _=_;rw[p.out];simp[xL,m.out,D.out,F];omega),K⟩
          case measure=>simp[intOf];omega
      . go_wp2;go_ret;exact⟨bR (by rw[p.out];simp[xL,m.out,F]),by rw[<- E.out]at j;exact cC1 j G⟩
    . go_wp2;go_roundw;case rel=>exact⟨k+1,by omega,by go_num,(by show _=_;rw[p.out];simp[xL,m.out];intros;omega),G⟩
      case measure=>simp[intOf];omega
  . go_wp2;go_ret;exact⟨bR (by rw[<- M.out,aU (by have:=Q.out;omega)];rfl),by rw[<- E.out]at j;exact cC1 j hb⟩
def iA (k:Int):Bool→Bool→Bool:=if k=1 then vZ else if k=2 then qN else mU
theorem aL0 (k:Int)(x y:Bool)(w:World):Calls Tryz.prog 233 #[k,.bool x,.bool y] w fun e w'=>e=.returned (.bool (iA k x y))/\w=w':=by
 by_cases h1:k=1
 . subst h1;cases x<;>cases y <;>
   . go_enter Tryz.func233,Tryz.ntmps233;go_wp2;go_ret;exact⟨rfl,rfl⟩
 . by_cases h2:k=2
   . subst h2;cases x<;>cases y <;>
     . go_enter Tryz.func233,Tryz.ntmps233;go_wp2;go_ret;exact⟨rfl,rfl⟩
   . have a:Hid (iA k=mU):=(by show _=_;simp[iA,h1,h2]);have b:(k == 1)=false:=(by simp[h1]);have c:(k == 2)=false:=(by simp[h2]);clear h1 h2;generalize iA k=f at *;cases x<;>cases y <;>
     . go_enter Tryz.func233,Tryz.ntmps233;go_wp2;go_ret;exact⟨bR (by rw[a.out];rfl),rfl⟩
def pB (P:List Vl) (i:Nat):Iv:=match P[i+1]? with
 |some q=>⟨P.getD i bE,q,false⟩
 |none=>⟨P.getD i bE,bE,true⟩
def eO (L:List Iv) (x:Iv):List Iv:=match L.getLast? with
 |none=>L++[x]
 |some y=>if !y.o&&decide (bZ y.t x.f=0)then L.dropLast++[⟨y.f,x.t,x.o⟩]else L++[x]
theorem eR {A:Option Addr}{n m c:Nat}(h:n=m):Ending.returned (.slice A n c)=.returned (.slice A m c):=by rw[h]
def cB5 (w:World) (base:Nat) (R:List Iv) (e:Ending) (w':World):Prop :=
 ∃(A':Option Addr) (c':Nat),e=.returned (.slice A' R.length c')∧w'.ownsRow base 187 7 (.slice A' R.length c') R.length (R.flatMap Iv.cs)∧Below base w w'
theorem bN3 {l:List Iv}{x:Iv}{p:Vl}{b:Bool}(k:Nat)(a:l.length=k)(g:l[k-1]?=some x) :
 ((((l.flatMap Iv.cs).set ((k-1)*7+3) p.k).set ((k-1)*7+4) p.i).set ((k-1)*7+5) p.t).set ((k-1)*7+6) (.bool b)=(l.dropLast++[(⟨x.f,p,b⟩:Iv)]).flatMap Iv.cs:=by
 have e:l.getLast?=some x:=by rw[List.getLast?_eq_getElem?,a];exact g
 obtain⟨d,rfl⟩:=List.getLast?_eq_some_iff.1 e;simp only[List.dropLast_concat];have c:(d.flatMap Iv.cs).length=(k-1)*7:=by rw[hV Iv.cs_len,<- a];simp
 rw[aP,aP];simp only[List.flatMap_cons,List.flatMap_nil,List.append_nil];rw[<- c];simp only[List.set_append_right _ _ (Nat.le_add_right _ _),Nat.add_sub_cancel_left];rfl
theorem mI {w:World}{base g k c:Nat}{l:List Iv}{x:Iv}(p:Vl)(a:Bool)(h:w.ownsRow base 187 7 (.slice (some ⟨g,0,none⟩) k c) k (l.flatMap Iv.cs))(b:l.length=k)(d:l[k-1]?=some x) :
 ((((w.setCell ⟨g,(k-1)*7+3,none⟩ p.k).setCell ⟨g,(k-1)*7+4,none⟩ p.i).setCell ⟨g,(k-1)*7+5,none⟩ p.t).setCell ⟨g,(k-1)*7+6,none⟩ (.bool a)).ownsRow base 187 7 (.slice (some ⟨g,0,none⟩) k c) k ((l.dropLast++[(⟨x.f,p,a⟩:Iv)]).flatMap Iv.cs):=by
 rw[<- bN3 k b d];exact((((h.stored _ _).1.stored _ _).1.stored _ _).1.stored _ _).1
theorem bX6 (A:Option Addr)(n c base:Nat)(L:List Iv)(B:Option Addr)(m cb:Nat)(P:List Vl)(i:Nat)(w:World)(e0:w.ownsRow base 187 7 (.slice A n c) n (L.flatMap Iv.cs))(d8:L.length=n)
 (c5:qA w B m P)(hi:i<m)(hn:n<=100000)(hm:m<=1000000)(d9:base<=w.heap.size) :
 Calls Tryz.prog 238 #[.slice A n c,.slice B m cb,(i:Int)] w fun e w'=>cB5 w base (eO L (pB P i)) e w':=by
 obtain⟨i0,a6,a7,a8,a9⟩:=info_parts nJ;obtain⟨b,o,x,rfl,hx,e3⟩:=c5.at hi;have f1:=c5.len;have c4:=Z e0;have E:=Z d8
 -- the interval
 obtain⟨q,c7,hq,e8⟩:∃(q:Vl) (c7:Bool),(c7=true/\i+1=m/\q=bE\/c7=false/\i+1<m/\P[i+1]?=some q)/\Hid (pB P i=⟨x,q,c7⟩):=by
  have h1:P.getD i bE=x:=by rw[bG,hx];rfl
  rcases cJ (i+1) m with h|h
  . have h2:P[i+1]?=some (P[i+1]'(by omega)):=aN _;refine⟨_,false,.inr ⟨rfl,h,h2⟩,?_⟩;show _=_;unfold pB;rw[h1,h2]
  . refine⟨bE,true,.inl ⟨rfl,by omega,rfl⟩,?_⟩;show _=_;unfold pB;rw[h1,List.getElem?_eq_none (by omega)]
 obtain⟨d,a,l⟩:=x;obtain⟨e9,c1,c2⟩:=VlAt.of e3;dsimp only at e9 c1 c2;have e6:=Z c5;clear e0 d8 e3 hx f1 c5;rw[e8.out];rcases hq with⟨rfl,c6,rfl⟩|⟨rfl,c6,hq⟩
 . have g1:((i:Int) == (m:Int)-1)=true:=(by simp;omega);have f7:=Z c6;clear c6;go_enter Tryz.func238,Tryz.ntmps238;go_wp2;have U:Below w w (w.alloc (.cells #[d,a,l,zO,zO,zS,zT] 187)):=(aB _ _).alloc (aD _) _;have b1:=aT.new w 187 #[d,a,l,zO,zO,zS,zT];have J:=Z (c4.out.alloc (.cells #[d,a,l,zO,zO,zS,zT] 187));generalize w.alloc (.cells #[d,a,l,zO,zO,zS,zT] 187)=W at *;generalize b7:w.heap.size=z at *;have K:=Z b7;clear b7;have V:base<=W.heap.size:=bI d9 (by have:=U.size;have:=K.out;omega);have Q:=b1.cell;rcases Nat.eq_zero_or_pos n with R|R
   . have g2:decide (0<n)=false:=(by simp;omega);have F:Hid (eO L ⟨⟨d,a,l⟩,bE,true⟩=L++[⟨⟨d,a,l⟩,bE,true⟩]):=(by show _=_;have:L=[]:=aR (by have:=E.out;omega);rw[this];rfl);have e5:=Z R;clear R;have H:=@bK W.drew;refine aZ [([0,1,2,3,4,5,6,7,8,9,10,11,12,13,14,15,16,17,18,19],20)] [21,22] ?_;simp only[bS,cP];unfold bA;repeat(go_big_quiet_step (fail))
     refine aA ?_;clear H;go_wp2;refine⟨aB _ _,?_⟩;unfold bA;repeat(go_big_quiet_step (fail))
     refine aA ?_;have G:=Z J.out.drew;generalize D:W.drew=r at *;have b2:∀j,r.cell? ⟨z,j,none⟩=#[.int .i64 d,.int .i64 a,.string l,.int .i64 0,.int .i64 0,.string ⟨#[]⟩,.bool true][j]?:=(by rw[<- D];exact Q);have I:Below base w r:=(by rw[<- D];exact(U.mono (by have:=K.out;omega)).drew);have hW1:base<=r.heap.size:=(by rw[<- D];exact V);clear D Q;go_wp2_with (at_builtin;refine bH (by rfl) (.tmp 68) (.tmp 70) _ (by rfl) base 187 i0 _ 7 72 Tryz.underlying139 a6 a7 a8 a9 (by rfl) (by omega) (.slice A n c) n _ (by rfl) _ _ G.out r (by rfl) (by rfl) (by rfl) (iL ⟨⟨d,a,l⟩,bE,true⟩) (by simp only[maxLen];omega) (by omega) (hW1) ?_;intro g6 M w6 T b5 N b3 b6);go_ret;have hj:=F.out;rw[hj];have s:(L++[(⟨⟨d,a,l⟩,bE,true⟩:Iv)]).length=n+1:=(by simp[E.out]);refine⟨_,M,eR s.symm,?_,?_⟩
     . rw[s,aP];simpa[Iv.cs,bE]using T
     . exact I.trans N
   . obtain⟨g,d1,hv,f3,f4⟩:=J.out.form R;obtain⟨rfl,rfl⟩:A=some ⟨g,0,none⟩/\c=d1:=(by injection hv with h1 h2 h3;exact⟨h1,h3⟩);obtain⟨d0,o6,y,b0,a2,b4⟩:=(cC3 Iv.cs_len E.out J.out).at (show n-1<n by omega);obtain⟨rfl,rfl⟩:g=d0/\0=o6:=(by injection b0 with h;injection h with h1 h2;exact⟨h1,h2⟩);have c9:=Z a2;obtain⟨⟨a4,a3,a5⟩,⟨b9,b8,c0⟩,c3⟩:=y;obtain⟨y0,y1,y2,X,Y,y5,y6⟩:=IvAt.of b4;dsimp only at y0 y1 y2 X Y y5 y6;simp only[cA]at y0 y1 y2 X Y y5 y6;have g2:decide (0<n)=true:=(by simp[R]);have a1:Hid (L.getLast?=some ⟨⟨a4,a3,a5⟩,⟨b9,b8,c0⟩,c3⟩):=(by show _=_;rw[List.getLast?_eq_getElem?,E.out];exact a2);have f6:(1:Int)<=(n:Int):=(by omega);clear hv b0 b4 a2;cases c3
     . obtain⟨v,a0⟩:∃v,Hid (bZ ⟨b9,b8,c0⟩ ⟨d,a,l⟩=v):=⟨_,rfl⟩;have H:=@bK W.drew;refine aZ [([0,1,2,3,4,5,6,7,8,9,10,11,12,13,14,15,16,17,18,19],20)] [21,22] ?_;simp only[bS,cP];unfold bA;repeat(go_big_quiet_step (fail))
       refine aA ?_;clear H;go_wp2_with (first|(go_at_call 112;refine(eN ⟨_,_,_⟩ ⟨_,_,_⟩ _).mono ?_;rintro e r ⟨rfl,hb1⟩;rw[a0.out]));refine⟨hb1,?_⟩;unfold bA;repeat(go_big_quiet_step (fail))
       refine aA ?_;have O:dW W r:=(dW.refl _).drew.trans (aC hb1);have d7:=b1.drew.below hb1;have b2:=d7.cell;have G:=Z (fJ J.out.drew (fun g _ hl _=>hb1.block g hl));have I:Below base w r:=(U.mono (by have:=K.out;omega)).drew.trans (hb1.mono V);have hW1:base<=r.heap.size:=bI V hb1.size;replace X:=aW O X;replace Y:=aW O Y;replace y5:=aW O y5;replace y6:=aW O y6;have f5:¬z=g:=fun e=>(by have h1:=jH c4.out;rw[K.out,e]at h1;exact h1 rfl);clear y0 y1 y2 Q hb1 O;by_cases hv:v=0
       . have d5:(v == 0)=true:=(by simp[hv]);have F:Hid (eO L ⟨⟨d,a,l⟩,bE,true⟩=L.dropLast++[⟨⟨a4,a3,a5⟩,bE,true⟩]):=(by show _=_;unfold eO;rw[a1.out];simp only[a0.out,hv,Bool.not_false,decide_true,Bool.and_true,if_true]);have e7:=Z hv;clear hv;have f2:=fun q=>G.out.frozenAt q;have c8:=Z (mI bE true G.out E.out c9.out);go_wp2;have H:=@hC (fun k=>k=g) r.drew;refine gJ (fun k=>k=g) [([0,1,2,3,4,5,6,7,8,9,10,11],12),([13,14],15)] [] ?_;simp only[bS,cP];unfold dI;repeat(go_big_quiet_step (fail))
         refine aA ?_;clear H;go_wp2;refine⟨((But.set (S:=fun k=>k=g) _ (p:=⟨g,(n-1)*7+3,none⟩) rfl _).trans (But.set (S:=fun k=>k=g) _ (p:=⟨g,(n-1)*7+3+1,none⟩) rfl _)).trans (But.set (S:=fun k=>k=g) _ (p:=⟨g,(n-1)*7+3+2,none⟩) rfl _),?_⟩;unfold dI;repeat(go_big_quiet_step (fail))
         refine aA ?_;go_wp2;refine⟨But.set (S:=fun k=>k=g) _ (p:=⟨g,(n-1)*7+6,none⟩) rfl _,?_⟩;unfold dI;refine aA ?_;go_wp2;go_ret;have hj:=F.out;rw[hj];have s:(L.dropLast++[(⟨⟨a4,a3,a5⟩,bE,true⟩:Iv)]).length=n:=(by simp[E.out];omega);refine⟨_,c,eR s.symm,?_,?_⟩
         . rw[s];exact c8.out
         . exact(((I.drew.setCell (p:=⟨g,(n-1)*7+3,none⟩) (by simp;omega) _).setCell (p:=⟨g,(n-1)*7+3+1,none⟩) (by simp;omega) _).setCell (p:=⟨g,(n-1)*7+3+2,none⟩) (by simp;omega) _).setCell (p:=⟨g,(n-1)*7+6,none⟩) (by simp;omega) _
       . have d5:(v == 0)=false:=(by simp[hv]);have F:Hid (eO L ⟨⟨d,a,l⟩,bE,true⟩=L++[⟨⟨d,a,l⟩,bE,true⟩]):=(by show _=_;unfold eO;rw[a1.out];simp[a0.out,hv]);go_wp2_with (at_builtin;refine bH (by rfl) (.tmp 68) (.tmp 70) _ (by rfl) base 187 i0 _ 7 72 Tryz.underlying139 a6 a7 a8 a9 (by rfl) (by omega) (.slice (some ⟨g,0,none⟩) n c) n _ (by rfl) _ _ G.out r (by rfl) (by rfl) (by rfl) (iL ⟨⟨d,a,l⟩,bE,true⟩) (by simp only[maxLen];omega) (by omega) hW1 ?_;intro g6 M w6 T b5 N b3 b6);go_ret;have hj:=F.out;rw[hj];have s:(L++[(⟨⟨d,a,l⟩,bE,true⟩:Iv)]).length=n+1:=(by simp[E.out]);refine⟨_,M,eR s.symm,?_,?_⟩
         . rw[s,aP];simpa[Iv.cs,bE]using T
         . exact I.trans N
     . have F:Hid (eO L ⟨⟨d,a,l⟩,bE,true⟩=L++[⟨⟨d,a,l⟩,bE,true⟩]):=(by show _=_;unfold eO;rw[a1.out];simp);have H:=@bK W.drew;refine aZ [([0,1,2,3,4,5,6,7,8,9,10,11,12,13,14,15,16,17,18,19],20)] [21,22] ?_;simp only[bS,cP];unfold bA;repeat(go_big_quiet_step (fail))
       refine aA ?_;clear H;go_wp2;refine⟨aB _ _,?_⟩;unfold bA;repeat(go_big_quiet_step (fail))
       refine aA ?_;have G:=Z J.out.drew;generalize D:W.drew=r at *;have b2:∀j,r.cell? ⟨z,j,none⟩=#[.int .i64 d,.int .i64 a,.string l,.int .i64 0,.int .i64 0,.string ⟨#[]⟩,.bool true][j]?:=(by rw[<- D];exact Q);have I:Below base w r:=(by rw[<- D];exact(U.mono (by have:=K.out;omega)).drew);have hW1:base<=r.heap.size:=(by rw[<- D];exact V);clear D Q;go_wp2_with (at_builtin;refine bH (by rfl) (.tmp 68) (.tmp 70) _ (by rfl) base 187 i0 _ 7 72 Tryz.underlying139 a6 a7 a8 a9 (by rfl) (by omega) (.slice (some ⟨g,0,none⟩) n c) n _ (by rfl) _ _ G.out r (by rfl) (by rfl) (by rfl) (iL ⟨⟨d,a,l⟩,bE,true⟩) (by simp only[maxLen];omega) (by omega) hW1 ?_;intro g6 M w6 T b5 N b3 b6);go_ret;have hj:=F.out;rw[hj];have s:(L++[(⟨⟨d,a,l⟩,bE,true⟩:Iv)]).length=n+1:=(by simp[E.out]);refine⟨_,M,eR s.symm,?_,?_⟩
       . rw[s,aP];simpa[Iv.cs,bE]using T
       . exact I.trans N
 . have g1:((i:Int) == (m:Int)-1)=false:=(by simp;omega);obtain⟨b',o',y,d6,hy,e4⟩:=e6.out.at c6;injection d6 with d6;injection d6 with hb1 hb2;subst hb1 hb2;rw[hq]at hy;injection hy with hy;subst hy;obtain⟨u,t,C⟩:=q;obtain⟨d2,d3,d4⟩:=VlAt.of e4;dsimp only at d2 d3 d4;clear hq e4;have f8:(i:Int)+1<(m:Int):=(by omega);have f0:=aW (aM w (.cells #[d,a,l,zO,zO,zS,zF] 187)) d2;have e1:=aW (aM w (.cells #[d,a,l,zO,zO,zS,zF] 187)) d3;have e2:=aW (aM w (.cells #[d,a,l,zO,zO,zS,zF] 187)) d4;clear d2 d3 d4;go_enter Tryz.func238,Tryz.ntmps238;go_wp2;clear f0 e1 e2;have U:Below w w (w.alloc (.cells #[d,a,l,u,t,C,zF] 187)):=(aB _ _).alloc (aD _) _;have b1:=aT.new w 187 #[d,a,l,u,t,C,zF];have J:=Z (c4.out.alloc (.cells #[d,a,l,u,t,C,zF] 187));generalize w.alloc (.cells #[d,a,l,u,t,C,zF] 187)=W at *;generalize b7:w.heap.size=z at *;have K:=Z b7;clear b7;have V:base<=W.heap.size:=bI d9 (by have:=U.size;have:=K.out;omega);have Q:=b1.cell;rcases Nat.eq_zero_or_pos n with R|R
   . have g2:decide (0<n)=false:=(by simp;omega);have F:Hid (eO L ⟨⟨d,a,l⟩,⟨u,t,C⟩,false⟩=L++[⟨⟨d,a,l⟩,⟨u,t,C⟩,false⟩]):=(by show _=_;have:L=[]:=aR (by have:=E.out;omega);rw[this];rfl);have e5:=Z R;clear R;have H:=@bK W.drew;refine aZ [([0,1,2,3,4,5,6,7,8,9,10,11,12,13,14,15,16,17,18,19],20)] [21,22] ?_;simp only[bS,cP];unfold bA;repeat(go_big_quiet_step (fail))
     refine aA ?_;clear H;go_wp2;refine⟨aB _ _,?_⟩;unfold bA;repeat(go_big_quiet_step (fail))
     refine aA ?_;have G:=Z J.out.drew;generalize D:W.drew=r at *;have b2:∀j,r.cell? ⟨z,j,none⟩=#[.int .i64 d,.int .i64 a,.string l,.int .i64 u,.int .i64 t,.string C,.bool false][j]?:=(by rw[<- D];exact Q);have I:Below base w r:=(by rw[<- D];exact(U.mono (by have:=K.out;omega)).drew);have hW1:base<=r.heap.size:=(by rw[<- D];exact V);clear D Q;go_wp2_with (at_builtin;refine bH (by rfl) (.tmp 68) (.tmp 70) _ (by rfl) base 187 i0 _ 7 72 Tryz.underlying139 a6 a7 a8 a9 (by rfl) (by omega) (.slice A n c) n _ (by rfl) _ _ G.out r (by rfl) (by rfl) (by rfl) (iL ⟨⟨d,a,l⟩,⟨u,t,C⟩,false⟩) (by simp only[maxLen];omega) (by omega) (hW1) ?_;intro g6 M w6 T b5 N b3 b6);go_ret;have hj:=F.out;rw[hj];have s:(L++[(⟨⟨d,a,l⟩,⟨u,t,C⟩,false⟩:Iv)]).length=n+1:=(by simp[E.out]);refine⟨_,M,eR s.symm,?_,?_⟩
     . rw[s,aP];simpa[Iv.cs,bE]using T
     . exact I.trans N
   . obtain⟨g,d1,hv,f3,f4⟩:=J.out.form R;obtain⟨rfl,rfl⟩:A=some ⟨g,0,none⟩/\c=d1:=(by injection hv with h1 h2 h3;exact⟨h1,h3⟩);obtain⟨d0,o6,y,b0,a2,b4⟩:=(cC3 Iv.cs_len E.out J.out).at (show n-1<n by omega);obtain⟨rfl,rfl⟩:g=d0/\0=o6:=(by injection b0 with h;injection h with h1 h2;exact⟨h1,h2⟩);have c9:=Z a2;obtain⟨⟨a4,a3,a5⟩,⟨b9,b8,c0⟩,c3⟩:=y;obtain⟨y0,y1,y2,X,Y,y5,y6⟩:=IvAt.of b4;dsimp only at y0 y1 y2 X Y y5 y6;simp only[cA]at y0 y1 y2 X Y y5 y6;have g2:decide (0<n)=true:=(by simp[R]);have a1:Hid (L.getLast?=some ⟨⟨a4,a3,a5⟩,⟨b9,b8,c0⟩,c3⟩):=(by show _=_;rw[List.getLast?_eq_getElem?,E.out];exact a2);have f6:(1:Int)<=(n:Int):=(by omega);clear hv b0 b4 a2;cases c3
     . obtain⟨v,a0⟩:∃v,Hid (bZ ⟨b9,b8,c0⟩ ⟨d,a,l⟩=v):=⟨_,rfl⟩;have H:=@bK W.drew;refine aZ [([0,1,2,3,4,5,6,7,8,9,10,11,12,13,14,15,16,17,18,19],20)] [21,22] ?_;simp only[bS,cP];unfold bA;repeat(go_big_quiet_step (fail))
       refine aA ?_;clear H;go_wp2_with (first|(go_at_call 112;refine(eN ⟨_,_,_⟩ ⟨_,_,_⟩ _).mono ?_;rintro e r ⟨rfl,hb1⟩;rw[a0.out]));refine⟨hb1,?_⟩;unfold bA;repeat(go_big_quiet_step (fail))
       refine aA ?_;have O:dW W r:=(dW.refl _).drew.trans (aC hb1);have d7:=b1.drew.below hb1;have b2:=d7.cell;have G:=Z (fJ J.out.drew (fun g _ hl _=>hb1.block g hl));have I:Below base w r:=(U.mono (by have:=K.out;omega)).drew.trans (hb1.mono V);have hW1:base<=r.heap.size:=bI V hb1.size;replace X:=aW O X;replace Y:=aW O Y;replace y5:=aW O y5;replace y6:=aW O y6;have f5:¬z=g:=fun e=>(by have h1:=jH c4.out;rw[K.out,e]at h1;exact h1 rfl);clear y0 y1 y2 Q hb1 O;by_cases hv:v=0
       . have d5:(v == 0)=true:=(by simp[hv]);have F:Hid (eO L ⟨⟨d,a,l⟩,⟨u,t,C⟩,false⟩=L.dropLast++[⟨⟨a4,a3,a5⟩,⟨u,t,C⟩,false⟩]):=(by show _=_;unfold eO;rw[a1.out];simp only[a0.out,hv,Bool.not_false,decide_true,Bool.and_true,if_true]);have e7:=Z hv;clear hv;have f2:=fun q=>G.out.frozenAt q;have c8:=Z (mI ⟨u,t,C⟩ false G.out E.out c9.out);go_wp2;have H:=@hC (fun k=>k=g) r.drew;refine gJ (fun k=>k=g) [([0,1,2,3,4,5,6,7,8,9,10,11],12),([13,14],15)] [] ?_;simp only[bS,cP];unfold dI;repeat(go_big_quiet_step (fail))
         refine aA ?_;clear H;go_wp2;refine⟨((But.set (S:=fun k=>k=g) _ (p:=⟨g,(n-1)*7+3,none⟩) rfl _).trans (But.set (S:=fun k=>k=g) _ (p:=⟨g,(n-1)*7+3+1,none⟩) rfl _)).trans (But.set (S:=fun k=>k=g) _ (p:=⟨g,(n-1)*7+3+2,none⟩) rfl _),?_⟩;unfold dI;repeat(go_big_quiet_step (fail))
         refine aA ?_;go_wp2;refine⟨But.set (S:=fun k=>k=g) _ (p:=⟨g,(n-1)*7+6,none⟩) rfl _,?_⟩;unfold dI;refine aA ?_;go_wp2;go_ret;have hj:=F.out;rw[hj];have s:(L.dropLast++[(⟨⟨a4,a3,a5⟩,⟨u,t,C⟩,false⟩:Iv)]).length=n:=(by simp[E.out];omega);refine⟨_,c,eR s.symm,?_,?_⟩
         . rw[s];exact c8.out
         . exact(((I.drew.setCell (p:=⟨g,(n-1)*7+3,none⟩) (by simp;omega) _).setCell (p:=⟨g,(n-1)*7+3+1,none⟩) (by simp;omega) _).setCell (p:=⟨g,(n-1)*7+3+2,none⟩) (by simp;omega) _).setCell (p:=⟨g,(n-1)*7+6,none⟩) (by simp;omega) _
       . have d5:(v == 0)=false:=(by simp[hv]);have F:Hid (eO L ⟨⟨d,a,l⟩,⟨u,t,C⟩,false⟩=L++[⟨⟨d,a,l⟩,⟨u,t,C⟩,false⟩]):=(by show _=_;unfold eO;rw[a1.out];simp[a0.out,hv]);go_wp2_with (at_builtin;refine bH (by rfl) (.tmp 68) (.tmp 70) _ (by rfl) base 187 i0 _ 7 72 Tryz.underlying139 a6 a7 a8 a9 (by rfl) (by omega) (.slice (some ⟨g,0,none⟩) n c) n _ (by rfl) _ _ G.out r (by rfl) (by rfl) (by rfl) (iL ⟨⟨d,a,l⟩,⟨u,t,C⟩,false⟩) (by simp only[maxLen];omega) (by omega) hW1 ?_;intro g6 M w6 T b5 N b3 b6);go_ret;have hj:=F.out;rw[hj];have s:(L++[(⟨⟨d,a,l⟩,⟨u,t,C⟩,false⟩:Iv)]).length=n+1:=(by simp[E.out]);refine⟨_,M,eR s.symm,?_,?_⟩
         . rw[s,aP];simpa[Iv.cs,bE]using T
         . exact I.trans N
     . have F:Hid (eO L ⟨⟨d,a,l⟩,⟨u,t,C⟩,false⟩=L++[⟨⟨d,a,l⟩,⟨u,t,C⟩,false⟩]):=(by show _=_;unfold eO;rw[a1.out];simp);have H:=@bK W.drew;refine aZ [([0,1,2,3,4,5,6,7,8,9,10,11,12,13,14,15,16,17,18,19],20)] [21,22] ?_;simp only[bS,cP];unfold bA;repeat(go_big_quiet_step (fail))
       refine aA ?_;clear H;go_wp2;refine⟨aB _ _,?_⟩;unfold bA;repeat(go_big_quiet_step (fail))
       refine aA ?_;have G:=Z J.out.drew;generalize D:W.drew=r at *;have b2:∀j,r.cell? ⟨z,j,none⟩=#[.int .i64 d,.int .i64 a,.string l,.int .i64 u,.int .i64 t,.string C,.bool false][j]?:=(by rw[<- D];exact Q);have I:Below base w r:=(by rw[<- D];exact(U.mono (by have:=K.out;omega)).drew);have hW1:base<=r.heap.size:=(by rw[<- D];exact V);clear D Q;go_wp2_with (at_builtin;refine bH (by rfl) (.tmp 68) (.tmp 70) _ (by rfl) base 187 i0 _ 7 72 Tryz.underlying139 a6 a7 a8 a9 (by rfl) (by omega) (.slice (some ⟨g,0,none⟩) n c) n _ (by rfl) _ _ G.out r (by rfl) (by rfl) (by rfl) (iL ⟨⟨d,a,l⟩,⟨u,t,C⟩,false⟩) (by simp only[maxLen];omega) (by omega) hW1 ?_;intro g6 M w6 T b5 N b3 b6);go_ret;have hj:=F.out;rw[hj];have s:(L++[(⟨⟨d,a,l⟩,⟨u,t,C⟩,false⟩:Iv)]).length=n+1:=(by simp[E.out]);refine⟨_,M,eR s.symm,?_,?_⟩
       . rw[s,aP];simpa[Iv.cs,bE]using T
       . exact I.trans N
def hH (a b:List Iv):List Vl:=(sP ((nZ [a,b]).map fun v=>[v])).map (fun r=>r.headD bE)
theorem aG9 {a b:List Iv}{L:List Vl}(h:L.map (fun v=>[v])=sP ((nZ [a,b]).map fun v=>[v])):hH a b=L:=by
 unfold hH;rw[<- h,List.map_map]
 conv=>rhs;rw[<- List.map_id L]
 exact List.map_congr_left (fun _ _=>rfl)
def lW (op:Bool→Bool→Bool) (a b:List Iv) (P:List Vl) (acc:List Iv) (i:Nat):List Iv:=if op (eP a (P.getD i bE)) (eP b (P.getD i bE))then eO acc (pB P i)else acc
def jW (op:Bool→Bool→Bool) (a b:List Iv) (P:List Vl) (k:Nat):List Iv:=(List.range k).foldl (lW op a b P) []
def eF (op:Bool→Bool→Bool) (a b:List Iv):List Iv:=jW op a b (hH a b) (hH a b).length
theorem xO (op:Bool->Bool->Bool)(a b:List Iv)(P:List Vl)(k:Nat):jW op a b P (k+1)=lW op a b P (jW op a b P k) k:=by
 unfold jW;rw[List.range_succ,List.foldl_append];rfl
theorem aI0 (L:List Iv)(x:Iv):(eO L x).length<=L.length+1:=by
 unfold eO;split
 . simp
 . split<;>simp
theorem tW (op:Bool->Bool->Bool)(a b:List Iv)(P:List Vl)(k:Nat):(jW op a b P k).length<=k:=by
 induction k with
 |zero=>simp[jW]
 |
  succ k ih =>
  rw[xO];unfold lW;split
  . have:=aI0 (jW op a b P k) (pB P k);omega
  . omega
theorem tK (a b:List Iv):(hH a b).length<=2*a.length+2*b.length:=by
 unfold hH;rw[List.length_map];have h:=aR6 ((nZ [a,b]).map fun v=>[v]);have c:=oA a;have d:=oA b;simp[nZ]at h;simp[nZ];omega
theorem bX1 {w:World}{g:Nat}{p q:xW}(h:aT w g 139 #[.slice p.1.1 p.1.2.1 p.1.2.2,.slice q.1.1 q.1.2.1 q.1.2.2])(e:LstOk w p)(i:LstOk w q):LstsS w (some ⟨g,0,none⟩) 2 [p,q]:=by
 refine⟨⟨rfl,fun _=>⟨g,0,rfl,fun k x a j u b=>?_⟩⟩,fun r c=>?_⟩
 . have d:j=0:=by
    rcases j with _|j
    . rfl
    . simp[aA6]at b
   subst d;simp[aA6]at b;rw[show 0+k*1+0=k by omega,h.cell];rcases k with _|_|k
   . simp only[aL,Option.some.injEq]at a;subst a;simp[b]
   . simp only[List.getElem?_cons_succ,aL,Option.some.injEq]at a;subst a;simp[b]
   . simp at a
 . simp only[List.mem_cons,List.not_mem_nil,or_false]at c;rcases c with rfl|rfl
   . exact e
   . exact i
def cB8 (w:World) (R:List Iv) (e:Ending) (w':World):Prop :=
 ∃(A':Option Addr) (c':Nat),e=.returned (.slice A' R.length c')∧w'.ownsRow w.heap.size 187 7 (.slice A' R.length c') R.length (R.flatMap Iv.cs)∧Below w.heap.size w w'
theorem gW (k:Int)(A B:Option Addr)(n m ca cb:Nat)(a c:List Iv)(w:World)(D:kH w A n a)(E:kH w B m c)(hn:n<=64)(hm:m<=64) :
 Calls Tryz.prog 229 #[k,.slice A n ca,.slice B m cb] w fun e w'=>cB8 w (eF (iA k) a c) e w':=by
 have M:=Z D;have HB:=Z E;have b1:=Z D.len;have b2:=Z E.len;clear D E;go_enter Tryz.func229,Tryz.ntmps229;go_wp2_with fail;have F:Below w w (w.alloc (.cells #[.slice A n ca,.slice B m cb] 139)):=(aB _ _).alloc (aD _) _;have I:=aC F;refine(xC (some ⟨w,0,none⟩) 2 2 [((A,n,ca),a),((B,m,cb),c)] _ (bX1 (aT.new w _ _) ⟨M.out.keep I,hn⟩ ⟨HB.out.keep I,hm⟩) (by omega)).mono ?_;rintro e q ⟨A1,c1,P,Y,rfl,a0,hb1⟩;have O:Hid (hH a c=P):=aG9 (by simpa using Y);have b8:P.length<=256:=by have:=tK a c;rw[O.out]at this;have:=b1.out;have:=b2.out;omega
 have b0:Hid (eF (iA k) a c=jW (iA k) a c P P.length):=by show _=_;unfold eF;rw[O.out]
 have u:=Z (cC1 F hb1);have Q:=Z a0;clear Y a0 I F hb1;go_wp2;go_loopw [8,17] (fun x i wr=>∃(t d:Nat) (A':Option Addr) (c':Nat),t<=P.length/\i=.int .i64 (t:Int)/\x=.slice A' d c'/\d<=t/\Hid ((jW (iA k) a c P t).length=d)/\wr.ownsRow q 187 7 (.slice A' d c') d ((jW (iA k) a c P t).flatMap Iv.cs)/\Below q q wr) (fun _ i _=>P.length-(intOf i).toNat);case atStart=>exact⟨0,0,none,0,by omega,rfl,rfl,by omega,rfl,⟨by simp[jW],.inl ⟨rfl,rfl⟩⟩,aB _ _⟩
 case round =>
  obtain⟨t,d,A',c',ht,rfl,rfl,b9,K,ho,hb⟩:=hrel;by_cases a5:t<P.length
  . obtain⟨b,o,p,rfl,hp,a4⟩:=(Q.out.keep (aC hb)).at a5;have S:Hid (P.getD t bE=p):=(by show _=_;rw[bG,hp];rfl);have U:=Z (xO (iA k) a c P t);obtain⟨pk,j,l⟩:=p;obtain⟨x0,x1,x2⟩:=VlAt.of a4;dsimp only at x0 x1 x2;clear hp a4;have a8:=Z ho;clear ho;have hsz:=hb.size;obtain⟨q1,v⟩:=zE (eP a ⟨pk,j,l⟩);obtain⟨q2,y⟩:=zE (eP c ⟨pk,j,l⟩);obtain⟨q3,C⟩:=zE (iA k q1 q2);have a7:=Z (cC1 u.out hb);go_wp2;have a3:=aT.new wr 59 #[pk,j,l];have G:Below wr wr (wr.alloc (.cells #[pk,j,l] 59)):=(aB _ _).alloc (aD _) _;generalize wr.alloc (.cells #[pk,j,l] 59)=W at *;generalize a6:wr.heap.size=z at *;have V:=Z a6;clear a6;have b3:=a3.cell;have b5:=@bK W.drew;refine aZ [([0,1,2,4,5],3),([],6),([],7)] [] ?_;simp only[bS,cP];unfold bA;repeat(go_big_quiet_step (fail))
    refine aA ?_;clear b5;have H:Below w w W.drew:=(by have h1:Below wr wr W:=(by rw[V.out];exact G);exact(cC1 a7.out h1).drew);go_wp2_with (first|(go_at_call 264;refine(aM0 A n ca a ⟨pk,j,l⟩ _ (M.out.keep (aC H)) (by omega)).mono ?_;rintro e w3 ⟨rfl,s⟩;rw[v.out]));refine⟨s,?_⟩;unfold bA;refine aA ?_;have X:=cC1 H s;go_wp2_with (first|(go_at_call 264;refine(aM0 B m cb c ⟨pk,j,l⟩ _ (HB.out.keep (aC X)) (by omega)).mono ?_;rintro e w4 ⟨rfl,J⟩;rw[y.out]));refine⟨J,?_⟩;unfold bA;refine aA ?_;go_wp2_with (first|(go_at_call 233;refine(aL0 k q1 q2 _).mono ?_;rintro e w5 ⟨rfl,rfl⟩;rw[C.out]));refine⟨aB _ _,?_⟩;unfold bA;refine aA ?_;have a2:Below wr wr w4:=(by have h1:Below wr wr W:=(by rw[V.out];exact G);exact cC1 (cC1 h1.drew s) J);have N:=Z (fJ a8.out (fun g _ hl _=>a2.block g hl));have r:Below q q w4:=cC1 hb a2;have b7:=r.size;clear s J H X G a3 b3;cases q3
    . go_wp2;go_roundw;case rel =>
       have hs:=U.out;unfold lW at hs;rw[S.out,v.out,y.out,C.out]at hs;simp only[Bool.false_eq_true,if_false]at hs;refine⟨t+1,d,A',c',by omega,by go_num,rfl,by omega,?_,?_,r⟩
       . show _=_;rw[hs];exact K.out
       . rw[hs];exact N.out
      case measure=>simp[intOf];omega
    . go_wp2_with fail;refine(bX6 A' d c' q (jW (iA k) a c P t) (some ⟨b,o,none⟩) P.length c1 P t _ N.out K.out (Q.out.keep (aC r)) a5 (by omega) (by omega) b7).mono ?_;rintro e w6 ⟨A6,c6,rfl,L,b4⟩;have hs:=U.out;unfold lW at hs;rw[S.out,v.out,y.out,C.out]at hs;simp only[if_true]at hs;rw[<- hs]at L;rw[<- hs];have b6:=tW (iA k) a c P (t+1);have a9:=Z L;clear hs L;generalize a1:jW (iA k) a c P (t+1)=T at *;have R:=Z a1;clear a1;go_wp2;go_roundw;case rel =>
       refine⟨t+1,_,A6,c6,by omega,by go_num,rfl,b6,?_,?_,r.trans b4⟩
       . show _=_;rw[R.out]
       . rw[R.out];exact a9.out
      case measure=>simp[intOf];omega
  . go_wp2;go_ret;obtain rfl:t=P.length:=(by omega);rw[b0.out];have hl:=K.out;refine⟨A',c',eR hl.symm,?_,cC1 u.out hb⟩;rw[hl];exact jU ho u.out.size
def seg:Vl→List Vl→Iv
 |p,[]=>⟨p,bE,true⟩
 |p,q::_=>⟨p,q,false⟩
def cmb (g:Vl→Bool):List Iv→List Vl→List Iv
 |acc,[]=>acc
 |acc,p::P=>cmb g (if g p then eO acc (seg p P)else acc) P
theorem bD6 (a:List Iv)(y x:Iv):eO (a++[y]) x=if !y.o&&decide (bZ y.t x.f=0)then a++[⟨y.f,x.t,x.o⟩]else a++[y]++[x]:=by
 simp[eO]
def bX2 (acc:List Iv) (P:List Vl):Prop:=∀y,acc.getLast?=some y→y.o=false∧∀p∈P,bZ y.t p<0
theorem bP3 {a:List Iv}{p:Vl}{P:List Vl}(h:bX2 a (p::P)):eO a (seg p P)=a++[seg p P]:=by
 unfold eO;cases hl:a.getLast? with
 |none=>rfl
 |
  some y =>
  have b:=(h y hl).2 p List.mem_cons_self;have e:(seg p P).f=p:=by cases P<;>rfl
  have:¬bZ y.t p=0:=by omega
  simp[e,this]
theorem aP1 (g:Vl->Bool):∀(P:List Vl),hY P ->
 (∀b,bX2 b P->cmb g b P=b++dS (pN g false P)) /\
 (∀a x p c,P=p::c->cmb g (a++[⟨x,p,false⟩]) P=a++dS (x::pN g true P))/\(P=[]->∀a x,cmb g (a++[⟨x,bE,true⟩]) P=a++dS (x::pN g true P))
 |[],_=>⟨fun b _=>by simp[cmb,pN,dS],(fun a x p c h=>by cases h),fun _ a x=>by simp[cmb,pN,dS]⟩
 |
  p::P,h=>by
  have k:=List.pairwise_cons.1 h;obtain⟨l,n,r⟩:=aP1 g P k.2;have j:∀a x,cmb g (a++[⟨x,(seg p P).t,(seg p P).o⟩]) P=a++dS (x::pN g true P):=by
   intro a x;cases P with
   |nil=>exact r rfl a x
   |cons q c=>exact n a x q c rfl
  refine⟨fun b i=>?_,fun a x s c e=>?_,fun h=>by cases h⟩
  . rw[cmb,pN];cases hg:g p
    . simp only[Bool.false_eq_true,if_false,if_true];exact l b (fun y d=>⟨(i y d).1,fun q m=>(i y d).2 q (List.mem_cons_of_mem _ m)⟩)
    . simp only[if_true,Bool.true_eq_false,if_false];rw[bP3 i,<- j b p];cases P<;>rfl
  . injection e with e1 e2;subst e1 e2;rw[cmb,pN];cases hg:g p
    . simp only[Bool.false_eq_true,if_false];rw[l _ (fun y d=>?_),dS,cH]
      . rfl
      . have:y=⟨x,p,false⟩:=(by simpa using d.symm);subst this;exact⟨rfl,k.1⟩
    . simp only[if_true];rw[bD6];have e:(seg p P).f=p:=(by cases P<;>rfl);simp only[e,eH,Bool.not_false,decide_true,Bool.and_self,if_true];exact j a x
theorem aK1 (op:Bool->Bool->Bool)(a b:List Iv)(P:List Vl):∀(R S:List Vl) (c:List Iv),P=S++R ->
 ((List.range' S.length R.length).foldl (lW op a b P) c)=cmb (fun p=>op (eP a p) (eP b p)) c R
 |[],S,c,_=>by simp[cmb]
 |
  p::R,S,c,h=>by
  have d:P.getD S.length bE=p:=by rw[h];simp
  have g:pB P S.length=seg p R:=by unfold pB;rw[d];have:P[S.length+1]?=R[0]?:=(by rw[h,List.getElem?_append_right (by omega)];simp);rw[this];cases R<;>rfl
  have e:=aK1 op a b P R (S++[p]) (lW op a b P c S.length) (by rw[h];simp);rw[bL,List.range'_succ,List.foldl_cons,cmb];rw[cF,List.length_singleton]at e;rw[e];unfold lW;rw[d,g]
theorem aY8 (op:Bool->Bool->Bool)(a b:List Iv):eF op a b=cmb (fun p=>op (eP a p) (eP b p)) [] (hH a b):=by
 have:=aK1 op a b (hH a b) (hH a b) [] [] rfl;unfold eF jW;rw[List.range_eq_range'];exact this
theorem bV5 (a b:Vl):gQ [a] [b]=bZ a b:=by
 simp only[gQ];split<;>omega
theorem xE (a b:List Iv):hY (hH a b)/\∀v,v∈hH a b↔v∈cR a\/v∈cR b:=by
 obtain⟨L,c⟩:=aG3 (nZ [a,b]);rw[aG9 c];refine⟨?_,fun v=>?_⟩
 . have:=aR7 ((nZ [a,b]).map fun v=>[v]);rw[<- c]at this;have d:=List.pairwise_map.1 this;exact d.imp_of_mem (fun {x y} _ _ h=>by rw[bV5]at h;exact h)
 . have:=aR5 ((nZ [a,b]).map fun v=>[v]) [v];rw[<- c]at this;simpa[nZ]using this
theorem aK0 (op:Bool->Bool->Bool)(x:op false false=false){a b:List Iv}(t:cL none a=true)(hb:cL none b=true) :
 cL none (eF op a b)=true/\∀v,eP (eF op a b) v=op (eP a v) (eP b v):=by
 obtain⟨k,l,m,_⟩:=kK a none t;obtain⟨n,o,r,_⟩:=kK b none hb;obtain⟨c,d⟩:=xE a b;have i:∀v,eP a v=lP (cR a) v:=fun v=>by rw[<- mV v _ l,k]
 have j:∀v,eP b v=lP (cR b) v:=fun v=>by rw[<- mV v _ o,n]
 have e:eF op a b=dS (pN (fun p=>op (eP a p) (eP b p)) false (hH a b)):=by rw[aY8,(aP1 _ _ c).1 [] (fun y h=>by cases h)];rfl
 rw[e];refine⟨uV _ _ (sJ _ _ _ c) (fun v z=>?_) (fun y h=>by cases h),fun v=>?_⟩
 . rcases(d v).1 ((mM _ _ _).1 v z)with h|h
   . exact m v h
   . exact r v h
 . rw[mV v _ (sJ _ _ _ c)];have h:=aP2 (fun p=>op (eP a p) (eP b p)) v (hH a b) false c;rw[i v,j v,zY c (fun q g=>(d q).2 (.inl g)) v,zY c (fun q g=>(d q).2 (.inr g)) v];have s:lP (pN (fun p=>op (eP a p) (eP b p)) false (hH a b)) v=(match eV (hH a b) v with|none=>false|some u=>op (eP a u) (eP b u)):=(by rw[Bool.false_xor]at h;exact h);rw[s];cases eV (hH a b) v with
   |none=>exact x.symm
   |some u=>show op (eP a u) (eP b u)=_;rw[i u,j u]
theorem fL (op:Bool->Bool->Bool)(d:op false false=false){a b:List Iv}(c:cL none a=true)(hb:cL none b=true):eF op a b=eD op a b:=by
 obtain⟨c1,c2⟩:=aK0 op d c hb;obtain⟨e,_,g⟩:=pG op d c hb;exact aM8 c1 e fun v _=>by rw[c2,g]
end Go.Proofs.YtnnmlhmffnfjfaaGreat
