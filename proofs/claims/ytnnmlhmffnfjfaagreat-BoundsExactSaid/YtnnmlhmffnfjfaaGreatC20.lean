/- Texts on which the walk stands. -/
import Derived.Test.YtnnmlhmffnfjfaaGreatC19
import Derived.ArgAppend
open Go renaming wpQuiet_nil → aA, bodyPost_ret → aF
open Go.RowKit.Below renaming refl → aB
open Nat renaming le_refl → aD, zero_add → cA
open Go.World renaming cell?_setCell_other → aE, frozen?_setCell → aG
open List renaming mem_of_getElem? → aJ, flatMap_append → aP, mem_cons_self → aQ, eq_nil_of_length_eq_zero → aR, length_append → cF
open Int renaming eq_ofNat_of_zero_le → bO
set_option maxHeartbeats 16000000
set_option linter.unusedVariables false
set_option maxRecDepth 100000
namespace Go.Proofs.YtnnmlhmffnfjfaaGreat
section
open Go.RowKit
open Pd
def setH:Pd→Nd→Pd
 |.nil _,h=>.nil h
 |.cons a t,h=>.cons a (setH t h)
theorem wF:∀(p:Pd) (h:Nd),(setH p h).h=h
 |.nil _,_=>rfl
 |.cons _ t,h=>wF t h
theorem aR9:∀(p:Pd) (h:Nd),(setH p h).len=p.len
 |.nil _,_=>rfl
 |.cons _ t,h=>by simp only[setH,len,aR9 t h]
theorem aL2:∀ {p:Pd} {h:Nd},nS p->nS (setH p h)
 |.nil _,_,_=>trivial
 |.cons _ _,_,hw=>⟨hw.1,hw.2.1,aL2 hw.2.2⟩
theorem uG:∀ {p:Pd},nS p->∀q∈p.args,nT q
 |.nil _,_,q,h=>by cases h
 |
  .cons a t,hw,q,h=>by
  rcases List.mem_cons.1 h with rfl|h
  . exact⟨hw.1,hw.2.1⟩
  . exact uG hw.2.2 q h
theorem aL3 {h:Nd}:∀ {l:List Pd},(∀q∈l,nT q)->nS (uA h l)
 |[],_=>trivial
 |a::l,hl=>⟨(hl a aQ).1,(hl a aQ).2,aL3 fun q b=>hl q (List.mem_cons_of_mem _ b)⟩
theorem pU.setH {L:Nat->Prop}{w:World}:∀ {p:Pd} {h:Nd} {b o:Nat},pU L w p b o->pU L w (setH p h) b o
 |.nil _,_,_,_,_=>trivial
 |.cons _ _,_,_,_,⟨h0,h1,h2,h3⟩=>⟨h0,h1,h2,h3.setH⟩
theorem PrdL.setH {L:Nat->Prop}{w:World}{A:Option Addr}{n c:Nat}{p:Pd}(a:Nd)(h:PrdL L w A n c p):PrdL L w A n c (setH p a) :=
 ⟨h.ok,by rw[aR9];exact h.len,fun d=>by
  obtain⟨b,o,e,g⟩:=h.ex d;exact⟨b,o,e,g.setH⟩⟩
theorem bU4 {L:Nat->Prop}{w:World}:∀ {p:Pd} {b o:Nat},pU L w p b o->∃es:List PdE,es.map PdE.p=p.args/\(∀(k:Nat) (e:PdE),es[k]?=some e->∀(j:Nat) (u:Value),(PdE.cs e)[j]?=some u->w.cell? ⟨b,o+k*13+j,none⟩=some u)/\∀e∈es,PrdL L w e.A e.n e.c e.p
 |.nil _,_,_,_=>⟨[],rfl,fun k e h=>by simp at h,fun e h=>by cases h⟩
 |
  .cons a t,b,o,⟨h0,h1,⟨A,n,c,h2,h3,h4,h5⟩,h6⟩=>by
  obtain⟨es,l,hc,r⟩:=bU4 h6;refine⟨⟨a,A,n,c⟩::es,by simp[l,args],fun k e g j u d=>?_,fun e h=>?_⟩
  . cases k with
    |
     zero =>
     simp only[List.getElem?_cons_zero,Option.some.injEq]at g;subst g;rw[Nat.zero_mul,Nat.add_zero];by_cases m:j<12
     . refine h1 j u ?_;have i:PdE.cs ⟨a,A,n,c⟩=a.h.cs++[.slice A n c]:=rfl;rw[i,List.getElem?_append_left (by rw[Nd.cs_len];exact m)]at d;exact d
     . have q:=(List.getElem?_eq_some_iff.1 d).1;rw[PdE.cs_len]at q;obtain rfl:j=12:=(by omega);injection d with d;rw[<- d];exact h2
    |
     succ k =>
     simp only[List.getElem?_cons_succ]at g;have:=hc k e g j u d;rw[show o+(k+1)*13+j=o+13+k*13+j by omega];exact this
  . rcases List.mem_cons.1 h with rfl|h
    . exact⟨h3,h4,h5⟩
    . exact r e h
theorem PrdL.es {L:Nat->Prop}{w:World}{A:Option Addr}{n c:Nat}{p:Pd}(h:PrdL L w A n c p):∃es:List PdE,es.map PdE.p=p.args/\Sl 13 PdE.cs w A n es/\∀e∈es,PrdL L w e.A e.n e.c e.p:=by
 rcases Nat.eq_zero_or_pos n with a|a
 . have i:p.args=[]:=aR (by rw[lU,<- h.len,a]);exact⟨[],by rw[i];rfl,⟨by rw[a];rfl,fun g=>absurd g (by omega)⟩,fun e h=>by cases h⟩
 . obtain⟨b,o,e,j⟩:=h.ex a;obtain⟨es,d,hc,k⟩:=bU4 j;refine⟨es,d,⟨?_,fun _=>⟨b,o,e,hc⟩⟩,k⟩;have:=congrArg List.length d;rw[List.length_map,lU,<- h.len]at this;exact this
theorem bT3 {α:Type}{sz:Nat}{cs:α->List Value}{w:World}{A:Option Addr}{n:Nat}{l:List α}(g:∀y,(cs y).length=sz)(k:0<sz)(h:Sl sz cs w A n l):∀b:Addr,A=some b->∀j u,(l.flatMap cs)[j]?=some u->w.cell? (b.add j)=some u:=fun b hb j u m=>by
 obtain⟨y,d,o⟩:=aC0 g k l j u m;have i:0<n:=by have c:=(List.getElem?_eq_some_iff.1 d).1;rw[h.len]at c;exact Nat.lt_of_le_of_lt (Nat.zero_le _) c
 obtain⟨b',p,a,hc⟩:=h.2 i;rw[hb]at a;injection a with a;subst a;have e:=hc _ y d _ u o;rw[lF,<- e,Nat.add_assoc,Nat.mul_comm,Nat.div_add_mod]
def uM {α:Type} (xs:List α):Nat→List α→List α
 |_,[]=>xs
 |o,v::vs=>uM (xs.set o v) (o+1) vs
theorem xB {α:Type}(a:List α):∀(vs b:List α) (o:Nat),uM (a++b) (a.length+o) vs=a++uM b o vs
 |[],_,_=>rfl
 |
  v::vs,b,o=>by
  unfold uM;rw[List.set_append_right _ _ (by omega),Nat.add_sub_cancel_left];exact xB a vs (b.set o v) (o+1)
theorem aG2 {α:Type}:∀(vs a c b:List α),vs.length=a.length->uM (c++(a++b)) c.length vs=c++(vs++b)
 |
  [],a,c,b,h=>by
  obtain rfl:a=[]:=aR h.symm;rfl
 |
  v::vs,a,c,b,h=>by
  cases a with
  |nil=>cases h
  |
   cons x a =>
   unfold uM;rw[List.set_append_right _ _ (aD _),Nat.sub_self];show uM (c++(v::(a++b))) (c.length+1) vs=_;have:=aG2 vs a (c++[v]) b (by simpa using h);simp only[List.append_assoc,cF,List.length_singleton,List.singleton_append]at this;rw[this];rfl
theorem aI9 (a:PdE):∀(es:List PdE) (i:Nat),i<es.length->uM (es.flatMap PdE.cs) (i*13) (PdE.cs a)=(es.set i a).flatMap PdE.cs
 |[],i,h=>by simp at h
 |
  e::es,0,_=>by
  have:=aG2 (PdE.cs a) (PdE.cs e) [] (es.flatMap PdE.cs) rfl;simpa using this
 |
  e::es,i+1,h=>by
  rw[List.flatMap_cons,show(i+1)*13=(PdE.cs e).length+i*13 by rw[PdE.cs_len];omega,xB,aI9 a es i (by simpa using h)];rfl
theorem aU0 {base:Nat}{e:TypeId}{size G n c:Nat}:∀ {vs:List Value} {w:World} {a:List Value} {o:Nat},w.ownsRow base e size (.slice (some ⟨G,0,none⟩) n c) n a->(mB w G o vs).ownsRow base e size (.slice (some ⟨G,0,none⟩) n c) n (uM a o vs)
 |[],_,_,_,h=>h
 |v::vs,_,_,o,h=>aU0 (vs:=vs) (o:=o+1) (h.stored o v).1
theorem put13o {w:World}{G o:Nat}{m n s t u v x y A B p q r:Value}(D:w.cell? ⟨G,o,none⟩=some m)(E:w.cell? ⟨G,o+1,none⟩=some n)(J:w.cell? ⟨G,o+2,none⟩=some s)(K:w.cell? ⟨G,o+3,none⟩=some t)(L:w.cell? ⟨G,o+4,none⟩=some u)(M:w.cell? ⟨G,o+5,none⟩=some v)(N:w.cell? ⟨G,o+6,none⟩=some x)(O:w.cell? ⟨G,o+7,none⟩=some y)(P:w.cell? ⟨G,o+8,none⟩=some A)(Q:w.cell? ⟨G,o+9,none⟩=some B)(F:w.cell? ⟨G,o+10,none⟩=some p)(H:w.cell? ⟨G,o+11,none⟩=some q)(I:w.cell? ⟨G,o+12,none⟩=some r)(e:∀z,w.frozen? ⟨G,z,none⟩=false)(a b c v3 v4 v5 d g i j k l C:Value) :
 (w).cell? ⟨G,o,none⟩=some m /\
 (w).frozen? ⟨G,o,none⟩=false /\
 ((w).setCell ⟨G,o,none⟩ a).cell? ⟨G,o+1,none⟩=some n /\
 ((w).setCell ⟨G,o,none⟩ a).frozen? ⟨G,o+1,none⟩=false /\
 (((w).setCell ⟨G,o,none⟩ a).setCell ⟨G,o+1,none⟩ b).cell? ⟨G,o+2,none⟩=some s /\
 (((w).setCell ⟨G,o,none⟩ a).setCell ⟨G,o+1,none⟩ b).frozen? ⟨G,o+2,none⟩=false /\
 ((((w).setCell ⟨G,o,none⟩ a).setCell ⟨G,o+1,none⟩ b).setCell ⟨G,o+2,none⟩ c).cell? ⟨G,o+3,none⟩=some t /\
 ((((w).setCell ⟨G,o,none⟩ a).setCell ⟨G,o+1,none⟩ b).setCell ⟨G,o+2,none⟩ c).frozen? ⟨G,o+3,none⟩=false /\
 (((((w).setCell ⟨G,o,none⟩ a).setCell ⟨G,o+1,none⟩ b).setCell ⟨G,o+2,none⟩ c).setCell ⟨G,o+3,none⟩ v3).cell? ⟨G,o+4,none⟩=some u /\
 (((((w).setCell ⟨G,o,none⟩ a).setCell ⟨G,o+1,none⟩ b).setCell ⟨G,o+2,none⟩ c).setCell ⟨G,o+3,none⟩ v3).frozen? ⟨G,o+4,none⟩=false /\
 ((((((w).setCell ⟨G,o,none⟩ a).setCell ⟨G,o+1,none⟩ b).setCell ⟨G,o+2,none⟩ c).setCell ⟨G,o+3,none⟩ v3).setCell ⟨G,o+4,none⟩ v4).cell? ⟨G,o+5,none⟩=some v /\
 ((((((w).setCell ⟨G,o,none⟩ a).setCell ⟨G,o+1,none⟩ b).setCell ⟨G,o+2,none⟩ c).setCell ⟨G,o+3,none⟩ v3).setCell ⟨G,o+4,none⟩ v4).frozen? ⟨G,o+5,none⟩=false /\
 (((((((w).setCell ⟨G,o,none⟩ a).setCell ⟨G,o+1,none⟩ b).setCell ⟨G,o+2,none⟩ c).setCell ⟨G,o+3,none⟩ v3).setCell ⟨G,o+4,none⟩ v4).setCell ⟨G,o+5,none⟩ v5).cell? ⟨G,o+6,none⟩=some x /\
 (((((((w).setCell ⟨G,o,none⟩ a).setCell ⟨G,o+1,none⟩ b).setCell ⟨G,o+2,none⟩ c).setCell ⟨G,o+3,none⟩ v3).setCell ⟨G,o+4,none⟩ v4).setCell ⟨G,o+5,none⟩ v5).frozen? ⟨G,o+6,none⟩=false /\
 ((((((((w).setCell ⟨G,o,none⟩ a).setCell ⟨G,o+1,none⟩ b).setCell ⟨G,o+2,none⟩ c).setCell ⟨G,o+3,none⟩ v3).setCell ⟨G,o+4,none⟩ v4).setCell ⟨G,o+5,none⟩ v5).setCell ⟨G,o+6,none⟩ d).cell? ⟨G,o+7,none⟩=some y /\
 ((((((((w).setCell ⟨G,o,none⟩ a).setCell ⟨G,o+1,none⟩ b).setCell ⟨G,o+2,none⟩ c).setCell ⟨G,o+3,none⟩ v3).setCell ⟨G,o+4,none⟩ v4).setCell ⟨G,o+5,none⟩ v5).setCell ⟨G,o+6,none⟩ d).frozen? ⟨G,o+7,none⟩=false /\
 (((((((((w).setCell ⟨G,o,none⟩ a).setCell ⟨G,o+1,none⟩ b).setCell ⟨G,o+2,none⟩ c).setCell ⟨G,o+3,none⟩ v3).setCell ⟨G,o+4,none⟩ v4).setCell ⟨G,o+5,none⟩ v5).setCell ⟨G,o+6,none⟩ d).setCell ⟨G,o+7,none⟩ g).cell? ⟨G,o+8,none⟩=some A /\
 (((((((((w).setCell ⟨G,o,none⟩ a).setCell ⟨G,o+1,none⟩ b).setCell ⟨G,o+2,none⟩ c).setCell ⟨G,o+3,none⟩ v3).setCell ⟨G,o+4,none⟩ v4).setCell ⟨G,o+5,none⟩ v5).setCell ⟨G,o+6,none⟩ d).setCell ⟨G,o+7,none⟩ g).frozen? ⟨G,o+8,none⟩=false /\
 ((((((((((w).setCell ⟨G,o,none⟩ a).setCell ⟨G,o+1,none⟩ b).setCell ⟨G,o+2,none⟩ c).setCell ⟨G,o+3,none⟩ v3).setCell ⟨G,o+4,none⟩ v4).setCell ⟨G,o+5,none⟩ v5).setCell ⟨G,o+6,none⟩ d).setCell ⟨G,o+7,none⟩ g).setCell ⟨G,o+8,none⟩ i).cell? ⟨G,o+9,none⟩=some B /\
 ((((((((((w).setCell ⟨G,o,none⟩ a).setCell ⟨G,o+1,none⟩ b).setCell ⟨G,o+2,none⟩ c).setCell ⟨G,o+3,none⟩ v3).setCell ⟨G,o+4,none⟩ v4).setCell ⟨G,o+5,none⟩ v5).setCell ⟨G,o+6,none⟩ d).setCell ⟨G,o+7,none⟩ g).setCell ⟨G,o+8,none⟩ i).frozen? ⟨G,o+9,none⟩=false /\
 (((((((((((w).setCell ⟨G,o,none⟩ a).setCell ⟨G,o+1,none⟩ b).setCell ⟨G,o+2,none⟩ c).setCell ⟨G,o+3,none⟩ v3).setCell ⟨G,o+4,none⟩ v4).setCell ⟨G,o+5,none⟩ v5).setCell ⟨G,o+6,none⟩ d).setCell ⟨G,o+7,none⟩ g).setCell ⟨G,o+8,none⟩ i).setCell ⟨G,o+9,none⟩ j).cell? ⟨G,o+10,none⟩=some p /\
 (((((((((((w).setCell ⟨G,o,none⟩ a).setCell ⟨G,o+1,none⟩ b).setCell ⟨G,o+2,none⟩ c).setCell ⟨G,o+3,none⟩ v3).setCell ⟨G,o+4,none⟩ v4).setCell ⟨G,o+5,none⟩ v5).setCell ⟨G,o+6,none⟩ d).setCell ⟨G,o+7,none⟩ g).setCell ⟨G,o+8,none⟩ i).setCell ⟨G,o+9,none⟩ j).frozen? ⟨G,o+10,none⟩=false /\
 ((((((((((((w).setCell ⟨G,o,none⟩ a).setCell ⟨G,o+1,none⟩ b).setCell ⟨G,o+2,none⟩ c).setCell ⟨G,o+3,none⟩ v3).setCell ⟨G,o+4,none⟩ v4).setCell ⟨G,o+5,none⟩ v5).setCell ⟨G,o+6,none⟩ d).setCell ⟨G,o+7,none⟩ g).setCell ⟨G,o+8,none⟩ i).setCell ⟨G,o+9,none⟩ j).setCell ⟨G,o+10,none⟩ k).cell? ⟨G,o+11,none⟩=some q /\
 ((((((((((((w).setCell ⟨G,o,none⟩ a).setCell ⟨G,o+1,none⟩ b).setCell ⟨G,o+2,none⟩ c).setCell ⟨G,o+3,none⟩ v3).setCell ⟨G,o+4,none⟩ v4).setCell ⟨G,o+5,none⟩ v5).setCell ⟨G,o+6,none⟩ d).setCell ⟨G,o+7,none⟩ g).setCell ⟨G,o+8,none⟩ i).setCell ⟨G,o+9,none⟩ j).setCell ⟨G,o+10,none⟩ k).frozen? ⟨G,o+11,none⟩=false /\
 (((((((((((((w).setCell ⟨G,o,none⟩ a).setCell ⟨G,o+1,none⟩ b).setCell ⟨G,o+2,none⟩ c).setCell ⟨G,o+3,none⟩ v3).setCell ⟨G,o+4,none⟩ v4).setCell ⟨G,o+5,none⟩ v5).setCell ⟨G,o+6,none⟩ d).setCell ⟨G,o+7,none⟩ g).setCell ⟨G,o+8,none⟩ i).setCell ⟨G,o+9,none⟩ j).setCell ⟨G,o+10,none⟩ k).setCell ⟨G,o+11,none⟩ l).cell? ⟨G,o+12,none⟩=some r /\
 (((((((((((((w).setCell ⟨G,o,none⟩ a).setCell ⟨G,o+1,none⟩ b).setCell ⟨G,o+2,none⟩ c).setCell ⟨G,o+3,none⟩ v3).setCell ⟨G,o+4,none⟩ v4).setCell ⟨G,o+5,none⟩ v5).setCell ⟨G,o+6,none⟩ d).setCell ⟨G,o+7,none⟩ g).setCell ⟨G,o+8,none⟩ i).setCell ⟨G,o+9,none⟩ j).setCell ⟨G,o+10,none⟩ k).setCell ⟨G,o+11,none⟩ l).frozen? ⟨G,o+12,none⟩=false /\
 mB w G o [a,b,c,v3,v4,v5,d,g,i,j,k,l,C]=(((((((((((((w).setCell ⟨G,o,none⟩ a).setCell ⟨G,o+1,none⟩ b).setCell ⟨G,o+2,none⟩ c).setCell ⟨G,o+3,none⟩ v3).setCell ⟨G,o+4,none⟩ v4).setCell ⟨G,o+5,none⟩ v5).setCell ⟨G,o+6,none⟩ d).setCell ⟨G,o+7,none⟩ g).setCell ⟨G,o+8,none⟩ i).setCell ⟨G,o+9,none⟩ j).setCell ⟨G,o+10,none⟩ k).setCell ⟨G,o+11,none⟩ l).setCell ⟨G,o+12,none⟩ C :=
 ⟨(
  by skip;exact D),
  (by skip;exact e _),
  (by rw[aE _ _ _ _ (by simp)];exact E),
  (by rw[aG];exact e _),
  (by rw[aE _ _ _ _ (by simp)];rw[aE _ _ _ _ (by simp)];exact J),
  (by rw[aG];rw[aG];exact e _),
  (by rw[aE _ _ _ _ (by simp)];rw[aE _ _ _ _ (by simp)];rw[aE _ _ _ _ (by simp)];exact K),
  (by rw[aG];rw[aG];rw[aG];exact e _),
  (by rw[aE _ _ _ _ (by simp)];rw[aE _ _ _ _ (by simp)];rw[aE _ _ _ _ (by simp)];rw[aE _ _ _ _ (by simp)];exact L),
  (by rw[aG];rw[aG];rw[aG];rw[aG];exact e _),
  (by rw[aE _ _ _ _ (by simp)];rw[aE _ _ _ _ (by simp)];rw[aE _ _ _ _ (by simp)];rw[aE _ _ _ _ (by simp)];rw[aE _ _ _ _ (by simp)];exact M),
  (by rw[aG];rw[aG];rw[aG];rw[aG];rw[aG];exact e _),
  (by rw[aE _ _ _ _ (by simp)];rw[aE _ _ _ _ (by simp)];rw[aE _ _ _ _ (by simp)];rw[aE _ _ _ _ (by simp)];rw[aE _ _ _ _ (by simp)];rw[aE _ _ _ _ (by simp)];exact N),
  (by rw[aG];rw[aG];rw[aG];rw[aG];rw[aG];rw[aG];exact e _),
  (by rw[aE _ _ _ _ (by simp)];rw[aE _ _ _ _ (by simp)];rw[aE _ _ _ _ (by simp)];rw[aE _ _ _ _ (by simp)];rw[aE _ _ _ _ (by simp)];rw[aE _ _ _ _ (by simp)];rw[aE _ _ _ _ (by simp)];exact O),
  (by rw[aG];rw[aG];rw[aG];rw[aG];rw[aG];rw[aG];rw[aG];exact e _),
  (by rw[aE _ _ _ _ (by simp)];rw[aE _ _ _ _ (by simp)];rw[aE _ _ _ _ (by simp)];rw[aE _ _ _ _ (by simp)];rw[aE _ _ _ _ (by simp)];rw[aE _ _ _ _ (by simp)];rw[aE _ _ _ _ (by simp)];rw[aE _ _ _ _ (by simp)];exact P),
  (by rw[aG];rw[aG];rw[aG];rw[aG];rw[aG];rw[aG];rw[aG];rw[aG];exact e _),
  (by rw[aE _ _ _ _ (by simp)];rw[aE _ _ _ _ (by simp)];rw[aE _ _ _ _ (by simp)];rw[aE _ _ _ _ (by simp)];rw[aE _ _ _ _ (by simp)];rw[aE _ _ _ _ (by simp)];rw[aE _ _ _ _ (by simp)];rw[aE _ _ _ _ (by simp)];rw[aE _ _ _ _ (by simp)];exact Q),
  (by rw[aG];rw[aG];rw[aG];rw[aG];rw[aG];rw[aG];rw[aG];rw[aG];rw[aG];exact e _),
  (by rw[aE _ _ _ _ (by simp)];rw[aE _ _ _ _ (by simp)];rw[aE _ _ _ _ (by simp)];rw[aE _ _ _ _ (by simp)];rw[aE _ _ _ _ (by simp)];rw[aE _ _ _ _ (by simp)];rw[aE _ _ _ _ (by simp)];rw[aE _ _ _ _ (by simp)];rw[aE _ _ _ _ (by simp)];rw[aE _ _ _ _ (by simp)];exact F),
  (by rw[aG];rw[aG];rw[aG];rw[aG];rw[aG];rw[aG];rw[aG];rw[aG];rw[aG];rw[aG];exact e _),
  (by rw[aE _ _ _ _ (by simp)];rw[aE _ _ _ _ (by simp)];rw[aE _ _ _ _ (by simp)];rw[aE _ _ _ _ (by simp)];rw[aE _ _ _ _ (by simp)];rw[aE _ _ _ _ (by simp)];rw[aE _ _ _ _ (by simp)];rw[aE _ _ _ _ (by simp)];rw[aE _ _ _ _ (by simp)];rw[aE _ _ _ _ (by simp)];rw[aE _ _ _ _ (by simp)];exact H),
  (by rw[aG];rw[aG];rw[aG];rw[aG];rw[aG];rw[aG];rw[aG];rw[aG];rw[aG];rw[aG];rw[aG];exact e _),
  (by rw[aE _ _ _ _ (by simp)];rw[aE _ _ _ _ (by simp)];rw[aE _ _ _ _ (by simp)];rw[aE _ _ _ _ (by simp)];rw[aE _ _ _ _ (by simp)];rw[aE _ _ _ _ (by simp)];rw[aE _ _ _ _ (by simp)];rw[aE _ _ _ _ (by simp)];rw[aE _ _ _ _ (by simp)];rw[aE _ _ _ _ (by simp)];rw[aE _ _ _ _ (by simp)];rw[aE _ _ _ _ (by simp)];exact I),
  (by rw[aG];rw[aG];rw[aG];rw[aG];rw[aG];rw[aG];rw[aG];rw[aG];rw[aG];rw[aG];rw[aG];rw[aG];exact e _),rfl⟩
theorem qY (g:Nat)(w:World)(hc:CaseAt w g):Calls Tryz.prog 76 #[.pointer (some ⟨g,0,none⟩)] w fun e w'=>(∃z:Int,e=.returned z)/\CaseAt w' g/\But (· = g) w w':=by
 go_enter Tryz.func76,Tryz.ntmps76;go_wp2_with fail;refine(gE g 6 _ hc (by omega) (by omega)).mono ?_;rintro e l ⟨⟨x,c,d,rfl⟩,a,hb1⟩;have hx:x=0\/x=1\/x=2\/x=3\/x=4\/x=5:=by omega
 clear c d;rcases hx with rfl|rfl|rfl|rfl|rfl|rfl
 . go_wp2;go_ret;exact⟨⟨_,rfl⟩,a,hb1⟩
 . go_wp2;go_ret;exact⟨⟨_,rfl⟩,a,hb1⟩
 . go_wp2;go_ret;exact⟨⟨_,rfl⟩,a,hb1⟩
 . go_wp2_with fail;refine(gE g 3 _ a (by omega) (by omega)).mono ?_;rintro e k ⟨⟨y,i,j,rfl⟩,b,hb2⟩;go_wp2;go_ret;exact⟨⟨_,rfl⟩,b,hb1.trans hb2⟩
 all_goals
  go_wp2_with fail;refine(gE g 6 _ a (by omega) (by omega)).mono ?_;rintro e k ⟨⟨y,i,j,rfl⟩,b,hb2⟩;go_wp2;go_ret;exact⟨⟨_,rfl⟩,b,hb1.trans hb2⟩
def SpR (L:Nat→Prop) (w:World) (g:Nat) (e:Ending) (w':World):Prop:=∃(p:Pd) (A:Option Addr) (n c:Nat),e=.returned (.agg (iK p.h A n c))∧PrdL (fun b=>L b∨w.heap.size≤b) w' A n c p∧nT p∧CaseAt w' g∧But (· = g) w w'
def SpC (N:Nat):Prop:=∀(L:Nat→Prop) (p:Pd) (A:Option Addr) (n c:Nat) (g:Nat) (w:World),¬L g→p.nodes≤N→CaseAt w g→PrdL L w A n c p→nT p→Calls Tryz.prog 31 #[.pointer (some ⟨g,0,none⟩),.agg (iK p.h A n c)] w fun e w'=>SpR L w g e w'
section
variable {w wr wr':World} {g T:Nat} {L:Nat→Prop}
theorem TrS.offN {U:Nat}(h:TrS w g T wr)(hb:But (· = U) wr wr')(a:w.heap.size<=U)(b:T≠U):TrS w g T wr':=⟨h.bt.but hb b,lX h.cs hb (by have:=h.hg;omega),sL h.bu hb a,h.hT,h.hg⟩
theorem TrS.finS (h:TrS w g T wr){p:Pd}{A:Option Addr}{n c:Nat}(a:PrdL (fun b=>(L b\/w.heap.size<=b)/\b≠T) wr A n c p)(d:nT p)(vs:List Value)(e:(iK p.h A n c).toList=vs):SpR L w g (.returned (.agg (iK p.h A n c))) (mB wr T 0 vs) :=
 ⟨p,A,n,c,rfl,(a.but (fE T vs wr 0) (fun b h _=>h.2)).mono (fun _ h _=>h.1),d,lX h.cs (fE _ _ _ _) (by have:=h.hT;have:=h.hg;omega),sL h.bu (fE _ _ _ _) h.hT⟩
theorem wf_set {p:Pd}{a:Nd}{es:List PdE}(h:nS p)(c:es.map PdE.p=p.args){e:PdE}(j:nT e.p)(i:Nat):nS (uA a ((es.set i e).map PdE.p)):=aL3 fun q g=>by
 obtain⟨d,a,rfl⟩:=List.mem_map.1 g;rcases List.mem_or_eq_of_mem_set a with b|rfl
 . exact uG h _ (by rw[<- c];exact List.mem_map_of_mem b)
 . exact j
end
set_option maxRecDepth 100000 in
theorem bB4 (N:Nat)(r4:N+1<=1000)(ih:SpC N):SpC (N+1):=by
 intro L p A n c g w n0 n1 hc g2 o4;obtain⟨i1,hi,e4,e5,e6⟩:=info_parts bJ6;have k6:=Z ih;have d3:=Z n0;have d7:Hid (n<=1000):=Z (by have:=pH p;have:=g2.len;omega);have k2:=Z n1;have k1:=Z g2.len;have d5:=Z o4;obtain⟨hd,f2⟩:=zE (p.h);rw[f2.out];have P:=((aB w w).alloc (aD _) (.cells #[hd.op,hd.cm,hd.l.k,hd.l.ix,hd.l.v.k,hd.l.v.i,hd.l.v.t,hd.r.k,hd.r.ix,hd.r.v.k,hd.r.v.i,hd.r.v.t,.slice A n c] 64)).alloc (by simp) (.cells #[zO,zO,zO,zO,zO,zO,zS,zO,zO,zO,zO,zS,zN] 64);have a1:Hid (PrdL (fun b=>L b/\b<w.heap.size) ((w.alloc (.cells #[hd.op,hd.cm,hd.l.k,hd.l.ix,hd.l.v.k,hd.l.v.i,hd.l.v.t,hd.r.k,hd.r.ix,hd.r.v.k,hd.r.v.i,hd.r.v.t,.slice A n c] 64)).alloc (.cells #[zO,zO,zO,zO,zO,zO,zS,zO,zO,zO,zO,zS,zN] 64)) A n c p):=Z ((g2.mono fun b hl hlt=>⟨hl,hlt⟩).below P);have m:=Z ((aT.new w 64 #[hd.op,hd.cm,hd.l.k,hd.l.ix,hd.l.v.k,hd.l.v.i,hd.l.v.t,hd.r.k,hd.r.ix,hd.r.v.k,hd.r.v.i,hd.r.v.t,.slice A n c]).alloc (.cells #[zO,zO,zO,zO,zO,zO,zS,zO,zO,zO,zO,zS,zN] 64));have HQ:Hid (TrS w g (w.heap.size+1) ((w.alloc (.cells #[hd.op,hd.cm,hd.l.k,hd.l.ix,hd.l.v.k,hd.l.v.i,hd.l.v.t,hd.r.k,hd.r.ix,hd.r.v.k,hd.r.v.i,hd.r.v.t,.slice A n c] 64)).alloc (.cells #[zO,zO,zO,zO,zO,zO,zS,zO,zO,zO,zO,zS,zN] 64))):=Z ⟨aT.step (by simp),hc.below P,But.of_below P,by omega,hc.lt⟩;clear ih n0 n1 hc g2 o4 P;unfold iK;go_enter Tryz.func31,Tryz.ntmps31;go_upto_region 1 with fail;obtain⟨T,f8⟩:=zE (w.heap.size+1);obtain⟨X,f1⟩:=zE (w.heap.size);have a5:Hid (w.heap.size=X/\X+1=T):=Z ⟨f1.out,by have:=f1.out;have:=f8.out;omega⟩;rw[f8.out]at HQ;rw[f1.out]at m;rw[f8.out,f1.out];generalize hW:(w.alloc (.cells #[hd.op,hd.cm,hd.l.k,hd.l.ix,hd.l.v.k,hd.l.v.i,hd.l.v.t,hd.r.k,hd.r.ix,hd.r.v.k,hd.r.v.i,hd.r.v.t,.slice A n c] 64)).alloc (.cells #[zO,zO,zO,zO,zO,zO,zS,zO,zO,zO,zO,zS,zN] 64)=w1 at *;clear hW f8 f1;go_cut [16]from 9 (fun b wc=>∃g0:Bool,b=.bool g0/\Hid (g0=true->0<n)/\Hid (TrS w g T wc)/\Hid (aT wc X 64 #[hd.op,hd.cm,hd.l.k,hd.l.ix,hd.l.v.k,hd.l.v.i,hd.l.v.t,hd.r.k,hd.r.ix,hd.r.v.k,hd.r.v.i,hd.r.v.t,.slice A n c])/\Hid (PrdL (fun b=>L b/\b<w.heap.size) wc A n c p));case first =>
  have Q:=m.out.cell;by_cases o0:0<n
  . go_wp2_with fail;refine(mZ g 2 _ HQ.out.cs (by omega) (by omega)).mono ?_;rintro e w2 ⟨⟨b,rfl⟩,n4,hb2⟩;have q4:g≠X:=(by have:=HQ.out.hg;have:=a5.out;omega);have l8:∀b,(L b/\b<w.heap.size)->b<w1.heap.size->¬b=g:=fun b hl _ e=>(by subst e;exact d3.out hl.1);replace HQ:=Z (HQ.out.step hb2 n4);replace m:=Z (m.out.but hb2 (fun e=>q4 e.symm));replace a1:=Z (a1.out.but hb2 l8);clear n4 hb2 Q l8;go_wp2;go_meet;case rel=>exact⟨b,rfl,Z (fun _=>o0),HQ,m,a1⟩
  . obtain rfl:0=n:=(by omega);go_wp2;go_meet;case rel=>exact⟨false,rfl,Z (fun h=>by cases h),HQ,m,a1⟩
 case rest =>
 clear HQ m a1;obtain⟨g0,rfl,k0,HQ,m,a1⟩:=hcut;obtain⟨w2,o8⟩:∃z,z=wc:=⟨_,rfl⟩;subst o8;cases g0;rotate_left
 . have o0:0<n:=k0.out rfl;clear k0;have Q:=m.out.cell;have P:Below w2 w2 (w2.alloc (.cells #[hd.op,hd.cm,hd.l.k,hd.l.ix,hd.l.v.k,hd.l.v.i,hd.l.v.t,hd.r.k,hd.r.ix,hd.r.v.k,hd.r.v.i,hd.r.v.t,.slice A n c] 64)):=(aB _ _).alloc (aD _) _;have d4:=Z (aT.new w2 64 #[hd.op,hd.cm,hd.l.k,hd.l.ix,hd.l.v.k,hd.l.v.i,hd.l.v.t,hd.r.k,hd.r.ix,hd.r.v.k,hd.r.v.i,hd.r.v.t,.slice A n c]);have b4:Hid (T<w2.heap.size):=Z HQ.out.bt.lt;replace HQ:=Z (HQ.out.below P);replace m:=Z (m.out.below P);replace a1:=Z (a1.out.below P);obtain⟨O,f7⟩:=zE (w2.heap.size);rw[f7.out]at d4 b4;clear P;go_upto_region 3 with fail;rw[f7.out];generalize hW:w2.alloc (.cells #[hd.op,hd.cm,hd.l.k,hd.l.ix,hd.l.v.k,hd.l.v.i,hd.l.v.t,hd.r.k,hd.r.ix,hd.r.v.k,hd.r.v.i,hd.r.v.t,.slice A n c] 64)=w3 at *;have o2:w3.heap.size=O+1:=(by rw[<- hW,<- f7.out];simp);clear hW f7 Q;obtain⟨es,hes,b5,d1⟩:=a1.out.es;have c5:=Z b5;have b3:=Z hes;have a0:=Z d1;have b6:Hid (A=none->n=0/\c=0):=Z a1.out.ok.2;clear hes b5 d1;have Q:=m.out.cell;have q6:n<=1000:=d7.out;go_upto_region 4 with(at_builtin;refine gG (cs:=PdE.cs) w3 (by rfl) _ (.tmp 19) _ (by rfl) w3 64 i1 _ 13 136 Tryz.underlying62 hi e4 e5 e6 (by rfl) (by omega) zN 0 [] (by rfl) ⟨by simp,.inl ⟨rfl,rfl⟩⟩ A n c es (by rfl) c5.out b6.out PdE.cs_len aA2 (by simp only[maxLen];omega) (by omega) (aD _) ?_;intro A2 c2 C d0 l1 b9 l0 l2;simp only[cA,List.nil_append]at d0;have b7:=Z d0;have c1:=Z b9;have j8:=(d4.out.below b9).cell;have r2:=(d4.out.below b9).free;clear d0 l1 b9 l0 l2 Q);rw[o2]at b7;obtain⟨G,c8,hv,g1,k9⟩:=b7.out.form (by omega);obtain⟨rfl,rfl⟩:A2=some ⟨G,0,none⟩/\c2=c8:=(by injection hv with h1 h2 h3;exact⟨h1,h3⟩);replace HQ:=Z (HQ.out.below c1.out);replace d4:=Z (d4.out.below c1.out);replace a0:Hid (∀e∈es,PrdL (fun b=>L b/\b<w.heap.size) C e.A e.n e.c e.p):=Z (fun e he=>(a0.out e he).below c1.out);have F:But (· = O) C (C.setCell ⟨O,12,none⟩ (.slice (some ⟨G,0,none⟩) n c2)):=But.set (S:=fun k=>k=O) C (p:=⟨O,12,none⟩) rfl _;have J:=Z (HQ.out.off F b4.out);have a8:Hid (aT (C.setCell ⟨O,12,none⟩ (.slice (some ⟨G,0,none⟩) n c2)) O 64 #[hd.op,hd.cm,hd.l.k,hd.l.ix,hd.l.v.k,hd.l.v.i,hd.l.v.t,hd.r.k,hd.r.ix,hd.r.v.k,hd.r.v.i,hd.r.v.t,.slice (some ⟨G,0,none⟩) n c2]):=Z (d4.out.set_ 12 _);have a4:=Z (fB b7.out F (fun k hk=>by have:=(cN b7.out hk).1;omega));have b8:Hid (∀e∈es,PrdL (fun b=>L b/\b<w.heap.size) (C.setCell ⟨O,12,none⟩ (.slice (some ⟨G,0,none⟩) n c2)) e.A e.n e.c e.p):=Z (fun e he=>(a0.out e he).but F (fun b hl _ e=>by have h1:=hl.2;have h2:=b4.out;have h3:=a5.out;omega));have d2:Hid (G<(C.setCell ⟨O,12,none⟩ (.slice (some ⟨G,0,none⟩) n c2)).heap.size):=Z (by have:=F.size;omega);have c3:Hid (O+1<=G):=Z g1;clear hv g1 k9 F HQ d4 b7 a0 c5 b6 a1 m c1 o2 j8 r2;generalize hW:C.setCell ⟨O,12,none⟩ (.slice (some ⟨G,0,none⟩) n c2)=w5 at *;clear hW;have j8:=a8.out.cell;go_wp2_with fail;refine(gE g (n:Int) _ J.out.cs (by omega) (by omega)).mono ?_;rintro e M ⟨⟨y,o6,r0,rfl⟩,n6,e2⟩;obtain⟨i,rfl⟩:=bO o6;have n9:i<n:=(by omega);have d6:Hid (g<O):=Z (by have:=b4.out;have:=a5.out;have:=J.out.hg;omega);replace a8:=Z (a8.out.but e2 (by have:=d6.out;omega));replace a4:=Z (fB a4.out e2 (fun k hk=>by have:=(cN a4.out hk).1;have:=d6.out;omega));replace b8:Hid (∀e∈es,PrdL (fun b=>L b/\b<w.heap.size) M e.A e.n e.c e.p):=Z (fun e he=>(b8.out e he).but e2 (fun b hl _ e=>by subst e;exact d3.out hl.1));replace d2:Hid (G<M.heap.size):=Z (by have:=e2.size;have:=d2.out;omega);replace J:=Z (J.out.step e2 n6);clear n6 e2 o6 r0 j8;have a9:Hid (es.length=n):=Z (by have h:=congrArg List.length b3.out;rw[List.length_map,lU]at h;rw[h];have h2:=k1.out;omega);obtain⟨k8,n8⟩:∃k8,es[i]?=some k8:=⟨_,List.getElem?_eq_getElem (by rw[a9.out];exact n9)⟩;have f6:=Z n8;obtain⟨q,j9,l3,k7⟩:=k8;go_upto_region 5 with fail;refine jQ [11] (fN g) bG3 (xH g) pS (.one [0,1,2,3,4,5,6,7,8] [] 9 (.one [10] [] 11 (.last [] []))) ?_;have e3:Below M M M.drew:=(aB _ _).drew;replace J:=Z (J.out.below e3);replace a8:=Z (a8.out.below e3);replace a4:=Z (fJ a4.out (fun k _ hl _=>e3.block k hl));replace b8:Hid (∀e∈es,PrdL (fun b=>L b/\b<w.heap.size) M.drew e.A e.n e.c e.p):=Z (fun e he=>(b8.out e he).below e3);replace d2:Hid (G<M.drew.heap.size):=Z (by have:=e3.size;have:=d2.out;omega);clear e3 n8;generalize q2:M.drew=D at *;clear q2;have r1:∀(z:LaterR (fN g) D) j,(cS (fN g) D z).cell? ⟨O,j,none⟩=(#[hd.op,hd.cm,hd.l.k,hd.l.ix,hd.l.v.k,hd.l.v.i,hd.l.v.t,hd.r.k,hd.r.ix,hd.r.v.k,hd.r.v.i,hd.r.v.t,.slice (some ⟨G,0,none⟩) n c2]:Array Value)[j]?:=fun z j=>z.cell (a8.out.cell j) (fun W h=>(a8.out.but h (by have:=d6.out;omega)).cell j);have E:Hid (∀(W:World),fN g D W\/W=D->∀j u,(PdE.cs ⟨q,j9,l3,k7⟩)[j]?=some u->W.cell? ⟨G,i*13+j,none⟩=some u):=Z (fun W hW j u hu=>by
    have h0:=a4.out.cells (g:=G) rfl (i*13+j) u (pK PdE.cs_len es i _ j u f6.out hu);rw[lF,cA]at h0;rcases hW with h|rfl
    . exact(World.cell?_of_block (a:=⟨G,i*13+j,none⟩) (h.block G d2.out (by have:=d6.out;have:=c3.out;omega))).trans h0
    . exact h0)
   have p0:∀z:LaterR (fN g) D,(cS (fN g) D z).cell? ⟨G,i*13,none⟩=some _:=fun z=>z.cell (E.out D (.inr rfl) 0 _ rfl) (fun W h=>E.out W (.inl h) 0 _ rfl);have p1:∀z:LaterR (fN g) D,(cS (fN g) D z).cell? ⟨G,i*13+1,none⟩=some _:=fun z=>z.cell (E.out D (.inr rfl) 1 _ rfl) (fun W h=>E.out W (.inl h) 1 _ rfl);have p5:∀z:LaterR (fN g) D,(cS (fN g) D z).cell? ⟨G,i*13+2,none⟩=some _:=fun z=>z.cell (E.out D (.inr rfl) 2 _ rfl) (fun W h=>E.out W (.inl h) 2 _ rfl);have p6:∀z:LaterR (fN g) D,(cS (fN g) D z).cell? ⟨G,i*13+3,none⟩=some _:=fun z=>z.cell (E.out D (.inr rfl) 3 _ rfl) (fun W h=>E.out W (.inl h) 3 _ rfl);have p7:∀z:LaterR (fN g) D,(cS (fN g) D z).cell? ⟨G,i*13+4,none⟩=some _:=fun z=>z.cell (E.out D (.inr rfl) 4 _ rfl) (fun W h=>E.out W (.inl h) 4 _ rfl);have p8:∀z:LaterR (fN g) D,(cS (fN g) D z).cell? ⟨G,i*13+5,none⟩=some _:=fun z=>z.cell (E.out D (.inr rfl) 5 _ rfl) (fun W h=>E.out W (.inl h) 5 _ rfl);have g6:∀z:LaterR (fN g) D,(cS (fN g) D z).cell? ⟨G,i*13+6,none⟩=some _:=fun z=>z.cell (E.out D (.inr rfl) 6 _ rfl) (fun W h=>E.out W (.inl h) 6 _ rfl);have p9:∀z:LaterR (fN g) D,(cS (fN g) D z).cell? ⟨G,i*13+7,none⟩=some _:=fun z=>z.cell (E.out D (.inr rfl) 7 _ rfl) (fun W h=>E.out W (.inl h) 7 _ rfl);have q0:∀z:LaterR (fN g) D,(cS (fN g) D z).cell? ⟨G,i*13+8,none⟩=some _:=fun z=>z.cell (E.out D (.inr rfl) 8 _ rfl) (fun W h=>E.out W (.inl h) 8 _ rfl);have q1:∀z:LaterR (fN g) D,(cS (fN g) D z).cell? ⟨G,i*13+9,none⟩=some _:=fun z=>z.cell (E.out D (.inr rfl) 9 _ rfl) (fun W h=>E.out W (.inl h) 9 _ rfl);have p2:∀z:LaterR (fN g) D,(cS (fN g) D z).cell? ⟨G,i*13+10,none⟩=some _:=fun z=>z.cell (E.out D (.inr rfl) 10 _ rfl) (fun W h=>E.out W (.inl h) 10 _ rfl);have p3:∀z:LaterR (fN g) D,(cS (fN g) D z).cell? ⟨G,i*13+11,none⟩=some _:=fun z=>z.cell (E.out D (.inr rfl) 11 _ rfl) (fun W h=>E.out W (.inl h) 11 _ rfl);have p4:∀z:LaterR (fN g) D,(cS (fN g) D z).cell? ⟨G,i*13+12,none⟩=some _:=fun z=>z.cell (E.out D (.inr rfl) 12 _ rfl) (fun W h=>E.out W (.inl h) 12 _ rfl);have r5:decide ((i:Int)<0)=false:=(by simp);have r6:decide (n<=i)=false:=(by simp;omega);unfold eU;simp only[cP];repeat(go_big_quiet_step (fail))
   refine aA ?_;repeat(go_big_quiet_step (fail))
   refine aA ?_;clear r1 p0 p1 p5 p6 p7 p8 g6 p9 q0 q1 p2 p3 p4;have m1:=Z (b8.out _ (aJ f6.out));have k5:Hid (q∈p.args):=Z (by
    have h1:=List.mem_map_of_mem (f:=PdE.p) (aJ f6.out);rw[b3.out]at h1;exact h1)
   go_wp2_with fail;refine(k6.out (fun b=>L b/\b<w.heap.size) q j9 l3 k7 g _ (fun h=>d3.out h.1) (by have:=oB k5.out;have:=k2.out;omega) J.out.cs m1.out (uG d5.out.2 q k5.out)).mono ?_;rintro e w7 ⟨r,a3,a7,a6,rfl,n2,o5,n7,d9⟩;go_wp2_with fail;refine⟨⟨fun _=>d9,trivial⟩,?_⟩;replace E:Hid (∀j u,(PdE.cs ⟨q,j9,l3,k7⟩)[j]?=some u->w7.cell? ⟨G,i*13+j,none⟩=some u):=Z (E.out w7 (.inl d9));have m2:Hid (PrdL (fun b=>(L b\/w.heap.size<=b)/\b≠T/\b≠G/\b≠O) w7 a3 a7 a6 r):=Z (n2.mono fun b hl _=>by
    have h1:=d2.out;have h2:=c3.out;have h3:=b4.out;have h4:=a5.out;rcases hl with hl|hl
    . exact⟨.inl hl.1,by omega,by omega,by omega⟩
    . exact⟨.inr (by omega),by omega,by omega,by omega⟩)
   replace b8:Hid (∀e∈es,PrdL (fun b=>(L b\/w.heap.size<=b)/\b≠T/\b≠G/\b≠O) w7 e.A e.n e.c e.p):=Z (fun e he=>((b8.out e he).but d9 (fun b hl _ e=>by subst e;exact d3.out hl.1)).mono fun b hl _=>by
    have h2:=c3.out;have h3:=b4.out;have h4:=a5.out;exact⟨.inl hl.1,by omega,by omega,by omega⟩)
   replace J:=Z (J.out.step d9 n7);replace a8:=Z (a8.out.but d9 (by have:=d6.out;omega));replace a4:=Z (fB a4.out d9 (fun k hk=>by have:=(cN a4.out hk).1;have:=d6.out;omega));have m5:=Z o5;clear n2 o5 n7 d9 m1 k5 d2;unfold iK;unfold eU;simp only[cP];repeat(go_big_quiet_step (fail))
   refine aA ?_;repeat(go_big_quiet_step (fail))
   refine aA ?_;obtain⟨g4,i5,g5,i6,h6,j0,h7,j1,h8,j2,h9,j3,i0,j4,i2,j5,i3,j6,i4,j7,g7,i7,g8,i8,g9,i9,b1⟩:=put13o (w:=w7) (G:=G) (o:=i*13) (E.out 0 _ rfl) (E.out 1 _ rfl) (E.out 2 _ rfl) (E.out 3 _ rfl) (E.out 4 _ rfl) (E.out 5 _ rfl) (E.out 6 _ rfl) (E.out 7 _ rfl) (E.out 8 _ rfl) (E.out 9 _ rfl) (E.out 10 _ rfl) (E.out 11 _ rfl) (E.out 12 _ rfl) (fun z=>a4.out.frozenAt z) r.h.op r.h.cm r.h.l.k r.h.l.ix r.h.l.v.k r.h.l.v.i r.h.l.v.t r.h.r.k r.h.r.ix r.h.r.v.k r.h.r.v.i r.h.r.v.t (.slice a3 a7 a6);have b0:=fE G [r.h.op,r.h.cm,r.h.l.k,r.h.l.ix,r.h.l.v.k,r.h.l.v.i,r.h.l.v.t,r.h.r.k,r.h.r.ix,r.h.r.v.k,r.h.r.v.i,r.h.r.v.t,.slice a3 a7 a6] w7 (i*13);have f4:=aU0 (vs:=[r.h.op,r.h.cm,r.h.l.k,r.h.l.ix,r.h.l.v.k,r.h.l.v.i,r.h.l.v.t,r.h.r.k,r.h.r.ix,r.h.r.v.k,r.h.r.v.i,r.h.r.v.t,.slice a3 a7 a6]) (o:=i*13) a4.out;rw[show[(r.h.op:Value),r.h.cm,r.h.l.k,r.h.l.ix,r.h.l.v.k,r.h.l.v.i,r.h.l.v.t,r.h.r.k,r.h.r.ix,r.h.r.v.k,r.h.r.v.i,r.h.r.v.t,.slice a3 a7 a6]=PdE.cs ⟨r,a3,a7,a6⟩from rfl,aI9 _ _ _ (by rw[a9.out];exact n9)]at f4;rw[show PdE.cs ⟨r,a3,a7,a6⟩=([r.h.op,r.h.cm,r.h.l.k,r.h.l.ix,r.h.l.v.k,r.h.l.v.i,r.h.l.v.t,r.h.r.k,r.h.r.ix,r.h.r.v.k,r.h.r.v.i,r.h.r.v.t,.slice a3 a7 a6]:List Value)from rfl]at f4;rw[b1]at b0 f4;have k3:=Z (J.out.offN b0 (by have h2:=c3.out;have h3:=b4.out;have h4:=a5.out;omega) (by have h2:=c3.out;have h3:=b4.out;omega));have l9:=Z (a8.out.but b0 (by have h2:=c3.out;omega));have l6:Hid (PrdL (fun b=>(L b\/w.heap.size<=b)/\b≠T) ((((((((((((((w7).setCell ⟨G,i*13,none⟩ r.h.op).setCell ⟨G,i*13+1,none⟩ r.h.cm).setCell ⟨G,i*13+2,none⟩ r.h.l.k).setCell ⟨G,i*13+3,none⟩ r.h.l.ix).setCell ⟨G,i*13+4,none⟩ r.h.l.v.k).setCell ⟨G,i*13+5,none⟩ r.h.l.v.i).setCell ⟨G,i*13+6,none⟩ r.h.l.v.t).setCell ⟨G,i*13+7,none⟩ r.h.r.k).setCell ⟨G,i*13+8,none⟩ r.h.r.ix).setCell ⟨G,i*13+9,none⟩ r.h.r.v.k).setCell ⟨G,i*13+10,none⟩ r.h.r.v.i).setCell ⟨G,i*13+11,none⟩ r.h.r.v.t).setCell ⟨G,i*13+12,none⟩ (.slice a3 a7 a6)) (some ⟨G,0,none⟩) n c2 (uA hd ((es.set i ⟨r,a3,a7,a6⟩).map PdE.p))):=Z (yA hd f4 (by rw[List.length_set];exact a9.out) (fun b hb=>by
    have hb:G=b:=(by simpa[Value.ownBlock]using hb);have h2:=c3.out;have h3:=b4.out;have h4:=a5.out;subst hb;exact⟨.inr (by omega),by omega⟩) (fun e he=>by
    rcases List.mem_or_eq_of_mem_set he with h1|rfl
    . exact((b8.out e h1).but b0 (fun b hl _=>hl.2.2.1)).mono fun b hl _=>⟨hl.1,hl.2.1⟩
    . exact(m2.out.but b0 (fun b hl _=>hl.2.2.1)).mono fun b hl _=>⟨hl.1,hl.2.1⟩))
   have m4:Hid (nT (uA hd ((es.set i ⟨r,a3,a7,a6⟩).map PdE.p))):=Z ⟨by rw[aO0,<- f2.out];exact d5.out.1,wf_set d5.out.2 b3.out m5.out i⟩;clear b0 f4 b1 J a8 a4 b8 m2 E;go_wp2_with fail;refine⟨⟨fun h=>(h (by decide)).elim,trivial⟩,?_⟩;generalize hWc:(((((((((((((w7).setCell ⟨G,i*13,none⟩ r.h.op).setCell ⟨G,i*13+1,none⟩ r.h.cm).setCell ⟨G,i*13+2,none⟩ r.h.l.k).setCell ⟨G,i*13+3,none⟩ r.h.l.ix).setCell ⟨G,i*13+4,none⟩ r.h.l.v.k).setCell ⟨G,i*13+5,none⟩ r.h.l.v.i).setCell ⟨G,i*13+6,none⟩ r.h.l.v.t).setCell ⟨G,i*13+7,none⟩ r.h.r.k).setCell ⟨G,i*13+8,none⟩ r.h.r.ix).setCell ⟨G,i*13+9,none⟩ r.h.r.v.k).setCell ⟨G,i*13+10,none⟩ r.h.r.v.i).setCell ⟨G,i*13+11,none⟩ r.h.r.v.t).setCell ⟨G,i*13+12,none⟩ (.slice a3 a7 a6)=w8 at *;clear hWc g4 i5 g5 i6 h6 j0 h7 j1 h8 j2 h9 j3 i0 j4 i2 j5 i3 j6 i4 j7 g7 i7 g8 i8 g9 i9;unfold eU;simp only[cP];repeat(go_big_quiet_step (fail))
   refine aA ?_;repeat(go_big_quiet_step (fail))
   refine aA ?_;have j8:=l9.out.cell;have e8:Hid (SpR L w g (.returned (.agg #[hd.op,hd.cm,hd.l.k,hd.l.ix,hd.l.v.k,hd.l.v.i,hd.l.v.t,hd.r.k,hd.r.ix,hd.r.v.k,hd.r.v.i,hd.r.v.t,.slice (some ⟨G,0,none⟩) n c2])) (mB w8 T 0 [hd.op,hd.cm,hd.l.k,hd.l.ix,hd.l.v.k,hd.l.v.i,hd.l.v.t,hd.r.k,hd.r.ix,hd.r.v.k,hd.r.v.i,hd.r.v.t,.slice (some ⟨G,0,none⟩) n c2])):=Z (by
    have h:=k3.out.finS l6.out m4.out [hd.op,hd.cm,hd.l.k,hd.l.ix,hd.l.v.k,hd.l.v.i,hd.l.v.t,hd.r.k,hd.r.ix,hd.r.v.k,hd.r.v.i,hd.r.v.t,.slice (some ⟨G,0,none⟩) n c2] (by rw[aO0];rfl);rw[aO0]at h;exact h)
   obtain⟨g4,i5,g5,i6,h6,j0,h7,j1,h8,j2,h9,j3,i0,j4,i2,j5,i3,j6,i4,j7,g7,i7,g8,i8,g9,i9,h5,e7,b1⟩:=qJ (w:=w8) (k3.out.bt) hd.op hd.cm hd.l.k hd.l.ix hd.l.v.k hd.l.v.i hd.l.v.t hd.r.k hd.r.ix hd.r.v.k hd.r.v.i hd.r.v.t (.slice (some ⟨G,0,none⟩) n c2);rw[b1]at e8;clear e7 b1 k3 l9 l6 m4 b3 k1 a9 f6 m5 d5 b4 a5 c3 d6 hi e4 e5 e6 f2 k2 d3 k6 d7;go_wp2;exact aF (v:=.agg #[hd.op,hd.cm,hd.l.k,hd.l.ix,hd.l.v.k,hd.l.v.i,hd.l.v.t,hd.r.k,hd.r.ix,hd.r.v.k,hd.r.v.i,hd.r.v.t,.slice (some ⟨G,0,none⟩) n c2]) (by simp[results,Tryz.results31,go_sem,h5]) rfl e8.out
 have s:Hid (PrdL (fun b=>(L b\/w.heap.size<=b)/\b≠T/\b≠X) w2 A n c p):=Z (a1.out.mono fun b hl _=>by have:=a5.out;exact⟨.inl hl.1,by omega,by omega⟩);have H:Hid (tM hd/\nS p):=Z ⟨by rw[<- f2.out];exact d5.out.1,d5.out.2⟩;have I:Hid (g≠X/\X≠T/\w.heap.size<=X/\g<T):=Z (by have:=HQ.out.hg;have:=a5.out;omega);have c4:Hid (∀b,((L b\/w.heap.size<=b)/\b≠T/\b≠X)->¬b=g):=Z (fun b hl e=>by
  subst e;rcases hl.1 with h|h
  . exact d3.out h
  . have:=a5.out;have:=I.out;have:=HQ.out.hg;omega)
 clear a1 k0 d5 f2 k2 k1 k6 d3;go_wp2_with fail;refine(gE g 9 _ HQ.out.cs (by omega) (by omega)).mono ?_;rintro e w3 ⟨⟨x,q8,q9,rfl⟩,n5,g3⟩;replace m:=Z (m.out.but g3 (fun e=>I.out.1 e.symm));replace s:=Z (s.out.but g3 (fun b hl _=>c4.out b hl));replace HQ:=Z (HQ.out.step g3 n5);clear n5 g3;go_upto_block 0 with fail;go_cut []from 9 (fun wc=>∃(hd:Nd) (q:Pd) (A:Option Addr) (n c:Nat),Hid (TrS w g T wc)/\Hid (aT wc X 64 #[hd.op,hd.cm,hd.l.k,hd.l.ix,hd.l.v.k,hd.l.v.i,hd.l.v.t,hd.r.k,hd.r.ix,hd.r.v.k,hd.r.v.i,hd.r.v.t,.slice A n c])/\Hid (PrdL (fun b=>(L b\/w.heap.size<=b)/\b≠T/\b≠X) wc A n c q)/\Hid (tM hd/\nS q));case rest =>
  clear m s HQ H;obtain⟨hd,q,A,n,c,HQ,m,s,H⟩:=hcut;obtain⟨C,o9⟩:∃z,z=wc:=⟨_,rfl⟩;subst o9;have e8:Hid (SpR L w g (.returned (.agg #[hd.op,hd.cm,hd.l.k,hd.l.ix,hd.l.v.k,hd.l.v.i,hd.l.v.t,hd.r.k,hd.r.ix,hd.r.v.k,hd.r.v.i,hd.r.v.t,.slice A n c])) (mB C T 0 [hd.op,hd.cm,hd.l.k,hd.l.ix,hd.l.v.k,hd.l.v.i,hd.l.v.t,hd.r.k,hd.r.ix,hd.r.v.k,hd.r.v.i,hd.r.v.t,.slice A n c])):=Z (by
   have h:=HQ.out.finS (p:=setH q hd) ((s.out.mono fun b hl _=>⟨hl.1,hl.2.1⟩).setH hd) ⟨by rw[wF];exact H.out.1,aL2 H.out.2⟩ [hd.op,hd.cm,hd.l.k,hd.l.ix,hd.l.v.k,hd.l.v.i,hd.l.v.t,hd.r.k,hd.r.ix,hd.r.v.k,hd.r.v.i,hd.r.v.t,.slice A n c] (by rw[wF];rfl);rw[wF]at h;exact h)
  have Q:=m.out.cell;obtain⟨g4,i5,g5,i6,h6,j0,h7,j1,h8,j2,h9,j3,i0,j4,i2,j5,i3,j6,i4,j7,g7,i7,g8,i8,g9,i9,h5,e7,b1⟩:=qJ (w:=C) (HQ.out.bt) hd.op hd.cm hd.l.k hd.l.ix hd.l.v.k hd.l.v.i hd.l.v.t hd.r.k hd.r.ix hd.r.v.k hd.r.v.i hd.r.v.t (.slice A n c);rw[b1]at e8;clear e7 b1 HQ m s H hi e4 e5 e6 a5 I c4 d7;go_wp2;exact aF (v:=.agg #[hd.op,hd.cm,hd.l.k,hd.l.ix,hd.l.v.k,hd.l.v.i,hd.l.v.t,hd.r.k,hd.r.ix,hd.r.v.k,hd.r.v.i,hd.r.v.t,.slice A n c]) (by simp[results,Tryz.results31,go_sem,h5]) rfl e8.out
 case first =>
 have hx:x=0\/x=1\/x=2\/x=3\/x=4\/x=5\/x=6\/x=7\/x=8:=by omega
 clear q8 q9;rcases hx with rfl|rfl|rfl|rfl|rfl|rfl|rfl|rfl|rfl
 . go_wp2_with fail;refine(qY g _ HQ.out.cs).mono ?_;rintro e C ⟨⟨z,rfl⟩,V,K⟩;replace m:=Z (m.out.but K (fun e=>I.out.1 e.symm));replace s:=Z (s.out.but K (fun b hl _=>c4.out b hl));replace HQ:=Z (HQ.out.step K V);clear V K;have Q:=m.out.cell;have f5:=m.out.free;have F:But (· = X) C (C.setCell ⟨X,0,none⟩ z):=But.set (S:=fun k=>k=X) C (p:=⟨X,0,none⟩) rfl _;have J:=Z (HQ.out.offN F I.out.2.2.1 (fun e=>I.out.2.1 e.symm));have U:Hid (aT (C.setCell ⟨X,0,none⟩ z) X 64 #[z,hd.cm,hd.l.k,hd.l.ix,hd.l.v.k,hd.l.v.i,hd.l.v.t,hd.r.k,hd.r.ix,hd.r.v.k,hd.r.v.i,hd.r.v.t,.slice A n c]):=Z (m.out.set_ 0 _);have R:=Z (s.out.but F (fun b hl _=>hl.2.2));clear F HQ m s;go_wp2;go_meet;case rel=>exact⟨⟨z,hd.cm,hd.l,hd.r⟩,p,A,n,c,J,U,R,Z ⟨H.out.1,H.out.2⟩⟩
 . go_wp2_with fail;refine(qY g _ HQ.out.cs).mono ?_;rintro e C ⟨⟨z,rfl⟩,V,K⟩;replace m:=Z (m.out.but K (fun e=>I.out.1 e.symm));replace s:=Z (s.out.but K (fun b hl _=>c4.out b hl));replace HQ:=Z (HQ.out.step K V);clear V K;have Q:=m.out.cell;have f5:=m.out.free;have F:But (· = X) C (C.setCell ⟨X,1,none⟩ z):=But.set (S:=fun k=>k=X) C (p:=⟨X,1,none⟩) rfl _;have J:=Z (HQ.out.offN F I.out.2.2.1 (fun e=>I.out.2.1 e.symm));have U:Hid (aT (C.setCell ⟨X,1,none⟩ z) X 64 #[hd.op,z,hd.l.k,hd.l.ix,hd.l.v.k,hd.l.v.i,hd.l.v.t,hd.r.k,hd.r.ix,hd.r.v.k,hd.r.v.i,hd.r.v.t,.slice A n c]):=Z (m.out.set_ 1 _);have R:=Z (s.out.but F (fun b hl _=>hl.2.2));clear F HQ m s;go_wp2;go_meet;case rel=>exact⟨⟨hd.op,z,hd.l,hd.r⟩,p,A,n,c,J,U,R,Z ⟨H.out.1,H.out.2⟩⟩
 . go_wp2_with fail;refine(qY g _ HQ.out.cs).mono ?_;rintro e C ⟨⟨z,rfl⟩,V,K⟩;replace m:=Z (m.out.but K (fun e=>I.out.1 e.symm));replace s:=Z (s.out.but K (fun b hl _=>c4.out b hl));replace HQ:=Z (HQ.out.step K V);clear V K;have Q:=m.out.cell;have f5:=m.out.free;have F:But (· = X) C (C.setCell ⟨X,2,none⟩ z):=But.set (S:=fun k=>k=X) C (p:=⟨X,2,none⟩) rfl _;have J:=Z (HQ.out.offN F I.out.2.2.1 (fun e=>I.out.2.1 e.symm));have U:Hid (aT (C.setCell ⟨X,2,none⟩ z) X 64 #[hd.op,hd.cm,z,hd.l.ix,hd.l.v.k,hd.l.v.i,hd.l.v.t,hd.r.k,hd.r.ix,hd.r.v.k,hd.r.v.i,hd.r.v.t,.slice A n c]):=Z (m.out.set_ 2 _);have R:=Z (s.out.but F (fun b hl _=>hl.2.2));clear F HQ m s;go_wp2;go_meet;case rel=>exact⟨⟨hd.op,hd.cm,⟨z,hd.l.ix,hd.l.v⟩,hd.r⟩,p,A,n,c,J,U,R,Z ⟨H.out.1,H.out.2⟩⟩
 . go_wp2_with fail;refine(qY g _ HQ.out.cs).mono ?_;rintro e C ⟨⟨z,rfl⟩,V,K⟩;replace m:=Z (m.out.but K (fun e=>I.out.1 e.symm));replace s:=Z (s.out.but K (fun b hl _=>c4.out b hl));replace HQ:=Z (HQ.out.step K V);clear V K;have Q:=m.out.cell;have f5:=m.out.free;have F:But (· = X) C (C.setCell ⟨X,3,none⟩ z):=But.set (S:=fun k=>k=X) C (p:=⟨X,3,none⟩) rfl _;have J:=Z (HQ.out.offN F I.out.2.2.1 (fun e=>I.out.2.1 e.symm));have U:Hid (aT (C.setCell ⟨X,3,none⟩ z) X 64 #[hd.op,hd.cm,hd.l.k,z,hd.l.v.k,hd.l.v.i,hd.l.v.t,hd.r.k,hd.r.ix,hd.r.v.k,hd.r.v.i,hd.r.v.t,.slice A n c]):=Z (m.out.set_ 3 _);have R:=Z (s.out.but F (fun b hl _=>hl.2.2));clear F HQ m s;go_wp2;go_meet;case rel=>exact⟨⟨hd.op,hd.cm,⟨hd.l.k,z,hd.l.v⟩,hd.r⟩,p,A,n,c,J,U,R,Z ⟨H.out.1,H.out.2⟩⟩
 . go_wp2_with fail;refine(cA6 g _ HQ.out.cs).mono ?_;rintro e C ⟨⟨v,q7,o3,rfl⟩,V,K⟩;replace m:=Z (m.out.but K (fun e=>I.out.1 e.symm));replace s:=Z (s.out.but K (fun b hl _=>c4.out b hl));replace HQ:=Z (HQ.out.step K V);have o7:=Z o3;clear V K q7 o3;have F:But (· = X) C (((C.setCell ⟨X,9,none⟩ v.k).setCell ⟨X,10,none⟩ v.i).setCell ⟨X,11,none⟩ v.t):=fE X [v.k,v.i,v.t] C 9;have Q:=m.out.cell;have f5:=m.out.free;have r9:=(m.out.set_ 9 v.k).cell;have s1:=(m.out.set_ 9 v.k).free;have s0:=((m.out.set_ 9 v.k).set_ 10 v.i).cell;have s2:=((m.out.set_ 9 v.k).set_ 10 v.i).free;have J:=Z (HQ.out.offN F I.out.2.2.1 (fun e=>I.out.2.1 e.symm));have U:Hid (aT (((C.setCell ⟨X,9,none⟩ v.k).setCell ⟨X,10,none⟩ v.i).setCell ⟨X,11,none⟩ v.t) X 64 #[hd.op,hd.cm,hd.l.k,hd.l.ix,hd.l.v.k,hd.l.v.i,hd.l.v.t,hd.r.k,hd.r.ix,v.k,v.i,v.t,.slice A n c]):=Z (((m.out.set_ 9 _).set_ 10 _).set_ 11 _);have R:=Z (s.out.but F (fun b hl _=>hl.2.2));clear F HQ m s;go_wp2;go_meet;case rel=>exact⟨⟨hd.op,hd.cm,hd.l,⟨hd.r.k,hd.r.ix,v⟩⟩,p,A,n,c,J,U,R,Z ⟨⟨H.out.1.1,o7.out⟩,H.out.2⟩⟩
 . go_wp2_with fail;refine(qY g _ HQ.out.cs).mono ?_;rintro e C ⟨⟨z,rfl⟩,V,K⟩;replace m:=Z (m.out.but K (fun e=>I.out.1 e.symm));replace s:=Z (s.out.but K (fun b hl _=>c4.out b hl));replace HQ:=Z (HQ.out.step K V);clear V K;have Q:=m.out.cell;have f5:=m.out.free;have F:But (· = X) C (C.setCell ⟨X,8,none⟩ z):=But.set (S:=fun k=>k=X) C (p:=⟨X,8,none⟩) rfl _;have J:=Z (HQ.out.offN F I.out.2.2.1 (fun e=>I.out.2.1 e.symm));have U:Hid (aT (C.setCell ⟨X,8,none⟩ z) X 64 #[hd.op,hd.cm,hd.l.k,hd.l.ix,hd.l.v.k,hd.l.v.i,hd.l.v.t,hd.r.k,z,hd.r.v.k,hd.r.v.i,hd.r.v.t,.slice A n c]):=Z (m.out.set_ 8 _);have R:=Z (s.out.but F (fun b hl _=>hl.2.2));clear F HQ m s;go_wp2;go_meet;case rel=>exact⟨⟨hd.op,hd.cm,hd.l,⟨hd.r.k,z,hd.r.v⟩⟩,p,A,n,c,J,U,R,Z ⟨H.out.1,H.out.2⟩⟩
 . skip
   obtain⟨es,hes,b5,d1⟩:=s.out.es;have c5:=Z b5;have b3:=Z hes;have a9:Hid (es.length=n):=Z b5.1;have b6:Hid (A=none->n=0/\c=0):=Z s.out.ok.2;obtain⟨B,b2⟩:=zE (w3.heap.size);have a0:Hid (∀e∈es,PrdL (fun b=>((L b\/w.heap.size<=b)/\b≠T/\b≠X)/\b<B) w3 e.A e.n e.c e.p):=Z (fun e he=>(d1 e he).mono fun b hl hlt=>⟨hl,by rw[<- b2.out];exact hlt⟩);have c7:Hid (X<B/\T<B/\w.heap.size<=B):=Z (by rw[<- b2.out];exact⟨m.out.lt,HQ.out.bt.lt,by have:=m.out.lt;have:=I.out;omega⟩);clear hes b5 d1;have q6:n<=1000:=d7.out;have Q:=m.out.cell;have m6:=m;have f9:=m;go_wp2_with (first|(at_builtin;refine gG (cs:=PdE.cs) w3 (by rfl) _ (.tmp 95) _ (by rfl) w3 64 i1 _ 13 136 Tryz.underlying62 hi e4 e5 e6 (by rfl) (by omega) zN 0 [] (by rfl) ⟨by simp,.inl ⟨rfl,rfl⟩⟩ A n c es (by rfl) c5.out b6.out PdE.cs_len aA2 (by simp only[maxLen];omega) (by omega) (aD _) ?_;intro A2 c2 C d0 l1 b9 l0 l2;simp only[cA,List.nil_append]at d0;rw[b2.out]at d0;have c1:=Z b9;have hsz:B<=C.heap.size:=(by rw[<- b2.out];exact b9.size);replace f9:=Z (m6.out.below b9);have b7:=Z d0;have r3:=f9.out.cell;clear d0 l1 b9 l0 l2 c5 b6 Q)|(at_builtin;refine cB (by rfl) (.tmp 96) (.tmp 98) _ (by rfl) B 64 i1 _ 13 136 Tryz.underlying62 hi e4 e5 e6 (by rfl) (by omega) (.slice A2 n c2) n _ (by rfl) C #[(1:Int),zO,zO,zO,zO,zO,zS,zO,zO,zO,zO,zS,zN] b7.out C (by rfl) (by rfl) (by rfl) (aA2 ⟨.nil (dX 1),none,0,0⟩) (by simp only[maxLen];omega) (by omega) hsz ?_;intro g6 e1 M a2 f3 c9 q3 q5;have e9:=Z a2;have l7:=Z f3;have e0:=Z c9;have c6:Hid (aT M X 64 #[hd.op,hd.cm,hd.l.k,hd.l.ix,hd.l.v.k,hd.l.v.i,hd.l.v.t,hd.r.k,hd.r.ix,hd.r.v.k,hd.r.v.i,hd.r.v.t,.slice A n c]):=Z ((c9.block X c7.out.1).trans f9.out);have l4:=c6.out.cell;have l5:=c6.out.free;clear a2 f3 c9 q3 q5 r3));have m9:But (fun k=>(Value.slice A2 n c2).ownBlock=some k) (C.alloc (.cells #[(1:Int),zO,zO,zO,zO,zO,zS,zO,zO,zO,zO,zS,zN] 64)) M:=cC5 l7.out (fun k hk=>hk);clear m m6 f9;have m:=c6;replace HQ:=Z ((HQ.out.below c1.out).belowB e0.out c7.out.2.1);replace a0:Hid (∀e∈es,PrdL (fun b=>((L b\/w.heap.size<=b)/\b≠T/\b≠X)/\b<B) M e.A e.n e.c e.p):=Z (fun e he=>(((a0.out e he).below c1.out).below ((aB _ _).alloc (aD _) _)).but m9 (fun b hl _ h=>by have h1:=(cN b7.out h).1;have h2:=hl.2;omega));have a2:=e9.out;clear m9 l7 e0 b7 e9 hsz b2 c1 l4 l5 c6;have d8:M.ownsRow B 64 13 (.slice (some ⟨g6,0,none⟩) (n+1) e1) (n+1) ((es++([⟨.nil (dX 1),none,0,0⟩]:List PdE)).flatMap PdE.cs):=(by rw[aP];exact a2);have F:But (· = X) M (M.setCell ⟨X,12,none⟩ (.slice (some ⟨g6,0,none⟩) (n+1) e1)):=But.set (S:=fun k=>k=X) M (p:=⟨X,12,none⟩) rfl _;have c0:PrdL (fun b=>(L b\/w.heap.size<=b)/\b≠T/\b≠X) M (some ⟨g6,0,none⟩) (n+1) e1 (uA hd ((es++([⟨.nil (dX 1),none,0,0⟩]:List PdE)).map PdE.p)):=yA hd d8 (by rw[cF,a9.out];rfl) (fun b hb=>by
    have h1:=(cN d8 hb).1;have h2:=c7.out;have h3:=c7.out;exact⟨.inr (by omega),by omega,by omega⟩) (fun e he=>by
    rcases List.mem_append.1 he with h1|h1
    . exact(a0.out e h1).mono fun b hl _=>hl.1
    . rw[List.mem_singleton.1 h1];exact PrdL.nil _ _ _)
   have J:=Z (HQ.out.offN F I.out.2.2.1 (fun e=>I.out.2.1 e.symm));have U:Hid (aT (M.setCell ⟨X,12,none⟩ (.slice (some ⟨g6,0,none⟩) (n+1) e1)) X 64 #[hd.op,hd.cm,hd.l.k,hd.l.ix,hd.l.v.k,hd.l.v.i,hd.l.v.t,hd.r.k,hd.r.ix,hd.r.v.k,hd.r.v.i,hd.r.v.t,.slice (some ⟨g6,0,none⟩) (n+1) e1]):=Z (m.out.set_ 12 _);have R:=Z (c0.but F (fun b hl _=>hl.2.2));have f0:Hid (tM hd/\nS (uA hd ((es++([⟨.nil (dX 1),none,0,0⟩]:List PdE)).map PdE.p))):=Z ⟨H.out.1,aL3 fun q hq=>by
    obtain⟨d,hd,rfl⟩:=List.mem_map.1 hq;rcases List.mem_append.1 hd with h1|h1
    . exact uG H.out.2 _ (by rw[<- b3.out];exact List.mem_map_of_mem h1)
    . rw[List.mem_singleton.1 h1];exact⟨rO 1,trivial⟩⟩
   clear d8 F c0 m HQ a0 s b3 a9 c7 H a2;go_meet;case rel=>exact⟨hd,_,some ⟨g6,0,none⟩,n+1,e1,J,U,R,f0⟩
 . go_wp2_with fail;go_loopw [7] (fun i wr=>∃(k:Nat) (hd:Nd) (q:Pd) (A:Option Addr) (n c:Nat),k<=8/\i=.int .i64 (k:Int)/\Hid (TrS w g T wr)/\Hid (aT wr X 64 #[hd.op,hd.cm,hd.l.k,hd.l.ix,hd.l.v.k,hd.l.v.i,hd.l.v.t,hd.r.k,hd.r.ix,hd.r.v.k,hd.r.v.i,hd.r.v.t,.slice A n c])/\Hid (PrdL (fun b=>(L b\/w.heap.size<=b)/\b≠T/\b≠X) wr A n c q)/\Hid (tM hd/\nS q)) (fun i _=>8-(intOf i).toNat);case atStart=>exact⟨0,hd,p,A,n,c,by omega,rfl,HQ,m,s,H⟩
   case round =>
    clear HQ m s H d7;obtain⟨k,hd,q,A,n,c,hk,rfl,HQ,m,s,H⟩:=hrel;by_cases hlt:k<8
    . have Q:=m.out.cell;have P:Below wr wr (wr.alloc (.cells #[hd.op,hd.cm,hd.l.k,hd.l.ix,hd.l.v.k,hd.l.v.i,hd.l.v.t,hd.r.k,hd.r.ix,hd.r.v.k,hd.r.v.i,hd.r.v.t,.slice A n c] 64)):=(aB _ _).alloc (aD _) _;have m7:Hid (X<wr.heap.size/\T<wr.heap.size):=Z ⟨m.out.lt,HQ.out.bt.lt⟩;have c0:PrdL (fun b=>(L b\/w.heap.size<=b)/\b≠T/\b≠X) (wr.alloc (.cells #[hd.op,hd.cm,hd.l.k,hd.l.ix,hd.l.v.k,hd.l.v.i,hd.l.v.t,hd.r.k,hd.r.ix,hd.r.v.k,hd.r.v.i,hd.r.v.t,.slice A n c] 64)) (some ⟨wr,0,none⟩) 1 1 (uA (dX 6) ([⟨setH q hd,A,n,c⟩].map PdE.p)):=aM5 (es:=[⟨setH q hd,A,n,c⟩]) (dX 6) (aT.new _ _ _) (by simp[PdE.cs,iK,wF]) rfl (by have h1:=m7.out;have h2:=I.out;exact⟨.inr (by omega),by omega,by omega⟩) (fun e he=>by
       rw[List.mem_singleton.1 he];exact(s.out.below P).setH hd)
      replace HQ:=Z (HQ.out.below P);replace m:=Z (m.out.below P);obtain⟨Y,k4⟩:=zE (wr.heap.size);rw[k4.out]at c0;have m0:=Z c0;have f0:Hid (tM (dX 6)/\nS (.cons (setH q hd) (.nil (dX 6)))):=Z ⟨rO 6,by rw[wF];exact H.out.1,aL2 H.out.2,trivial⟩;clear P c0 s H m7;go_upto_region 30 with fail;refine wp_region_lit ?_;refine bM0 2 [107,108] (fun us w8=>us 108=.slice (some ⟨Y,0,none⟩) 1 1/\w8=(wr.alloc (.cells #[hd.op,hd.cm,hd.l.k,hd.l.ix,hd.l.v.k,hd.l.v.i,hd.l.v.t,hd.r.k,hd.r.ix,hd.r.v.k,hd.r.v.i,hd.r.v.t,.slice A n c] 64))) ?_ ?_
      . simp only[List.take_succ_cons,List.take_zero];go_wp2_with fail;rw[k4.out];exact bL9.intro ⟨rfl,rfl⟩ (by kernel_rfl)
      . rintro us w8 ⟨m8,rfl⟩;simp only[List.drop_succ_cons,List.drop_zero,dM,List.foldl];rw[m8];clear m8 Q k4;generalize hW:(wr.alloc (.cells #[hd.op,hd.cm,hd.l.k,hd.l.ix,hd.l.v.k,hd.l.v.i,hd.l.v.t,hd.r.k,hd.r.ix,hd.r.v.k,hd.r.v.i,hd.r.v.t,.slice A n c] 64))=w5 at *;clear hW;obtain⟨g4,i5,g5,i6,h6,j0,h7,j1,h8,j2,h9,j3,i0,j4,i2,j5,i3,j6,i4,j7,g7,i7,g8,i8,g9,i9,h5,e7,b1⟩:=qJ (w:=w5) (m.out) (6:Int) zO zO zO zO zO zS zO zO zO zO zS (.slice (some ⟨Y,0,none⟩) 1 1);have b0:=fE X [(6:Int),zO,zO,zO,zO,zO,zS,zO,zO,zO,zO,zS,.slice (some ⟨Y,0,none⟩) 1 1] w5 0;rw[b1]at b0;have J:=Z (HQ.out.offN b0 I.out.2.2.1 (fun e=>I.out.2.1 e.symm));have R:=Z (m0.out.but b0 (fun b hl _=>hl.2.2));have U:=Z e7;clear m0 b0 b1 e7 HQ m;go_simp;go_wp2;go_roundw;case rel=>exact⟨k+1,dX 6,_,some ⟨Y,0,none⟩,1,1,by omega,by go_num,J,U,R,f0⟩
        case measure=>simp[intOf];omega
    . obtain rfl:k=8:=(by omega);go_wp2;go_meet;case rel=>exact⟨hd,q,A,n,c,HQ,m,s,H⟩
 . go_wp2_with fail;have o1:n<=1000+0:=d7.out;go_loopw [8] (fun i wr=>∃(k:Nat) (hd:Nd) (q:Pd) (A:Option Addr) (n c:Nat),(k<=24/\n<=1000+k)/\i=.int .i64 (k:Int)/\Hid (TrS w g T wr)/\Hid (aT wr X 64 #[hd.op,hd.cm,hd.l.k,hd.l.ix,hd.l.v.k,hd.l.v.i,hd.l.v.t,hd.r.k,hd.r.ix,hd.r.v.k,hd.r.v.i,hd.r.v.t,.slice A n c])/\Hid (PrdL (fun b=>(L b\/w.heap.size<=b)/\b≠T/\b≠X) wr A n c q)/\Hid (tM hd/\nS q)) (fun i _=>24-(intOf i).toNat);case atStart=>exact⟨0,hd,p,A,n,c,⟨by omega,o1⟩,rfl,HQ,m,s,H⟩
   case round =>
    clear HQ m s H d7 o1;obtain⟨k,hd,q,A,n,c,⟨hk,r7⟩,rfl,HQ,m,s,H⟩:=hrel;by_cases hlt:k<24
    . have Q:=m.out.cell;have r8:n<=c:=s.out.ok.1;obtain⟨es,hes,b5,d1⟩:=s.out.es;have c5:=Z b5;have b3:=Z hes;have a9:Hid (es.length=n):=Z b5.1;have b6:Hid (A=none->n=0/\c=0):=Z s.out.ok.2;obtain⟨B,b2⟩:=zE (wr.heap.size);have a0:Hid (∀e∈es,PrdL (fun b=>((L b\/w.heap.size<=b)/\b≠T/\b≠X)/\b<B) wr e.A e.n e.c e.p):=Z (fun e he=>(d1 e he).mono fun b hl hlt=>⟨hl,by rw[<- b2.out];exact hlt⟩);have c7:Hid (X<B/\T<B/\w.heap.size<=B):=Z (by rw[<- b2.out];exact⟨m.out.lt,HQ.out.bt.lt,by have:=m.out.lt;have:=I.out;omega⟩);clear hes b5 d1;have n3:B=wr.heap.size:=b2.out.symm;have P:Below wr wr (wr.alloc (.cells #[(2:Int),zO,zO,zO,zO,zO,zS,zO,zO,zO,zO,zS,zN] 64)):=(aB _ _).alloc (aD _) _;have m3:=Z (c5.out.keep (aC P));go_wp2_with (at_builtin;refine wpList_append_grows (wr.alloc (.cells #[(2:Int),zO,zO,zO,zO,zO,zS,zO,zO,zO,zO,zS,zN] 64)) (by rfl) (.tmp 53) (.tmp 55) _ (by rfl) 64 i1 _ 13 136 Tryz.underlying62 hi e4 e5 e6 (by rfl) (by omega) A n n (es.flatMap PdE.cs) (by rfl) (fun h=>⟨(b6.out h).1,(b6.out h).1⟩) (by rw[hV PdE.cs_len,a9.out]) (bT3 PdE.cs_len (by omega) m3.out) ⟨wr,0,none⟩ 1 1 (#[(2:Int),zO,zO,zO,zO,zO,zS,zO,zO,zO,zO,zS,zN]:Array Value).toList (by rfl) (by rfl) (World.news_of_block (heap_alloc_new wr _)) (aA2 ⟨.nil (dX 2),none,0,0⟩) (by omega) (by simp only[maxLen];omega) (by omega) ?_;intro v6 M a2 f3;obtain⟨G,c8,rfl,g1,k9⟩:=a2.form (by omega);have e9:=Z a2;have e0:Hid (Below (wr.alloc (.cells #[(2:Int),zO,zO,zO,zO,zO,zS,zO,zO,zO,zO,zS,zN] 64)).heap.size (wr.alloc (.cells #[(2:Int),zO,zO,zO,zO,zO,zS,zO,zO,zO,zO,zS,zN] 64)) M):=Z (mW f3);have c6:=Z ((m.out.below P).below e0.out);have l4:=c6.out.cell;have l5:=c6.out.free;clear a2 f3 Q);have c9:=e0.out;have a2:=e9.out;replace m:=Z ((m.out.below P).below c9);replace HQ:=Z ((HQ.out.below P).below c9);replace a0:Hid (∀e∈es,PrdL (fun b=>((L b\/w.heap.size<=b)/\b≠T/\b≠X)/\b<B) M e.A e.n e.c e.p):=Z (fun e he=>((a0.out e he).below P).below c9);rw[World.size_alloc,<- n3]at a2;clear P c9 e0 e9 c6 l4 l5 g1 k9 c5 m3 b6 b2;have d8:M.ownsRow (B+1) 64 13 (.slice (some ⟨G,0,none⟩) (n+1) c8) (n+1) ((es++([⟨.nil (dX 2),none,0,0⟩]:List PdE)).flatMap PdE.cs):=(by rw[aP];exact a2);have F:But (· = X) M (M.setCell ⟨X,12,none⟩ (.slice (some ⟨G,0,none⟩) (n+1) c8)):=But.set (S:=fun k=>k=X) M (p:=⟨X,12,none⟩) rfl _;have c0:PrdL (fun b=>(L b\/w.heap.size<=b)/\b≠T/\b≠X) M (some ⟨G,0,none⟩) (n+1) c8 (uA hd ((es++([⟨.nil (dX 2),none,0,0⟩]:List PdE)).map PdE.p)):=yA hd d8 (by rw[cF,a9.out];rfl) (fun b hb=>by
       have h1:=(cN d8 hb).1;have h2:=c7.out;exact⟨.inr (by omega),by omega,by omega⟩) (fun e he=>by
       rcases List.mem_append.1 he with h1|h1
       . exact(a0.out e h1).mono fun b hl _=>hl.1
       . rw[List.mem_singleton.1 h1];exact PrdL.nil _ _ _)
      have J:=Z (HQ.out.offN F I.out.2.2.1 (fun e=>I.out.2.1 e.symm));have U:Hid (aT (M.setCell ⟨X,12,none⟩ (.slice (some ⟨G,0,none⟩) (n+1) c8)) X 64 #[hd.op,hd.cm,hd.l.k,hd.l.ix,hd.l.v.k,hd.l.v.i,hd.l.v.t,hd.r.k,hd.r.ix,hd.r.v.k,hd.r.v.i,hd.r.v.t,.slice (some ⟨G,0,none⟩) (n+1) c8]):=Z (m.out.set_ 12 _);have R:=Z (c0.but F (fun b hl _=>hl.2.2));have f0:Hid (tM hd/\nS (uA hd ((es++([⟨.nil (dX 2),none,0,0⟩]:List PdE)).map PdE.p))):=Z ⟨H.out.1,aL3 fun q hq=>by
       obtain⟨d,hd,rfl⟩:=List.mem_map.1 hq;rcases List.mem_append.1 hd with h1|h1
       . exact uG H.out.2 _ (by rw[<- b3.out];exact List.mem_map_of_mem h1)
       . rw[List.mem_singleton.1 h1];exact⟨rO 2,trivial⟩⟩
      clear d8 F c0 m HQ a0 s b3 a9 c7 H a2 n3;go_roundw;case rel=>exact⟨k+1,hd,_,some ⟨G,0,none⟩,n+1,c8,⟨by omega,by omega⟩,by go_num,J,U,R,f0⟩
      case measure=>simp[intOf];omega
    . obtain rfl:k=24:=(by omega);go_wp2;go_meet;case rel=>exact⟨hd,q,A,n,c,HQ,m,s,H⟩
theorem aG0:∀N:Nat,N<=1000->SpC N
 |0,_=>fun L p A n c g w _ a=>absurd a (by have:=eA p;omega)
 |N+1,h=>bB4 N h (aG0 N (by omega))
end
section
open Go.RowKit
open Rg
def ivC (x:Iv):Array Value:=#[.int .i64 x.f.k,.int .i64 x.f.i,.string x.f.t,.int .i64 x.t.k,.int .i64 x.t.i,.string x.t.t,.bool x.o]
def bS2 (w:World) (p:iM):Prop:=∃g x,p=((some ⟨g,0,none⟩,1,1),[x])∧aT w g 187 (ivC x)
theorem bS2.but {w b:World}{S:Nat->Prop}{p:iM}(h:bS2 w p)(hb:But S w b)(c:∀q,S q->∀cs,¬aT w q 187 cs):bS2 b p:=by
 obtain⟨g,x,e,a⟩:=h;exact⟨g,x,e,a.but hb (fun d=>c g d _ a)⟩
theorem bS2.below {w a:World}{p:iM}(h:bS2 w p)(hb:Below w w a):bS2 a p:=h.but (S:=fun _=>False) (But.of_below hb) (fun _ h=>h.elim)
def RgO6 (w:World) (r:Rg) (e:Ending) (w':World):Prop:=∃(x:Int) (f:Bool) (A:Option Addr) (n c:Nat),e=.returned (.agg #[.int .i64 x,.bool f,.slice A n c])∧RgS w' x f A n c r∧Below w.heap.size w w'
theorem aP3 {n:Nat}{i j:Int}{s:List Iv}{q:Nat}(a:q<n):(oM n i j s)[q]?=some (if (q:Int)=i\/(q:Int)=j then s else lE):=by
 simp[oM,List.getElem?_range a]
theorem wH (N:Nat)(i j:Int)(A:Option Addr)(n c:Nat)(s:List Iv)(w:World)(hs:kH w A n s)(a4:yC A n c)(hn:n<=1000000)(hv:cM s=true)(b0:N<=12) :
 Calls Tryz.prog 193 #[(N:Int),i,j,.slice A n c] w fun e w'=>RgO6 w (jI N i j s) e w':=by
 obtain⟨Q,L,M,O,P⟩:=info_parts qT;have a9:=Z (hs.keep (aM w (.cells zR 71)));have a6:=Z a4;have W:=Z (bL0 (i:=i) (j:=j) b0 hv);have a:=Z (aT.new w 71 zR);have HB:=Z ((aB w w).alloc (aD _) (.cells zR 71));clear hs a4 hv;go_enter Tryz.func193,Tryz.ntmps193;go_upto_region 1 with fail;obtain⟨R,y⟩:=zE (w.heap.size);have H:Hid (w.heap.size<=R+1):=Z (by have:=y.out;omega);have a8:Hid (w.heap.size<=R):=Z (by have:=y.out;omega);rw[y.out]at a;rw[y.out];generalize hW:w.alloc (.cells zR 71)=T at *;have G:Hid (T.heap.size<=R+1):=Z (by have:=congrArg (fun w:World=>w.heap.size) hW;simp at this;have:=y.out;omega);clear hW y;go_wp2_with fail;go_loopw [9,10] (fun v t wr=>∃(k:Nat) (A':Option Addr) (c':Nat) (ps:List iM),k<=N/\t=.int .i64 (k:Int)/\v=.slice A' k c'/\Hid (wr.ownsRow (R+1) 139 1 (.slice A' k c') k (ps.flatMap mG))/\Hid (ps.length=k/\(∀p∈ps,p=((A,n,c),s)\/rG wr p)/\ps.map (·.2)=(oM N i j s).take k)/\Hid (aT wr R 71 zR)/\Hid (Below w w wr)/\Hid (Below T T wr)) (fun _ i _=>N-(intOf i).toNat);case atStart=>exact⟨0,none,0,[],by omega,rfl,rfl,Z ⟨by simp,.inl ⟨rfl,rfl⟩⟩,Z ⟨rfl,by simp,by simp⟩,a,HB,Z (aB _ _)⟩
 case round =>
  clear a HB;obtain⟨k,A',c',ps,hk,rfl,rfl,b,HQ,a,HB,u⟩:=hrel;by_cases hlt:k<N
  . have hsz:R+1<=wr.heap.size:=a.out.lt;by_cases h1:(k:Int)=i
    . have g1:((k:Int) == i)=true:=(by simpa using h1);go_wp2_with (at_builtin;refine cB (by rfl) (.tmp 26) (.tmp 28) _ (by rfl) (R+1) 139 Q _ 1 24 Tryz.underlying176 L M O P (by rfl) (by omega) (.slice A' k c') k _ (by rfl) wr #[.slice A n c] b.out wr (by rfl) (by rfl) (by rfl) (yB ((A,n,c),s)) (by simp only[maxLen];omega) (by omega) hsz ?_;intro g6 z E C B o a2 a3);go_roundw;case rel =>
       have hbu:=(But.alloc (S:=fun q=>(Value.slice A' k c').ownBlock=some q) wr (.cells #[.slice A n c] 139)).trans (cC5 B (fun q hq=>hq));refine⟨k+1,_,z,ps++[((A,n,c),s)],by omega,by go_num,rfl,Z ?_,Z ⟨by simp[HQ.out.1],fun p hp=>?_,?_⟩,Z (a.out.but hbu (fun hq=>by have:=(cN b.out hq).1;omega)),Z (HB.out.trans (o.mono H.out)),Z (u.out.trans (o.mono G.out))⟩
       . rw[aP];simpa[mG]using C
       . rcases List.mem_append.1 hp with hp|hp
         . rcases HQ.out.2.1 p hp with h1|h1
           . exact .inl h1
           . exact .inr (h1.but hbu (fun q hq cs=>lQ b.out hq cs))
         . rw[List.mem_singleton.1 hp];exact .inl rfl
       . rw[List.map_append,HQ.out.2.2,List.take_add_one,aP3 hlt];rw[if_pos (by first|exact .inl h1|exact .inr h2)];rfl
      case measure=>simp[intOf];omega
    . have g1:((k:Int) == i)=false:=(by simpa using h1);by_cases h2:(k:Int)=j
      . have g2:((k:Int) == j)=true:=(by simpa using h2);go_wp2_with (at_builtin;refine cB (by rfl) (.tmp 26) (.tmp 28) _ (by rfl) (R+1) 139 Q _ 1 24 Tryz.underlying176 L M O P (by rfl) (by omega) (.slice A' k c') k _ (by rfl) wr #[.slice A n c] b.out wr (by rfl) (by rfl) (by rfl) (yB ((A,n,c),s)) (by simp only[maxLen];omega) (by omega) hsz ?_;intro g6 z E C B o a2 a3);go_roundw;case rel =>
         have hbu:=(But.alloc (S:=fun q=>(Value.slice A' k c').ownBlock=some q) wr (.cells #[.slice A n c] 139)).trans (cC5 B (fun q hq=>hq));refine⟨k+1,_,z,ps++[((A,n,c),s)],by omega,by go_num,rfl,Z ?_,Z ⟨by simp[HQ.out.1],fun p hp=>?_,?_⟩,Z (a.out.but hbu (fun hq=>by have:=(cN b.out hq).1;omega)),Z (HB.out.trans (o.mono H.out)),Z (u.out.trans (o.mono G.out))⟩
         . rw[aP];simpa[mG]using C
         . rcases List.mem_append.1 hp with hp|hp
           . rcases HQ.out.2.1 p hp with h1|h1
             . exact .inl h1
             . exact .inr (h1.but hbu (fun q hq cs=>lQ b.out hq cs))
           . rw[List.mem_singleton.1 hp];exact .inl rfl
         . rw[List.map_append,HQ.out.2.2,List.take_add_one,aP3 hlt];rw[if_pos (by first|exact .inl h1|exact .inr h2)];rfl
        case measure=>simp[intOf];omega
      . have g2:((k:Int) == j)=false:=(by simpa using h2);go_wp2_with fail;refine(aG8 _).mono ?_;rintro e d ⟨g,rfl,a1,hb⟩;replace b:=Z (fJ b.out (fun q _ hl _=>hb.block q hl));replace HB:=Z (cC1 HB.out hb);replace u:=Z (cC1 u.out hb);replace a:=Z (a.out.below hb);have hsz:R+1<=d.heap.size:=(by have:=hb.size;omega);have a5:Hid (rG d ((some ⟨g,0,none⟩,1,1),lE)):=Z ⟨g,rfl,a1⟩;replace HQ:Hid (ps.length=k/\(∀p∈ps,p=((A,n,c),s)\/rG d p)/\ps.map (·.2)=(oM N i j s).take k):=Z ⟨HQ.out.1,fun p hp=>(HQ.out.2.1 p hp).imp id (fun h=>h.below hb),HQ.out.2.2⟩;clear a1 hb;go_wp2_with (at_builtin;refine cB (by rfl) (.tmp 30) (.tmp 32) _ (by rfl) (R+1) 139 Q _ 1 24 Tryz.underlying176 L M O P (by rfl) (by omega) (.slice A' k c') k _ (by rfl) d #[.slice (some ⟨g,0,none⟩) 1 1] b.out d (by rfl) (by rfl) (by rfl) (yB ((some ⟨g,0,none⟩,1,1),lE)) (by simp only[maxLen];omega) (by omega) hsz ?_;intro g6 z E C B o a2 a3);go_roundw;case rel =>
         have hbu:=(But.alloc (S:=fun q=>(Value.slice A' k c').ownBlock=some q) d (.cells #[.slice (some ⟨g,0,none⟩) 1 1] 139)).trans (cC5 B (fun q hq=>hq));refine⟨k+1,_,z,ps++[((some ⟨g,0,none⟩,1,1),lE)],by omega,by go_num,rfl,Z ?_,Z ⟨by simp[HQ.out.1],fun p hp=>?_,?_⟩,Z (a.out.but hbu (fun hq=>by have:=(cN b.out hq).1;omega)),Z (HB.out.trans (o.mono H.out)),Z (u.out.trans (o.mono G.out))⟩
         . rw[aP];simpa[mG]using C
         . rcases List.mem_append.1 hp with hp|hp
           . rcases HQ.out.2.1 p hp with h1|h1
             . exact .inl h1
             . exact .inr (h1.but hbu (fun q hq cs=>lQ b.out hq cs))
           . rw[List.mem_singleton.1 hp];exact .inr (a5.out.but hbu (fun q hq cs=>lQ b.out hq cs))
         . rw[List.map_append,HQ.out.2.2,List.take_add_one,aP3 hlt];rw[if_neg (fun h=>h.elim h1 h2)];rfl
        case measure=>simp[intOf];omega
  . obtain rfl:k=N:=(by omega);have F:Hid (ps.map (·.2)=oM k i j s):=Z (by rw[HQ.out.2.2,List.take_of_length_le (by rw[pR];exact aD _)]);have Y:Hid (SetsS wr A' k ps):=Z ⟨cC3 mR HQ.out.1 b.out,fun q hq=>by
     rcases HQ.out.2.1 q hq with rfl|⟨g,rfl,h1⟩
     . exact⟨a6.out,hn,(a9.out.keep (aC u.out))⟩
     . exact⟨⟨aD _,fun h=>by cases h⟩,by show 1<=1000000;omega,aQ0 h1⟩⟩
    clear HQ b;go_wp2_with fail;refine(bY6 _ _ _ ps _ Y.out).mono ?_;rintro e d ⟨x,f,l,r,m,rfl,J,K⟩;rw[F.out,W.out.2]at J;rw[F.out,W.out.1];have D:Below d d (d.alloc (.cells #[x,.bool f,.slice l r m] 71)):=(aB _ _).alloc (aD _) _;have a0:=Z (aT.new d 71 #[x,.bool f,.slice l r m]);have a7:=Z (J.keep (aC D));replace a:=Z ((a.out.below K).below D);replace HB:=Z (cC1 (cC1 HB.out K) D);obtain⟨U,I⟩:=zE (d.heap.size);rw[I.out]at a0;clear J K D Y F;go_upto_region 9 with fail;rw[I.out];generalize hW:d.alloc (.cells #[x,.bool f,.slice l r m] 71)=E at *;clear hW I;have b5:=a0.out.cell;have b4:=a.out.cell;obtain⟨b1,b2,b3⟩:=bF a.out x (.bool f);have y3:=(bY (a':=.int .i64 x) (b':=.bool f) (c':=.slice l r m) a.out).cell;have V:=Z (bD HB.out a8.out x (.bool f) (.slice l r m));have X:=Z (RgS.off a.out (bJ E R x (.bool f) (.slice l r m)) a7.out);unfold cO at y3 V X;go_wp2;refine aF (v:=.agg #[x,.bool f,.slice l r m]) (by simp[results,Tryz.results193,go_sem,y3]) rfl ⟨x,f,l,r,m,rfl,X.out,V.out⟩
def Two0 (w:World) (a b:Rg) (e:Ending) (w':World):Prop:=∃(x:Int) (f:Bool) (A:Option Addr) (n c:Nat) (x':Int) (f':Bool) (A':Option Addr) (n' c':Nat),e=.returned (.tuple #[.agg #[.int .i64 x,.bool f,.slice A n c],.agg #[.int .i64 x',.bool f',.slice A' n' c']])∧RgS w' x f A n c a∧RgS w' x' f' A' n' c' b∧Below w.heap.size w w'
structure TwS (w:World) (R R':Nat) (wr:World):Prop where
 br:aT wr R 71 #[.int .i64 0,.bool false,.slice none 0 0]
 br':aT wr R' 71 #[.int .i64 0,.bool false,.slice none 0 0]
 ne:R≠R'
 lo:w.heap.size≤R
 lo':w.heap.size≤R'
 hb:Below w.heap.size w wr
structure Bx6 (R R' U:Nat) (x:Int) (f:Bool) (A:Option Addr) (n c:Nat) (a:Rg) (wr:World):Prop where
 bl:aT wr U 71 #[.int .i64 x,.bool f,.slice A n c]
 rg:RgS wr x f A n c a
 ne:U≠R
 ne':U≠R'
theorem But.mono6 {S a:Nat->Prop}{w b:World}(h:But S w b)(g:∀k,S k->a k):But a w b:=⟨h.os,h.tape,h.output,h.size,fun k c d=>h.block k c (fun e=>d (g k e))⟩
def lN (R R':Nat):Nat→Prop:=fun q=>q=R∨q=R'
section
variable {w wr wr':World} {R R' U:Nat} {x:Int} {f:Bool} {A:Option Addr} {n c:Nat} {a:Rg} {x':Int} {f':Bool} {A':Option Addr} {n' c':Nat} {b:Rg}
theorem TwS.below (h:TwS w R R' wr)(hb:Below wr wr wr'):TwS w R R' wr':=⟨h.br.below hb,h.br'.below hb,h.ne,h.lo,h.lo',cC1 h.hb hb⟩
theorem TwS.lt (h:TwS w R R' wr):R<wr.heap.size/\R'<wr.heap.size/\w.heap.size<=wr.heap.size:=⟨h.br.lt,h.br'.lt,h.hb.size⟩
theorem TwS.off {B:Nat}(h:TwS w R R' wr)(hb:But (· = B) wr wr')(a:B≠R)(b:B≠R')(d:w.heap.size<=B):TwS w R R' wr':=⟨h.br.but hb (fun e=>a e.symm),h.br'.but hb (fun e=>b e.symm),h.ne,h.lo,h.lo',cC1 h.hb (aB _ _) |>.trans ⟨hb.os,hb.tape,hb.output,hb.size,fun k c=>hb.block k (Nat.lt_of_lt_of_le c h.hb.size) (fun e=>by omega)⟩⟩
theorem Bx6.below (h:Bx6 R R' U x f A n c a wr)(hb:Below wr wr wr'):Bx6 R R' U x f A n c a wr':=⟨h.bl.below hb,h.rg.keep (aC hb),h.ne,h.ne'⟩
theorem Bx6.new (h:RgS wr x f A n c a)(b:R<wr.heap.size)(d:R'<wr.heap.size):Bx6 R R' wr x f A n c a (wr.alloc (.cells #[x,.bool f,.slice A n c] 71)):=⟨aT.new _ _ _,h.keep (aM _ _),by omega,by omega⟩
theorem Bx6.off {B:Nat}{p q s:Value}{T:TypeId}{y:Int}{g:Bool}{C:Option Addr}{m d:Nat}(h:Bx6 R R' U x f A n c a wr)(b:aT wr B T #[y,.bool g,.slice C m d])(e:U≠B):Bx6 R R' U x f A n c a (cO wr B p q s):=⟨h.bl.but (bJ _ _ _ _ _) e,RgS.off b (bJ _ _ _ _ _) h.rg,h.ne,h.ne'⟩
theorem Bx6.q (h:Bx6 R R' U x f A n c a wr):∀(z:LaterS (lN R R') wr) j,(dG (lN R R') wr z).cell? ⟨U,j,none⟩=(#[x,.bool f,.slice A n c]:Array Value)[j]?:=fun z j=>(h.bl.but z.but (fun e=>e.elim h.ne h.ne')).cell j
theorem two_q {T:TypeId}{cs:Array Value}(h:aT wr U T cs)(a:U≠R)(b:U≠R'):∀(z:LaterS (lN R R') wr) j,(dG (lN R R') wr z).cell? ⟨U,j,none⟩=cs[j]?:=fun z j=>(h.but z.but (fun e=>e.elim a b)).cell j
theorem TwS.store (h:TwS w R R' wr)(o:RgS wr x f A n c a)(hb:RgS wr x' f' A' n' c' b) :
 But (lN R R') wr (((wr.setCell ⟨R,0,none⟩ x).setCell ⟨R,1,none⟩ (.bool f)).setCell ⟨R,2,none⟩ (.slice A n c)) /\
 (∀i,(((wr.setCell ⟨R,0,none⟩ x).setCell ⟨R,1,none⟩ (.bool f)).setCell ⟨R,2,none⟩ (.slice A n c)).cell? ⟨R',i,none⟩=(zR:Array Value)[i]?) /\
 (∀i,(((wr.setCell ⟨R,0,none⟩ x).setCell ⟨R,1,none⟩ (.bool f)).setCell ⟨R,2,none⟩ (.slice A n c)).frozen? ⟨R',i,none⟩=false) /\
 But (lN R R') (((wr.setCell ⟨R,0,none⟩ x).setCell ⟨R,1,none⟩ (.bool f)).setCell ⟨R,2,none⟩ (.slice A n c)) ((((((wr.setCell ⟨R,0,none⟩ x).setCell ⟨R,1,none⟩ (.bool f)).setCell ⟨R,2,none⟩ (.slice A n c)).setCell ⟨R',0,none⟩ x').setCell ⟨R',1,none⟩ (.bool f')).setCell ⟨R',2,none⟩ (.slice A' n' c')) /\
 (∀i,((((((wr.setCell ⟨R,0,none⟩ x).setCell ⟨R,1,none⟩ (.bool f)).setCell ⟨R,2,none⟩ (.slice A n c)).setCell ⟨R',0,none⟩ x').setCell ⟨R',1,none⟩ (.bool f')).setCell ⟨R',2,none⟩ (.slice A' n' c')).cell? ⟨R,i,none⟩=(#[x,.bool f,.slice A n c]:Array Value)[i]?) /\
 (∀i,((((((wr.setCell ⟨R,0,none⟩ x).setCell ⟨R,1,none⟩ (.bool f)).setCell ⟨R,2,none⟩ (.slice A n c)).setCell ⟨R',0,none⟩ x').setCell ⟨R',1,none⟩ (.bool f')).setCell ⟨R',2,none⟩ (.slice A' n' c')).cell? ⟨R',i,none⟩=(#[x',.bool f',.slice A' n' c']:Array Value)[i]?) /\
 RgS ((((((wr.setCell ⟨R,0,none⟩ x).setCell ⟨R,1,none⟩ (.bool f)).setCell ⟨R,2,none⟩ (.slice A n c)).setCell ⟨R',0,none⟩ x').setCell ⟨R',1,none⟩ (.bool f')).setCell ⟨R',2,none⟩ (.slice A' n' c')) x f A n c a/\RgS ((((((wr.setCell ⟨R,0,none⟩ x).setCell ⟨R,1,none⟩ (.bool f)).setCell ⟨R,2,none⟩ (.slice A n c)).setCell ⟨R',0,none⟩ x').setCell ⟨R',1,none⟩ (.bool f')).setCell ⟨R',2,none⟩ (.slice A' n' c')) x' f' A' n' c' b/\Below w w ((((((wr.setCell ⟨R,0,none⟩ x).setCell ⟨R,1,none⟩ (.bool f)).setCell ⟨R,2,none⟩ (.slice A n c)).setCell ⟨R',0,none⟩ x').setCell ⟨R',1,none⟩ (.bool f')).setCell ⟨R',2,none⟩ (.slice A' n' c')):=by
 have d:=bJ wr R x (.bool f) (.slice A n c);have j:aT (cO wr R x (.bool f) (.slice A n c)) R' 71 zR:=h.br'.but d (fun e=>h.ne e.symm);have g:=bJ (cO wr R x (.bool f) (.slice A n c)) R' x' (.bool f') (.slice A' n' c');have p:aT (cO wr R x (.bool f) (.slice A n c)) R 71 #[x,.bool f,.slice A n c]:=bY h.br;exact⟨⟨d.os,d.tape,d.output,d.size,fun k l m=>d.block k l (fun e=>m (.inl e))⟩,j.cell,j.free,
  ⟨g.os,g.tape,g.output,g.size,fun k l m=>g.block k l (fun e=>m (.inr e))⟩,
  (p.but g h.ne).cell,(bY j).cell,RgS.off j g (RgS.off h.br d o),RgS.off j g (RgS.off h.br d hb),bD (bD h.hb h.lo _ _ _) h.lo' _ _ _⟩
end
theorem aX3 (x:Int)(w:World):Calls Tryz.prog 142 #[x] w fun e w'=>gU w (jJ x) (jK x) e w':=by
 have j:=Z (aT.new w 71 zR);have i:=Z ((aB w w).alloc (aD _) (.cells zR 71));obtain⟨W0,m⟩:∃W:World,Hid (w.alloc (.cells zR 71)=W):=⟨_,rfl⟩;rw[m.out]at j i;rcases Int.lt_or_le x 0 with h0|h0
 . have C:decide (x<0)=true:=(by simp;omega);rw[jJ,jK,if_neg (by omega),if_neg (by omega)];go_enter Tryz.func142,Tryz.ntmps142;go_wp2;refine aF (v:=.tuple #[.agg zR,(1:Int)]) (by simp[results,Tryz.results142,go_sem]) rfl ⟨0,false,none,0,0,rfl,RgS.nil _ _,?_⟩;repeat(first|exact aB _ _|refine Below.setCell ?_ (by simp) _|refine Below.alloc ?_ (by simp) _)
 . have C:decide (x<0)=false:=(by simp;omega);rcases Int.lt_or_le 12 x with h1|h1
   . have D:decide (12<x)=true:=(by simp;omega);rw[jJ,jK,if_neg (by omega),if_neg (by omega)];go_enter Tryz.func142,Tryz.ntmps142;go_wp2;refine aF (v:=.tuple #[.agg zR,(1:Int)]) (by simp[results,Tryz.results142,go_sem]) rfl ⟨0,false,none,0,0,rfl,RgS.nil _ _,?_⟩;repeat(first|exact aB _ _|refine Below.setCell ?_ (by simp) _|refine Below.alloc ?_ (by simp) _)
   . have D:decide (12<x)=false:=(by simp;omega);rw[jJ,jK,if_pos ⟨h0,h1⟩,if_pos ⟨h0,h1⟩];obtain⟨n,rfl⟩:=bO h0;have hn:n<=12:=(by omega);rw[Int.toNat_natCast];clear h0 h1;go_enter Tryz.func142,Tryz.ntmps142;go_upto_region 3 with fail;rw[m.out];go_wp2_with fail;refine(aX2 n hn _).mono ?_;rintro e I ⟨A1,c1,rfl,⟨ps,q,p⟩,hb1⟩;have z:=Z q;have y:=Z p;have s:=Z (cC1 i.out hb1);have B:=Z (j.out.below hb1);clear q p hb1 i j;go_wp2_with fail;refine(aC2 A1 n c1 ps _ z.out hn).mono ?_;rintro e E ⟨x3,a,b,g,d,rfl,k,l⟩;rw[y.out]at k;have o:RgS E x3 a b g d (dO n):=k;have c:=Z (B.out.below l);have t:=Z (cC1 s.out l);have A:=Z (RgS.off c.out (bJ _ w x3 (.bool a) (.slice b g d)) o);clear k o l;have L:=c.out.cell;obtain⟨F,G,H⟩:=bF c.out x3 (.bool a);have r:=(bY (a':=.int .i64 x3) (b':=.bool a) (c':=.slice b g d) c.out).cell;have J:=(c.out.set_ 0 x3).cell;have K:=((c.out.set_ 0 x3).set_ 1 (.bool a)).cell;have u:=Z (bD t.out (aD _) x3 (.bool a) (.slice b g d));unfold cO at r;go_wp2;exact aF (v:=.tuple #[.agg #[x3,.bool a,.slice b g d],zO]) (by simp[results,Tryz.results142,go_sem,r]) rfl ⟨x3,a,b,g,d,rfl,A.out,u.out⟩
end
end Go.Proofs.YtnnmlhmffnfjfaaGreat
