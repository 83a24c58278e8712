/- Texts on which the walk stands. -/
import Derived.Test.YtnnmlhmffnfjfaaGreatC6
import Derived.Maps.OwnSet
import Derived.Maps.Views
import Derived.DeepKeys4
import Derived.Shelf.SlGeneric
import Derived.Shelf.SlSortCmp.WholeK
import Derived.Ground.SlsfProg
import Derived.Test.YtnnmlhmffnfjfaaGreatProg
import Derived.Shelf.GgSortFunc.InsertionK
import Derived.Shelf.SlSortCmp.NoneTotal
open Nat renaming le_refl → aD, le_trans → bI, lt_of_lt_of_le → cC, lt_or_ge → cJ
open List renaming not_mem_nil → aH, mem_of_getElem? → aJ, mem_cons → aK, getElem?_eq_getElem → aN, flatMap_append → aP, mem_cons_self → aQ, mem_cons_of_mem → aS, length_cons → bL, mem_singleton → bU, take_of_length_le → bW, getElem?_map → cE, append_assoc → cH
open Bool renaming and_eq_true → aI
set_option maxHeartbeats 8000000
set_option linter.unusedVariables false
set_option maxRecDepth 100000
namespace Go.Proofs.YtnnmlhmffnfjfaaGreat
open Go.RowKit
open Rg
structure Swp (qs:List Ev) (i:Nat) (K:List Vl):Prop where
 asc:hY K
 mem:∀ v,v∈K↔(∃ e∈qs.take i,e.v=v)∧∀ e∈qs.drop i,e.v≠v
theorem Swp.zero (a:List Ev):Swp a 0 []:=⟨List.Pairwise.nil,fun v=>by simp⟩
theorem qF.le {b:List Ev}(h:qF b){i j:Nat}{x y:Ev}(g:b[i]?=some x)(a:b[j]?=some y)(k:i<=j):bZ x.v y.v<=0:=by
 rcases Nat.eq_or_lt_of_le k with e|l
 . subst e;rw[g]at a;injection a with a;rw[a,eH];exact Int.le_refl _
 . have c:=List.getElem?_eq_some_iff.1 g;have d:=List.getElem?_eq_some_iff.1 a;have:=List.pairwise_iff_getElem.1 h i j c.1 d.1 l;rw[c.2,d.2]at this;exact(aP0 this).1
theorem hS {b:List Ev}{i:Nat}{e:Ev}:e∈b.take i↔∃j,j<i/\b[j]?=some e:=by
 rw[List.mem_iff_getElem?];constructor
 . rintro⟨j,a⟩;rw[List.getElem?_take]at a;split at a
   . exact⟨j,‹_›,a⟩
   . cases a
 . rintro⟨j,a,c⟩;exact⟨j,by rw[List.getElem?_take,if_pos a];exact c⟩
theorem hU {b:List Ev}{i:Nat}{e:Ev}:e∈b.drop i↔∃j,i<=j/\b[j]?=some e:=by
 rw[List.mem_iff_getElem?];constructor
 . rintro⟨j,a⟩;rw[List.getElem?_drop]at a;exact⟨i+j,by omega,a⟩
 . rintro⟨j,a,c⟩;exact⟨j-i,by rw[List.getElem?_drop,show i+(j-i)=j by omega];exact c⟩
theorem Swp.skip {g:List Ev}{i:Nat}{K:List Vl}{x y:Ev}(h:Swp g i K)(s:g[i]?=some x)(z:g[i+1]?=some y)(e:y.v=x.v):Swp g (i+1) K:=by
 refine⟨h.asc,fun v=>?_⟩;rw[h.mem v];constructor
 . rintro⟨⟨k,n,c⟩,d⟩;obtain⟨j,u,a⟩:=hS.1 n;refine⟨⟨k,hS.2 ⟨j,by omega,a⟩,c⟩,fun m p=>?_⟩;obtain⟨l,q,b⟩:=hU.1 p;exact d m (hU.2 ⟨l,by omega,b⟩)
 . rintro⟨⟨k,n,c⟩,d⟩;have r:x.v≠v:=(by rw[<- e];exact d y (hU.2 ⟨i+1,by omega,z⟩));obtain⟨j,u,a⟩:=hS.1 n;refine⟨⟨k,hS.2 ⟨j,?_,a⟩,c⟩,fun m p=>?_⟩
   . rcases cJ j i with o|o
     . exact o
     . have:j=i:=(by omega);subst this;rw[s]at a;injection a with a;rw[<- a]at c;exact absurd c r
   . obtain⟨l,q,b⟩:=hU.1 p;rcases Nat.eq_or_lt_of_le q with t|o
     . subst t;rw[s]at b;injection b with b;rw[<- b];exact r
     . exact d m (hU.2 ⟨l,by omega,b⟩)
theorem zG {a:List Ev}{i:Nat}{x:Ev}(d:qF a)(g:a[i]?=some x):∀e∈a.take (i+1),bZ e.v x.v<=0:=fun e b=>by
 obtain⟨j,k,c⟩:=hS.1 b;exact d.le c g (by omega)
theorem zI {a:List Ev}{i:Nat}{x:Ev}(d:qF a)(n:a[i]?=some x)(hb:∀y,a[i+1]?=some y->y.v≠x.v):∀e∈a.drop (i+1),bZ x.v e.v<0:=fun e k=>by
 obtain⟨j,l,c⟩:=hU.1 k;have m:i+1<a.length:=by have:=(List.getElem?_eq_some_iff.1 c).1;omega
 have b:=aN m;have o:=d.le n b (by omega);have g:=d.le b c l;have p:bZ x.v (a[i+1]).v≠0:=fun h=>hb _ b ((gI _ _).1 h).symm;exact fQ (by omega) g
theorem Swp.take {k:List Ev}{i:Nat}{K:List Vl}{x:Ev}(h:Swp k i K)(s:qF k)(d:k[i]?=some x)(hb:∀y,k[i+1]?=some y->y.v≠x.v):Swp k (i+1) (K++[x.v]):=by
 have J:=zG s d;have H:=zI s d hb;refine⟨?_,fun v=>?_⟩
 . refine List.pairwise_append.2 ⟨h.asc,List.pairwise_singleton _ _,fun u I z C=>?_⟩;rw[bU]at C;subst C;obtain⟨⟨e,q,G⟩,b⟩:=(h.mem u).1 I;obtain⟨j,A,a⟩:=hS.1 q;have g:=s.le a d (by omega);rw[G]at g;have m:bZ u x.v≠0:=fun E=>b x (hU.2 ⟨i,aD _,d⟩) ((gI _ _).1 E).symm;omega
 . rw[List.mem_append,bU,h.mem v];constructor
   . rintro(⟨⟨n,p,b⟩,g⟩|rfl)
     . obtain⟨j,A,a⟩:=hS.1 p;refine⟨⟨n,hS.2 ⟨j,by omega,a⟩,b⟩,fun o r=>?_⟩;obtain⟨l,B,c⟩:=hU.1 r;exact g o (hU.2 ⟨l,by omega,c⟩)
     . refine⟨⟨x,hS.2 ⟨i,by omega,d⟩,rfl⟩,fun e q F=>?_⟩;have:=H e q;rw[F,eH]at this;omega
   . rintro⟨⟨n,p,b⟩,g⟩;by_cases t:v=x.v
     . exact .inr t
     . left;obtain⟨j,A,a⟩:=hS.1 p;refine⟨⟨n,hS.2 ⟨j,?_,a⟩,b⟩,fun o r=>?_⟩
       . rcases cJ j i with m|m
         . exact m
         . have:j=i:=(by omega);subst this;rw[d]at a;injection a with a;rw[<- a]at b;exact absurd b.symm t
       . obtain⟨l,B,c⟩:=hU.1 r;rcases Nat.eq_or_lt_of_le B with D|m
         . subst D;rw[d]at c;injection c with c;rw[<- c];exact fun h=>t h.symm
         . exact g o (hU.2 ⟨l,by omega,c⟩)
theorem Swp.more {a:List Ev}(b:qF a):∀(m i:Nat) (K:List Vl),a.length-i<=m->i<=a.length->Swp a i K->∃R,Swp a a.length (K++R)
 |
  m,i,K,hm,hi,h=>by
  rcases Nat.eq_or_lt_of_le hi with e|j
  . exact⟨[],by rw[List.append_nil,<- e];exact h⟩
  . cases m with
    |zero=>omega
    |
     succ m =>
     have d:=aN j;by_cases hb:∃y,a[i+1]?=some y/\y.v=(a[i]).v
     . obtain⟨y,c,e⟩:=hb;exact Swp.more b m (i+1) K (by omega) (by omega) (h.skip d c e)
     . obtain⟨R,g⟩:=Swp.more b m (i+1) (K++[(a[i]).v]) (by omega) (by omega) (h.take b d (fun y c e=>hb ⟨y,c,e⟩));exact⟨(a[i]).v::R,by simpa using g⟩
theorem oD {v:Vl}:∀ {l:List Iv},v∈cR l↔∃x∈l,v=x.f\/(x.o=false/\v=x.t)
 |[]=>by simp[cR]
 |
  x::l=>by
  have a:=oD (v:=v) (l:=l);unfold cR;cases ho:x.o<;>simp[ho,a];constructor
  . rintro(h|h|h)
    . exact .inl (.inl h)
    . exact .inl (.inr h)
    . exact .inr h
  . rintro((h|h)|h)
    . exact .inl h
    . exact .inr (.inl h)
    . exact .inr (.inr h)
theorem bI0 (a b:Rg)(v:Vl):v∈kI a b↔∃e∈evs a b,e.v=v:=by
 have k:∀(s:Int) (L:List (List Iv×Rg)),(∃l∈L.map (·.1),v∈cR l)↔∃e∈wA s 0 L,e.v=v:=fun s L=>by
  constructor
  . rintro⟨l,r,u⟩;obtain⟨p,t,rfl⟩:=List.mem_map.1 r;obtain⟨x,i,h⟩:=oD.1 u;obtain⟨j,g⟩:=List.mem_iff_getElem?.1 t;rcases h with rfl|⟨d,rfl⟩
    . exact⟨_,kN.2 ⟨j,p,x,g,i,lH.2 (.inl rfl)⟩,rfl⟩
    . exact⟨_,kN.2 ⟨j,p,x,g,i,lH.2 (.inr ⟨d,rfl⟩)⟩,rfl⟩
  . rintro⟨e,q,rfl⟩;obtain⟨j,p,x,c,n,o⟩:=kN.1 q;refine⟨p.1,List.mem_map.2 ⟨p,aJ c,rfl⟩,oD.2 ⟨x,n,?_⟩⟩;rcases lH.1 o with rfl|⟨d,rfl⟩
    . exact .inl rfl
    . exact .inr ⟨d,rfl⟩
 rw[kI,(lO _).2];unfold evs dU;have m:=k 0 a.parts;have c:=k 1 b.parts;simp only[List.mem_append,or_and_right,exists_or];rw[m,c]
theorem Swp.fin {a b:Rg}{g:List Ev}{K:List Vl}(i:g.Perm (evs a b))(h:Swp g g.length K):K=kI a b:=by
 refine aE3 _ _ h.asc (lO _).1 fun v=>?_;rw[h.mem v,bI0];simp only[List.take_length,List.drop_length,aH,false_implies,implies_true,and_true];constructor
 . rintro⟨e,c,d⟩;exact⟨e,i.mem_iff.1 c,d⟩
 . rintro⟨e,c,d⟩;exact⟨e,i.mem_iff.2 c,d⟩
theorem Swp.prefix_ {a b:Rg}{c:List Ev}{i:Nat}{K:List Vl}(e:c.Perm (evs a b))(g:qF c)(hi:i<=c.length)(h:Swp c i K):∃R,kI a b=K++R:=by
 obtain⟨R,d⟩:=h.more g _ _ _ (aD _) hi;exact⟨R,(d.fin e).symm⟩
def uY (g:Vl→Bool):Bool→List Vl→Bool
 |b,[]=>b
 |_,q::K=>uY g (g q) K
def fT (ro:Vl→Rg):Rg→List Vl→Rg
 |d,[]=>d
 |_,q::K=>fT ro (ro q) K
theorem tS (ro:Vl->Rg)(p:Vl):∀(K:List Vl) (d:Rg),fT ro d (K++[p])=ro p
 |[],_=>rfl
 |q::K,_=>tS ro p K (ro q)
theorem aH8 (ro:Vl->Rg):∀(K:List Vl) (d:Rg),fT ro d K=d\/fT ro d K∈K.map ro
 |[],_=>.inl rfl
 |
  q::K,_=>by
  rcases aH8 ro K (ro q)with h|h
  . right;rw[fT,h];simp
  . right;rw[fT,List.map_cons];exact aS _ h
theorem bI8 (ro:Vl->Rg)(s:Rg):∀(K:List Vl) (d:Rg),uY (fun p=>decide (ro p=s)) (decide (d=s)) K=decide (fT ro d K=s)
 |[],_=>rfl
 |q::K,_=>bI8 ro s K (ro q)
theorem aZ5 (g:Vl->Bool)(p:Vl):∀(K:List Vl) (b:Bool),pN g b (K++[p])=pN g b K++(if g p=uY g b K then []else [p])
 |[],b=>by simp only[List.nil_append,pN,uY];split<;>simp_all
 |
  q::K,b=>by
  have a:=aZ5 g p K;simp only[List.cons_append,pN,uY];split
  . rename_i h;rw[<- h];exact a _
  . rw[a];rfl
theorem tY (g:Vl->Bool):∀(K:List Vl) (b:Bool),((pN g b K).length % 2=1)↔uY g b K≠b
 |[],b=>by simp[pN,uY]
 |
  q::K,b=>by
  simp only[pN,uY];split
  . rename_i h;rw[<- h];exact tY g K (g q)
  . rename_i h;have a:=tY g K (g q);rw[bL];have:((pN g (g q) K).length+1) % 2=1↔¬(pN g (g q) K).length % 2=1:=(by omega);rw[this,a];cases hb:b<;>cases hq:g q<;>cases hl:uY g (g q) K<;>simp_all
theorem aV8 (p:Vl):∀P:List Vl,P.length % 2=0->dS (P++[p])=dS P++[⟨p,bE,true⟩]
 |[],_=>rfl
 |[x],h=>by simp at h
 |
  x::y::P,h=>by
  simp only[List.cons_append,dS];rw[aV8 p P (by simp at h;omega)]
theorem ivs_ne:∀P:List Vl,P≠[]->dS P≠[]
 |[],h=>absurd rfl h
 |[x],_=>by simp[dS]
 |x::y::P,_=>by simp[dS]
theorem aL8 (x:Iv){l:List Iv}(h:l≠[])(p:Vl):fA (x::l) p=x::fA l p:=by
 obtain⟨y,l',rfl⟩:∃y l',l=y::l':=by cases l with|nil=>exact absurd rfl h|cons y l'=>exact⟨y,l',rfl⟩
 unfold fA;rw[List.getLast?_cons_cons];cases hg:(y::l').getLast? with
 |none=>simp at hg
 |some z=>simp
theorem bJ4 (p:Vl):∀P:List Vl,P.length % 2=1->dS (P++[p])=fA (dS P) p
 |[],h=>by simp at h
 |[x],_=>by simp[dS,fA]
 |
  x::y::P,h=>by
  have a:P≠[]:=fun e=>by subst e;simp at h
  simp only[List.cons_append,dS];rw[bJ4 p P (by simp at h;omega),aL8 _ (ivs_ne P a)]
theorem qH (l:List Iv)(p:Vl):(fA l p).length=l.length:=by
 unfold fA;cases h:l.getLast? with
 |none=>rfl
 |
  some x =>
  have:l≠[]:=fun e=>by subst e;simp at h
  have a:=List.length_pos_iff.2 this;simp;omega
theorem rI {ro:Vl->Rg}{n:Nat}{K:List Vl}{p:Vl}{s:Rg}(g:s.nix=false):dT ro (K++[p]) s =
 if ro p=s then (if fT ro (.nil (n:Int) false) K=s then dT ro K s else dT ro K s++[⟨p,bE,true⟩])
 else (if fT ro (.nil (n:Int) false) K=s then fA (dT ro K s) p else dT ro K s):=by
 have i:decide (Rg.nil (n:Int) false=s)=false:=decide_eq_false (fun e=>by rw[<- e]at g;cases g);have d:=bI8 ro s K (.nil (n:Int) false);rw[i]at d;have c:=tY (fun p=>decide (ro p=s)) K false;rw[d]at c;unfold dT;rw[aZ5,d];by_cases b:ro p=s<;>by_cases a:fT ro (.nil (n:Int) false) K=s
 . simp[b,a]
 . simp only[b,a,decide_true,decide_false,if_true,if_false];rw[if_neg (by simp)];refine aV8 p _ ?_;simp only[a,decide_false,ne_eq,not_true_eq_false,iff_false]at c;omega
 . simp only[b,a,decide_true,decide_false,if_true,if_false];rw[if_neg (by simp)];refine bJ4 p _ ?_;simp only[a,decide_true,ne_eq,Bool.true_eq_false,not_false_eq_true,iff_true]at c;exact c
 . simp[b,a]
theorem aQ3 {ro:Vl->Rg}{s:Rg}:∀ {K:List Vl},(∀q∈K,ro q≠s)->dT ro K s=[]
 |[],_=>rfl
 |
  q::K,h=>by
  have a:=aQ3 (K:=K) (fun q b=>h q (aS _ b));have:decide (ro q=s)=false:=decide_eq_false (h q aQ);unfold dT at a ⊢;rw[pN,if_pos this];exact a
def iV:List Rg→Rg→Int
 |[],_ => -1
 |x::l,r=>if x=r then 0 else if iV l r<0 then -1 else iV l r+1
theorem gH (r:Rg):∀U:List Rg,(iV U r = -1/\r∉U)\/∃j:Nat,U[j]?=some r/\iV U r=(j:Int)
 |[]=>.inl ⟨rfl,by simp⟩
 |
  x::U=>by
  unfold iV;by_cases h:x=r
  . exact .inr ⟨0,by simp[h],by rw[if_pos h];rfl⟩
  . rw[if_neg h];rcases gH r U with⟨a,b⟩|⟨j,a,b⟩
    . exact .inl ⟨by rw[if_pos (by omega)],by simp[Ne.symm h,b]⟩
    . exact .inr ⟨j+1,by simpa using a,by rw[if_neg (by omega)];omega⟩
theorem rV {r:Rg}{U:List Rg}(e:U.Nodup){j:Nat}(h:U[j]?=some r):iV U r=(j:Int):=by
 rcases gH r U with⟨_,d⟩|⟨i,g,d⟩
 . exact absurd (aJ h) d
 . rw[d];have a:=List.getElem?_eq_some_iff.1 h;have b:=List.getElem?_eq_some_iff.1 g;rcases Nat.lt_trichotomy i j with c|c|c
   . exact absurd (b.2.trans a.2.symm) (List.pairwise_iff_getElem.1 e i j b.1 a.1 c)
   . rw[c]
   . exact absurd (a.2.trans b.2.symm) (List.pairwise_iff_getElem.1 e j i a.1 b.1 c)
def eZ (ro:Vl→Rg) (K:List Vl):List Rg:=mP (K.map ro)
theorem kA (ro:Vl->Rg)(K:List Vl)(p:Vl):eZ ro (K++[p])=if (ro p).nix || decide (ro p∈eZ ro K)then eZ ro K else eZ ro K++[ro p]:=by
 unfold eZ;rw[List.map_append];exact aF6 (ro p) (K.map ro)
theorem kB (ro:Vl->Rg)(K:List Vl):cY ro K=(eZ ro K).map fun r=>(dT ro K r,r):=rfl
def gK (L:List (List Iv×Rg)) (r:Rg):List (List Iv×Rg):=if r.nix || decide (r∈L.map (·.2))then L else L++[([],r)]
def lI (o:Int) (p:Vl) (L:List (List Iv×Rg)):List (List Iv×Rg):=if o<0 then L else L.modify o.toNat (fun q=>(fA q.1 p,q.2))
def tL (o:Int) (p:Vl) (L:List (List Iv×Rg)):List (List Iv×Rg):=if o<0 then L else L.modify o.toNat (fun q=>(q.1++[⟨p,bE,true⟩],q.2))
theorem sV (ro:Vl->Rg)(K:List Vl):(cY ro K).map (·.2)=eZ ro K:=by
 rw[kB,List.map_map];exact List.map_id' _
theorem uZ {ro:Vl->Rg}{n:Nat}{K:List Vl}(b:∀q∈K,eI n (ro q)):fT ro (.nil (n:Int) false) K∈eZ ro K\/fT ro (.nil (n:Int) false) K=.nil (n:Int) false:=by
 rcases aH8 ro K (.nil (n:Int) false)with h|h
 . exact .inr h
 . cases hn:(fT ro (.nil (n:Int) false) K).nix
   . exact .inl ((eQ _ _).2 ⟨h,hn⟩)
   . obtain⟨q,c,a⟩:=List.mem_map.1 h;right;refine sA n _ ?_ hn;rw[<- a];exact b q c
section
variable {ro:Vl→Rg} {n:Nat} {K:List Vl} {p:Vl}
theorem aA4 (k:∀q∈K++[p],eI n (ro q)):iV (eZ ro (K++[p])) (ro p)=iV (eZ ro K) (fT ro (.nil (n:Int) false) K)↔ro p=fT ro (.nil (n:Int) false) K:=by
 have l:∀q∈K,eI n (ro q):=fun q r=>k q (List.mem_append_left _ r);have m:eI n (ro p):=k p (by simp);have s:(eZ ro (K++[p])).Nodup:=iP _;have t:(eZ ro K).Nodup:=iP _;have d:=kA ro K p;have u:∀K,Rg.nil (n:Int) false∉eZ ro K:=fun K h=>by have:=((eQ _ _).1 h).2;cases this
 constructor
 . intro h;rcases gH (ro p) (eZ ro (K++[p]))with⟨e,g⟩|⟨j,e,g⟩
   . have c:(ro p).nix=true:=by
      cases c:(ro p).nix
      . exact absurd ((eQ _ _).2 ⟨List.mem_map.2 ⟨p,by simp,rfl⟩,c⟩) g
      . rfl
     rw[sA n _ m c];rcases uZ l with a|a
     . rcases gH (fT ro (.nil (n:Int) false) K) (eZ ro K)with⟨_,b⟩|⟨j,_,b⟩
       . exact absurd a b
       . omega
     . exact a.symm
   . rcases gH (fT ro (.nil (n:Int) false) K) (eZ ro K)with⟨a,_⟩|⟨i,a,b⟩
     . omega
     . have o:i=j:=(by omega);subst o;have:(eZ ro (K++[p]))[i]?=some (fT ro (.nil (n:Int) false) K):=by
        rw[d];split
        . exact a
        . rw[List.getElem?_append_left (List.getElem?_eq_some_iff.1 a).1];exact a
       rw[e]at this;injection this
 . intro h;rcases uZ l with a|a
   . rw[h,d,if_pos (by rw[h];simp[a])]
   . rw[h,a,d,if_pos (by rw[h,a];rfl)]
theorem xY (K:List Vl)(p:Vl):gK (cY ro K) (ro p)=(eZ ro (K++[p])).map fun r=>(dT ro K r,r):=by
 unfold gK;rw[sV,kA];split
 . rfl
 . rename_i h;simp only[Bool.or_eq_true,decide_eq_true_eq,not_or]at h;rw[List.map_append,<- kB,List.map_cons,List.map_nil];congr 2;rw[aQ3];intro q a e;refine h.2 ((eQ _ _).2 ⟨List.mem_map.2 ⟨q,a,e⟩,by simpa using h.1⟩)
theorem bM7 (c:∀q∈K++[p],eI n (ro q))(h:ro p=fT ro (.nil (n:Int) false) K):gK (cY ro K) (ro p)=cY ro K/\cY ro (K++[p])=cY ro K:=by
 have d:∀q∈K,eI n (ro q):=fun q g=>c q (List.mem_append_left _ g);have b:eZ ro (K++[p])=eZ ro K:=by
  rw[kA];rcases uZ d with a|a
  . rw[if_pos (by rw[h];simp[a])]
  . rw[if_pos (by rw[h,a];rfl)]
 refine⟨by rw[xY,b];rfl,?_⟩;rw[kB,b,kB];refine List.map_congr_left fun s i=>?_;have e:=((eQ _ _).1 i).2;rw[rI (n:=n) e,h];split
 . rfl
 . rfl
theorem bM6 (v:∀q∈K++[p],eI n (ro q))(h:ro p≠fT ro (.nil (n:Int) false) K) :
 cY ro (K++[p])=tL (iV (eZ ro (K++[p])) (ro p)) p (lI (iV (eZ ro K) (fT ro (.nil (n:Int) false) K)) p (gK (cY ro K) (ro p))):=by
 have k:(eZ ro (K++[p])).Nodup:=iP _;have y:(eZ ro K).Nodup:=iP _;apply List.ext_getElem?;intro j;have r:∀(o:Int) (f:(List Iv×Rg)->(List Iv×Rg)) (L:List (List Iv×Rg)),(if o<0 then L else L.modify o.toNat f)[j]?=(L[j]?).map fun q=>if o=(j:Int)then f q else q:=fun o f L=>by
  split
  . rename_i A;have z:¬o=(j:Int):=(by omega);simp[z]
  . rename_i A;rw[List.getElem?_modify];have:o.toNat=j↔o=(j:Int):=(by omega);simp only[this];rfl
 unfold tL lI;rw[r,r,xY,kB,cE,cE];cases hs:(eZ ro (K++[p]))[j]? with
 |none=>rfl
 |
  some s =>
  simp only[Option.map_some];congr 1;have g:=((eQ _ _).1 (aJ hs)).2;have C:iV (eZ ro (K++[p])) (ro p)=(j:Int)↔ro p=s:=by
   constructor
   . intro e;rcases gH (ro p) (eZ ro (K++[p]))with⟨a,_⟩|⟨i,a,u⟩
     . omega
     . have:i=j:=(by omega);subst this;rw[hs]at a;injection a with a;exact a.symm
   . intro e;rw[e];exact rV k hs
  have D:iV (eZ ro K) (fT ro (.nil (n:Int) false) K)=(j:Int)↔fT ro (.nil (n:Int) false) K=s:=by
   have t:∀i x,(eZ ro K)[i]?=some x->(eZ ro (K++[p]))[i]?=some x:=fun i x l=>by
    rw[kA];split
    . exact l
    . rw[List.getElem?_append_left (List.getElem?_eq_some_iff.1 l).1];exact l
   constructor
   . intro e;rcases gH (fT ro (.nil (n:Int) false) K) (eZ ro K)with⟨a,_⟩|⟨i,a,u⟩
     . omega
     . have:i=j:=(by omega);subst this;have:=t _ _ a;rw[hs]at this;injection this with this;exact this.symm
   . intro e;rcases uZ (n:=n) (K:=K) (fun q B=>v q (List.mem_append_left _ B))with d|d
     . obtain⟨i,hi⟩:=List.mem_iff_getElem?.1 d;have m:=t _ _ hi;rw[e]at m;have E:=rV k m;have F:=rV k hs;rw[rV y hi];omega
     . rw[d]at e;rw[<- e]at g;cases g
  simp only[C,D];rw[rI (n:=n) g];by_cases b:ro p=s
  . have c:fT ro (.nil (n:Int) false) K≠s:=fun e=>h (b.trans e.symm);simp[b,c]
  . by_cases c:fT ro (.nil (n:Int) false) K=s
    . simp[b,c]
    . simp[b,c]
end
def dP (r:Rg):Prop:=r.size≤64∧r.fits=true
theorem bK2 (w:Int)(f:Bool):∀L:List (List Iv×Rg),(tN w f L).fits=true↔∀q∈L,q.1.length<=64/\q.2.fits=true
 |[]=>by simp[tN,Rg.fits]
 |
  q::L=>by
  have a:=bK2 w f L;simp only[tN,Rg.fits,aI,decide_eq_true_eq,aK,forall_eq_or_imp,a]
theorem rH (w:Int)(f:Bool)(L:List (List Iv×Rg)):dP (tN w f L)↔eB L<=64/\∀q∈L,q.1.length<=64/\q.2.fits=true:=by
 unfold dP;rw[bK2,iQ,iS]
theorem uL (ro:Vl->Rg)(K:List Vl):eB (cY ro K)=((eZ ro K).map fun r=>1+r.size).sum:=by
 unfold eB;rw[kB,List.map_map];rfl
theorem aR1 (U:List Rg)(r:Rg):((U++[r]).map fun r=>1+r.size).sum=(U.map fun r=>1+r.size).sum+(1+r.size):=by simp[List.sum_append]
theorem bO8 (ro:Vl->Rg)(K:List Vl):∀R,eB (cY ro K)<=eB (cY ro (K++R)):=by
 refine zM (by simp) fun R x a=>?_;refine bI a ?_;rw[<- cH,uL,uL,kA];split
 . exact aD _
 . rw[aR1];omega
theorem bO7 (ro:Vl->Rg)(K:List Vl){s:Rg}(a:s.nix=false):∀R,(dT ro K s).length<=(dT ro (K++R) s).length:=by
 refine zM (by simp) fun R x b=>?_;refine bI b ?_;rw[<- cH,rI (n:=0) a];split
 . split
   . exact aD _
   . simp
 . split
   . rw[qH];exact aD _
   . exact aD _
theorem bC8 {n:Nat}{r:Rg}(a:eI n r)(h:r.nix=true):dP r:=by
 rw[sA n r a h];exact⟨by simp[Rg.size],rfl⟩
theorem aT3 {ro:Vl->Rg}{K:List Vl}{s:Rg}(h:s∈eZ ro K):(dT ro K s,s)∈cY ro K:=List.mem_map.2 ⟨s,h,rfl⟩
theorem bN1 {ro:Vl->Rg}{K:List Vl}{s:Rg}(h:s∈eZ ro K):1+s.size<=eB (cY ro K):=by
 rw[uL];generalize eZ ro K=U at h
 induction U with
 |nil=>cases h
 |
  cons x U ih =>
  rw[List.map_cons,List.sum_cons];rcases List.mem_cons.1 h with rfl|h
  . omega
  . have:=ih h;omega
theorem bQ9 {ro:Vl->Rg}{n:Nat}{w:Int}{K R:List Vl}{p:Vl}(d:eI n (ro p))(h:¬dP (ro p)):¬dP (tN w false (cY ro (K++p::R))):=by
 have a:(ro p).nix=false:=by
  cases a:(ro p).nix
  . rfl
  . exact absurd (bC8 d a) h
 have b:ro p∈eZ ro (K++p::R):=(eQ _ _).2 ⟨List.mem_map.2 ⟨p,by simp,rfl⟩,a⟩;rw[rH];rintro⟨e,c⟩;refine h ⟨?_,(c _ (aT3 b)).2⟩;have:=bN1 b;omega
theorem bQ8 {ro:Vl->Rg}{w:Int}{K R:List Vl}{p:Vl}(c:(ro p).nix=false)(b:ro p∉eZ ro K)(h:64<eB (cY ro K)+(1+(ro p).size)):¬dP (tN w false (cY ro (K++p::R))):=by
 rw[rH];rintro⟨d,_⟩;have a:=bO8 ro (K++[p]) R;rw[cH,List.singleton_append]at a;have e:eB (cY ro (K++[p]))=eB (cY ro K)+(1+(ro p).size):=by rw[uL,kA,if_neg (by simp[c,b]),aR1,<- uL]
 omega
theorem bQ7 {ro:Vl->Rg}{n:Nat}{w:Int}{K R:List Vl}{p:Vl}(a:(ro p).nix=false)(e:ro p≠fT ro (.nil (n:Int) false) K)(h:64<=(dT ro K (ro p)).length):¬dP (tN w false (cY ro (K++p::R))):=by
 rw[rH];rintro⟨_,c⟩;have g:ro p∈eZ ro (K++p::R):=(eQ _ _).2 ⟨List.mem_map.2 ⟨p,by simp,rfl⟩,a⟩;have d:=(c _ (aT3 g)).1;have b:=bO7 ro (K++[p]) a R;rw[cH,List.singleton_append,rI (n:=n) a,if_pos rfl,if_neg (Ne.symm e),List.length_append]at b;simp only[bL,List.length_nil]at b;simp only at d;omega
end Go.Proofs.YtnnmlhmffnfjfaaGreat
namespace Go.Proofs.YtnnmlhmffnfjfaaGreat
open Go.RowKit Go.Maps
section
variable {κ:Type}
def fW (w:World) (kT:TypeId) (kv:κ→Value) (b n:Nat) (M:κ→Option Int):Prop :=
 ∃D:DataW Unit,w.ownsMap Tryz.prog kT (plainElem Tryz.prog 3) b n D∧∀k kl,keyOf Tryz.prog kT (kv k)=some kl→Maps.has D kl=(M k).isSome∧∀c,M k=some c→D.atKey kl (.lit (.int .i64 0))=.lit (.int .i64 c)
variable {w w':World} {kT:TypeId} {kv:κ→Value} {b n:Nat} {M:κ→Option Int}
theorem fW.lt (h:fW w kT kv b n M):b<w.heap.size:=by obtain⟨D,a,_⟩:=h;exact a.lt
theorem fW.block (h:fW w kT kv b n M)(hb:w'.heap[b]?=w.heap[b]?):fW w' kT kv b n M:=by
 obtain⟨D,⟨es,a,c,d⟩,e⟩:=h;exact⟨D,⟨es,a,hb.trans c,d⟩,e⟩
theorem fW.below (h:fW w kT kv b n M)(hb:Below w w w'):fW w' kT kv b n M:=h.block (hb.block b h.lt)
theorem fW.but {S:Nat->Prop}(h:fW w kT kv b n M)(hb:But S w w')(a:¬S b):fW w' kT kv b n M:=h.block (hb.block b h.lt a)
theorem fW.mono (h:fW w kT kv b n M){n':Nat}(d:n<=n'):fW w kT kv b n' M:=by
 obtain⟨D,a,c⟩:=h;exact⟨D,a.mono d,c⟩
theorem cD1 (w:World)(kT:TypeId)(kv:κ->Value):fW (w.alloc (.map #[] 0)) kT kv w 0 (fun _=>none) :=
 ⟨.map [],World.ownsMap_made w _ _ _,fun k a _=>⟨rfl,fun c h=>by cases h⟩⟩
theorem fW.norow (h:fW w kT kv b n M)(cs:Array Value)(e:TypeId)(a:Nat×Nat):w.heap[b]?≠some (.cells cs e a):=by
 obtain⟨D,⟨es,d,c,g⟩,i⟩:=h;rw[c];intro h;injection h with h;cases h
theorem jS {P:Program}{ops:Array Oper}{rest:List Oper}{o:Oper}{a:Act}{Q:Exit->Act->World->Prop}(r:P=Tryz.prog)(s:o.guard=none)(m x:Operand)(t:TypeId)(y:o.op=Op.lookup t m x true)
 (K:Keyed Tryz.prog kT)(z:Tryz.prog.underlying t=some (.map kT 3))(u:a.eval m=.map (some b))(h:fW w kT kv b n M)(k:κ)(e:Lit)(A:a.eval x=kv k)(j:keyOf Tryz.prog kT (kv k)=some e)
 (d:wpList P ops Q rest (a.put o.dst (.tuple #[.int .i64 ((M k).getD 0),.bool (M k).isSome])) w):wpList P ops Q (o::rest) a w:=by
 subst r;obtain⟨D,l,p⟩:=h;obtain⟨g,q⟩:=p k e j;refine wpList_lookup_own_ok_int w s m x t y kT 3 .i64 K z Tryz.underlying3 (by kernel_rfl) b n D u l (kv k) e A j ?_;intro c hc _;rw[g];cases hM:M k with
 |
  none =>
  rw[hM]at g d;have i:=atKey_of_not_has (D:=D) (k:=e) g (.lit (.int .i64 0));rw[i]at hc;injection hc with hc;injection hc with _ hc;rw[<- hc];exact d
 |
  some v =>
  rw[hM]at d;have i:=q v hM;rw[i]at hc;injection hc with hc;injection hc with _ hc;rw[<- hc];exact d
set_option maxRecDepth 100000 in
theorem iO [DecidableEq κ]{P:Program}{ops:Array Oper}{rest:List Oper}{o:Oper}{a:Act}{Q:Exit->Act->World->Prop}(B:P=Tryz.prog)(C:o.guard=none)(m x v:Operand)(t:TypeId)(I:o.op=Op.mapUpdate t m x v)
 (K:Keyed Tryz.prog kT)(J:Tryz.prog.underlying t=some (.map kT 3))(G:a.eval m=.map (some b))(h:fW w kT kv b n M)(O:n<1000000)(k:κ)(p:Lit)(N:a.eval x=kv k)(i:keyOf Tryz.prog kT (kv k)=some p)
 (z:Int)(R : -9223372036854775808<=z/\z<9223372036854775808)(L:a.eval v=.int .i64 z)(F:∀d,kv d=kv k->d=k)
 (A:∀w',fW w' kT kv b (n+1) (fun d=>if d=k then some z else M d)->But (· = b) w w'->wpList P ops Q rest (a.put o.dst undef) w'):wpList P ops Q (o::rest) a w:=by
 subst B;obtain⟨D,q,y⟩:=h;refine wpList_mapUpdate_own w C m x v t I kT 3 K J _ b n D G q (by simp only[maxLen];omega) (kv k) (.int .i64 z) p N L i (.lit (.int .i64 z)) [] (plainElem_int Tryz.underlying3 (WalkArith.wf_i64 (by omega))) ?_;intro w' H E;refine A w' ⟨_,H,fun d u g=>?_⟩ (cC5 E (fun j l=>by injection l with l;exact l.symm));have r:=q.isMap;dsimp only;by_cases e:d=k
 . subst e;rw[i]at g;injection g with g;subst g;rw[if_pos rfl];exact⟨has_put_same r (K.key i) _,fun c hc=>by injection hc with hc;rw[<- hc];exact atKey_put_same r (K.key i) _ _⟩
 . have s:u≠p:=fun h=>e (F d (K.inj g (by rw[h];exact i)));rw[if_neg e,has_put_other s,atKey_put_other s];exact y d u g
end
def kv2 (k:Int×Int):Value:=.agg #[.int .i64 k.1,.int .i64 k.2]
theorem yF (k e:Int×Int)(h:kv2 e=kv2 k):e=k:=by
 obtain⟨a,b⟩:=k;obtain⟨c,d⟩:=e;simp only[kv2,Value.agg.injEq,Array.mk.injEq,List.cons.injEq,Value.int.injEq,true_and,and_true]at h;rw[h.1,h.2]
theorem wL:Keyed Tryz.prog 225:=Keyed.of_law (deep_law_laid (P:=Tryz.prog) (by kernel_rfl) (m:=2) (by omega) (of_decide_eq_true (by kernel_rfl)) (by kernel_rfl) (by rw[Tryz.underlying225]))
theorem bD5:Keyed Tryz.prog 9:=string_keyed Tryz.underlying9
theorem key2 (i k:Int)(hi : -9223372036854775808<=i/\i<9223372036854775808)(l : -9223372036854775808<=k/\k<9223372036854775808):∃e,keyOf Tryz.prog 225 (kv2 (i,k))=some e:=by
 have d:Tryz.prog.keyType 225=true:=by kernel_rfl
 have hc:Tryz.prog.cellsOf 225=2:=by kernel_rfl
 have a:Tryz.prog.cellsOf 3=1:=by kernel_rfl
 have b:(Value.agg #[.int .i64 i,.int .i64 k]).formed Tryz.prog 225=true:=by simp[Value.formed,Tryz.underlying225,hc]
 obtain⟨s,c⟩:∃s,Tryz.prog.types.size=s+1:=Nat.exists_eq_succ_of_ne_zero (Nat.pos_iff_ne_zero.1 (of_decide_eq_true (by kernel_rfl)));have g:(Lit.int .i64 i).wf=true:=WalkArith.wf_i64 (by omega);have j:(Lit.int .i64 k).wf=true:=WalkArith.wf_i64 (by omega);refine⟨.string (keyBytes [.int .i64 i,.int .i64 k]),?_⟩;unfold keyOf kv2;rw[Tryz.underlying225];simp only[d,b,Bool.and_self,if_true,c];simp[Program.keyLits,Tryz.underlying225,Tryz.underlying3,hc,a,g,j,Value.cells,List.range,List.range.loop]
end Go.Proofs.YtnnmlhmffnfjfaaGreat
namespace Go.Proofs
open Go.Shelf
def Tryz.sortE_ren:Go.Shelf.Ren:=⟨fun|6=>245|15=>168|14=>267|28=>214|29=>215|20=>277|21=>278|22=>279|23=>280|24=>281|25=>282|26=>283|27=>284|46=>286|47=>248|48=>249|49=>287|50=>288|57=>289|n=>n,fun|22=>223|24=>227|25=>263|3=>3|39=>203|0=>0|53=>238|55=>240|4=>4|46=>232|45=>231|50=>164|5=>5|9=>9|66=>264|70=>173|76=>278|77=>279|n=>n,fun|n=>n⟩
theorem cC9:Go.Proofs.SlLaysF0.n6 Tryz.prog Tryz.sortE_ren:={
 mixed:=by kernel_rfl
 f6:=⟨Tryz.f245.name,by decide,Tryz.func245.trans (congrArg some (by kernel_rfl))⟩
 f14:=⟨Tryz.f267.name,by decide,Tryz.func267.trans (congrArg some (by kernel_rfl))⟩
 f15:=Tryz.func168.trans (congrArg some (by kernel_rfl))
 f20:=⟨Tryz.f277.name,by decide,Tryz.func277.trans (congrArg some (by kernel_rfl))⟩
 f21:=⟨Tryz.f278.name,by decide,Tryz.func278.trans (congrArg some (by kernel_rfl))⟩
 f22:=⟨Tryz.f279.name,by decide,Tryz.func279.trans (congrArg some (by kernel_rfl))⟩
 f23:=⟨Tryz.f280.name,by decide,Tryz.func280.trans (congrArg some (by kernel_rfl))⟩
 f24:=⟨Tryz.f281.name,by decide,Tryz.func281.trans (congrArg some (by kernel_rfl))⟩
 f25:=⟨Tryz.f282.name,by decide,Tryz.func282.trans (congrArg some (by kernel_rfl))⟩
 f26:=⟨Tryz.f283.name,by decide,Tryz.func283.trans (congrArg some (by kernel_rfl))⟩
 f27:=⟨Tryz.f284.name,by decide,Tryz.func284.trans (congrArg some (by kernel_rfl))⟩
 f28:=Tryz.func214.trans (congrArg some (by kernel_rfl))
 f29:=Tryz.func215.trans (congrArg some (by kernel_rfl))
 f46:=⟨Tryz.f286.name,by decide,Tryz.func286.trans (congrArg some (by kernel_rfl))⟩
 f47:=Tryz.func248.trans (congrArg some (by kernel_rfl))
 f48:=Tryz.func249.trans (congrArg some (by kernel_rfl))
 f49:=⟨Tryz.f287.name,by decide,Tryz.func287.trans (congrArg some (by kernel_rfl))⟩
 f50:=⟨Tryz.f288.name,by decide,Tryz.func288.trans (congrArg some (by kernel_rfl))⟩
 f57:=⟨Tryz.f289.name,by decide,Tryz.func289.trans (congrArg some (by kernel_rfl))⟩
 t0:=Tryz.underlying0
 a0:=Tryz.isAgg0
 z0:=Tryz.sizeOf0
 v0:=Tryz.zeroValue0
 t3:=Tryz.underlying3
 a3:=Tryz.isAgg3
 z3:=Tryz.sizeOf3
 v3:=Tryz.zeroValue3
 t4:=Tryz.underlying4
 a4:=Tryz.isAgg4
 z4:=Tryz.sizeOf4
 v4:=Tryz.zeroValue4
 t5:=Tryz.underlying5
 a5:=Tryz.isAgg5
 z5:=Tryz.sizeOf5
 v5:=Tryz.zeroValue5
 t9:=Tryz.underlying9
 a9:=Tryz.isAgg9
 z9:=Tryz.sizeOf9
 v9:=Tryz.zeroValue9
 t22:=Tryz.underlying223
 a22:=Tryz.isAgg223
 z22:=Tryz.sizeOf223
 v22:=Tryz.zeroValue223
 t25:=Tryz.underlying263
 a25:=Tryz.isAgg263
 z25:=Tryz.sizeOf263
 v25:=Tryz.zeroValue263
 t39:=Tryz.underlying203
 a39:=Tryz.isAgg203
 z39:=Tryz.sizeOf203
 v39:=Tryz.zeroValue203
 t45:=Tryz.underlying231
 a45:=Tryz.isAgg231
 z45:=Tryz.sizeOf231
 v45:=Tryz.zeroValue231
 t46:=Tryz.underlying232
 a46:=Tryz.isAgg232
 z46:=Tryz.sizeOf232
 v46:=Tryz.zeroValue232
 t50:=Tryz.underlying164
 a50:=Tryz.isAgg164
 z50:=Tryz.sizeOf164
 v50:=Tryz.zeroValue164
 t53:=Tryz.underlying238
 a53:=Tryz.isAgg238
 z53:=Tryz.sizeOf238
 v53:=Tryz.zeroValue238
 t55:=Tryz.underlying240
 a55:=Tryz.isAgg240
 z55:=Tryz.sizeOf240
 v55:=Tryz.zeroValue240
 t66:=Tryz.underlying264
 a66:=Tryz.isAgg264
 z66:=Tryz.sizeOf264
 v66:=Tryz.zeroValue264
 t70:=Tryz.underlying173
 a70:=Tryz.isAgg173
 z70:=Tryz.sizeOf173
 v70:=Tryz.zeroValue173
 t76:=Tryz.underlying278
 a76:=Tryz.isAgg278
 z76:=Tryz.sizeOf278
 v76:=Tryz.zeroValue278
 t77:=Tryz.underlying279
 a77:=Tryz.isAgg279
 z77:=Tryz.sizeOf279
 v77:=Tryz.zeroValue279 }
end Go.Proofs
namespace Go.Proofs.YtnnmlhmffnfjfaaGreat
open Go.RowKit Go.Sort Go.Shelf
theorem lay_of {W w':World}(h:Lay W w'):∃q i,w'=grow (W.drewN q) i:=by
 refine⟨w'.drawn-W.drawn,w'.heap.extract W w',?_⟩;have e:w'.heap=W.heap++w'.heap.extract W w'.heap.size:=by
  apply Array.ext_getElem?;intro k;rw[Array.getElem?_append];by_cases a:k<W.heap.size
  . rw[if_pos a];exact h.bel.block k a
  . rw[if_neg a,Array.getElem?_extract];have n:=h.bel.size;split
    . congr 1;omega
    . rw[Array.getElem?_eq_none];omega
 have b:=h.bel.os;have c:=h.bel.tape;have d:=h.bel.output;have g:=h.dr;obtain⟨l,t,drawn,o,r⟩:=w';obtain⟨m,u,j,p,s⟩:=W;simp only at b c d g e;subst b c d;simp only[grow,World.drewN,World.mk.injEq,true_and,and_true];refine⟨e,?_⟩;omega
instance:Inhabited Ev:=⟨⟨bE,0,0,false⟩⟩
theorem yM (a b:Ev):sQ a b<0↔bZ a.v b.v<0\/(bZ a.v b.v=0/\a.e=false/\b.e=true):=by
 unfold sQ;have:=aD1 a.v b.v;cases a.e<;>cases b.e<;>split<;>simp_all<;>omega
theorem yN (a b:Ev):¬sQ a b<0↔bZ b.v a.v<0\/(bZ a.v b.v=0/\(b.e=true->a.e=true)):=by
 rw[yM];have j:=aD1 a.v b.v;have k:=dD a.v b.v;constructor
 . intro h;rcases Int.lt_trichotomy (bZ a.v b.v) 0 with c|c|c
   . exact absurd (.inl c) h
   . refine .inr ⟨c,fun hb=>?_⟩;cases ha:a.e
     . exact absurd (.inr ⟨c,ha,hb⟩) h
     . rfl
   . exact .inl (by omega)
 . rintro(h|⟨h,g⟩) (c|⟨c,d,i⟩)
   . omega
   . omega
   . omega
   . rw[g i]at d;cases d
theorem swoE:SWO (ltOf sQ) where
 irrefl x:=decide_eq_false (p:=sQ x x<0) (by rw[yN];exact .inr ⟨eH _,fun h=>h⟩)
 trans x y z a b:=by
  have d:=(yM x y).1 (of_decide_eq_true a);have e:=(yM y z).1 (of_decide_eq_true b);refine decide_eq_true (p:=sQ x z<0) ((yM x z).2 ?_);rcases d with a|⟨a,g,i⟩<;>rcases e with b|⟨b,c,j⟩
  . exact .inl (cV a b)
  . exact .inl (fQ a (by omega))
  . exact .inl (nQ (by omega) b)
  . rw[i]at c;cases c
 ntrans x y z a b:=by
  have d:=(yN x y).1 (of_decide_eq_false a);have e:=(yN y z).1 (of_decide_eq_false b);refine decide_eq_false (p:=sQ x z<0) ((yN x z).2 ?_);rcases d with a|⟨a,g⟩<;>rcases e with b|⟨b,c⟩
  . exact .inl (cV b a)
  . have:=(gI _ _).1 b;rw[this]at a;exact .inl a
  . have:=(gI _ _).1 a;rw[<- this]at b;exact .inl b
  . exact .inr ⟨by have:=(gI _ _).1 a;rw[this];exact b,fun h=>g (c h)⟩
theorem bZ7 {w:World}(a c size:Nat):CmpLays Tryz.prog 246 #[] Ev.cs 6 sQ a c size w:=by
 intro m i d g x y;exact(bZ8 x y _).mono fun e w' ⟨b,hl⟩=>⟨b,lay_of hl⟩
theorem bM5 {w:World}{a g m:Nat}{d:Array Ev}{i:Array Obj}{k:Nat}(b:k<w.heap.size)(c:k≠a):(sortWorldK Ev.cs 6 w a g m d i).heap[k]?=w.heap[k]?:=by
 unfold sortWorldK putRowK;rw[heap_grow_old _ _ (by simpa using b)];simp only[putRow,mapBlock,heap_ahead,Array.getElem?_modify];rw[if_neg (fun e=>c e.symm)]
theorem swk_but {w:World}{a e m:Nat}{d:Array Ev}{g:Array Obj}:But (· = a) w (sortWorldK Ev.cs 6 w a e m d g) :=
 ⟨rfl,rfl,rfl,by simp[sortWorldK,putRowK],fun k b c=>bM5 b c⟩
def SortedE (w:World) (blk off n:Nat) (es:List Ev) (w':World):Prop:=∃qs:List Ev,qs.Perm es∧qF qs∧Sl 6 Ev.cs w' (some ⟨blk,off,none⟩) n qs∧But (· = blk) w w'
theorem bM9 (a d p n:Nat)(es:List Ev)(w:World)(A:Sl 6 Ev.cs w (some ⟨a,d,none⟩) n es)(H:∀j,w.frozen? ⟨a,j,none⟩=false)(r:a<w.heap.size)(Q:n<=1000000)(M:0<n) :
 Calls Tryz.prog 245 #[.slice (some ⟨a,d,none⟩) n p,.func (.func 246) #[] #[]] w fun e w'=>e=.returned (.tuple #[])/\SortedE w a d n es w':=by
 have l:=A.len;have F:∀k x,es[k]?=some x->∀(j:Nat) (u:Value),(Ev.cs x)[j]?=some u->w.cell? ⟨a,d+k*6+j,none⟩=some u:=by obtain⟨b,o,e,hc⟩:=A.2 M;injection e with e;injection e with e1 e2;subst e1 e2;exact hc
 have q:HoldsK Ev.cs 6 w a d es.toArray:=by
  intro t B;have N:t<es.length*6:=by simpa[flatK]using B
  have y:t / 6<es.length:=(Nat.div_lt_iff_lt_mul (by omega)).2 N;have z:t % 6<6:=Nat.mod_lt _ (by omega);refine⟨?_,H _⟩;have c:=F (t / 6) _ (aN y) (t % 6) _ (aN (by rw[Ev.cs_len];exact z));rw[show d+t / 6*6+t % 6=d+t by omega]at c;rw[c];rw[getElem!_pos (flatK Ev.cs 6 es.toArray) t B];simp only[flatK,Array.getElem_map,Array.getElem_range,id_eq];rw[getElem!_pos es.toArray (t / 6) (by simpa using y),getElem!_pos _ (t % 6) (by rw[Ev.cs_len];exact z)];simp
 have g:=AnyQ.slices_SortFunc cC9 6 Tryz.isAgg227 Tryz.sizeOf227 Ev.cs Ev.cs_len aA3 sQ swoE 246 #[] a d p es.toArray w entE (bZ7 a d _) q r (by simp;omega);rw[show es.toArray.size=n by simp[l]]at g;change Calls Tryz.prog 245 _ _ _ at g;refine g.mono fun e w' ⟨G,d',m,os,hp,hs,hw⟩=>⟨G,?_⟩;have s:d'.size=n:=by rw[hp.1];simp[l]
 have E:HoldsK Ev.cs 6 w' a d d':=by rw[hw];exact SWK.holds ⟨m,os,rfl⟩ r q (by rw[s];simp[l])
 refine⟨d'.toList,?_,?_,⟨by simp[s],fun _=>⟨a,d,rfl,fun k x C j u O=>?_⟩⟩,by rw[hw];exact swk_but⟩
 . have c:=hp.2.2;rw[Array.extract_eq_self_of_le (by omega),Array.extract_eq_self_of_le (by simp;omega)]at c;simpa using c
 . refine List.pairwise_iff_getElem.2 fun i j hi K J=>?_;have I:i<d'.size:=(by simpa using hi);have L:j<d'.size:=(by simpa using K);have c:=hs i j (Nat.zero_le _) J (by omega);rw[getElem!_pos d' i I,getElem!_pos d' j L]at c;have D:¬sQ d'[j] d'[i]<0:=of_decide_eq_false c;simpa using D
 . have v:k<d'.size:=(by have:=(List.getElem?_eq_some_iff.1 C).1;simpa using this);have P:d'[k]! = x:=(by rw[getElem!_pos d' k v];have:=(List.getElem?_eq_some_iff.1 C).2;simpa using this);have c:=HoldsK.cells E Ev.cs_len v j u (by rw[P];exact O);rw[lF]at c;exact c
theorem bB6 (p:Option Addr)(a:Nat)(w:World):Calls Tryz.prog 245 #[.slice p 0 a,.func (.func 246) #[] #[]] w fun e w'=>e=.returned (.tuple #[])/\w'=w:=AnyF.slices_SortFunc_none cC9 p a (.func (.func 246) #[] #[]) w
end Go.Proofs.YtnnmlhmffnfjfaaGreat
namespace Go.Proofs.YtnnmlhmffnfjfaaGreat
open Go.RowKit
open Rg
theorem info_ev:(Tryz.prog.info? 227).map (fun i=>(i.zero,i.size,i.bytes))=some (some (.agg #[.int .i64 0,.int .i64 0,.string ⟨#[]⟩,.int .i64 0,.int .i64 0,.bool false]),6,56):=by kernel_rfl
set_option maxRecDepth 100000 in
theorem bE8 (a:Rg)(x:Int)(f:Bool)(A:Option Addr)(n c:Nat)(b:Rg)(y:Int)(g:Bool)(B:Option Addr)(m d:Nat)(w:World)(e7:RgS w x f A n c a)(e8:RgS w y g B m d b)(ha:a.fits=true)(hb:b.fits=true)(h8:n<=64)(h9:m<=64) :
 Calls Tryz.prog 204 #[.agg #[x,.bool f,.slice A n c],.agg #[y,.bool g,.slice B m d]] w fun e w'=>∃(qs:List Ev) (A':Option Addr) (c':Nat),e=.returned (.slice A' qs.length c')/\cB7 a b qs/\Sl 6 Ev.cs w' A' qs.length qs/\qs.length<=20000/\Below w w w':=by
 obtain⟨i0,hi,b7,b8,b9⟩:=info_parts info_ev;have H0:=Z e7;have H1:=Z e8;have f5:=Z ha;have f6:=Z hb;have f9:Hid (Below w w ((w.alloc (.cells #[x,.bool f,.slice A n c] 71)).alloc (.cells #[y,.bool g,.slice B m d] 71))):=Z (((Below.refl _ _).alloc (aD _) _).alloc (by simp) _);clear e7 e8 ha hb;have i1:∀w:World,(Instr.index 261 (.agg #[x,.bool f,.slice A n c,y,.bool g,.slice B m d]) zO).run Tryz.prog w=.ok (.agg #[x,.bool f,.slice A n c]) w:=fun _=>by kernel_rfl
 have i2:∀w:World,(Instr.index 261 (.agg #[x,.bool f,.slice A n c,y,.bool g,.slice B m d]) (1:Int)).run Tryz.prog w=.ok (.agg #[y,.bool g,.slice B m d]) w:=fun _=>by kernel_rfl
 go_enter Tryz.func204,Tryz.ntmps204;go_wp2;go_loopw [5,15] (fun v i wr=>∃(z:Nat) (K:Option Addr) (F:Nat) (C:List Ev),v=.slice K z F/\wr.ownsRow w 227 6 (.slice K z F) z (C.flatMap Ev.cs)/\C.length=z/\Below w w wr/\((i=zO/\C=[]/\z=0)\/(i=.int .i64 1/\C=wA 0 0 a.parts/\z<=8192)\/(i=.int .i64 2/\C=wA 0 0 a.parts++wA 1 0 b.parts/\z<=16384))) (fun _ i _=>2-(intOf i).toNat);case atStart=>exact⟨0,none,0,[],rfl,⟨by simp,.inl ⟨rfl,rfl⟩⟩,rfl,f9.out,.inl ⟨rfl,rfl,rfl⟩⟩
 case round =>
  obtain⟨z,K,F,C,rfl,X,e9,L,h6⟩:=hrel;have a6:=Z e9;clear e9;rcases h6 with⟨rfl,M,f0⟩|⟨rfl,M,f0⟩|⟨rfl,M,f0⟩
  . have V:=Z M;have W:z<=0*8192:=(by omega);have e3:=L.size;have c4:=Z (X.alloc (.cells #[x,.bool f,.slice A n c] 71));have c0:=Z (L.alloc e3 (.cells #[x,.bool f,.slice A n c] 71));clear M X L;go_wp2;go_loopw [5,22] (fun v i b5=>∃(k m:Nat) (A':Option Addr) (c':Nat) (s:List Ev),k<=n/\i=.int .i64 (k:Int)/\v=.slice A' m c'/\Hid (s=C++wA 0 0 (a.parts.take k))/\m<=0*8192+128*k/\b5.ownsRow w 227 6 (.slice A' m c') m (s.flatMap Ev.cs)/\Hid (s.length=m)/\Below w w b5) (fun _ i _=>n-(intOf i).toNat);case atStart=>exact⟨0,z,K,F,C,by omega,rfl,rfl,(by show _=_;simp[wA]),by omega,c4.out,a6,c0.out⟩
    case round =>
     obtain⟨k,m,A',c',s,hk,rfl,rfl,a2,hm,a7,a1,hb⟩:=hrel;obtain⟨b4,rfl⟩:∃b4:World,b4=wr:=⟨_,rfl⟩;have a0:=Z a7;have hsz:=hb.size;clear a7;by_cases hlt:k<n
     . obtain⟨g0,o1,p,A1,n1,c1,x1,f1,A2,n2,c2,rfl,hp,a9,e2⟩:=H0.out.at2 (aC hb) hlt;have e0:=(oH a).1 f5.out p (aJ hp);have c7:=Z (cU hp);have c9:=Z a9.vs;obtain⟨p0,p1,p2,p3,e5,U,e6⟩:=e2;have h5:n1<=64:=(by have:=U.len;omega);have c6:=Z U.len;have c8:Hid ((a.parts.take k).length=k):=(by show _=_;rw[List.length_take,cI];have:=H0.out.len;omega);clear hp e0 e5 U e6 a9;have c5:=Z (a0.out.alloc (.cells #[.slice A1 n1 c1,x1,.bool f1,.slice A2 n2 c2] 141));have Y:=Z (hb.alloc hsz (.cells #[.slice A1 n1 c1,x1,.bool f1,.slice A2 n2 c2] 141));go_wp2;go_loopw [5,30] (fun v i b6=>∃(j l:Nat) (D:Option Addr) (E:Nat) (r:List Ev),j<=n1/\i=.int .i64 (j:Int)/\v=.slice D l E/\Hid (r=s++evP 0 k (p.1.take j))/\l<=m+2*j/\b6.ownsRow w 227 6 (.slice D l E) l (r.flatMap Ev.cs)/\Hid (r.length=l)/\Below w w b6) (fun _ i _=>n1-(intOf i).toNat);case atStart=>exact⟨0,m,A',c',s,by omega,rfl,rfl,(by show _=_;simp[evP]),by omega,c5.out,a1,Y.out⟩
       case round =>
        obtain⟨j,l,D,E,r,hj,rfl,rfl,N,h4,S,H,t⟩:=hrel;by_cases d8:j<n1
        . obtain⟨b,o,u,rfl,hu,b0⟩:=(c9.out.keep (aC t)).at d8;have a3:=Z (cU hu);obtain⟨⟨P,O,Q⟩,⟨b2,b1,b3⟩,J⟩:=u;obtain⟨d0,d1,d2,d3,d4,d5,d6⟩:=IvAt.of b0;dsimp only at d0 d1 d2 d3 d4 d5 d6;clear hu b0;have h7:=t.size;go_wp2_with (first
           |(at_builtin;refine bH (by rfl) (.tmp 34) (.tmp 40) _ (by rfl) w.heap.size 227 i0 _ 6 56 Tryz.underlying223 hi b7 b8 b9 (by rfl) (by omega) (.slice D l E) l _ (by rfl) _ _ (S.alloc _) (wr.heap.size+1) (by simp) (by rfl) (by rfl) (aA3 ⟨⟨P,O,Q⟩,0,(k:Int),true⟩) (by simp only[maxLen];omega) (by omega) (by simp;omega) ?_;intro g a4 w4 a8 a5 R g4 g9;have g7:=(aT.grown (aT.new wr _ _) a5 (jH S)).cell;have e4:=R.size;clear a5)
           |(at_builtin;refine bH (by rfl) (.tmp 45) (.tmp 51) _ (by rfl) w.heap.size 227 i0 _ 6 56 Tryz.underlying223 hi b7 b8 b9 (by rfl) (by omega) (.slice (some ⟨g,0,none⟩) (l+1) a4) (l+1) _ (by rfl) _ _ a8 w4.heap.size (by rfl) (by rfl) (by rfl) (aA3 ⟨⟨b2,b1,b3⟩,0,(k:Int),false⟩) (by simp only[maxLen];omega) (by omega) (by simp at e4;omega) ?_;intro g5 g1 w5 d9 g8 d7 g6 h0))
          . go_roundw;case rel =>
             refine⟨j+1,l+1+1,_,_,r++[⟨⟨P,O,Q⟩,0,(k:Int),true⟩,⟨⟨b2,b1,b3⟩,0,(k:Int),false⟩],by omega,by go_num,rfl,?_,by omega,?_,?_,?_⟩
             . show _=_;have T:J=false:=(by simpa using ‹(!J)=true›);rw[a3.out,vK,N.out,T];simp[evI]
             . simpa[aP,Ev.cs]using d9
             . show _=_;have:=H.out;simp;omega
             . exact((t.alloc t.size _).trans R).trans d7
            case measure=>simp[intOf];omega
          . go_roundw;case rel =>
             refine⟨j+1,l+1,_,_,r++[⟨⟨P,O,Q⟩,0,(k:Int),true⟩],by omega,by go_num,rfl,?_,by omega,?_,?_,?_⟩
             . show _=_;have T:J=true:=(by simpa using ‹(!J)=false›);rw[a3.out,vK,N.out,T];simp[evI]
             . simpa[aP,Ev.cs]using a8
             . show _=_;have:=H.out;simp;omega
             . exact(t.alloc t.size _).trans R
            case measure=>simp[intOf];omega
        . go_wp2;go_roundw;case rel=>refine⟨k+1,l,D,E,r,by omega,by go_num,rfl,?_,by omega,S,H,t⟩;show _=_;have e1:p.1.take j=p.1:=bW (by have:=c6.out;omega);rw[N.out,e1,c7.out,aX5,a2.out,c8.out];simp
          case measure=>simp[intOf];omega
     . go_wp2;go_roundw;case rel=>refine⟨m,A',c',s,rfl,a0.out,a1.out,hb,.inr (.inl ⟨rfl,?_,by omega⟩)⟩;have h1:=a2.out;rw[bW (by rw[cI];have:=H0.out.len;omega),V.out]at h1;simpa using h1
       case measure=>simp[intOf]
  . have V:=Z M;have W:z<=1*8192:=(by omega);have e3:=L.size;have c4:=Z (X.alloc (.cells #[y,.bool g,.slice B m d] 71));have c0:=Z (L.alloc e3 (.cells #[y,.bool g,.slice B m d] 71));clear M X L;go_wp2;go_loopw [5,22] (fun v i b5=>∃(k I:Nat) (A':Option Addr) (c':Nat) (s:List Ev),k<=m/\i=.int .i64 (k:Int)/\v=.slice A' I c'/\Hid (s=C++wA 1 0 (b.parts.take k))/\I<=1*8192+128*k/\b5.ownsRow w 227 6 (.slice A' I c') I (s.flatMap Ev.cs)/\Hid (s.length=I)/\Below w w b5) (fun _ i _=>m-(intOf i).toNat);case atStart=>exact⟨0,z,K,F,C,by omega,rfl,rfl,(by show _=_;simp[wA]),by omega,c4.out,a6,c0.out⟩
    case round =>
     obtain⟨k,I,A',c',s,hk,rfl,rfl,a2,hm,a7,a1,hb⟩:=hrel;obtain⟨b4,rfl⟩:∃b4:World,b4=wr:=⟨_,rfl⟩;have a0:=Z a7;have hsz:=hb.size;clear a7;by_cases hlt:k<m
     . obtain⟨g0,o1,p,A1,n1,c1,x1,f1,A2,n2,c2,rfl,hp,a9,e2⟩:=H1.out.at2 (aC hb) hlt;have e0:=(oH b).1 f6.out p (aJ hp);have c7:=Z (cU hp);have c9:=Z a9.vs;obtain⟨p0,p1,p2,p3,e5,U,e6⟩:=e2;have h5:n1<=64:=(by have:=U.len;omega);have c6:=Z U.len;have c8:Hid ((b.parts.take k).length=k):=(by show _=_;rw[List.length_take,cI];have:=H1.out.len;omega);clear hp e0 e5 U e6 a9;have c5:=Z (a0.out.alloc (.cells #[.slice A1 n1 c1,x1,.bool f1,.slice A2 n2 c2] 141));have Y:=Z (hb.alloc hsz (.cells #[.slice A1 n1 c1,x1,.bool f1,.slice A2 n2 c2] 141));go_wp2;go_loopw [5,30] (fun v i b6=>∃(j l:Nat) (D:Option Addr) (E:Nat) (r:List Ev),j<=n1/\i=.int .i64 (j:Int)/\v=.slice D l E/\Hid (r=s++evP 1 k (p.1.take j))/\l<=I+2*j/\b6.ownsRow w 227 6 (.slice D l E) l (r.flatMap Ev.cs)/\Hid (r.length=l)/\Below w w b6) (fun _ i _=>n1-(intOf i).toNat);case atStart=>exact⟨0,I,A',c',s,by omega,rfl,rfl,(by show _=_;simp[evP]),by omega,c5.out,a1,Y.out⟩
       case round =>
        obtain⟨j,l,D,E,r,hj,rfl,rfl,N,h4,S,H,t⟩:=hrel;by_cases d8:j<n1
        . obtain⟨b,o,u,rfl,hu,b0⟩:=(c9.out.keep (aC t)).at d8;have a3:=Z (cU hu);obtain⟨⟨P,O,Q⟩,⟨b2,b1,b3⟩,J⟩:=u;obtain⟨d0,d1,d2,d3,d4,d5,d6⟩:=IvAt.of b0;dsimp only at d0 d1 d2 d3 d4 d5 d6;clear hu b0;have h7:=t.size;go_wp2_with (first
           |(at_builtin;refine bH (by rfl) (.tmp 34) (.tmp 40) _ (by rfl) w.heap.size 227 i0 _ 6 56 Tryz.underlying223 hi b7 b8 b9 (by rfl) (by omega) (.slice D l E) l _ (by rfl) _ _ (S.alloc _) (wr.heap.size+1) (by simp) (by rfl) (by rfl) (aA3 ⟨⟨P,O,Q⟩,1,(k:Int),true⟩) (by simp only[maxLen];omega) (by omega) (by simp;omega) ?_;intro g a4 w4 a8 a5 R g4 g9;have g7:=(aT.grown (aT.new wr _ _) a5 (jH S)).cell;have e4:=R.size;clear a5)
           |(at_builtin;refine bH (by rfl) (.tmp 45) (.tmp 51) _ (by rfl) w.heap.size 227 i0 _ 6 56 Tryz.underlying223 hi b7 b8 b9 (by rfl) (by omega) (.slice (some ⟨g,0,none⟩) (l+1) a4) (l+1) _ (by rfl) _ _ a8 w4.heap.size (by rfl) (by rfl) (by rfl) (aA3 ⟨⟨b2,b1,b3⟩,1,(k:Int),false⟩) (by simp only[maxLen];omega) (by omega) (by simp at e4;omega) ?_;intro g5 g1 w5 d9 g8 d7 g6 h0))
          . go_roundw;case rel =>
             refine⟨j+1,l+1+1,_,_,r++[⟨⟨P,O,Q⟩,1,(k:Int),true⟩,⟨⟨b2,b1,b3⟩,1,(k:Int),false⟩],by omega,by go_num,rfl,?_,by omega,?_,?_,?_⟩
             . show _=_;have T:J=false:=(by simpa using ‹(!J)=true›);rw[a3.out,vK,N.out,T];simp[evI]
             . simpa[aP,Ev.cs]using d9
             . show _=_;have:=H.out;simp;omega
             . exact((t.alloc t.size _).trans R).trans d7
            case measure=>simp[intOf];omega
          . go_roundw;case rel =>
             refine⟨j+1,l+1,_,_,r++[⟨⟨P,O,Q⟩,1,(k:Int),true⟩],by omega,by go_num,rfl,?_,by omega,?_,?_,?_⟩
             . show _=_;have T:J=true:=(by simpa using ‹(!J)=false›);rw[a3.out,vK,N.out,T];simp[evI]
             . simpa[aP,Ev.cs]using a8
             . show _=_;have:=H.out;simp;omega
             . exact(t.alloc t.size _).trans R
            case measure=>simp[intOf];omega
        . go_wp2;go_roundw;case rel=>refine⟨k+1,l,D,E,r,by omega,by go_num,rfl,?_,by omega,S,H,t⟩;show _=_;have e1:p.1.take j=p.1:=bW (by have:=c6.out;omega);rw[N.out,e1,c7.out,aX5,a2.out,c8.out];simp
          case measure=>simp[intOf];omega
     . go_wp2;go_roundw;case rel=>refine⟨I,A',c',s,rfl,a0.out,a1.out,hb,.inr (.inr ⟨rfl,?_,by omega⟩)⟩;have h1:=a2.out;rw[bW (by rw[cI];have:=H1.out.len;omega),V.out]at h1;exact h1
       case measure=>simp[intOf]
  . have V:=Z M;have c3:=Z X;have HB:=Z L;clear M X L;rcases Nat.eq_zero_or_pos z with W|W
    . subst W;have hl:=a6.out;obtain rfl:C=[]:=List.eq_nil_of_length_eq_zero hl;go_wp2_with fail;refine(bB6 K F _).mono ?_;rintro e w2 ⟨rfl,rfl⟩;go_wp2;go_ret;refine⟨[],K,F,rfl,⟨?_,List.Pairwise.nil⟩,Sl.nil,by simp,HB.out⟩;have:=V.out;unfold evs;rw[<- this]
    . obtain⟨G,a4,hv,g2,g3⟩:=c3.out.form W;obtain⟨rfl,rfl⟩:K=some ⟨G,0,none⟩/\F=a4:=(by injection hv with h1 h2 h3;exact⟨h1,h3⟩);have f4:=cC3 (cs:=Ev.cs) Ev.cs_len a6.out c3.out;have f8:=Z f4;have f7:=Z (fun q=>c3.out.frozenAt q);clear f4 hv;go_wp2_with fail;refine(bM9 G 0 F z C _ f8.out f7.out g3 (by omega) W).mono ?_;rintro e w2 ⟨rfl,qs,hq1,hq2,f2,f3⟩;have H:qs.length=z:=(by rw[hq1.length_eq];exact a6.out);have HQ:=Z (And.intro hq1 (And.intro hq2 f2));have Y:=Z (f3.below HB.out HB.out.size (by rintro k rfl;exact g2));clear hq1 hq2 f2 f3;subst H;go_wp2;go_ret;refine⟨qs,_,_,rfl,⟨?_,HQ.out.2.1⟩,HQ.out.2.2,by omega,Y.out⟩;unfold evs;rw[<- V.out];exact HQ.out.1
end Go.Proofs.YtnnmlhmffnfjfaaGreat
namespace Go.Proofs.YtnnmlhmffnfjfaaGreat
open Go.RowKit
theorem aB9 {α:Type}{sz:Nat}{cs:α->List Value}(a:∀x,(cs x).length=sz){x':α}{u:Value}{j:Nat}:∀(l:List α) (i:Nat) (x:α),l[i]?=some x->j<sz->cs x'=(cs x).set j u->(l.flatMap cs).set (i*sz+j) u=(l.set i x').flatMap cs
 |[],i,x,h,_,_=>by simp at h
 |
  y::l,0,x,h,hj,he=>by
  simp only[List.getElem?_cons_zero,Option.some.injEq]at h;subst h;rw[List.flatMap_cons,List.set_cons_zero,List.flatMap_cons,Nat.zero_mul,Nat.zero_add,List.set_append_left _ _ (by rw[a];exact hj),he]
 |
  y::l,i+1,x,h,hj,he=>by
  simp only[List.getElem?_cons_succ]at h;have b:=aB9 a l i x h hj he;rw[List.flatMap_cons,List.set_cons_succ,List.flatMap_cons,List.set_append_right _ _ (by rw[a,Nat.succ_mul];omega),<- b];congr 2;rw[a,Nat.succ_mul];omega
end Go.Proofs.YtnnmlhmffnfjfaaGreat
namespace Go.Proofs.YtnnmlhmffnfjfaaGreat
open Go.RowKit
open Rg
def uB (lo hi:Nat) (w:World) (x:Int) (f:Bool) (A:Option Addr) (n c:Nat) (r:Rg):Prop :=
 ∀w':World,(∀k,lo≤k→k<hi→w'.heap[k]?=w.heap[k]?)→RgS w' x f A n c r
theorem uB.s {lo hi:Nat}{w:World}{x:Int}{f:Bool}{A:Option Addr}{n c:Nat}{r:Rg}(h:uB lo hi w x f A n c r):RgS w x f A n c r:=h w fun _ _ _=>rfl
theorem uB.keep {lo hi:Nat}{w w':World}{x:Int}{f:Bool}{A:Option Addr}{n c:Nat}{r:Rg}(h:uB lo hi w x f A n c r)(e:∀k,lo<=k->k<hi->w'.heap[k]?=w.heap[k]?):uB lo hi w' x f A n c r :=
 fun g d=>h g fun k a b=>(d k a b).trans (e k a b)
theorem uB.wide {lo hi b a:Nat}{w:World}{x:Int}{f:Bool}{A:Option Addr}{n c:Nat}{r:Rg}(h:uB lo hi w x f A n c r)(e:b<=lo)(g:hi<=a):uB b a w x f A n c r :=
 fun w' d=>h w' fun k i j=>d k (by omega) (by omega)
theorem uB.nil {lo hi:Nat}{w:World}(x:Int)(f:Bool):uB lo hi w x f none 0 0 (.nil x f):=fun _ _=>RgS.nil x f
structure PM where
 A1:Option Addr
 n1:Nat
 c1:Nat
 vs:List Iv
 x:Int
 f:Bool
 A2:Option Addr
 n2:Nat
 c2:Nat
 r:Rg
 lo:Nat
 hi:Nat
def PM.vv (m:PM):Value:=.slice m.A1 m.n1 m.c1
def PM.cs (m:PM):List Value:=[.slice m.A1 m.n1 m.c1,.int .i64 m.x,.bool m.f,.slice m.A2 m.n2 m.c2]
def PM.pr (m:PM):List Iv×Rg:=(m.vs,m.r)
theorem PM.cs_len (m:PM):(PM.cs m).length=4:=rfl
theorem aN0 (m:PM):∀u∈PM.cs m,u.oneCell'=true:=by simp[PM.cs,Value.oneCell']
structure PM.Ok (B:Nat) (w:World) (m:PM):Prop where
 own:w.ownsRow B 187 7 m.vv m.n1 (m.vs.flatMap Iv.cs)
 len:m.vs.length=m.n1
 rg:uB m.lo m.hi w m.x m.f m.A2 m.n2 m.c2 m.r
 lo:B≤m.lo
 hi:m.hi≤w.heap.size
structure PartsIn (B:Nat) (w:World) (A:Option Addr) (n c:Nat) (ms:List PM):Prop where
 own:w.ownsRow B 141 4 (.slice A n c) n (ms.flatMap PM.cs)
 len:ms.length=n
 ok:∀ m∈ms,m.Ok B w
 apart:ms.Pairwise (fun m m'=>∀ k,m.vv.ownBlock=some k→m'.vv.ownBlock≠some k)
 far:∀ m∈ms,∀ k,m.lo≤k→k<m.hi→(Value.slice A n c).ownBlock≠some k∧∀ m'∈ms,m'.vv.ownBlock≠some k
theorem cN {w:World}{base:Nat}{e:TypeId}{size n:Nat}{v:Value}{i:List Value}(h:w.ownsRow base e size v n i){k:Nat}(a:v.ownBlock=some k):base<=k/\k<w.heap.size/\∃cs,w.heap[k]?=some (.cells cs e (0,0)):=by
 rcases h.2 with⟨rfl,_⟩|⟨g,j,b,rfl,d,c,_⟩
 . simp[Value.ownBlock]at a
 . simp only[Value.ownBlock,Option.some.injEq]at a;subst a;exact⟨d,aT.lt (T:=e) (cs:=b) c,b,c⟩
theorem fV {w:World}{i j:Nat}{b c:TypeId}{q r n1 n2:Nat}{d e:Value}{s t:List Value}(l:w.ownsRow i b q d n1 s)(m:w.ownsRow j c r e n2 t)(p:b≠c){k:Nat}(n:d.ownBlock=some k):e.ownBlock≠some k:=fun o=>by
 obtain⟨_,_,c1,g⟩:=cN l n;obtain⟨_,_,c2,a⟩:=cN m o;rw[g]at a;injection a with a;injection a with _ a;exact p a
theorem fB {w w':World}{base:Nat}{e:TypeId}{size n:Nat}{v:Value}{a:List Value}{S:Nat->Prop}(h:w.ownsRow base e size v n a)(hb:But S w w')(d:∀k,v.ownBlock=some k->¬S k):w'.ownsRow base e size v n a :=
 fJ h fun g _ c b=>hb.block g c (d g b)
theorem PM.Ok.but {B:Nat}{w w':World}{m:PM}{S:Nat->Prop}(h:m.Ok B w)(hb:But S w w')(b:∀k,m.vv.ownBlock=some k->¬S k)(c:∀k,m.lo<=k->k<m.hi->¬S k):m.Ok B w' :=
 ⟨fB h.own hb b,h.len,h.rg.keep fun k d a=>hb.block k (cC a h.hi) (c k d a),h.lo,bI h.hi hb.size⟩
theorem PartsIn.but {B:Nat}{w w':World}{A:Option Addr}{n c:Nat}{g:List PM}{S:Nat->Prop}(h:PartsIn B w A n c g)(hb:But S w w')(d:∀k,S k->k<B):PartsIn B w' A n c g :=
 ⟨fB h.own hb (fun k b a=>by have:=(cN h.own b).1;have:=d k a;omega),h.len,
  fun m e=>(h.ok m e).but hb (fun k b a=>by have:=(cN (h.ok m e).own b).1;have:=d k a;omega) (fun k b _ a=>by have:=(h.ok m e).lo;have:=d k a;omega),h.apart,h.far⟩
theorem PartsIn.below {B:Nat}{w w':World}{A:Option Addr}{n c:Nat}{a:List PM}(h:PartsIn B w A n c a)(hb:Below w w w'):PartsIn B w' A n c a:=h.but (S:=fun _=>False) (But.of_below hb) (fun _ h=>h.elim)
theorem PartsIn.add {B:Nat}{w w':World}{A A':Option Addr}{n c c':Nat}{j:List PM}(h:PartsIn B w A n c j){x:Int}{f:Bool}{A2:Option Addr}{n2 c2 lo hi:Nat}{r:Rg}
 (y:w'.ownsRow B 141 4 (.slice A' (n+1) c') (n+1) ((j++[PM.mk none 0 0 [] x f A2 n2 c2 r lo hi]).flatMap PM.cs))
 (hb:But (fun k=>(Value.slice A n c).ownBlock=some k\/k<B) w w')(v:∀k,(Value.slice A' (n+1) c').ownBlock=some k->(Value.slice A n c).ownBlock=some k\/w.heap.size<=k)
 (z:uB lo hi w x f A2 n2 c2 r)(u:B<=lo)(p:hi<=w.heap.size)(s:∀k,lo<=k->k<hi->(Value.slice A n c).ownBlock≠some k/\∀m∈j,m.vv.ownBlock≠some k) :
 PartsIn B w' A' (n+1) c' (j++[PM.mk none 0 0 [] x f A2 n2 c2 r lo hi]):=by
 have t:∀k:Nat,(PM.mk none 0 0 [] x f A2 n2 c2 r lo hi).vv.ownBlock≠some k:=fun k l=>by simp[PM.vv,Value.ownBlock]at l
 refine⟨y,by simp[h.len],fun m a=>?_,?_,fun m a k i d=>?_⟩
 . rcases List.mem_append.1 a with a|a
   . refine(h.ok m a).but hb (fun k l b=>?_) (fun k i d b=>?_)
     . rcases b with b|b
       . exact fV (h.ok m a).own h.own (by decide) l b
       . have:=(cN (h.ok m a).own l).1;omega
     . rcases b with b|b
       . exact(h.far m a k i d).1 b
       . have:=(h.ok m a).lo;omega
   . rw[bU]at a;subst a;refine⟨⟨by simp,.inl ⟨rfl,rfl⟩⟩,rfl,z.keep fun k i d=>hb.block k (cC d p) fun b=>?_,u,bI p hb.size⟩;rcases b with b|b
     . exact(s k i d).1 b
     . have C:lo<=k:=i;omega
 . refine List.pairwise_append.2 ⟨h.apart,List.pairwise_singleton _ _,fun m _ o g k _=>?_⟩;rw[bU]at g;subst g;exact t k
 . have q:k<w.heap.size/\(Value.slice A n c).ownBlock≠some k/\∀o∈j,o.vv.ownBlock≠some k:=by
    rcases List.mem_append.1 a with a|a
    . exact⟨cC d (h.ok m a).hi,h.far m a k i d⟩
    . rw[bU]at a;subst a;exact⟨cC d p,s k i d⟩
   refine⟨fun b=>?_,fun o g=>?_⟩
   . rcases v k b with e|e
     . exact q.2.1 e
     . have:=q.1;omega
   . rcases List.mem_append.1 g with g|g
     . exact q.2.2 o g
     . rw[bU]at g;subst g;exact t k
theorem PartsIn.set {B:Nat}{w w':World}{A:Option Addr}{n c j:Nat}{p:List PM}(h:PartsIn B w A n c p){m:PM}(J:p[j]?=some m){A1:Option Addr}{n1 c1:Nat}{vs:List Iv}
 (U:w'.ownsRow B 141 4 (.slice A n c) n ((p.set j { m with A1:=A1,n1:=n1,c1:=c1,vs:=vs }).flatMap PM.cs))
 (V:w'.ownsRow B 187 7 (.slice A1 n1 c1) n1 (vs.flatMap Iv.cs))(y:vs.length=n1)
 (hb:But (fun k=>(Value.slice A n c).ownBlock=some k\/m.vv.ownBlock=some k) w w')(M:∀k,(Value.slice A1 n1 c1).ownBlock=some k->m.vv.ownBlock=some k\/w.heap.size<=k) :
 PartsIn B w' A n c (p.set j { m with A1:=A1,n1:=n1,c1:=c1,vs:=vs }):=by
 have R:=(List.getElem?_eq_some_iff.1 J).1;have u:=aJ J;have I:∀i,(p.set j { m with A1:=A1,n1:=n1,c1:=c1,vs:=vs })[i]?=if i=j then some { m with A1:=A1,n1:=n1,c1:=c1,vs:=vs } else p[i]?:=fun i=>by
  rw[List.getElem?_set];by_cases e:j=i
  . subst e;simp[R]
  . rw[if_neg e,if_neg (Ne.symm e)]
 have K:∀d,d∈p.set j { m with A1:=A1,n1:=n1,c1:=c1,vs:=vs }->d={ m with A1:=A1,n1:=n1,c1:=c1,vs:=vs }\/∃i,i≠j/\p[i]?=some d:=fun d z=>by
  obtain⟨i,hi⟩:=List.mem_iff_getElem?.1 z;rw[I]at hi;split at hi
  . injection hi with hi;exact .inl hi.symm
  . exact .inr ⟨i,‹_›,hi⟩
 have L:∀(i:Nat) (d:PM),i≠j->p[i]?=some d->∀k,m.vv.ownBlock=some k->d.vv.ownBlock≠some k:=fun i d v hi k l q=>by
  have a:=List.getElem?_eq_some_iff.1 hi;have b:=List.getElem?_eq_some_iff.1 J;rcases Nat.lt_or_gt_of_ne v with y|y
  . have:=List.pairwise_iff_getElem.1 h.apart i j a.1 b.1 y k;rw[a.2,b.2]at this;exact this q l
  . have:=List.pairwise_iff_getElem.1 h.apart j i b.1 a.1 y k;rw[a.2,b.2]at this;exact this l q
 have N:∀(i:Nat) (d:PM),i≠j->p[i]?=some d->∀k,(Value.slice A1 n1 c1).ownBlock=some k->d.vv.ownBlock≠some k:=fun i d v hi k l q=>by
  rcases M k l with e|e
  . exact L i d v hi k e q
  . have:=(cN (h.ok d (aJ hi)).own q).2.1;omega
 refine⟨U,by simp[h.len],fun d z=>?_,?_,fun d z k t o=>?_⟩
 . rcases K d z with rfl|⟨i,v,hi⟩
   . have E:=h.ok m u;refine⟨V,y,E.rg.keep fun k t o=>hb.block k (cC o E.hi) fun g=>?_,E.lo,bI E.hi hb.size⟩;rcases g with g|g
     . exact(h.far m u k t o).1 g
     . exact(h.far m u k t o).2 m u g
   . have D:=aJ hi;refine(h.ok d D).but hb (fun k l g=>?_) (fun k t o g=>?_)
     . rcases g with g|g
       . exact fV (h.ok d D).own h.own (by decide) l g
       . exact L i d v hi k g l
     . rcases g with g|g
       . exact(h.far d D k t o).1 g
       . exact(h.far d D k t o).2 m u g
 . rw[List.pairwise_iff_getElem];intro F C P Q S k l q;have s:=I F;have r:=I C;rw[aN P]at s;rw[aN Q]at r;by_cases H:F=j
   . by_cases x:C=j
     . omega
     . rw[if_pos H]at s;rw[if_neg x]at r;injection s with s;rw[s]at l;exact N C _ x r.symm k l q
   . rw[if_neg H]at s;by_cases x:C=j
     . rw[if_pos x]at r;injection r with r;rw[r]at q;exact N F _ H s.symm k q l
     . rw[if_neg x]at r;have a:=List.getElem?_eq_some_iff.1 s.symm;have b:=List.getElem?_eq_some_iff.1 r.symm;have:=List.pairwise_iff_getElem.1 h.apart F C a.1 b.1 S k;rw[a.2,b.2]at this;exact this l q
 . have G:k<w.heap.size/\(Value.slice A n c).ownBlock≠some k/\∀d∈p,d.vv.ownBlock≠some k:=by
    rcases K d z with rfl|⟨i,v,hi⟩
    . exact⟨cC o (h.ok m u).hi,h.far m u k t o⟩
    . exact⟨cC o (h.ok d (aJ hi)).hi,h.far d (aJ hi) k t o⟩
   refine⟨G.2.1,fun O T=>?_⟩;rcases K O T with rfl|⟨i,v,hi⟩
   . intro g;rcases M k g with e|e
     . exact G.2.2 m u e
     . have:=G.1;omega
   . exact G.2.2 O (aJ hi)
theorem PartsIn.region {B:Nat}{w:World}{A:Option Addr}{n c:Nat}{q:List PM}(h:PartsIn B w A n c q)(x:Int):uB B w w x false A n c (tN x false (q.map PM.pr)):=by
 intro w' t;have u:w'.ownsRow B 141 4 (.slice A n c) n (q.flatMap PM.cs):=fJ h.own fun g a d _=>t g a d;have z:∀m∈q,w'.ownsRow B 187 7 m.vv m.n1 (m.vs.flatMap Iv.cs)/\RgS w' m.x m.f m.A2 m.n2 m.c2 m.r:=fun m i=>by have l:=h.ok m i;exact⟨fJ l.own fun g a d _=>t g a d,l.rg w' fun k a d=>t k (bI l.lo a) (cC d l.hi)⟩
 refine⟨w_mk _ _ _,f_mk _ _ _,hP u,by rw[<- cI,iS,List.length_map,h.len],fun y=>?_⟩;obtain⟨b,o,e,hc⟩:=(cC3 PM.cs_len h.len u).2 y;refine⟨b,o,e,tZ.of fun k p v=>?_⟩;rw[iS,cE,Option.map_eq_some_iff]at v;obtain⟨m,i,rfl⟩:=v;have s:=z m (aJ i);have j:=hc k m i;exact⟨m.A1,m.n1,m.c1,m.x,m.f,m.A2,m.n2,m.c2,⟨j 0 _ rfl,j 1 _ rfl,j 2 _ rfl,j 3 _ rfl,hP s.1,cC3 Iv.cs_len (h.ok m (aJ i)).len s.1,s.2⟩⟩
def zA (l:List Int):ByteArray:=⟨(l.map fun z=>UInt8.ofNat z.toNat).toArray⟩
theorem nV (l:List Int):(zA l).size=l.length:=by simp[zA,ByteArray.size]
theorem bB1 {z:Int}(h:0<=z/\z<=255):((UInt8.ofNat z.toNat).toNat:Int)=z:=by
 rw[UInt8.toNat_ofNat'];omega
theorem bS7 {l m:List Int}(d:∀z∈l,0<=z/\z<=255)(e:∀z∈m,0<=z/\z<=255)(h:zA l=zA m):l=m:=by
 have a:(l.map fun z=>UInt8.ofNat z.toNat)=(m.map fun z=>UInt8.ofNat z.toNat):=by have:=congrArg (fun t:ByteArray=>t.data.toList) h;simpa[zA]using this
 clear h
 induction l generalizing m with
 |nil=>cases m with|nil=>rfl|cons=>simp at a
 |
  cons x l ih =>
  cases m with
  |nil=>simp at a
  |
   cons y m =>
   simp only[List.map_cons,List.cons.injEq]at a;have c:=bB1 (d x aQ);have g:=bB1 (e y aQ);rw[a.1,g]at c;rw[ih (fun z b=>d z (aS _ b)) (fun z b=>e z (aS _ b)) a.2,<- c]
theorem bO3 {w:World}{base g m c:Nat}{l:List Int}(h:w.ownsRow base 5 1 (.slice (some ⟨g,0,none⟩) m c) m (l.flatMap yZ))(e:∀z∈l,0<=z/\z<=255)(j:l.length=m) :
 (convert 22 9 (.slice (some ⟨g,0,none⟩) m c)).run Tryz.prog w=.ok (.string (zA l)) w:=by
 have:=Lib.run_convert_whole (P:=Tryz.prog) w 22 5 9 Tryz.underlying22 Tryz.underlying5 Tryz.underlying9 g 0 (zA l) ?_ c
 . rw[nV,j]at this;exact this
 . intro i hi;rw[nV]at hi;have b:=aN hi;have a:=h.cells (g:=g) rfl i (.int .u8 l[i]) (by have:=pK aL5 l i _ 0 (.int .u8 l[i]) b rfl;simpa using this);rw[lF]at a;rw[a];congr 2;have d:(zA l)[i]'(by rw[nV];exact hi)=UInt8.ofNat (l[i]).toNat:=(by show(zA l).data[i]'(by have:=nV l;simp only[ByteArray.size]at this;omega)=_;simp[zA]);rw[d,bB1 (e _ (List.getElem_mem hi))]
theorem aJ4 {v:Vl}(h:okV v):∀z∈mC v,0<=z/\z<=255:=by
 have d:∀k,∀z∈qO v.i k,0<=z/\z<=255:=fun k=>by
  induction k with
  |zero=>intro z a;cases a
  |
   succ k ih =>
   intro z a;rcases List.mem_append.1 a with a|a
   . exact ih z a
   . rw[bU]at a;subst a;unfold pE;omega
 intro z a;simp only[mC,List.mem_append,aK,aH,or_false]at a;have c:=h.1;have e:=h.2;rcases a with((rfl|a)|rfl)|a
 . exact c
 . exact d 8 z a
 . omega
 . unfold txB at a;obtain⟨b,_,rfl⟩:=List.mem_map.1 a;have:=UInt8.toNat_lt b;omega
theorem wQ:∀ {r:Rg},kU r->r.size<=64->∀z∈aF3 r,0<=z/\z<=255
 |.nil _ _,_,_,z,a=>by cases a
 |
  .cons vs rest tail,ho,hs,z,a=>by
  simp only[Rg.size]at hs;simp only[aF3,List.mem_append,aK,aH,or_false,List.mem_flatMap]at a;have d:=ho.1;have e:=eK rest;have c:∀f,0<=xT f/\xT f<=255:=fun f=>by cases f<;>simp[xT]
  rcases a with((rfl|⟨x,b,a⟩)|((rfl|rfl)|a))|a
  . omega
  . rcases List.mem_append.1 a with a|a
    . exact aJ4 (ho.2.1 x b).1 z a
    . exact aJ4 (ho.2.1 x b).2 z a
  . exact c _
  . omega
  . exact wQ ho.2.2.1 (by omega) z a
  . exact wQ ho.2.2.2 (by omega) z a
theorem wP {r:Rg}(b:kU r)(c:r.size<=64):∀z∈nP r,0<=z/\z<=255:=fun z a=>by
 simp only[nP,List.mem_append,aK,aH,or_false]at a;have d:=eK r;rcases a with(rfl|rfl)|a
 . cases r.f<;>simp[xT]
 . omega
 . exact wQ b c z a
def oK (r:Rg):ByteArray:=zA (nP r)
theorem bS0 {n:Nat}{a b:Rg}(c:eI n a)(hb:eI n b)(g:kD a)(i:kD b)(d:dP a)(e:dP b)(h:oK a=oK b):a=b :=
 bZ2 c hb g i (bS7 (wP (qX n a c d.2) d.1) (wP (qX n b hb e.2) e.1) h)
theorem bR9 {n:Nat}{r:Rg}(h:eI n r)(i:dP r):(oK r).size<=640002:=by
 rw[oK,nV];have:=aC5 (qX n r h i.2);have:=i.1;omega
theorem aO7 (op:Bool->Bool->Bool):∀(n:Nat) (a b:Rg),kD a->kD b->kD (comb op n a b)
 |0,_,_,_,_=>trivial
 |
  n+1,a,b,ha,hb=>by
  have k:∀(r:Rg) (v:Vl),kD r->kD (r.at_ (n:Int) v):=fun r v j=>by
   rcases lJ (n:Int) v r with⟨p,g,_,e⟩|⟨e,_⟩
   . rw[e];exact(j.mem g).2
   . rw[e];trivial
  have B:pV bE:=⟨by decide,by decide⟩;have u:∀v∈kI a b,pV v:=fun v i=>by
   obtain⟨l,d,A⟩:=((lO (dU a++dU b)).2 v).1 i;have:∀r:Rg,kD r->l∈dU r->pV v:=fun r j d=>by
    obtain⟨p,g,rfl⟩:=List.mem_map.1 d;obtain⟨x,c,h⟩:=oD.1 A;have:=(j.mem g).1 x c;rcases h with rfl|⟨_,rfl⟩
    . exact this.1
    . exact this.2
   rcases List.mem_append.1 d with d|d
   . exact this a ha d
   . exact this b hb d
  have o:∀P:List Vl,(∀v∈P,pV v)->∀x∈dS P,pV x.f/\pV x.t:=by
   intro P
   induction P using dS.induct with
   |case1=>intro _ x c;cases c
   |case2 y=>intro h x c;simp only[dS,bU]at c;subst c;exact⟨h y (by simp),B⟩
   |
    case3 y z P ih =>
    intro h x c;simp only[dS,aK]at c;rcases c with rfl|c
    . exact⟨h y (by simp),h z (by simp)⟩
    . exact ih (fun v i=>h v (by simp[i])) x c
  refine kD.of fun p g=>?_;obtain⟨r,s,rfl⟩:=List.mem_map.1 g;refine⟨o _ fun v i=>u v ((mM _ _ _).1 v i),?_⟩;obtain⟨m,_⟩:=(eQ r _).1 s;obtain⟨q,_,rfl⟩:=List.mem_map.1 m;exact aO7 op n _ _ (k a q ha) (k b q hb)
end Go.Proofs.YtnnmlhmffnfjfaaGreat
namespace Go.Proofs.YtnnmlhmffnfjfaaGreat
open Go.RowKit
inductive Plan where
 | last (qs:List Nat)
 | fin (qs:List Nat) (e:Nat)
 | one (qs:List Nat) (e:Nat) (t:Plan)
 | two (qs:List Nat) (e1:Nat) (t1:Plan) (e2:Nat) (t2:Plan)
def Plan.len:Plan→Nat
 |.last qs=>qs.length
 |.fin qs _=>qs.length+1
 |.one qs _ t=>qs.length+(t.len+1)
 |.two qs _ t1 _ _=>qs.length+(t1.len+1)
def Plan.store:Plan→Nat→Nat
 |.last _,d=>d
 |.fin _ e,_=>e
 |.one _ _ t,d=>t.store d
 |.two _ _ t1 _ _,d=>t1.store d
def bE4 (fin:Nat) (ops:Array Oper) (i:Nat):Bool:=match ops[fin]? with
 |none=>true
 |some o=>o.after.any (fun e=>Region.binds .any e&&e.on == i)
theorem xM {fin:Nat}{ops:Array Oper}{i:Nat}(h:bE4 fin ops i=true):∀o,ops[fin]?=some o->∃e∈o.after,Region.binds .any e=true/\e.on=i:=fun o c=>by
 unfold bE4 at h;rw[c]at h;simp only[Array.any_eq_true']at h;obtain⟨e,b,a⟩:=h;simp only[aI,beq_iff_eq]at a;exact⟨e,b,a⟩
def qZ (fin:Nat) (ops:Array Oper):List Nat→Array Bool→Option (Array Bool)
 |[],listed=>some listed
 |i::r,listed=>if kJ ops i&&(Region.ready .any ops listed).contains i&&Region.free .any ops listed i&&bE4 fin ops i then qZ fin ops r (listed.setIfInBounds i true)else none
section
variable {P:Program} {ops:Array Oper} {Q:Exit→Act→World→Prop} {md:Region.Mode} {S:Nat→Prop} {fin:Nat}
def sX (fin:Nat) (S:Nat→Prop) (P:Program) (md:Region.Mode) (ops:Array Oper) (Q:Exit→Act→World→Prop):Nat→Array Bool→Act→World→Prop
 |0,listed,a,w=>Region.ready md ops listed=[]∧Q .normal a w
 |
  fuel+1,listed,a,w =>
  (Region.ready md ops listed=[]→Q .normal a w) ∧
  ∀i∈Region.ready md ops listed,wpOp P ops Q i (fun a' w'=>(i≠fin→But S w w')∧sX fin S P md ops Q fuel (listed.setIfInBounds i true) a' w') a w
theorem yP:∀(fuel:Nat) (b:Array Bool) (a:Act) (w:World),sX fin S P md ops Q fuel b a w->wpAny P md ops Q fuel b a w
 |0,_,_,_,h=>h
 |fuel+1,_,_,_,h=>⟨h.1,fun i hi=>wpOp_mono (fun a' w' c=>yP fuel _ a' w' c.2) (h.2 i hi)⟩
theorem uC {i:Nat}{p:Oper}{v:Value}(hi:ops[i]?=some p)(E:∀(j:Nat) (o:Oper) cs b,ops[j]?=some o->o.op≠.select cs b)
 (J:∀c a w,Q (.panic c) (a.put p.dst v) w->Q (.panic c) a w)(U:∀o,ops[fin]?=some o->∃e∈o.after,Region.binds md e=true/\e.on=i) :
 ∀
  (fuel:Nat) (d:Array Bool) (a:Act) (w:World),
  (∀j l,ops[j]?=some l->j≠i->d.getD j true=false->(∀e∈l.after,Region.binds md e=true->e.on≠i)->p.apart ops l=true) ->
  i∈Region.ready md ops d->YieldsIf P ops (fun W=>But S w W) p v a ->
  sX fin S P md ops Q fuel (d.setIfInBounds i true) (a.put p.dst v) w->sX fin S P md ops Q (fuel+1) d a w:=by
 intro fuel
 induction fuel with
 |
  zero =>
  intro d a w _ n u H;refine⟨fun h=>(by rw[h]at n;cases n),fun j s=>?_⟩;by_cases g:j=i
  . subst g;exact u.wpOp hi (But.refl _ _) ⟨fun _=>But.refl _ _,H⟩
  . have:=ready_mono s g;rw[H.1]at this;cases this
 |
  succ fuel ih =>
  intro d a w z n u H;refine⟨fun h=>(by rw[h]at n;cases n),fun j s=>?_⟩;by_cases g:j=i
  . subst g;exact u.wpOp hi (But.refl _ _) ⟨fun _=>But.refl _ _,H⟩
  . have m:=H.2 j (ready_mono s g);obtain⟨C,l,t,L⟩:=mem_ready.1 s;have D:∀e∈l.after,Region.binds md e=true->e.on≠i:=fun e M hb T=>by
     have m:=L e M hb;have y:=(mem_ready.1 n).1;rw[T]at m;rcases cJ i d.size with x|x
     . simp[x]at y m;rw[y]at m;cases m
     . simp[Array.getElem?_eq_none x]at m
    have I:=wpOp_putIf t (z j l t g C D) (fun cs b=>E i p cs b hi) (fun cs b=>E j l cs b t) J u m;have V:∀k q,ops[k]?=some q->k≠i->(d.setIfInBounds j true).getD k true=false ->
     (∀e∈q.after,Region.binds md e=true->e.on≠i)->p.apart ops q=true:=fun k q X Y F a0=>by
     refine z k q X Y ?_ a0;by_cases B:j=k
     . subst B;exact C
     . rw[getD_set_ne true B]at F;exact F
    have A:j≠fin:=fun e=>(by subst e;obtain⟨G,N,O,R⟩:=U l t;exact D G N O R);refine wpOp_mono (fun a' w' r=>⟨fun _=>r.2.1 A,ih (d.setIfInBounds j true) a' w' V (ready_mono n (Ne.symm g)) (cC6 (fun W K=>But.trans (r.2.1 A) K) r.1) ?_⟩) I;rw[Array.setIfInBounds_comm _ _ g];exact r.2.2
theorem iZ (j:Region.noSelect ops=true)(g:∀c a d v w,Q (.panic c) (Act.put a d v) w->Q (.panic c) a w){K:Act->Prop}{w:World}{fuel:Nat}{l':Array Bool}
 (l:∀a,K a->sX fin S P .any ops Q fuel l' a w) :
 ∀(p:List Nat) (b:Array Bool) (a:Act),qZ fin ops p b=some l'->wpQuiet P ops (bZ9 S w) K (dE ops p) a->sX fin S P .any ops Q (p.length+fuel) b a w
 |
  [],b,a,hc,h=>by
  simp only[qZ,Option.some.injEq]at hc;subst hc;simp only[List.length_nil,Nat.zero_add];exact l a h
 |
  i::r,b,a,hc,h=>by
  unfold qZ at hc;split at hc
  . rename_i q;simp only[aI]at q;obtain⟨⟨⟨m,u⟩,t⟩,s⟩:=q;cases hi:ops[i]? with
    |none=>simp[kJ,hi]at m
    |
     some o =>
     simp only[kJ,hi]at m;have F:dE ops (i::r)=o::dE ops r:=(by simp[dE,eS,hi]);rw[F]at h;unfold wpQuiet at h;have E:(i::r).length+fuel=(r.length+fuel)+1:=(by simp;omega);rw[E];by_cases k:Region.wanted o (yielded ops a.tmps)=true
     . rw[if_pos k]at h;obtain⟨v,A,B⟩:=h;refine uC hi (Region.noSelect_spec j) (fun c a w=>g c a _ _ w) (xM s) _ b a w (Region.free_spec hi t) (by simpa using u) (v:=v) (.inl ⟨k,fun W C=>?_⟩) (iZ j g l r _ _ hc B);have e:=A W (aZ2.2 C);have D:=nM o m a.eval P W;unfold Oper.quietAt at e;generalize (execOp a.eval o).run P W=G at *;cases G with
       |
        ok n w' =>
        cases n<;>simp only[Oper.quietUpon]at e<;>simp only[hZ]at D;obtain⟨y,z⟩:=e;rw[y,z]
       |halt x w'=>simp only[Oper.quietUpon]at e
     . rw[if_neg k]at h;exact uC hi (Region.noSelect_spec j) (fun c a w=>g c a _ _ w) (xM s) _ b a w (Region.free_spec hi t) (by simpa using u) (v:=undef) (.inr ⟨by simpa using k,rfl⟩) (iZ j g l r _ _ hc h)
  . cases hc
def pO (fin:Nat) (ops:Array Oper):Plan→Array Bool→Bool
 |
  .last qs,listed=>match qZ fin ops qs listed with
  |some l=>(Region.ready .any ops l).isEmpty
  |none=>false
 |
  .fin qs e,listed=>match qZ fin ops qs listed with
  |some l=>(Region.ready .any ops l == [e])&&(decide (e<ops.size)&&(decide (e=fin)&&(Region.ready .any ops (l.setIfInBounds e true)).isEmpty))
  |none=>false
 |
  .one qs e t,listed=>match qZ fin ops qs listed with
  |some l=>(Region.ready .any ops l == [e])&&(decide (e<ops.size)&&pO fin ops t (l.setIfInBounds e true))
  |none=>false
 |
  .two qs e1 t1 e2 t2,listed=>match qZ fin ops qs listed with
  |some l=>(Region.ready .any ops l == [e1,e2])&&(decide (e1<ops.size)&&(decide (e2<ops.size)&&(decide (t1.len=t2.len)&&(pO fin ops t1 (l.setIfInBounds e1 true)&&pO fin ops t2 (l.setIfInBounds e2 true)))))
  |none=>false
def bB (S:Nat→Prop) (P:Program) (ops:Array Oper) (Q:Exit→Act→World→Prop):Plan→Act→World→Prop
 |.last qs,a,w=>wpQuiet P ops (fun W=>∃x:LaterS S w,W=dG S w x) (fun a'=>Q .normal a' w) (dE ops qs) a
 |.fin qs e,a,w=>wpQuiet P ops (fun W=>∃x:LaterS S w,W=dG S w x) (fun a'=>wpList P ops (Exit.then (fun a'' w'=>Q .normal a'' w') Q) [eS ops e] a' w) (dE ops qs) a
 |.one qs e t,a,w=>wpQuiet P ops (fun W=>∃x:LaterS S w,W=dG S w x) (fun a'=>wpList P ops (Exit.then (fun a'' w'=>But S w w'∧bB S P ops Q t a'' w') Q) [eS ops e] a' w) (dE ops qs) a
 |.two qs e1 t1 e2 t2,a,w=>wpQuiet P ops (fun W=>∃x:LaterS S w,W=dG S w x) (fun a'=>wpList P ops (Exit.then (fun a'' w'=>But S w w'∧bB S P ops Q t1 a'' w') Q) [eS ops e1] a' w∧wpList P ops (Exit.then (fun a'' w'=>But S w w'∧bB S P ops Q t2 a'' w') Q) [eS ops e2] a' w) (dE ops qs) a
theorem jP {e:Nat}(h:e<ops.size):ops[e]?=some (eS ops e):=by
 unfold eS;rw[Array.getElem?_eq_getElem h];rfl
theorem uU (o:Region.noSelect ops=true)(m:∀c a d v w,Q (.panic c) (Act.put a d v) w->Q (.panic c) a w) :
 ∀(t:Plan) (b:Array Bool) (a:Act) (w:World),pO fin ops t b=true->bB S P ops Q t a w->sX fin S P .any ops Q t.len b a w
 |
  .last qs,b,a,w,hc,h=>by
  unfold pO at hc;split at hc
  . rename_i l n;exact iZ o m (fuel:=0) (fun a' g=>⟨by simpa using hc,g⟩) qs b a n h
  . cases hc
 |
  .fin qs e,b,a,w,hc,h=>by
  unfold pO at hc;split at hc
  . rename_i l n;simp only[aI,beq_iff_eq,decide_eq_true_eq]at hc;refine iZ o m (fuel:=0+1) (fun a' g=>?_) qs b a n h;refine⟨fun j=>(by rw[hc.1]at j;cases j),fun i hi=>?_⟩;rw[hc.1]at hi;have q:i=e:=(by simpa using hi);subst q;exact wpOp_mono (fun p w' k=>⟨fun y=>absurd hc.2.2.1 y,by simpa using hc.2.2.2,k⟩) (gN (jP hc.2.1) g)
  . cases hc
 |
  .one qs e t,b,a,w,hc,h=>by
  unfold pO at hc;split at hc
  . rename_i l n;simp only[aI,beq_iff_eq,decide_eq_true_eq]at hc;refine iZ o m (fuel:=t.len+1) (fun a' g=>?_) qs b a n h;refine⟨fun j=>(by rw[hc.1]at j;cases j),fun i hi=>?_⟩;rw[hc.1]at hi;have q:i=e:=(by simpa using hi);subst q;exact wpOp_mono (fun p w' ⟨hb,k⟩=>⟨fun _=>hb,uU o m t _ p w' hc.2.2 k⟩) (gN (jP hc.2.1) g)
  . cases hc
 |
  .two qs e1 t1 e2 t2,b,a,w,hc,h=>by
  unfold pO at hc;split at hc
  . rename_i l n;simp only[aI,beq_iff_eq,decide_eq_true_eq]at hc;obtain⟨c1,c2,r,s,u,x⟩:=hc;refine iZ o m (fuel:=t1.len+1) (fun a' g=>?_) qs b a n h;refine⟨fun j=>(by rw[c1]at j;cases j),fun i hi=>?_⟩;rw[c1]at hi;rcases List.mem_cons.1 hi with rfl|hi
    . exact wpOp_mono (fun p w' ⟨hb,k⟩=>⟨fun _=>hb,uU o m t1 _ p w' u k⟩) (gN (jP c2) g.1)
    . have q:i=e2:=(by simpa using hi);subst q;exact wpOp_mono (fun p w' ⟨hb,k⟩=>⟨fun _=>hb,by rw[s];exact uU o m t2 _ p w' x k⟩) (gN (jP r) g.2)
  . cases hc
theorem bQ {id:Nat}{a:Act}{w:World}{l:List Oper}(S:Nat->Prop)(t:Plan)
 (h:bB S P l.toArray Q t a w.drew)
 (g:P.follows .mixedOrders=true:=by kernel_rfl)
 (hc:(Region.noSelect l.toArray&&(pO (t.store l.toArray.size) l.toArray t (Array.replicate l.toArray.size false)&&decide (t.len=l.toArray.size)))=true:=by kernel_rfl)
 (e:∀c a d v w,Q (.panic c) (Act.put a d v) w->Q (.panic c) a w:=by intro _ _ d _ _ h;cases d<;>exact h) :
 (Code.region id l.toArray true).wp P Q a w:=by
 simp only[aI,decide_eq_true_eq]at hc;refine wp_region_any g ?_;have b:=uU hc.1 e t _ a _ hc.2.1 h;rw[hc.2.2]at b;exact yP _ _ _ _ b
end
end Go.Proofs.YtnnmlhmffnfjfaaGreat
