/- Texts on which the walk stands. -/
import Derived.Test.YtnnmlhmffnfjfaaGreatC8
import Derived.Deep.Cut
open Go renaming wpQuiet_nil → aA, bodyPost_ret → aF
open Go.RowKit.Below renaming refl → aB
open Nat renaming le_refl → aD, le_trans → bI, add_zero → bX
open Bool renaming and_eq_true → aI, eq_iff_iff → bV
open List renaming mem_of_getElem? → aJ, mem_cons_self → aQ, mem_cons_of_mem → aS, drop_eq_nil_of_le → aU, length_cons → bL, getElem?_map → cE, length_append → cF
open Go.World renaming size_alloc → aX
open Int renaming toNat_natCast → bM, eq_ofNat_of_zero_le → bO, lt_or_le → cD
set_option maxHeartbeats 8000000
set_option linter.unusedVariables false
set_option maxRecDepth 100000
namespace Go.Proofs.YtnnmlhmffnfjfaaGreat
open Go.RowKit
open Rg
theorem aS9 {w:World}{b i:Nat}{v:Value}(h:w.cell? ⟨b,i,none⟩=some v):∃cs e a,w.heap[b]?=some (.cells cs e a):=by
 unfold World.cell? at h;split at h
 . rename_i cs e a c;exact⟨_,_,_,c⟩
 all_goals(simp at h)
theorem bE9 {w:World}{A:Option Addr}{n:Nat}{j:List Ev}(h:Sl 6 Ev.cs w A n j){b:Nat}{T:TypeId}{cs:Array Value}(hb:aT w b T cs)(hc:cs.size<=3):0<n->∀b' o,A=some ⟨b',o,none⟩->b'≠b:=fun i b' o d e=>by
 obtain⟨k,m,x,a,l,g⟩:=h.at i;rw[d]at a;injection a with a;injection a with e1 e2;subst e1 e;have c:=g 5 (.bool x.e) rfl;rw[hb.cell]at c;have:=(Array.getElem?_eq_some_iff.1 c).1;omega
theorem bZ0 {κ:Type}{w:World}{A:Option Addr}{n:Nat}{p:List Ev}(h:Sl 6 Ev.cs w A n p){k:TypeId}{l:κ->Value}{b m:Nat}{M:κ->Option Int}(hb:fW w k l b m M):0<n->∀b' o,A=some ⟨b',o,none⟩->b'≠b:=fun i b' o d e=>by
 obtain⟨q,s,x,a,r,g⟩:=h.at i;rw[d]at a;injection a with a;injection a with e1 e2;subst e1 e;obtain⟨cs,e,c,j⟩:=aS9 (g 5 (.bool x.e) rfl);exact hb.norow cs e c j
theorem oT {r:Rg}(h:dP r):r.len<=64:=bI (eK r) h.1
theorem GF.side {g:GC}{w c:World}{S:Nat->Prop}(h:GF g w)(hb:But S w c)(b:∀q,S q->g.h+13<=q):GF g c:=by
 have a:=h.hB;have n:∀q,q<g.h+13->¬S q:=fun q i e=>by have:=b q e;omega
 exact⟨hb.below h.bel h.bel.size (fun k d=>by have:=b k d;omega),h.ba.but hb (n _ (by omega)),h.bb.but hb (n _ (by omega)),h.bp.but hb (n _ (by omega)),h.bo.but hb (n _ (by omega)),h.bk.but hb (n _ (by omega)),h.bc.but hb (n _ (by omega)),⟨a.1,bI a.2 hb.size⟩⟩
theorem GS.side {g:GC}{w k:World}{A:Option Addr}{n c:Nat}{i:List PM}{j:Nat}{d:Int×Int->Option Int}{e:ByteArray->Option Int}{S:Nat->Prop}(h:GS g w A n c i j d e)(hb:But S w k)(b:∀q,S q->g.h+13<=q/\q<g.B):GS g k A n c i j d e:=by
 have n:∀q,q<g.h+13->¬S q:=fun q a l=>by have:=(b q l).1;omega
 exact⟨h.fx.side hb (fun q a=>(b q a).1),h.km.but hb (n _ (by omega)),h.cm.but hb (n _ (by omega)),h.tot.but hb (n _ (by omega)),h.out.but hb (n _ (by omega)),h.parts.but hb (fun q a=>(b q a).2),h.k1,h.k2,h.good,h.size,h.nodup⟩
theorem xA {a c:List PM}(h:c.map PM.r=a.map PM.r):eB (c.map PM.pr)=eB (a.map PM.pr):=by
 have b:∀a:List PM,eB (a.map PM.pr)=((a.map PM.r).map fun r=>1+r.size).sum:=fun a=>by unfold eB;rw[List.map_map,List.map_map];rfl
 rw[b,b,h]
theorem GS.revals {g:GC}{w i:World}{A:Option Addr}{n c:Nat}{b d:List PM}{p:Nat}{j:Int×Int->Option Int}{k:ByteArray->Option Int}{S:Nat->Prop}(h:GS g w A n c b p j k)(hb:But S w i)(l:∀q,S q->g.B<=q)(u:PartsIn g.B i A n c d)(a:d.map PM.r=b.map PM.r):GS g i A n c d p j k:=by
 have y:=h.fx.hB;have n:∀q,q<g.h+13->¬S q:=fun q o v=>by have:=l q v;omega
 refine⟨h.fx.side hb (fun q o=>by have:=l q o;omega),h.km.but hb (n _ (by omega)),h.cm.but hb (n _ (by omega)),by rw[xA a];exact h.tot.but hb (n _ (by omega)),h.out.but hb (n _ (by omega)),u,by rw[a];exact h.k1,by rw[a];exact h.k2,fun m s=>?_,by rw[xA a];exact h.size,by rw[a];exact h.nodup⟩;have:m.r∈b.map PM.r:=by rw[<- a];exact List.mem_map.2 ⟨m,s,rfl⟩
 obtain⟨x,t,e⟩:=List.mem_map.1 this;rw[<- e];exact h.good x t
structure CFr (h B exb:Nat) (x:Ev) (i0 i1:Int) (bl ol:Nat) (qs:List Ev) (w0 w:World):Prop where
 ex:aT w exb 227 #[.int .i64 x.v.k,.int .i64 x.v.i,.string x.v.t,.int .i64 x.s,.int .i64 x.p,.bool x.e]
 cu:aT w (B - 1) 225 #[.int .i64 i0,.int .i64 i1]
 rb:aT w (h+2) 71 #[.int .i64 0,.bool false,.slice none 0 0]
 sl:Sl 6 Ev.cs w (some ⟨bl,ol,none⟩) qs.length qs
 be:Below h w0 w
 bl:bl<B
 hB:h+13≤B∧B≤exb∧exb<w.heap.size∧h≤w.heap.size
theorem CFr.but {h B c:Nat}{x:Ev}{k l:Int}{i m:Nat}{p:List Ev}{w0 w r:World}{S:Nat->Prop}(f:CFr h B c x k l i m p w0 w)(hb:But S w r)(e:∀q,S q->B<=q/\q≠c):CFr h B c x k l i m p w0 r:=by
 have a:=f.hB;have n:∀q,q<B->¬S q:=fun q j g=>by have:=(e q g).1;omega
 exact⟨f.ex.but hb (fun g=>(e _ g).2 rfl),f.cu.but hb (n _ (by omega)),f.rb.but hb (n _ (by omega)),f.sl.but hb (fun _ b o d=>by injection d with d;injection d with h1 h2;rw[<- h1];exact n _ f.bl),hb.below f.be a.2.2.2 (fun q j=>by have:=(e q j).1;omega),f.bl,⟨a.1,a.2.1,Nat.lt_of_lt_of_le a.2.2.1 hb.size,bI a.2.2.2 hb.size⟩⟩
theorem set_cs {a:List PM}{j:Nat}{m:PM}(b:a[j]?=some m)(vs:List Iv):(a.set j { m with A1:=m.A1,n1:=m.n1,c1:=m.c1,vs:=vs }).flatMap PM.cs=a.flatMap PM.cs:=by
 have:∀(L:List PM) (j:Nat),L[j]?=some m->(L.set j { m with A1:=m.A1,n1:=m.n1,c1:=m.c1,vs:=vs }).flatMap PM.cs=L.flatMap PM.cs:=by
  intro L
  induction L with
  |nil=>intro j h;simp at h
  |
   cons y L ih =>
   intro j h;cases j with
   |
    zero =>
    simp only[List.getElem?_cons_zero,Option.some.injEq]at h;subst h;rfl
   |
    succ j =>
    simp only[List.getElem?_cons_succ]at h;rw[List.set_cons_succ,List.flatMap_cons,List.flatMap_cons,ih j h]
 exact this a j b
theorem bH4 {β:Type}{a:List PM}{j:Nat}{m c:PM}(f:PM->β)(b:a[j]?=some m)(h:f c=f m):(a.set j c).map f=a.map f:=by
 apply List.ext_getElem?;intro i;rw[cE,List.getElem?_set,cE];have d:=(List.getElem?_eq_some_iff.1 b).1;by_cases e:j=i
 . subst e;rw[if_pos rfl,if_pos d,b];simp[h]
 . rw[if_neg e]
theorem tG {a:List PM}{j:Nat}{m c:PM}{f:(List Iv×Rg)->(List Iv×Rg)}(b:a[j]?=some m)(h:PM.pr c=f (PM.pr m)):(a.set j c).map PM.pr=(a.map PM.pr).modify j f:=by
 apply List.ext_getElem?;intro i;rw[cE,List.getElem?_set,List.getElem?_modify,cE];have d:=(List.getElem?_eq_some_iff.1 b).1;by_cases e:j=i
 . subst e;rw[if_pos rfl,if_pos d,b];simp[h]
 . simp only[if_neg e];cases a[i]?<;>rfl
theorem CSt.open_part {g:GC}{e:List Ev}{k:Nat}{K:List Vl}{d:List PM}{j:Nat}(h:CSt g e k K d (j:Int))(r:Rg):(gK (cY g.at_ K) r)[j]?=some (dT g.at_ K (fT g.at_ (.nil (g.N:Int) false) K),fT g.at_ (.nil (g.N:Int) false) K)/\dT g.at_ K (fT g.at_ (.nil (g.N:Int) false) K)≠[]:=by
 have l:=h.op;rcases gH (fT g.at_ (.nil (g.N:Int) false) K) (eZ g.at_ K)with⟨a,_⟩|⟨i,a,m⟩
 . omega
 . have:i=j:=(by omega);subst this;have b:(cY g.at_ K)[i]?=some (dT g.at_ K (fT g.at_ (.nil (g.N:Int) false) K),fT g.at_ (.nil (g.N:Int) false) K):=(by rw[kB,cE,a];rfl);obtain⟨y,c⟩:=nN (aJ a);refine⟨?_,(yE c).1⟩;unfold gK;split
   . exact b
   . rw[List.getElem?_append_left (List.getElem?_eq_some_iff.1 b).1];exact b
theorem bW3 {ro:Vl->Rg}{K:List Vl}{p:Vl}{j:Nat}(h:(j:Int)=iV (eZ ro (K++[p])) (ro p)):(gK (cY ro K) (ro p))[j]?=some (dT ro K (ro p),ro p):=by
 rcases gH (ro p) (eZ ro (K++[p]))with⟨a,_⟩|⟨i,a,b⟩
 . omega
 . have:i=j:=(by omega);subst this;rw[xY,cE,a];rfl
theorem aZ3 {o:Int}{p:Vl}{L:List (List Iv×Rg)}{j:Nat}(h:(j:Int)≠o):(lI o p L)[j]?=L[j]?:=by
 unfold lI;split
 . rfl
 . rw[List.getElem?_modify];have:¬o.toNat=j:=(by omega);simp only[if_neg this];cases L[j]?<;>rfl
def CRel (g:GC) (qs:List Ev) (Al:Option Addr) (k:Nat) (o:Int) (wr:World):Prop :=
 ∃
  (K:List Vl) (ms:List PM) (A:Option Addr) (n c:Nat) (K1:Int×Int→Option Int) (K2:ByteArray→Option Int),CSt g qs k K ms o∧GS g wr A n c ms k K1 K2 ∧
  aT wr (g.B-1) 225 #[.int .i64 (kS 0 (qs.take k)),.int .i64 (kS 1 (qs.take k))]∧aT wr (g.h+2) 71 #[.int .i64 0,.bool false,.slice none 0 0]∧Sl 6 Ev.cs wr Al qs.length qs
set_option maxRecDepth 100000 in
theorem bR8 (N:Nat)(E F G:Bool)(ih:bA2 N E F G)(x9:N+1<=12):bA2 (N+1) E F G:=by
 intro a b xa fa Aa na ca xb fb Ab nb cb w a7 l7 l2 q4 u3 u4 n8 n9;have u1:xa=((N+1:Nat):Int):=by rw[<- a7.hw];exact l2.1
 have C0:(xa == 0)=false:=by simp;omega
 have s9:na<=64:=by rw[a7.len];exact oT n8
 have t0:nb<=64:=by rw[l7.len];exact oT n9
 have j2:=Z a7;have HB:=Z l7;have v2:=Z ih;have a4:=Z (And.intro l2 (And.intro q4 (And.intro u3 (And.intro u4 (And.intro n8 n9)))));have w4:=Z u1;obtain⟨j1,h8⟩:=zE (comb (uX E F G) (N+1) a b);rw[h8.out];have j3:Hid (Below w w ((((w.alloc (.cells #[xa,.bool fa,.slice Aa na ca] 71)).alloc (.cells #[xb,.bool fb,.slice Ab nb cb] 71)).alloc (.cells zR 71)).alloc (.cells #[xa,zF,zN] 71))):=Z (((((aB _ _).alloc (aD _) _).alloc (by simp) _).alloc (by simp;omega) _).alloc (by simp;omega) _);have c6:Hid (aT ((((w.alloc (.cells #[xa,.bool fa,.slice Aa na ca] 71)).alloc (.cells #[xb,.bool fb,.slice Ab nb cb] 71)).alloc (.cells zR 71)).alloc (.cells #[xa,zF,zN] 71)) w 71 #[xa,.bool fa,.slice Aa na ca] /\
  aT ((((w.alloc (.cells #[xa,.bool fa,.slice Aa na ca] 71)).alloc (.cells #[xb,.bool fb,.slice Ab nb cb] 71)).alloc (.cells zR 71)).alloc (.cells #[xa,zF,zN] 71)) (w.heap.size+1) 71 #[xb,.bool fb,.slice Ab nb cb] /\
  aT ((((w.alloc (.cells #[xa,.bool fa,.slice Aa na ca] 71)).alloc (.cells #[xb,.bool fb,.slice Ab nb cb] 71)).alloc (.cells zR 71)).alloc (.cells #[xa,zF,zN] 71)) (w.heap.size+2) 71 zR /\
  aT ((((w.alloc (.cells #[xa,.bool fa,.slice Aa na ca] 71)).alloc (.cells #[xb,.bool fb,.slice Ab nb cb] 71)).alloc (.cells zR 71)).alloc (.cells #[xa,zF,zN] 71)) (w.heap.size+3) 71 #[xa,zF,zN]) :=
  Z ⟨(((aT.step rfl).alloc _).alloc _).alloc _,((aT.step (by simp)).alloc _).alloc _,(aT.step (by simp)).alloc _,aT.step (by simp)⟩
 clear a7 l7 ih l2 q4 u3 u4 n8 n9 u1;go_enter Tryz.func160,Tryz.ntmps160;go_wp2_with fail;obtain⟨W4,k8⟩:∃W:World,Hid ((((w.alloc (.cells #[xa,.bool fa,.slice Aa na ca] 71)).alloc (.cells #[xb,.bool fb,.slice Ab nb cb] 71)).alloc (.cells zR 71)).alloc (.cells #[xa,zF,zN] 71)=W):=⟨_,rfl⟩;have A3:W4.heap.size=w.heap.size+4:=by rw[<- k8.out];simp[aX]
 rw[k8.out]at j3 c6 ⊢;clear k8;refine(aO1 _ xa fa Aa na ca xb fb Ab nb cb E F G W4).mono ?_;rintro e w5 ⟨rfl,l8,d5,A4⟩;rw[A3]at l8 A4 ⊢;have o4:=Z l8;have g5:=Z (cC1 j3.out d5);have e1:=Z (And.intro (c6.out.1.below d5) (And.intro (c6.out.2.1.below d5) (And.intro (c6.out.2.2.1.below d5) (c6.out.2.2.2.below d5))));clear l8 d5 j3 c6;have z1:=e1.out.1.cell;have z2:=e1.out.2.1.cell;go_wp2_with fail;refine(bE8 a xa fa Aa na ca b xb fb Ab nb cb w5 (j2.out.keep (aC g5.out)) (HB.out.keep (aC g5.out)) a4.out.2.2.2.2.1.2 a4.out.2.2.2.2.2.2 s9 t0).mono ?_;rintro e d ⟨qs,Al,B8,rfl,r1,d4,C8,m0⟩;have A5:=m0.size;have b7:Hid (GC.Good ⟨N,a,b,xa,fa,Aa,na,ca,xb,fb,Ab,nb,cb,E,F,G,w,d.heap.size+1⟩):=Z ⟨j2.out,HB.out,a4.out.1,a4.out.2.1,a4.out.2.2.1,a4.out.2.2.2.1,a4.out.2.2.2.2.1,a4.out.2.2.2.2.2,x9⟩;have a3:=Z r1;have o3:Hid (0<qs.length->∀b o,Al=some ⟨b,o,none⟩->b<d.heap.size):=Z (fun hn=>d4.lt Ev.cs_len (by omega) hn);have d2:=Z (d4.keep (aM d (.cells #[.int .i64 (-1),.int .i64 (-1)] 225)));have V:Below w5 w5 (d.alloc (.cells #[.int .i64 (-1),.int .i64 (-1)] 225)):=m0.alloc A5 _;have b3:Hid (aT (d.alloc (.cells #[.int .i64 (-1),.int .i64 (-1)] 225)) d 225 #[.int .i64 (-1),.int .i64 (-1)]):=Z (aT.new _ _ _);have o5:Hid (Boxes (w.heap.size+4) (w.heap.size+3) xa fa Aa na ca xb fb Ab nb cb (opV E F G) (d.alloc (.cells #[.int .i64 (-1),.int .i64 (-1)] 225))):=by have h:=o4.out;exact Z ⟨h.ba.below V,h.bb.below V,h.bp.below V,h.bo.below V,h.km.below V,h.bk.below V,h.cm.below V,h.bc.below V,h.bt.below V⟩
 have j4:=Z (And.intro (e1.out.2.2.1.below V) (e1.out.2.2.2.below V));have o2:=Z (cC1 g5.out V);clear r1 d4 m0 V o4 e1 g5 z1 z2;simp only[gFn,Nat.add_assoc,Nat.reduceAdd];go_wp2_with fail;go_loopg [12,43] qs.length (fun x6 B5 i wr=>∃(k:Nat) (o:Int),k<=qs.length/\x6=qs.length-k/\i=.int .i64 (k:Int)/\B5=.int .i64 o/\Hid (CRel ⟨N,a,b,xa,fa,Aa,na,ca,xb,fb,Ab,nb,cb,E,F,G,w,d.heap.size+1⟩ qs Al k o wr));case atStart=>refine⟨0,-1,by omega,rfl,rfl,rfl,Z ⟨[],[],none,0,0,fun _=>none,fun _=>none,CSt.zero _ _,?_,b3.out,j4.out.1,d2.out⟩⟩;have h:=o5.out;refine⟨⟨o2.out,h.ba,h.bb,h.bp,h.bo,h.bk,h.bc,by show w.heap.size+13<=d.heap.size+1;omega,by rw[aX];exact aD _⟩,h.km,h.cm,h.bt,?_,⟨⟨by simp,.inl ⟨rfl,rfl⟩⟩,rfl,(fun m hm=>by cases hm),List.Pairwise.nil,(fun m hm=>by cases hm)⟩,(fun k z h=>by cases h),(fun s _ _ _=>by simp),(fun m hm=>by cases hm),by simp[eB],List.nodup_nil⟩;have:=j4.out.2;rw[w4.out]at this;exact this
 case round =>
  obtain⟨k,o,hk,rfl,rfl,rfl,h5⟩:=hrel;clear b3 o5 j4 o2 d2;by_cases hlt:k<qs.length
  . obtain⟨K,ms,A,n,c,K1,K2,f2,a8,f7,g1,g2⟩:=h5.out;obtain⟨a0,b0,x,rfl,hx,c4⟩:=g2.at hlt;have A6:=(ev_side (g:=⟨N,a,b,xa,fa,Aa,na,ca,xb,fb,Ab,nb,cb,E,F,G,w,d.heap.size+1⟩) a3.out.1 hx).resolve_right (fun h=>h ⟨oT a4.out.2.2.2.2.1,oT a4.out.2.2.2.2.2⟩);have d3:=Z hx;have b9:Hid (∀s:Int,kS s (qs.take (k+1))=if x.s=s then (if x.e then x.p else -1)else kS s (qs.take k)):=Z (fun s=>by rw[cU hx,aC8]);obtain⟨l0,h6⟩:=zE (kS 0 (qs.take k));obtain⟨c1,h7⟩:=zE (kS 1 (qs.take k));rw[h6.out,h7.out]at f7;obtain⟨⟨B,l,C⟩,L,R,P⟩:=x;obtain⟨n7,A0,A2⟩:=A6;dsimp only at n7 A0 A2;have i2:=c4 0 _ rfl;have q2:=c4 1 _ rfl;have q3:=c4 2 _ rfl;have x1:=c4 3 _ rfl;have x2:=c4 4 _ rfl;have x3:=c4 5 _ rfl;simp only[bX]at i2;have i6:w.heap.size+13<=d.heap.size+1/\d.heap.size+1<=wr.heap.size:=a8.fx.hB;have f4:Below wr wr (wr.alloc (.cells #[B,l,C,L,R,.bool P] 227)):=(aB _ _).alloc (aD _) _;have b2:=Z f2;have k5:=Z (a8.below f4);have b3:Hid (aT (wr.alloc (.cells #[B,l,C,L,R,.bool P] 227)) d 225 #[l0,c1]):=Z (f7.below f4);have d1:Hid (aT (wr.alloc (.cells #[B,l,C,L,R,.bool P] 227)) (w.heap.size+2) 71 zR):=Z (g1.below f4);have d2:=Z (g2.keep (aC f4));have g7:Hid (aT (wr.alloc (.cells #[B,l,C,L,R,.bool P] 227)) wr 227 #[B,l,C,L,R,.bool P]):=Z (aT.new _ _ _);have D1:(wr.alloc (.cells #[B,l,C,L,R,.bool P] 227)).heap.size=wr.heap.size+1:=aX _ _;have r8:Below w w (wr.alloc (.cells #[B,l,C,L,R,.bool P] 227)):=k5.out.fx.bel;have u9:=Z r8;clear f2 a8 f7 g1 g2 hx c4 h5 f4 r8;go_upto_region 11 with fail;generalize hW1:wr.alloc (.cells #[B,l,C,L,R,.bool P] 227)=W1 at *;clear hW1 i2 q2 q3 x1 x2 x3;go_cut [] (fun w2=>But (· = d.heap.size) W1 w2/\aT w2 d 225 #[.int .i64 (if L=0 then -1 else l0),.int .i64 (if L=1 then -1 else c1)]);case first =>
     have z1:=b3.out.cell;have z2:=b3.out.free;have z3:=g7.out.cell;rcases n7 with rfl|rfl
     . go_wp2_with fail;go_meet;case rel=>exact⟨But.set (S:=fun q=>q=d.heap.size) _ (p:=⟨d,0,none⟩) rfl _,b3.out.set_ 0 _⟩
     . go_wp2_with fail;go_meet;case rel=>exact⟨But.set (S:=fun q=>q=d.heap.size) _ (p:=⟨d,1,none⟩) rfl _,b3.out.set_ 1 _⟩
    case rest =>
     obtain⟨m3,s0⟩:=hcut;have c7:=Z s0;have j6:=Z (g7.out.but m3 (by omega));have g6:=Z m3;have o6:=b3;clear m3 s0 b3;have z1:=j6.out.cell;go_upto_if 52 with fail;clear z1;go_cut [] (fun w3=>But (· = d.heap.size) W1 w3/\aT w3 d 225 #[.int .i64 (kS 0 (qs.take (k+1))),.int .i64 (kS 1 (qs.take (k+1)))]);case first =>
      have z1:=c7.out.cell;have z2:=c7.out.free;have z3:=j6.out.cell;cases P
      . go_wp2_with fail;go_meet;case rel=>refine⟨g6.out,?_⟩;have h0:=b9.out 0;have h1:=b9.out 1;rw[h6.out]at h0;rw[h7.out]at h1;simp only[Bool.false_eq_true,if_false]at h0 h1;rw[h0,h1];exact c7.out
      . rcases n7 with rfl|rfl
        . go_wp2_with fail;go_meet;case rel=>refine⟨g6.out.trans (But.set (S:=fun q=>q=d.heap.size) _ (p:=⟨d,0,none⟩) rfl _),?_⟩;have h0:=b9.out 0;have h1:=b9.out 1;rw[h7.out]at h1;simp at h0 h1;rw[h0,h1];exact c7.out.set_ 0 _
        . go_wp2_with fail;go_meet;case rel=>refine⟨g6.out.trans (But.set (S:=fun q=>q=d.heap.size) _ (p:=⟨d,1,none⟩) rfl _),?_⟩;have h0:=b9.out 0;have h1:=b9.out 1;rw[h6.out]at h0;simp at h0 h1;rw[h0,h1];exact c7.out.set_ 1 _
     case rest =>
      obtain⟨d6,s1⟩:=hcut;have r2:GS ⟨N,a,b,xa,fa,Aa,na,ca,xb,fb,Ab,nb,cb,E,F,G,w,d.heap.size+1⟩ wc A n c ms k K1 K2:=k5.out.side d6 (fun q hq=>by show w.heap.size+13<=q/\q<d.heap.size+1;omega);have p4:=Z r2;have o7:=Z s1;have j7:=Z (g7.out.but d6 (by omega));have p3:=Z (d1.out.but d6 (by omega));have k6:=Z (d2.out.but d6 (fun hn b' o' a7=>bE9 d2.out (T:=225) (cs:=#[l0,c1]) o6.out (by simp) hn b' o' a7));have D2:=d6.size;clear d6 s1 r2 k5 c7 j6 g6 g7 d1 d2 b9 h6 h7 u9 o6;have m4:=@bK wc.drew;obtain⟨i1,b4⟩:∃t:Bool,Hid ((match qs[k+1]? with|some y=>decide (y.v=⟨B,l,C⟩)|none=>false)=t):=⟨_,rfl⟩;go_upto_region 14 with fail;go_cut [73] (fun s B6=>s=.bool i1/\Below wc wc B6);case first =>
       by_cases z9:k+1<qs.length
       . have x4:decide ((k:Int)+1<(qs.length:Int))=true:=(by simp;omega);obtain⟨w6,B1,y,q8,hy,i8⟩:=(k6.out.keep (aC (aB wc wc).drew)).at z9;obtain⟨rfl,rfl⟩:a0=w6/\b0=B1:=(by injection q8 with h;injection h with h1 h2;exact⟨h1,h2⟩);rw[hy]at b4;obtain⟨⟨u6,u5,u7⟩,D7,D6,D5⟩:=y;have z4:=uP u6 u5 B l u7 C;have hbb:decide ((⟨u6,u5,u7⟩:Vl)=⟨B,l,C⟩)=i1:=b4.out;rw[hbb]at z4;have i2:=i8 0 _ rfl;have q2:=i8 1 _ rfl;have q3:=i8 2 _ rfl;simp only[bX]at i2;have z1:=j7.out.drew.cell;clear i8 q8 hy b4 hbb;have C6:(((k:Int)+1).toNat)=k+1:=(by omega);generalize hWn:wc.drew=k9 at *;refine aZ [] [0,1,2,3,4,5,6,7,8,9,10,11,12,13,14,15] ?_;rw[hWn];have m2:Below wc wc k9:=(by rw[<- hWn];exact(aB _ _).drew);clear hWn;simp only[bS,cP];unfold bA;repeat(go_big_quiet_step (fail))
         refine aA ?_;clear m4;go_wp2_with fail;go_meet;case rel=>exact⟨rfl,m2⟩
       . have x4:decide ((k:Int)+1<(qs.length:Int))=false:=(by simp;omega);have g0:qs[k+1]?=none:=List.getElem?_eq_none (by omega);rw[g0]at b4;obtain rfl:false=i1:=b4.out;clear g0 b4;generalize hWn:wc.drew=k9 at *;refine aZ [] [0,1,2,3,4,5,6,7,8,9,10,11,12,13,14,15] ?_;rw[hWn];have m2:Below wc wc k9:=(by rw[<- hWn];exact(aB _ _).drew);clear hWn;simp only[bS,cP];unfold bA;repeat(go_big_quiet_step (fail))
         refine aA ?_;clear m4;go_wp2_with fail;go_meet;case rel=>exact⟨rfl,m2⟩
      case rest =>
       clear m4;obtain⟨rfl,c0⟩:=hcut;have a1:=Z (p4.out.below c0);have c8:=Z (o7.out.below c0);have j8:=Z (j7.out.below c0);have k4:=Z (p3.out.below c0);have b8:=Z (k6.out.keep (aC c0));have D3:=c0.size;clear c0 p4 o7 j7 p3 k6;cases i1
       . have e7:Hid (∀y,qs[k+1]?=some y->y.v≠(⟨⟨B,l,C⟩,L,R,P⟩:Ev).v):=Z (fun y hy=>by
          have:=b4.out;rw[hy]at this;simpa using this)
         obtain⟨i4,i5⟩:=cur_at b7.out a3.out.1 a3.out.2 d3.out e7.out;have n5:=rU a.parts (⟨B,l,C⟩:Vl);have n6:=rU b.parts (⟨B,l,C⟩:Vl);rw[cI,<- j2.out.len]at n5;rw[cI,<- HB.out.len]at n6;have p9:Hid (GC.ro ⟨N,a,b,xa,fa,Aa,na,ca,xb,fb,Ab,nb,cb,E,F,G,w,d.heap.size+1⟩ (kG a.parts ⟨B,l,C⟩,kG b.parts ⟨B,l,C⟩)=GC.at_ ⟨N,a,b,xa,fa,Aa,na,ca,xb,fb,Ab,nb,cb,E,F,G,w,d.heap.size+1⟩ ⟨B,l,C⟩):=Z (ro_at b7.out _);dsimp only at i4 i5;rw[i4,i5]at c8;have e8:=Z (And.intro i4 i5);obtain⟨i9,p7⟩:=zE (kG a.parts ⟨B,l,C⟩);obtain⟨j0,p8⟩:=zE (kG b.parts ⟨B,l,C⟩);rw[p7.out,p8.out]at c8 p9 e8;rw[p7.out]at n5;rw[p8.out]at n6;clear i4 i5 b4;have z0:=entG1;have z1:=c8.out.cell;go_wp2_with fail;refine(bP8 ⟨N,a,b,xa,fa,Aa,na,ca,xb,fb,Ab,nb,cb,E,F,G,w,d.heap.size+1⟩ b7.out v2.out _ A n c ms k K1 K2 a1.out (by omega) i9 j0 n5 n6 s9 t0).mono ?_;rintro e g4 ⟨now,ok,rfl,c2,m5,m9⟩;rw[p9.out]at m5 m9;clear z1 z0;have i3:∀q,(Value.slice A n c).ownBlock=some q->d.heap.size+1<=q:=fun q hq=>(cN a1.out.parts.own hq).1;have f3:¬GC.S ⟨N,a,b,xa,fa,Aa,na,ca,xb,fb,Ab,nb,cb,E,F,G,w,d.heap.size+1⟩ A n c wr.heap.size:=fun h=>by
          rcases h with h|h|h|h|h
          . have a2:wr.heap.size=w.heap.size+8:=h;omega
          . have a2:wr.heap.size=w.heap.size+10:=h;omega
          . have a2:wr.heap.size=w.heap.size+12:=h;omega
          . have a2:wr.heap.size=w.heap.size+3:=h;omega
          . obtain⟨_,_,cs,h1⟩:=cN a1.out.parts.own h;have h2:=j8.out;unfold aT at h2;rw[h1]at h2;injection h2 with h2;injection h2 with _ h2;exact absurd h2 (by decide)
         have l9:∀q,(q=d.heap.size\/q=w.heap.size+2)->¬GC.S ⟨N,a,b,xa,fa,Aa,na,ca,xb,fb,Ab,nb,cb,E,F,G,w,d.heap.size+1⟩ A n c q:=fun q hq h=>by
          rcases h with h|h|h|h|h
          . have a2:q=w.heap.size+8:=h;omega
          . have a2:q=w.heap.size+10:=h;omega
          . have a2:q=w.heap.size+12:=h;omega
          . have a2:q=w.heap.size+3:=h;omega
          . have:=i3 q h;omega
         have d4:¬GC.S ⟨N,a,b,xa,fa,Aa,na,ca,xb,fb,Ab,nb,cb,E,F,G,w,d.heap.size+1⟩ A n c a0:=fun h=>by
          have f9:0<qs.length:=(by omega);rcases h with h|h|h|h|h
          . exact bZ0 b8.out a1.out.km f9 a0 b0 rfl h
          . exact bZ0 b8.out a1.out.cm f9 a0 b0 rfl h
          . exact bE9 b8.out a1.out.tot (by simp) f9 a0 b0 rfl h
          . exact bE9 b8.out a1.out.out (by simp) f9 a0 b0 rfl h
          . have:=i3 a0 h;have:=o3.out f9 a0 b0 rfl;omega
         have j9:=Z (j8.out.but c2 f3);have j5:=Z (c8.out.but c2 (l9 _ (.inl rfl)));have a6:=Z (k4.out.but c2 (l9 _ (.inr rfl)));have k7:=Z (b8.out.but c2 (fun _ b' o' a7=>by injection a7 with a7;injection a7 with h1 h2;rw[<- h1];exact d4));have c5:Hid (Below w w g4):=Z (c2.below a1.out.fx.bel a1.out.fx.bel.size (fun q hq=>by
          rcases hq with h|h|h|h|h
          . have a2:q=w.heap.size+8:=h;omega
          . have a2:q=w.heap.size+10:=h;omega
          . have a2:q=w.heap.size+12:=h;omega
          . have a2:q=w.heap.size+3:=h;omega
          . have:=i3 q h;omega))
         have D4:=c2.size;have p1:=Z m9;have p0:=Z m5;clear a1 c8 j8 k4 b8 c2 m9 m5 i3 f3 l9 d4;cases ok
         . have k1:Hid (¬dP j1):=(by have:=b2.out.fail1 b7.out a3.out.1 a3.out.2 d3.out e7.out (p0.out rfl);rw[<- h8.out];exact Z this);obtain⟨q5,q6,q7⟩:=bF a6.out zO zF;have F1:Hid (aT _ _ _ zR):=Z (a6.out.set_ 0 zO);have F2:Hid (aT _ _ _ zR):=Z (F1.out.set_ 1 zF);have F3:Hid (aT _ _ _ zR):=Z (F2.out.set_ 2 zN);have y1:=F1.out.cell;have y2:=F2.out.cell;have y3:=F3.out.cell;have d9:=Z (bD c5.out (show w.heap.size<=w.heap.size+2 by omega) zO zF zN);have z1:=a6.out.cell;go_wp2_with fail;exact aF (v:=.tuple #[.agg zR,zF]) (by simp[results,Tryz.results160,go_sem,y3]) rfl ⟨0,false,none,0,0,false,rfl,⟨(fun h=>by cases h),fun h=>absurd h k1.out⟩,(fun h=>by cases h),d9.out⟩
         . obtain⟨A',n',c',ms',h9,i0,r3,t8,t1,_⟩:=p1.out rfl;obtain⟨t9,t2⟩:=b2.out.room (x:=⟨⟨B,l,C⟩,L,R,P⟩) t8 t1;have Y:=Z r3;have e6:=Z t9;have h4:=Z t2;clear r3 t8 t1 t9 t2 p1 p0;by_cases d7:now=o
           . have x5:(now == o)=true:=(by simp[d7]);have e5:=Z d7;clear d7;go_wp2_with fail;go_roundg (qs.length-(k+1));case measure=>omega
             case rel=>refine⟨k+1,o,by omega,rfl,by go_num,rfl,Z ⟨_,ms',A',n',c',h9,i0,b2.out.same b7.out a3.out.2 d3.out e7.out e6.out h4.out e5.out,Y.out,?_,a6.out,k7.out⟩⟩;rw[e8.out.1,e8.out.2];exact j5.out
           . have x5:(now == o)=false:=(by simp[d7]);have e5:=Z d7;clear d7;go_upto_if 87 with fail;have e2:Hid (CFr w (d.heap.size+1) wr ⟨⟨B,l,C⟩,L,R,P⟩ i9 j0 a0 b0 qs w g4):=Z ⟨j9.out,j5.out,a6.out,k7.out,c5.out,by have:=o3.out (by omega) a0 b0 rfl;omega,⟨i6.1,i6.2,j9.out.lt,c5.out.size⟩⟩;have e3:Hid (∀m∈ms',m.vs.length<=64):=by
              refine Z (fun m hm=>?_);have h1:PM.pr m∈gK (cY (GC.at_ ⟨N,a,b,xa,fa,Aa,na,ca,xb,fb,Ab,nb,cb,E,F,G,w,d.heap.size+1⟩) K) (GC.at_ ⟨N,a,b,xa,fa,Aa,na,ca,xb,fb,Ab,nb,cb,E,F,G,w,d.heap.size+1⟩ ⟨B,l,C⟩):=(by rw[<- e6.out];exact List.mem_map.2 ⟨m,hm,rfl⟩);unfold gK at h1;split at h1
              . exact(b2.out.fit _ h1).1
              . rcases List.mem_append.1 h1 with h1|h1
                . exact(b2.out.fit _ h1).1
                . rw[List.mem_singleton]at h1;have:m.vs=[]:=congrArg Prod.fst h1;rw[this];simp
             clear j9 j5 a6 k7 c5;go_cut [] (fun w7=>∃a9,GS ⟨N,a,b,xa,fa,Aa,na,ca,xb,fb,Ab,nb,cb,E,F,G,w,d.heap.size+1⟩ w7 A' n' c' a9 (k+1) h9 i0/\a9.map PM.pr=lI o ⟨B,l,C⟩ (ms'.map PM.pr)/\(∀m∈a9,m.vs.length<=64)/\CFr w (d.heap.size+1) wr ⟨⟨B,l,C⟩,L,R,P⟩ i9 j0 a0 b0 qs w w7);case first =>
              rcases cD o 0 with ho|ho
              . have l3:decide (0<=o)=false:=(by simp;omega);have l4:decide (o<0)=true:=(by simp;omega);have d0:=Z ho;go_wp2_with fail;go_meet;case rel=>exact⟨ms',Y.out,by unfold lI;rw[if_pos d0.out],e3.out,e2.out⟩
              . obtain⟨j,rfl⟩:=bO ho;have l3:decide ((0:Int)<=(j:Int))=true:=(by simp);obtain⟨t4,t5⟩:=b2.out.open_part (GC.at_ ⟨N,a,b,xa,fa,Aa,na,ca,xb,fb,Ab,nb,cb,E,F,G,w,d.heap.size+1⟩ ⟨B,l,C⟩);rw[<- e6.out,cE,Option.map_eq_some_iff]at t4;obtain⟨m,hm,f8⟩:=t4;have s8:m.vs≠[]:=(by rw[show m.vs=_ from congrArg Prod.fst f8];exact t5);have Q:=Y.out.parts.ok m (aJ hm);have n2:=Y.out.parts.len;have z8:j<n':=(by have:=(List.getElem?_eq_some_iff.1 hm).1;omega);obtain⟨l5,op,f1,f6⟩:=(cC3 PM.cs_len n2 Y.out.parts.own).2 (by omega);obtain⟨H,l1,g3,_,_⟩:=Y.out.parts.own.form (by omega);obtain⟨rfl,rfl⟩:A'=some ⟨H,0,none⟩/\c'=l1:=(by injection g3 with h1 h2 h3;exact⟨h1,h3⟩);obtain⟨rfl,rfl⟩:H=l5/\0=op:=(by injection f1 with h;injection h with h1 h2;exact⟨h1,h2⟩);have e0:=f6 j m hm 0 _ rfl;have g0:0<m.n1:=(by rw[<- Q.len];exact List.length_pos_iff.2 s8);have m8:m.n1<=64:=(by rw[<- Q.len];exact e3.out m (aJ hm));obtain⟨I,x0,u0,C3,C4⟩:=Q.own.form g0;obtain⟨l6,y9⟩:m.A1=some ⟨I,0,none⟩/\m.c1=x0:=(by injection u0 with h1 h2 h3;exact⟨h1,h3⟩);have c9:=Z Q;have a5:=Z hm;have X:=Q.own;unfold PM.vv at X;rw[l6]at X e0;obtain⟨w8,B2,y,q9,u2,r9⟩:=(cC3 Iv.cs_len Q.len X).at (show m.n1-1<m.n1 by omega);obtain⟨rfl,rfl⟩:I=w8/\0=B2:=(by injection q9 with h;injection h with h1 h2;exact⟨h1,h2⟩);obtain⟨y0,y1,y2,y3,y4,y5,y6⟩:=IvAt.of r9;simp only[Nat.zero_add,bX]at y0 y1 y2 y3 y4 y5 y6 e0;have z6:=fun q=>X.frozenAt q;have d0:=Z (qK ⟨B,l,C⟩ X Q.len u2);have e4:=Z Q.len;have o1:=Z l6;have n0:∀i,g4.cell? ⟨w.heap.size+3,i,none⟩=(#[.int .i64 ((N+1:Nat):Int),zF,.slice (some ⟨H,0,none⟩) n' c']:Array Value)[i]?:=Y.out.out.cell;have C2:=e2.out.ex.cell;have B7:Hid ((Value.slice (some ⟨I,0,none⟩) m.n1 m.c1).ownBlock=some I):=Z rfl;have z5:¬wr.heap.size=I:=fun e=>(by have h1:=(cN X (k:=I) rfl).2.2;obtain⟨cs,h1⟩:=h1;have h2:=e2.out.ex;unfold aT at h2;rw[e,h1]at h2;injection h2 with h2;injection h2 with _ h2;exact absurd h2 (by decide));obtain⟨D,U⟩:=zE (m.n1);obtain⟨J,b6⟩:=zE (m.c1);rw[U.out,b6.out]at d0 e0;rw[U.out]at y0 y1 y2 y3 y4 y5 y6 g0 m8;have C5:(1:Int)<=(D:Int):=(by omega);clear u0 q9 r9 t5 f8 s8 Q hm X f6 f1 g3 u2 l6 y9 ho;go_wp2_with fail;go_meet;case rel =>
                 have c3:But (fun q=>q=I) g4 ((((g4.setCell ⟨I,(D-1)*7+3,none⟩ B).setCell ⟨I,(D-1)*7+4,none⟩ l).setCell ⟨I,(D-1)*7+5,none⟩ C).setCell ⟨I,(D-1)*7+6,none⟩ zF) :=
                  (((But.set (S:=fun q=>q=I) _ (p:=⟨I,(D-1)*7+3,none⟩) rfl _).trans (But.set (S:=fun q=>q=I) _ (p:=⟨I,(D-1)*7+4,none⟩) rfl _)).trans (But.set (S:=fun q=>q=I) _ (p:=⟨I,(D-1)*7+5,none⟩) rfl _)).trans (But.set (S:=fun q=>q=I) _ (p:=⟨I,(D-1)*7+6,none⟩) rfl _)
                 have i7:m.vv.ownBlock=some I:=(by unfold PM.vv;rw[o1.out];rfl);refine⟨ms'.set j { m with A1:=m.A1,n1:=m.n1,c1:=m.c1,vs:=fA m.vs ⟨B,l,C⟩ },?_,?_,?_,?_⟩
                 . refine Y.out.revals c3 (fun q hq=>by rw[hq];exact(cN c9.out.own i7).1) ?_ (bH4 PM.r a5.out rfl);refine Y.out.parts.set a5.out ?_ ?_ ?_ (c3.wide (fun q hq=>.inr (by rw[hq];exact i7))) (fun q hq=>.inl hq)
                   . rw[set_cs a5.out];exact fB Y.out.parts.own c3 (fun q hq e=>fV Y.out.parts.own c9.out.own (by decide) hq (by rw[e];exact i7))
                   . rw[o1.out,U.out,b6.out];exact d0.out
                   . rw[qH];exact e4.out
                 . rw[tG (f:=fun q=>(fA q.1 ⟨B,l,C⟩,q.2)) a5.out rfl];unfold lI;rw[if_neg (by omega),bM]
                 . intro o0 m7;rcases List.mem_or_eq_of_mem_set m7 with h|h
                   . exact e3.out o0 h
                   . rw[h];show(fA m.vs ⟨B,l,C⟩).length<=64;rw[qH];exact e3.out m (aJ a5.out)
                 . exact e2.out.but c3 (fun q hq=>by rw[hq];exact⟨(cN c9.out.own i7).1,fun e=>z5 e.symm⟩)
             case rest =>
              obtain⟨a9,r4,n3,s5,s3⟩:=hcut;have M:=Z r4;have k3:Hid (a9.map PM.pr=lI o ⟨B,l,C⟩ (gK (cY (GC.at_ ⟨N,a,b,xa,fa,Aa,na,ca,xb,fb,Ab,nb,cb,E,F,G,w,d.heap.size+1⟩) K) (GC.at_ ⟨N,a,b,xa,fa,Aa,na,ca,xb,fb,Ab,nb,cb,E,F,G,w,d.heap.size+1⟩ ⟨B,l,C⟩))):=(by rw[e6.out]at n3;exact Z n3);have g8:=Z s5;have b5:=Z s3;clear r4 n3 s5 s3 Y e6 e3 e2;go_upto_if 108 with fail;go_cut [] (fun w7=>∃d8,GS ⟨N,a,b,xa,fa,Aa,na,ca,xb,fb,Ab,nb,cb,E,F,G,w,d.heap.size+1⟩ w7 A' n' c' d8 (k+1) h9 i0/\d8.map PM.pr=tL now ⟨B,l,C⟩ (a9.map PM.pr)/\(∀m∈d8,m.vs.length<=64)/\CFr w (d.heap.size+1) wr ⟨⟨B,l,C⟩,L,R,P⟩ i9 j0 a0 b0 qs w w7);case first =>
               rcases cD now 0 with ho|ho
               . have l3:decide (0<=now)=false:=(by simp;omega);have l4:decide (now<0)=true:=(by simp;omega);have d0:=Z ho;go_wp2_with fail;go_meet;case rel=>exact⟨a9,M.out,by unfold tL;rw[if_pos d0.out],g8.out,b5.out⟩
               . obtain⟨j,rfl⟩:=bO ho;have l3:decide ((0:Int)<=(j:Int))=true:=(by simp);have t3:=bW3 h4.out;have t7:(a9.map PM.pr)[j]?=some (dT (GC.at_ ⟨N,a,b,xa,fa,Aa,na,ca,xb,fb,Ab,nb,cb,E,F,G,w,d.heap.size+1⟩) K (GC.at_ ⟨N,a,b,xa,fa,Aa,na,ca,xb,fb,Ab,nb,cb,E,F,G,w,d.heap.size+1⟩ ⟨B,l,C⟩),GC.at_ ⟨N,a,b,xa,fa,Aa,na,ca,xb,fb,Ab,nb,cb,E,F,G,w,d.heap.size+1⟩ ⟨B,l,C⟩):=(by rw[k3.out,aZ3 e5.out];exact t3);rw[cE,Option.map_eq_some_iff]at t7;obtain⟨m,hm,f8⟩:=t7;have w1:Hid (m.vs=dT (GC.at_ ⟨N,a,b,xa,fa,Aa,na,ca,xb,fb,Ab,nb,cb,E,F,G,w,d.heap.size+1⟩) K (GC.at_ ⟨N,a,b,xa,fa,Aa,na,ca,xb,fb,Ab,nb,cb,E,F,G,w,d.heap.size+1⟩ ⟨B,l,C⟩)):=Z (congrArg Prod.fst f8);have Q:=M.out.parts.ok m (aJ hm);have n2:=M.out.parts.len;have z8:j<n':=(by have:=(List.getElem?_eq_some_iff.1 hm).1;omega);obtain⟨l5,op,f1,f6⟩:=(cC3 PM.cs_len n2 M.out.parts.own).2 (by omega);obtain⟨H,l1,g3,_,_⟩:=M.out.parts.own.form (by omega);obtain⟨rfl,rfl⟩:A'=some ⟨H,0,none⟩/\c'=l1:=(by injection g3 with h1 h2 h3;exact⟨h1,h3⟩);obtain⟨rfl,rfl⟩:H=l5/\0=op:=(by injection f1 with h;injection h with h1 h2;exact⟨h1,h2⟩);have e0:=f6 j m hm 0 _ rfl;simp only[Nat.zero_add,bX]at e0;have m8:m.n1<=64:=(by rw[<- Q.len];exact g8.out m (aJ hm));have e4:=Z Q.len;have c9:=Z Q;have a5:=Z hm;obtain⟨O,e9⟩:=zE (m.A1);obtain⟨D,U⟩:=zE (m.n1);obtain⟨J,b6⟩:=zE (m.c1);rw[e9.out,U.out,b6.out]at e0;rw[U.out]at m8;have n0:∀i,wc.cell? ⟨w.heap.size+3,i,none⟩=(#[.int .i64 ((N+1:Nat):Int),zF,.slice (some ⟨H,0,none⟩) n' c']:Array Value)[i]?:=M.out.out.cell;clear t3 f8 Q hm f6 f1 g3 ho;by_cases x7:D=64
                 . have l4:((D:Int) == 64)=true:=(by simp;omega);have k1:Hid (¬dP j1):=by
                    have:=b2.out.fail2 b7.out a3.out.1 a3.out.2 d3.out e7.out h4.out e5.out (by omega) (by
                     show 64<=(dT (GC.at_ ⟨N,a,b,xa,fa,Aa,na,ca,xb,fb,Ab,nb,cb,E,F,G,w,d.heap.size+1⟩) K (GC.at_ ⟨N,a,b,xa,fa,Aa,na,ca,xb,fb,Ab,nb,cb,E,F,G,w,d.heap.size+1⟩ ⟨B,l,C⟩)).length;rw[<- w1.out,e4.out,U.out];omega)
                    rw[<- h8.out];exact Z this
                   have a6:=Z b5.out.rb;have c5:=Z b5.out.be;clear x7;obtain⟨q5,q6,q7⟩:=bF a6.out zO zF;have F1:Hid (aT _ _ _ zR):=Z (a6.out.set_ 0 zO);have F2:Hid (aT _ _ _ zR):=Z (F1.out.set_ 1 zF);have F3:Hid (aT _ _ _ zR):=Z (F2.out.set_ 2 zN);have y1:=F1.out.cell;have y2:=F2.out.cell;have y3:=F3.out.cell;have d9:=Z (bD c5.out (show w.heap.size<=w.heap.size+2 by omega) zO zF zN);have z1:=a6.out.cell;go_wp2_with fail;exact aF (v:=.tuple #[.agg zR,zF]) (by simp[results,Tryz.results160,go_sem,y3]) rfl ⟨0,false,none,0,0,false,rfl,⟨(fun h=>by cases h),fun h=>absurd h k1.out⟩,(fun h=>by cases h),d9.out⟩
                 . have l4:((D:Int) == 64)=false:=(by simp;omega);obtain⟨B0,z7,A7,A8,A9⟩:=info_parts nJ;have X:wc.ownsRow (d.heap.size+1) 187 7 (.slice O D J) D (m.vs.flatMap Iv.cs):=(by have:=c9.out.own;unfold PM.vv at this;rw[e9.out,U.out,b6.out]at this;exact this);have r6:¬(Value.slice O D J).ownBlock=some H:=fun h=>fV X M.out.parts.own (by decide) h rfl;have f3:¬(Value.slice O D J).ownBlock=some wr.heap.size:=fun h=>(by obtain⟨_,_,cs,h1⟩:=cN X h;have h2:=b5.out.ex;unfold aT at h2;rw[h1]at h2;injection h2 with h2;injection h2 with _ h2;exact absurd h2 (by decide));have v7:Hid (wc.drew.ownsRow (d.heap.size+1) 187 7 (.slice O D J) D (m.vs.flatMap Iv.cs)):=Z X;have v6:=Z X;have y8:But (fun q=>(Value.slice O D J).ownBlock=some q) wc wc.drew:=(But.refl _ _).drew;have s2:wc.drew.heap.size=wc.heap.size:=rfl;have o9:=Z s2;have C1:d.heap.size+1<=wc.heap.size:=M.out.fx.hB.2;have B3:∀(y:LaterS (fun q=>(Value.slice O D J).ownBlock=some q) wc.drew) i,(dG (fun q=>(Value.slice O D J).ownBlock=some q) wc.drew y).cell? ⟨wr,i,none⟩=(#[B,l,C,L,R,.bool P]:Array Value)[i]?:=fun y i=>(b5.out.ex.drew.but y.but f3).cell i;have B4:∀(y:LaterS (fun q=>(Value.slice O D J).ownBlock=some q) wc.drew),(dG (fun q=>(Value.slice O D J).ownBlock=some q) wc.drew y).cell? ⟨H,j*4,none⟩=some (.slice O D J):=fun y=>(by have h1:wc.drew.cell? ⟨H,j*4,none⟩=some (.slice O D J):=e0;rw[hC y _ (by rw[h1];rfl) r6];exact h1);clear s2 X;go_upto_region 27 with fail;refine bQ (fun q=>(Value.slice O D J).ownBlock=some q) (.one [0,1,2,3,4,5,6,7] 8 (.one [] 9 (.one [] 10 (.fin [11] 12)))) ?_;generalize y7:wc.drew=q1 at *;clear y7;unfold bB;simp only[cP];repeat(go_big_quiet_step (fail))
                   refine aA ?_;go_wp2_with fail;refine⟨But.alloc _ _,?_⟩;unfold bB;simp only[cP];refine aA ?_;go_wp2_with (at_builtin;refine cB (by rfl) (.tmp 124) (.tmp 128) _ (by rfl) (d.heap.size+1) 187 B0 _ 7 72 Tryz.underlying139 z7 A7 A8 A9 (by rfl) (by omega) (.slice O D J) D _ (by rfl) q1 _ v7.out q1 (by rfl) (by rfl) (by rfl) (iL ⟨⟨B,l,C⟩,bE,true⟩) (by simp only[maxLen];omega) (by omega) (by have:=o9.out;omega) ?_;intro g9 f0 w9 t6 m6 x8 r7 C7);refine⟨cC5 m6 (fun k hk=>hk),?_⟩;have f5:But (fun q=>(Value.slice O D J).ownBlock=some q) wc w9:=(y8.trans (But.alloc _ _)).trans (cC5 m6 (fun k hk=>hk));have p6:Hid (w9.ownsRow (d.heap.size+1) 187 7 (.slice (some ⟨g9,0,none⟩) (D+1) f0) (D+1) ((m.vs++[Iv.mk ⟨B,l,C⟩ bE true]).flatMap Iv.cs)):=(by refine Z ?_;rw[List.flatMap_append];simpa[Iv.cs,bE]using t6);have k2:=Z (fB M.out.parts.own f5 (fun q hq hs=>fV M.out.parts.own v6.out (by decide) hq hs));have v0:=Z f5;have u8:=Z r7;have D0:=f5.size;have B9:w9.cell? ⟨H,j*4,none⟩=some (.slice O D J):=(by have hlt:=gS (w:=wc) (a:=⟨H,j*4,none⟩) (by rw[e0];rfl);rw[World.cell?_of_block (w:=wc) (f5.block H hlt r6)];exact e0);have z6:=fun q=>k2.out.frozenAt q;clear m6 x8 r7 t6 f5 B3 B4;unfold bB;simp only[cP];refine aA ?_;go_wp2_with fail;refine⟨But.refl _ _,?_⟩;unfold bB;simp only[cP];repeat(go_big_quiet_step (fail))
                   refine aA ?_;go_wp2_with fail;go_meet;case rel =>
                    have c3:But (fun q=>q=H) w9 (w9.setCell ⟨H,j*4,none⟩ (.slice (some ⟨g9,0,none⟩) (D+1) f0)):=But.set (S:=fun q=>q=H) _ (p:=⟨H,j*4,none⟩) rfl _;have m1:But (fun q=>(Value.slice (some ⟨H,0,none⟩) n' c').ownBlock=some q\/m.vv.ownBlock=some q) wc (w9.setCell ⟨H,j*4,none⟩ (.slice (some ⟨g9,0,none⟩) (D+1) f0)) :=
                     (v0.out.wide (fun q hq=>.inr (by unfold PM.vv;rw[e9.out,U.out,b6.out];exact hq))).trans (c3.wide (fun q hq=>.inl (by rw[hq];rfl)))
                    have s7:∀q,((Value.slice (some ⟨H,0,none⟩) n' c').ownBlock=some q\/m.vv.ownBlock=some q)->d.heap.size+1<=q/\q≠wr.heap.size:=fun q hq=>by
                     rcases hq with hq|hq
                     . refine⟨(cN M.out.parts.own hq).1,fun e=>?_⟩;obtain⟨_,_,cs,h1⟩:=cN M.out.parts.own hq;have h2:=b5.out.ex;unfold aT at h2;rw[<- e,h1]at h2;injection h2 with h2;injection h2 with _ h2;exact absurd h2 (by decide)
                     . refine⟨(cN c9.out.own hq).1,fun e=>f3 ?_⟩;unfold PM.vv at hq;rw[e9.out,U.out,b6.out,e]at hq;exact hq
                    refine⟨a9.set j { m with A1:=some ⟨g9,0,none⟩,n1:=D+1,c1:=f0,vs:=m.vs++[Iv.mk ⟨B,l,C⟩ bE true] },?_,?_,?_,b5.out.but m1 s7⟩
                    . refine M.out.revals m1 (fun q hq=>(s7 q hq).1) ?_ (bH4 PM.r a5.out rfl);refine M.out.parts.set a5.out ?_ ?_ ?_ m1 (fun q hq=>?_)
                      . rw[<- aB9 PM.cs_len (u:=.slice (some ⟨g9,0,none⟩) (D+1) f0) (j:=0) a9 j m a5.out (by omega) rfl];exact(k2.out.stored _ _).1
                      . exact fB p6.out c3 (fun q hq e=>fV p6.out k2.out (by decide) hq (by rw[e];rfl))
                      . rw[cF,e4.out,U.out];rfl
                      . simp only[Value.ownBlock,Option.some.injEq]at hq;subst hq;rcases u8.out with h|h
                        . left;unfold PM.vv;rw[e9.out,U.out,b6.out];exact h
                        . right;have:=o9.out;omega
                    . rw[tG (f:=fun q=>(q.1++[Iv.mk ⟨B,l,C⟩ bE true],q.2)) a5.out rfl];unfold tL;rw[if_neg (by omega),bM]
                    . intro o0 m7;rcases List.mem_or_eq_of_mem_set m7 with h|h
                      . exact g8.out o0 h
                      . rw[h];show(m.vs++[_]).length<=64;rw[cF,e4.out,U.out];simp only[bL,List.length_nil];omega
              case rest =>
               obtain⟨d8,r5,n4,s6,s4⟩:=hcut;have p5:=Z r5;have v9:Hid (d8.map PM.pr=tL now ⟨B,l,C⟩ (lI o ⟨B,l,C⟩ (gK (cY (GC.at_ ⟨N,a,b,xa,fa,Aa,na,ca,xb,fb,Ab,nb,cb,E,F,G,w,d.heap.size+1⟩) K) (GC.at_ ⟨N,a,b,xa,fa,Aa,na,ca,xb,fb,Ab,nb,cb,E,F,G,w,d.heap.size+1⟩ ⟨B,l,C⟩)))):=(by rw[k3.out]at n4;exact Z n4);have v1:=Z s6;have k0:=Z s4;clear r5 n4 s6 s4 M k3 g8 b5;go_wp2_with fail;go_roundg (qs.length-(k+1));case measure=>omega
               case rel=>refine⟨k+1,now,by omega,rfl,by go_num,rfl,Z ⟨_,d8,A',n',c',h9,i0,b2.out.turn b7.out a3.out.2 d3.out e7.out h4.out e5.out v9.out (fun m hm=>⟨v1.out m hm,(p5.out.good m hm).2.2.1.2⟩),p5.out,?_,k0.out.rb,k0.out.sl⟩⟩;rw[e8.out.1,e8.out.2];exact k0.out.cu
       . go_wp2_with fail;go_roundg (qs.length-(k+1));case measure=>omega
         case rel =>
          refine⟨k+1,o,by omega,rfl,by go_num,rfl,Z ⟨K,ms,A,n,c,K1,K2,?_,?_,c8.out,k4.out,b8.out⟩⟩
          . have h1:=b4.out;cases hy:qs[k+1]? with
            |none=>rw[hy]at h1;cases h1
            |
             some y =>
             rw[hy]at h1;exact b2.out.skip d3.out hy (of_decide_eq_true h1)
          . have h2:=a1.out;exact { h2 with km:=h2.km.mono (Nat.le_succ _) }
  . obtain⟨K,ms,A,n,c,K1,K2,f2,a8,f7,g1,g2⟩:=h5.out;obtain rfl:k=qs.length:=(by omega);have d1:Hid (aT wr (w.heap.size+2) 71 zR):=Z g1;have p2:Hid (aT wr (w.heap.size+3) 71 #[.int .i64 ((N+1:Nat):Int),zF,.slice A n c]):=Z a8.out;have r0:Below w w wr:=a8.fx.bel;have v8:Hid (PartsIn (d.heap.size+1) wr A n c ms):=Z a8.parts;have o8:Hid (tN ((N+1:Nat):Int) false (ms.map PM.pr)=j1/\dP j1):=(by have:=f2.done a3.out.1 a8.size;rw[<- h8.out];exact Z this);have i6:=a8.fx.hB;clear f2 a8 f7 g1 g2 h5;have n0:=p2.out.cell;have C9:=d1.out.cell;obtain⟨b1,q0⟩:∃z:Int,Hid (((N+1:Nat):Int)=z):=⟨_,rfl⟩;rw[q0.out]at p2 n0;obtain⟨q5,q6,q7⟩:=bF d1.out b1 zF;have F1:Hid (aT _ _ _ #[b1,zF,zN]):=Z (d1.out.set_ 0 b1);have F2:Hid (aT _ _ _ #[b1,zF,zN]):=Z (F1.out.set_ 1 zF);have F3:Hid (aT _ _ _ #[b1,zF,.slice A n c]):=Z (F2.out.set_ 2 (.slice A n c));have y1:=F1.out.cell;have y2:=F2.out.cell;have y3:=F3.out.cell;have d9:=Z (bD r0 (show w.heap.size<=w.heap.size+2 by omega) b1 zF (.slice A n c));have w0:=Z (v8.out.but (bJ wr (w.heap.size+2) b1 zF (.slice A n c)) (fun q hq=>by have h0:w.heap.size+13<=d.heap.size+1:=i6.1;omega));clear r0;go_wp2;refine aF (v:=.tuple #[.agg #[b1,zF,.slice A n c],zT]) (by simp[results,Tryz.results160,go_sem,y3]) rfl ⟨b1,false,A,n,c,true,rfl,⟨fun _=>o8.out.2,fun _=>rfl⟩,fun _=>?_,d9.out⟩;have h1:=w0.out.region b1;have h2:=o8.out.1;rw[q0.out]at h2;rw[h2]at h1;exact h1.wide (by omega) (aD _)
theorem aY7 (a b c:Bool):∀N,N<=12->bA2 N a b c
 |0,_=>bR7 a b c
 |N+1,h=>bR8 N a b c (aY7 a b c N (by omega)) h
noncomputable def dY (op:Bool→Bool→Bool) (a b:Rg):Int:=if okB a&&okB b&&decide (a.w=b.w)then (if (comb op a.w.toNat a b).size≤64∧(comb op a.w.toNat a b).fits=true then 0 else 2)else 40
noncomputable def cX (op:Bool→Bool→Bool) (a b:Rg):Rg:=if dY op a b=0 then comb op a.w.toNat a b else cQ
theorem gU.zero {w b:World}{a:Int}(hb:Below w w b):gU w cQ a (.returned (.tuple #[.agg zR,a])) b:=⟨0,false,none,0,0,rfl,RgS.nil _ _,hb⟩
theorem uW {a:Rg}(h:nR a):eI a.w.toNat a/\dP a:=⟨h.2.2.2.1,h.2.2.1,h.2.2.2.2⟩
theorem qM (g i j:Bool)(a:Rg)(xa:Int)(fa:Bool)(Aa:Option Addr)(na ca:Nat)(b:Rg)(xb:Int)(fb:Bool)(Ab:Option Addr)(nb cb:Nat)(w:World)(O:RgS w xa fa Aa na ca a)(P:RgS w xb fb Ab nb cb b)(b2:kD a)(b3:kD b) :
 Calls Tryz.prog 96 #[.agg #[xa,.bool fa,.slice Aa na ca],.agg #[xb,.bool fb,.slice Ab nb cb],.agg #[.bool g,.bool i,.bool j]] w fun e w'=>gU w (cX (uX g i j) a b) (dY (uX g i j) a b) e w':=by
 obtain⟨p,q⟩:=zE (dY (uX g i j) a b);obtain⟨S,N⟩:=zE (cX (uX g i j) a b);rw[q.out,N.out];have a6:p≠0->S=cQ:=fun h=>by rw[<- N.out,cX,if_neg (by rw[q.out];exact h)]
 have M:=Z a6;have J:=Z O;have HB:=Z P;have a5:=Z (And.intro b2 b3);have E:=O.hw;have F:=P.hw;clear O P b2 b3 a6;obtain⟨W0,L⟩:∃W:World,Hid ((((w.alloc (.cells #[xa,.bool fa,.slice Aa na ca] 71)).alloc (.cells #[xb,.bool fb,.slice Ab nb cb] 71)).alloc (.cells #[.bool g,.bool i,.bool j] 153)).alloc (.cells zR 71)=W):=⟨_,rfl⟩;have t:Hid (aT W0 w 71 #[xa,.bool fa,.slice Aa na ca]/\aT W0 (w.heap.size+1) 71 #[xb,.bool fb,.slice Ab nb cb]/\aT W0 (w.heap.size+2) 153 #[.bool g,.bool i,.bool j]/\aT W0 (w.heap.size+3) 71 zR):=by rw[<- L.out];exact Z ⟨(((aT.step rfl).alloc _).alloc _).alloc _,((aT.step (by simp)).alloc _).alloc _,(aT.step (by simp)).alloc _,aT.step (by simp)⟩
 have K:Hid (Below w w W0):=by rw[<- L.out];exact Z (((((aB _ _).alloc (aD _) _).alloc (by simp) _).alloc (by simp;omega) _).alloc (by simp;omega) _)
 obtain⟨b9,u⟩:=zE (okB a);obtain⟨c0,D⟩:=zE (okB b);go_enter Tryz.func96,Tryz.ntmps96;go_wp2_with fail;rw[L.out];refine(nF a xa fa Aa na ca _ (J.out.keep (aC K.out))).mono ?_;rintro e w1 ⟨rfl,hb1⟩;rw[u.out];have k:=Z (And.intro (t.out.1.below hb1) (And.intro (t.out.2.1.below hb1) (And.intro (t.out.2.2.1.below hb1) (t.out.2.2.2.below hb1))));have C:=Z (cC1 K.out hb1);clear hb1 t K;have z3:=k.out.2.2.2.cell;obtain⟨y,z,B⟩:=bF k.out.2.2.2 zO zF;cases b9
 . have d:=(bY (a':=zO) (b':=zF) (c':=zN) k.out.2.2.2).cell;have H:=(k.out.2.2.2.set_ 0 zO).cell;have I:=((k.out.2.2.2.set_ 0 zO).set_ 1 zF).cell;have o:=Z (bD C.out (show w.heap.size<=w.heap.size+3 by omega) zO zF zN);have e1:p=40:=(by rw[<- q.out];simp[dY,u.out]);have e2:=M.out (by omega);subst e1 e2;unfold cO at d;go_wp2;exact aF (v:=.tuple #[.agg zR,(40:Int)]) (by simp[results,Tryz.results96,go_sem,d]) rfl (gU.zero o.out)
 . have T:=k.out.2.1.cell;clear y z B z3;go_wp2_with fail;refine(nF b xb fb Ab nb cb _ (HB.out.keep (aC C.out))).mono ?_;rintro e w2 ⟨rfl,hb2⟩;rw[D.out];have l:=Z (And.intro (k.out.1.below hb2) (And.intro (k.out.2.1.below hb2) (And.intro (k.out.2.2.1.below hb2) (k.out.2.2.2.below hb2))));have r:=Z (cC1 C.out hb2);clear hb2 k C T;have z1:=l.out.1.cell;have T:=l.out.2.1.cell;have z3:=l.out.2.2.2.cell;obtain⟨y,z,B⟩:=bF l.out.2.2.2 zO zF;have a7:∀(h:p=40),S=cQ:=fun h=>M.out (by omega);have U:=Z a7;clear a7;have d:=(bY (a':=zO) (b':=zF) (c':=zN) l.out.2.2.2).cell;have H:=(l.out.2.2.2.set_ 0 zO).cell;have I:=((l.out.2.2.2.set_ 0 zO).set_ 1 zF).cell;have o:=Z (bD r.out (show w.heap.size<=w.heap.size+3 by omega) zO zF zN);unfold cO at d;cases c0
   . have e1:p=40:=(by rw[<- q.out];simp[dY,D.out]);have e2:=U.out e1;subst e1 e2;go_wp2;exact aF (v:=.tuple #[.agg zR,(40:Int)]) (by simp[results,Tryz.results96,go_sem,d]) rfl (gU.zero o.out)
   . by_cases hw:xa=xb
     . have g1:(xa != xb)=false:=(by simp[hw]);have b7:=Z hw;have z5:=l.out.2.2.1.cell;have b1:=uW (fR.1 u.out);have R:=uW (fR.1 D.out);have b8:a.w.toNat<=12:=(by have:=(fR.1 u.out).2.1;omega);have hwb:b.w.toNat=a.w.toNat:=(by rw[E,F,hw]);rw[hwb]at R;have a1:=Z b1;have a2:=Z R;clear hw b1 R hwb H I d o y z B z3 E F;go_wp2_with fail;refine(aY7 g i j a.w.toNat b8 a b xa fa Aa na ca xb fb Ab nb cb _ (J.out.keep (aC r.out)) (HB.out.keep (aC r.out)) a1.out.1 a2.out.1 a5.out.1 a5.out.2 a1.out.2 a2.out.2).mono ?_;rintro e G ⟨x,f,A,n,c,ok,rfl,b0,a9,Q⟩;have a3:=Z b0;have a0:=Z a9;have a4:=Z (l.out.2.2.2.below Q);have V:=Z (cC1 r.out Q);have a8:p=if (comb (uX g i j) a.w.toNat a b).size<=64/\(comb (uX g i j) a.w.toNat a b).fits=true then 0 else 2:=by rw[<- q.out,dY,u.out,D.out,if_pos];simp only[Bool.and_true,Bool.true_and,decide_eq_true_eq];rw[J.out.hw,HB.out.hw];exact b7.out
       have Y:=Z a8;have b5:Hid (ok=true->RgS (G.alloc (.cells #[x,.bool f,.slice A n c] 71)) x f A n c (comb (uX g i j) a.w.toNat a b)):=Z (fun h=>(a0.out h).s.keep (aM _ _));have m:=Z (a4.out.alloc (.cells #[x,.bool f,.slice A n c] 71));have b4:=Z (aT.new G 71 #[x,.bool f,.slice A n c]);have X:=Z (V.out.alloc V.out.size (.cells #[x,.bool f,.slice A n c] 71));have c1:¬w.heap.size+3=G.heap.size:=(by have:=a4.out.lt;omega);clear b0 a9 a8 l r z1 T z5 Q;go_upto_region 4 with fail;generalize hW4:G.alloc (.cells #[x,.bool f,.slice A n c] 71)=W4 at *;clear hW4 a0;have z3:=m.out.cell;cases ok
       . have e1:p=2:=(by rw[Y.out];exact if_neg (fun h=>by have:=a3.out.2 h;cases this));have e2:=M.out (by omega);subst e1 e2;obtain⟨y,z,B⟩:=bF m.out zO zF;have d:=(bY (a':=zO) (b':=zF) (c':=zN) m.out).cell;have H:=(m.out.set_ 0 zO).cell;have I:=((m.out.set_ 0 zO).set_ 1 zF).cell;have o:=Z (bD X.out (show w.heap.size<=w.heap.size+3 by omega) zO zF zN);unfold cO at d;go_wp2;exact aF (v:=.tuple #[.agg zR,(2:Int)]) (by simp[results,Tryz.results96,go_sem,d]) rfl (gU.zero o.out)
       . have e1:p=0:=(by rw[Y.out];exact if_pos (a3.out.1 rfl));have e2:S=comb (uX g i j) a.w.toNat a b:=(by rw[<- N.out,cX,if_pos (by rw[q.out];exact e1)]);subst e1 e2;have z4:=b4.out.cell;obtain⟨y,z,B⟩:=bF m.out x (.bool f);have d:=(bY (a':=.int .i64 x) (b':=.bool f) (c':=.slice A n c) m.out).cell;have H:=(m.out.set_ 0 x).cell;have I:=((m.out.set_ 0 x).set_ 1 (.bool f)).cell;have o:=Z (bD X.out (show w.heap.size<=w.heap.size+3 by omega) x (.bool f) (.slice A n c));have b6:=Z (RgS.off m.out (bJ _ (w.heap.size+3) x (.bool f) (.slice A n c)) (b5.out rfl));unfold cO at d;go_wp2;exact aF (v:=.tuple #[.agg #[x,.bool f,.slice A n c],zO]) (by simp[results,Tryz.results96,go_sem,d]) rfl ⟨x,f,A,n,c,rfl,b6.out,o.out⟩
     . have g1:(xa != xb)=true:=(by simp[hw]);have e1:p=40:=(by rw[<- q.out];simp[dY,E,F,hw]);have e2:=U.out e1;subst e1 e2;clear E F;go_wp2;exact aF (v:=.tuple #[.agg zR,(40:Int)]) (by simp[results,Tryz.results96,go_sem,d]) rfl (gU.zero o.out)
def SmR:Rg→Prop
 |.nil _ _=>True
 |.cons vs rest tail=>vs.length≤100000∧rest.len≤100000∧SmR rest∧SmR tail
def Sm (r:Rg):Prop:=r.len≤100000∧SmR r
theorem SmR.mem {p:List Iv×Rg}:∀ {r:Rg},SmR r->p∈r.parts->p.1.length<=100000/\Sm p.2
 |.nil _ _,_,h=>by cases h
 |
  .cons vs rest tail,hs,h=>by
  rcases List.mem_cons.1 h with rfl|h
  . exact⟨hs.1,hs.2.1,hs.2.2.1⟩
  . exact SmR.mem hs.2.2.2 h
theorem SmR.of {w:Int}{f:Bool}:∀ {L:List (List Iv×Rg)},(∀p∈L,p.1.length<=100000/\Sm p.2)->SmR (tN w f L)
 |[],_=>trivial
 |p::L,h=>⟨(h p aQ).1,(h p aQ).2.1,(h p aQ).2.2,SmR.of fun q a=>h q (aS _ a)⟩
theorem len_mk (w:Int)(f:Bool)(L:List (List Iv×Rg)):(tN w f L).len=L.length:=by rw[<- cI,iS]
theorem Sm.of {w:Int}{f:Bool}{L:List (List Iv×Rg)}(a:L.length<=100000)(h:∀p∈L,p.1.length<=100000/\Sm p.2):Sm (tN w f L):=⟨by rw[len_mk];exact a,SmR.of h⟩
theorem Sm.nil (w:Int)(f:Bool):Sm (.nil w f):=⟨Nat.zero_le _,trivial⟩
theorem Sm.mem {p:List Iv×Rg}{r:Rg}(h:Sm r)(a:p∈r.parts):p.1.length<=100000/\Sm p.2:=SmR.mem h.2 a
theorem tE:∀ {r:Rg},r.size<=64->r.fits=true->SmR r
 |.nil _ _,_,_=>trivial
 |
  .cons vs rest tail,h1,h2=>by
  simp only[Rg.fits,aI,decide_eq_true_eq]at h2;simp only[Rg.size]at h1;have:=eK rest;exact⟨by omega,by omega,tE (by omega) h2.1.2,tE (by omega) h2.2⟩
theorem nX {r:Rg}(h:dP r):Sm r:=⟨by have:=eK r;have:=h.1;omega,tE h.1 h.2⟩
theorem aV9 (v:Vl):∀l:List Vl,(xR v l).length<=l.length+1
 |[]=>by simp[xR]
 |
  x::l=>by
  have a:=aV9 v l;unfold xR
  repeat' split
  all_goals simp only[bL]
  all_goals omega
theorem aG1:∀l:List Vl,(uI l).length<=l.length
 |[]=>aD _
 |
  x::l=>by
  have a:=aG1 l;have:=aV9 x (uI l);show(xR x (uI l)).length<=_;rw[bL];omega
theorem aH0:∀l:List Iv,(cR l).length<=2*l.length
 |[]=>aD _
 |
  x::l=>by
  have a:=aH0 l;unfold cR;cases x.o<;>simp<;>omega
theorem vG:∀ {L:List (List Iv)} {m:Nat},(∀l∈L,l.length<=m)->(L.flatMap cR).length<=2*m*L.length
 |[],_,_=>by simp
 |
  l::L,m,h=>by
  have d:=vG (L:=L) (m:=m) fun q a=>h q (aS _ a);have b:=h l aQ;have c:=aH0 l;rw[List.flatMap_cons,cF,bL,Nat.mul_succ];omega
theorem nC {r:Rg}(h:dP r):(dU r).length<=64/\∀l∈dU r,l.length<=64:=by
 refine⟨by unfold dU;rw[List.length_map,cI];exact bI (eK r) h.1,fun l a=>?_⟩;obtain⟨p,b,rfl⟩:=List.mem_map.1 a;exact(lV h.2 b).1
theorem bH9 {a b:Rg}(d:dP a)(hb:dP b):(kI a b).length<=16384:=by
 have h:=aG1 ((dU a++dU b).flatMap cR);have e:=vG (L:=dU a++dU b) (m:=64) fun l c=>by
  rcases List.mem_append.1 c with c|c
  . exact(nC d).2 l c
  . exact(nC hb).2 l c
 have g:=(nC d).1;have i:=(nC hb).1;rw[cF]at e;show(uI _).length<=_;omega
theorem aQ7:∀l:List Rg,(mP l).length<=l.length
 |[]=>aD _
 |
  r::l=>by
  have a:=aQ7 l;unfold mP;split
  . rw[bL];omega
  . have:=List.length_filter_le (fun s=>decide (s≠r)) (mP l);rw[bL,bL];omega
theorem bA7 (ro:Vl->Rg)(P:List Vl)(r:Rg):(dT ro P r).length<=P.length:=by
 unfold dT;have b:=aN6 (pN (fun p=>decide (ro p=r)) false P);have a:=(mM (fun p=>decide (ro p=r)) P false).2;cases P with
 |nil=>simp[pN,dS]
 |cons x P=>rw[bL]at a ⊢;omega
theorem jX {n:Int}{r:Rg}(h:dP r)(v:Vl):dP (r.at_ n v):=by
 rcases lJ n v r with⟨p,a,_,e⟩|⟨e,_⟩
 . rw[e];have:=uJ a;have:=h.1;exact⟨by omega,(lV h.2 a).2⟩
 . rw[e];exact⟨by simp[Rg.size],rfl⟩
theorem yL (op:Bool->Bool->Bool):∀(n:Nat) (a b:Rg),dP a->dP b->Sm (comb op n a b)
 |0,_,_,_,_=>Sm.nil _ _
 |
  n+1,a,b,ha,hb=>by
  have e:=bH9 ha hb;refine Sm.of ?_ fun p c=>?_
  . unfold cY;rw[List.length_map];have:=aQ7 ((kI a b).map fun p=>comb op n (a.at_ (n:Int) p) (b.at_ (n:Int) p));rw[List.length_map]at this;omega
  . obtain⟨r,d,rfl⟩:=List.mem_map.1 c;refine⟨bI (bA7 _ _ _) (by omega),?_⟩;obtain⟨q,_,rfl⟩:=List.mem_map.1 ((eQ r _).1 d).1;exact yL op n _ _ (jX ha q) (jX hb q)
def fnd:List (List Iv×Rg)→Vl→Option Rg
 |[],_=>none
 |p::ps,v=>if aW6 p.1 v then some p.2 else fnd ps v
def aW7:Rg→List Vl→Bool
 |r,[]=>r.f
 |
  r,v::l=>match fnd r.parts v with
  |none=>false
  |some q=>aW7 q l
noncomputable def aW5 (r:Rg) (l:List Vl):Bool:=okB r&&decide ((l.length:Int)=r.w)&&aW7 r l
theorem bY3 {ps:List (List Iv×Rg)}{k:Nat}{p:List Iv×Rg}{v:Vl}{o:Option Rg}(a:ps[k]?=some p)(h:fnd (ps.drop k) v=o):(if aW6 p.1 v then some p.2 else fnd (ps.drop (k+1)) v)=o:=by
 rw[eL a]at h;exact h
theorem bP7 {r:Rg}{l:List Vl}{k:Nat}{v:Vl}{a:Bool}(b:l[k]?=some v)(h:aW7 r (l.drop k)=a):(match fnd (r.parts.drop 0) v with|none=>false|some q=>aW7 q (l.drop (k+1)))=a:=by
 rw[eL b]at h;exact h
theorem aW8 (r:Rg)(x:Int)(f:Bool)(A:Option Addr)(n c:Nat)(l:List Vl)(B:Option Addr)(m cb:Nat)(w:World)(a0:RgS w x f A n c r)(a1:qA w B m l) :
 Calls Tryz.prog 38 #[.agg #[x,.bool f,.slice A n c],.slice B m cb] w fun e w'=>e=.returned (.bool (aW5 r l))/\Below w w w':=by
 obtain⟨J,H⟩:=zE (aW5 r l);rw[H.out];have N:=Z a0.hw;have M:=Z a1.1;have Q:=Z a0;have b3:=Z a1;clear a0 a1;obtain⟨v1,D⟩:=zE (okB r);go_enter Tryz.func38,Tryz.ntmps38;go_wp2_with fail;refine(nF r x f A n c _ (Q.out.keep (aM _ _))).mono ?_;rintro e w1 ⟨rfl,hb1⟩;rw[D.out];have R:=Z ((aT.new w 71 #[x,.bool f,.slice A n c]).below hb1);have F:=Z (cC1 ((aB _ _).alloc (aD _) _) hb1);clear hb1;have z:=R.out.cell;cases v1
 . obtain rfl:J=false:=(by rw[<- H.out,aW5,D.out];rfl);clear z;go_wp2;go_ret;exact⟨rfl,F.out⟩
 . by_cases P:(m:Int)=x
   . have a4:=fR.1 D.out;have e6:(m:Int)<=12:=(by have:=a4.2.1;have:=N.out;omega);have b8:=Z a4.2.2.1;clear a4;have b5:Hid (aW7 r (l.drop 0)=J):=Z (by rw[<- H.out,aW5,D.out,decide_eq_true (by rw[N.out,M.out];exact P)];rfl);subst P;have b0:=Z (Q.out.keep (aC F.out));clear N H D Q;go_wp2_with fail;go_loopw [22] (fun i wr=>∃(k:Nat) (C:Rg) (x':Int) (f':Bool) (A':Option Addr) (n' c':Nat),k<=m/\i=.int .i64 (k:Int)/\Hid (aW7 C (l.drop k)=J)/\Hid (aT wr w 71 #[x',.bool f',.slice A' n' c'])/\Hid (RgS wr x' f' A' n' c' C)/\Hid (Below w w wr)/\Hid (C.size<=64)) (fun i _=>m-(intOf i).toNat);case atStart=>exact⟨0,r,_,f,A,n,c,by omega,rfl,b5,R,b0,F,b8⟩
     case round =>
      obtain⟨k,C,x',f',A',n',c',hk,rfl,U,L,K,G,b7⟩:=hrel;clear z R b0 F b5 b8;have e7:n'<=64:=(by have:=K.out.len;have:=eK C;have:=b7.out;omega);by_cases hlt:k<m
      . obtain⟨b,o,⟨u,s,v⟩,rfl,hv,hc⟩:=(b3.out.keep (aC G.out)).at hlt;have c9:wr.cell? ⟨b,o+k*3,none⟩=some u:=hc 0 u rfl;have c1:wr.cell? ⟨b,o+k*3+1,none⟩=some s:=hc 1 s rfl;have c2:wr.cell? ⟨b,o+k*3+2,none⟩=some v:=hc 2 v rfl;have W:=Z (bP7 hv U.out);clear hv hc U;have b4:=Z (aT.new wr 59 #[u,s,v]);have b2:=Z (L.out.alloc (.cells #[u,s,v] 59));have b1:=Z (K.out.keep (aM wr (.cells #[u,s,v] 59)));have a7:=Z (G.out.alloc G.out.size (.cells #[u,s,v] 59));obtain⟨X,S⟩:=zE (wr.heap.size);rw[S.out]at b4;have d7:=Z (show w.heap.size≠X by have:=L.out.lt;have:=S.out;omega);go_upto_region 7 with fail;rw[S.out];generalize hW2:wr.alloc (.cells #[u,s,v] 59)=w2 at *;clear hW2 L K G c9 c1 c2;have z:=b2.out.cell;obtain⟨Y,b6⟩:=zE (fnd (C.parts.drop 0) ⟨u,s,v⟩);rw[b6.out]at W;go_wp2_with fail;go_loopw [29,7] (fun j t wr=>∃(q:Nat),q<=n'/\j=.int .i64 (q:Int)/\t=.int .i64 (-1)/\Hid (fnd (C.parts.drop q) ⟨u,s,v⟩=Y)/\Hid (Below w2 w2 wr)) (fun j _ _=>n' - (intOf j).toNat);case atStart=>exact⟨0,by omega,rfl,rfl,b6,Z (aB _ _)⟩
        case round =>
         obtain⟨q,hq,rfl,rfl,T,y⟩:=hrel;clear z;by_cases d5:q<n'
         . obtain⟨d8,o2,p,A1,n1,c1,a,g,A2,n2,c2,rfl,hp,b9⟩:=(b1.out.keep (aC y.out)).at d5;have V:=Z (bY3 hp T.out);have c8:=Z (show p.2.size<=64 by have:=iX hp;have:=b7.out;omega);have a9:=Z b9;obtain⟨d0,d1,d2,d3,a3,a5,I⟩:=b9;clear hp a3 a5 I T;have c7:=Z ((b4.out.below y.out).alloc (.cells #[.slice A1 n1 c1,a,.bool g,.slice A2 n2 c2] 141));have c5:=Z ((b2.out.below y.out).alloc (.cells #[.slice A1 n1 c1,a,.bool g,.slice A2 n2 c2] 141));have a8:=Z (a9.out.keep (aM wr (.cells #[.slice A1 n1 c1,a,.bool g,.slice A2 n2 c2] 141)));have c0:=Z (y.out.alloc y.out.size (.cells #[.slice A1 n1 c1,a,.bool g,.slice A2 n2 c2] 141));have d6:=c7.out.cell;go_wp2_with fail;generalize hW3:wr.alloc (.cells #[.slice A1 n1 c1,a,.bool g,.slice A2 n2 c2] 141)=w3 at *;clear hW3 d0 d1 d2 d3 d6 y a9;refine(has_any A1 n1 c1 p.1 ⟨u,s,v⟩ _ a8.out.vs).mono ?_;rintro e w4 ⟨rfl,O⟩;obtain⟨d,Hd⟩:=zE (aW6 p.1 ⟨u,s,v⟩);rw[Hd.out]at V ⊢;have a6:=Z (cC1 c0.out O);cases d
           . go_wp2;go_roundw;case rel=>exact⟨q+1,by omega,by go_num,rfl,Z V.out,a6⟩
             case measure=>simp[intOf];omega
           . have a2:some p.2=Y:=V.out;subst a2;have E:=Z (c5.out.below O);obtain⟨e0,e1,e2,e3,a3,a5,I⟩:=a8.out.keep (aC O);have d4:p.2.w=a:=I.hw;have c4:=Z (RgS.off E.out (bJ _ w a (.bool g) (.slice A2 n2 c2)) I);have c3:=Z (bD (cC1 a7.out a6.out) (aD w) a (.bool g) (.slice A2 n2 c2));have c6:=Z (bY (a':=.int .i64 a) (b':=.bool g) (c':=.slice A2 n2 c2) E.out);have e8:=E.out.cell;obtain⟨d9,e4,e5⟩:=bF E.out a (.bool g);have y1:=(E.out.set_ 0 a).cell;have y2:=((E.out.set_ 0 a).set_ 1 (.bool g)).cell;have g1:decide ((q:Int)<0)=false:=(by simp);clear a3 a5 I O d4;go_wp2;go_roundw;case rel=>exact⟨k+1,p.2,a,g,A2,n2,c2,by omega,by go_num,Z W.out,c6,c4,c3,c8⟩
             case measure=>simp[intOf];omega
         . have a2:none=Y:=(by rw[<- T.out,aU (by rw[cI];have:=b1.out.len;omega)];rfl);subst a2;obtain rfl:false=J:=W.out;go_wp2;go_ret;exact⟨rfl,cC1 a7.out y.out⟩
      . have h1:=U.out;rw[aU (by rw[M.out];omega)]at h1;have h2:=K.out.hf;have z:=L.out.cell;clear b3 M;go_wp2;go_ret;exact⟨bR (by rw[<- h1];exact h2.symm),G.out⟩
   . obtain rfl:J=false:=(by rw[<- H.out,aW5,D.out,decide_eq_false (by rw[N.out,M.out];exact P)];rfl);have g1:((m:Int) != x)=true:=(by simpa using P);go_wp2;go_ret;exact⟨rfl,F.out⟩
theorem wO (x:Int)(f:Bool)(A:Option Addr)(n c:Nat)(r:Rg)(w:World)(a:RgS w x f A n c r) :
 Calls Tryz.prog 223 #[.agg #[x,.bool f,.slice A n c]] w fun e w'=>e=.returned (.bool r.nix)/\Below w w w':=by
 rw[bI4,<- a.len,a.hf];clear a;cases f
 . go_enter Tryz.func223,Tryz.ntmps223;go_wp2;go_ret;refine⟨bR ?_,(aB _ _).alloc (aD _) _⟩;rw[bV];simp
 . go_enter Tryz.func223,Tryz.ntmps223;go_wp2;go_ret;exact⟨bR (by simp),(aB _ _).alloc (aD _) _⟩
def tX (m:Nat) (r:Rg):Nat:=if m+r.size≤64 then m+r.size else 65
theorem aC1 (r:Rg):∀(x:Int) (f:Bool) (A:Option Addr) (n c m:Nat) (w:World),RgS w x f A n c r->m<=64 ->
 Calls Tryz.prog 230 #[.agg #[x,.bool f,.slice A n c],(m:Int)] w fun e w'=>e=.returned (tX m r:Int)/\Below w w w':=by
 induction hsz:r.size using Nat.strongRecOn generalizing r with
 |
  _ s ih =>
  intro x f A n c m w u hm;have G:=Z ih;have C:=Z u;have K:=Z hsz;have a0:=u.ok.1;have I:Hid (m+eB (r.parts.drop 0)=m+s):=by show _=_;rw[List.drop_zero,<- iQ,hsz]
  generalize a:tX m r=z;have l:Hid ((if m+s<=64 then m+s else 65)=z):=by show _=_;rw[<- a,tX,hsz]
  have t:Below w w (w.alloc (.cells #[x,.bool f,.slice A n c] 71)):=(aB _ _).alloc (aD _) _;obtain⟨W0,j⟩:∃W:World,Hid (w.alloc (.cells #[x,.bool f,.slice A n c] 71)=W):=⟨_,rfl⟩;rw[j.out]at t;have F:Hid (aT W0 w 71 #[x,.bool f,.slice A n c]):=by have:=aT.new w 71 #[x,.bool f,.slice A n c];rw[j.out]at this;exact this
  clear ih u hsz a;go_enter Tryz.func230,Tryz.ntmps230;go_wp2;go_loopw [1,9] (fun v i wr=>∃(k q:Nat),k<=n/\i=.int .i64 (k:Int)/\v=.int .i64 (q:Int)/\q<=64/\m+k<=q/\Hid (q+eB (r.parts.drop k)=m+s)/\Below W0 W0 wr) (fun _ i _=>n-(intOf i).toNat);case atStart=>exact⟨0,m,by omega,rfl,rfl,hm,by omega,I,by rw[j.out];exact aB _ _⟩
  case round =>
   obtain⟨k,q,hk,rfl,rfl,a1,Y,d,y⟩:=hrel;have hb:=cC1 t y;by_cases hlt:k<n
   . obtain⟨b,o,p,A1,n1,c1,U,T,A2,n2,c2,rfl,hp,R⟩:=(C.out.keep (aC hb)).at hlt;have D:=iX hp;rw[K.out]at D;have Hd:=Z (oZ hp);obtain⟨L,M,N,O,Q,S,E⟩:=R;have J:=Z E;have V:=(F.out.below y).cell;clear hp Q S E;rcases Nat.lt_or_ge q 64 with hq|hq
     . have P:decide (64<(q:Int)+1)=false:=(by simp;omega);have H:=Z (G.out p.2.size D p.2 rfl);go_wp2_with fail;refine(H.out U T A2 n2 c2 (q+1) _ J.out (by omega)).mono ?_;rintro e w2 ⟨rfl,hb2⟩;have B:=Z (cC1 y hb2);clear V L M N O hb2;by_cases g:q+1+p.2.size<=64
       . have e1:tX (q+1) p.2=q+1+p.2.size:=(by rw[tX,if_pos g]);rw[e1];have X:decide (64<((q+1+p.2.size:Nat):Int))=false:=(by simp;omega);go_wp2;go_roundw;case rel=>refine⟨k+1,q+1+p.2.size,by omega,by go_num,rfl,g,by omega,?_,B.out⟩;show _=_;have h1:=d.out;have h2:=Hd.out;omega
         case measure=>simp[intOf];omega
       . have e1:tX (q+1) p.2=65:=(by rw[tX,if_neg g]);rw[e1];have a:z=65:=(by rw[<- l.out,if_neg];have h1:=d.out;have h2:=Hd.out;omega);clear g;go_wp2;go_ret;exact⟨hN (by rw[a];rfl),cC1 t B.out⟩
     . have P:decide (64<(q:Int)+1)=true:=(by simp;omega);have a:z=q+1:=by
        rw[<- l.out,if_neg]
        . omega
        . have h1:=d.out;have h2:=Hd.out;omega
       go_wp2;go_ret;exact⟨hN (by rw[a];omega),hb⟩
   . have a:z=q:=(by have h1:=d.out;rw[aU (by rw[cI];have:=C.out.len;omega)]at h1;simp only[eB,List.map_nil,List.sum_nil]at h1;rw[<- l.out,if_pos]<;>omega);go_wp2;go_ret;exact⟨hN (by rw[a]),hb⟩
theorem bQ5 (r:Rg):∀(x:Int) (f:Bool) (A:Option Addr) (n c:Nat) (w:World),RgS w x f A n c r->Sm r ->
 Calls Tryz.prog 232 #[.agg #[x,.bool f,.slice A n c]] w fun e w'=>e=.returned (.bool r.fits)/\Below w w w':=by
 induction hsz:r.size using Nat.strongRecOn generalizing r with
 |
  _ s ih =>
  intro x f A n c w d q;have J:=Z ih;have y:=Z d;have O:=Z hsz;have M:=Z q;have hn:n<=100000:=by rw[d.len];exact q.1
  have a2:=d.ok.1;generalize a:r.fits=z;have N:Hid (((r.parts.drop 0).all fun p=>decide (p.1.length<=64)&&p.2.fits)=z):=by show _=_;rw[List.drop_zero,<- a,bV,List.all_eq_true,oH];simp
  have l:Below w w (w.alloc (.cells #[x,.bool f,.slice A n c] 71)):=(aB _ _).alloc (aD _) _;obtain⟨W0,g⟩:∃W:World,Hid (w.alloc (.cells #[x,.bool f,.slice A n c] 71)=W):=⟨_,rfl⟩;rw[g.out]at l;have I:Hid (aT W0 w 71 #[x,.bool f,.slice A n c]):=by have:=aT.new w 71 #[x,.bool f,.slice A n c];rw[g.out]at this;exact this
  clear ih d hsz a q;go_enter Tryz.func232,Tryz.ntmps232;go_wp2;go_loopw [7] (fun i wr=>∃k:Nat,k<=n/\i=.int .i64 (k:Int)/\Hid (((r.parts.drop k).all fun p=>decide (p.1.length<=64)&&p.2.fits)=z)/\Below W0 W0 wr) (fun i _=>n-(intOf i).toNat);case atStart=>exact⟨0,by omega,rfl,N,by rw[g.out];exact aB _ _⟩
  case round =>
   obtain⟨k,hk,rfl,D,m⟩:=hrel;have hb:=cC1 l m;by_cases hlt:k<n
   . obtain⟨b,o,p,A1,n1,c1,a0,Y,A2,n2,c2,rfl,hp,X⟩:=(y.out.keep (aC hb)).at hlt;have G:=iX hp;rw[O.out]at G;have B:=Z (M.out.mem (aJ hp));have E:Hid (((decide (p.1.length<=64)&&p.2.fits)&&(r.parts.drop (k+1)).all fun p=>decide (p.1.length<=64)&&p.2.fits)=z):=(by show _=_;rw[<- D.out,eL hp,List.all_cons]);obtain⟨P,Q,R,S,V,t,H⟩:=X;have C:=Z t.len;have a1:n1<=100000:=(by rw[<- t.len];exact B.out.1);have L:=Z H;have z1:=(I.out.below m).cell;clear hp V t H;rcases Nat.lt_or_ge 64 n1 with U|U
     . have T:decide (64<(n1:Int))=true:=(by simp;omega);have a:z=false:=(by rw[<- E.out,decide_eq_false (by rw[C.out];omega)];rfl);go_wp2;go_ret;exact⟨bR a.symm,hb⟩
     . have T:decide (64<(n1:Int))=false:=(by simp;omega);have K:=Z (J.out p.2.size G p.2 rfl);go_wp2_with fail;refine(K.out a0 Y A2 n2 c2 _ L.out B.out.2).mono ?_;rintro e w2 ⟨rfl,hb2⟩;have u:=Z (cC1 m hb2);have F:Hid ((p.2.fits&&(r.parts.drop (k+1)).all fun p=>decide (p.1.length<=64)&&p.2.fits)=z):=(by show _=_;rw[<- E.out,decide_eq_true (show p.1.length<=64 by rw[C.out];omega),Bool.true_and]);obtain⟨v,j⟩:=zE (p.2.fits);rw[j.out];clear z1 P Q R S hb2;cases v
       . go_wp2;go_ret;exact⟨bR (by rw[<- F.out,j.out];rfl),cC1 l u.out⟩
       . go_wp2;go_roundw;case rel=>refine⟨k+1,by omega,by go_num,?_,u.out⟩;show _=_;rw[<- F.out,j.out,Bool.true_and]
         case measure=>simp[intOf];omega
   . have a:z=true:=(by rw[<- D.out,aU (by rw[cI];have:=y.out.len;omega)];rfl);go_wp2;go_ret;exact⟨bR a.symm,hb⟩
theorem aI4 (r:Rg)(x:Int)(f:Bool)(A:Option Addr)(n c:Nat)(i:Int)(w:World)(a:RgS w x f A n c r)(hi:i<(n:Int))(z : -1<=i)(hx:0<=x/\x<=12) :
 Calls Tryz.prog 236 #[.agg #[x,.bool f,.slice A n c],i] w fun e w'=>RgOne w (fU r i) e w':=by
 have d:=a.hw;have HB:Hid (Below w w ((w.alloc (.cells #[x,.bool f,.slice A n c] 71)).alloc (.cells zR 71))):=Z (((aB _ _).alloc (aD _) _).alloc (by simp) _);rcases cD i 0 with h0|h0
 . have q:decide (i<0)=true:=(by simp;omega);have hr:fU r i=.nil (x-1) false:=(by simp[fU,h0,d]);rw[hr];clear hr a d;go_enter Tryz.func236,Tryz.ntmps236;go_wp2;refine aF (v:=.agg #[.int .i64 (x-1),zF,zN]) (by simp[results,Tryz.results236,go_sem]) rfl ⟨x-1,false,none,0,0,rfl,RgS.nil _ _,?_⟩;repeat(first|exact HB.out|exact aB _ _|refine Below.setCell ?_ (by simp) _|refine Below.alloc ?_ (by simp) _)
 . obtain⟨k,rfl⟩:=bO h0;have q:decide ((k:Int)<0)=false:=(by simp);have hr:∀p,r.parts[k]?=some p->fU r (k:Int)=p.2:=fun p hp=>(by unfold fU;rw[if_neg (by omega),bM,hp]);obtain⟨b,o,p,A1,n1,c1,l,j,A2,n2,c2,rfl,hp,g,s⟩:=a.at2 (aC HB.out) (show k<n by omega);rw[hr p hp];have m:=Z g.rg;clear g;obtain⟨_,t,u,y,_,_,_⟩:=s;clear hr a d hp;go_enter Tryz.func236,Tryz.ntmps236;go_wp2;refine aF (v:=.agg #[l,.bool j,.slice A2 n2 c2]) (by simp[results,Tryz.results236,go_sem]) rfl ⟨l,j,A2,n2,c2,rfl,(m.out.keep (aM _ _)).keep (aM _ _),?_⟩;exact((aB _ _).alloc (aD _) _).alloc (by simp) _
theorem bK5 (r:Rg)(x:Int)(f:Bool)(A:Option Addr)(n c:Nat)(v:Vl)(w:World)(u:RgS w x f A n c r)(E:Sm r) :
 Calls Tryz.prog 235 #[.agg #[x,.bool f,.slice A n c],.agg #[v.k,v.i,v.t]] w fun e w'=>e=.returned (.int .i64 (kG r.parts v))/\Below w w w':=by
 have hn:n<=100000:=by rw[u.len];exact E.1
 have a1:=u.ok.1;have G:=Z u;have N:=Z E;obtain⟨d,a,g⟩:=v;generalize m:kG r.parts ⟨d,a,g⟩=z;have H:=Z m;obtain⟨W0,s⟩:∃W:World,Hid ((w.alloc (.cells #[x,.bool f,.slice A n c] 71)).alloc (.cells #[d,a,g] 59)=W):=⟨_,rfl⟩;have I:Below w w W0:=by rw[<- s.out];exact((aB _ _).alloc (aD _) _).alloc (by simp) _
 have L:Hid (aT W0 w 71 #[x,.bool f,.slice A n c]):=by rw[<- s.out];exact Z ((aT.new w _ _).alloc _)
 have M:Hid (aT W0 (w.heap.size+1) 59 #[d,a,g]):=by have:=aT.new (w.alloc (.cells #[x,.bool f,.slice A n c] 71)) 59 #[d,a,g];rw[aX,s.out]at this;exact Z this
 clear u E m;go_enter Tryz.func235,Tryz.ntmps235;go_wp2;go_loopw [9] (fun i wr=>∃k:Nat,k<=n/\i=.int .i64 (k:Int)/\Hid (∀q∈r.parts.take k,eP q.1 ⟨d,a,g⟩=false)/\Below W0 W0 wr) (fun i _=>n-(intOf i).toNat);case atStart=>exact⟨0,by omega,rfl,Z (by simp),by rw[s.out];exact aB _ _⟩
 case round =>
  obtain⟨k,hk,rfl,C,y⟩:=hrel;have hb:=cC1 I y;by_cases hlt:k<n
  . obtain⟨b,o,p,A1,n1,c1,a3,a2,A2,n2,c2,rfl,hp,J⟩:=(G.out.keep (aC hb.drew)).at hlt;have B:=Z hp;have a0:n1<=100000:=(by rw[<- J.vs.len];exact(N.out.mem (aJ hp)).1);obtain⟨P,Q,R,S,U,K,V⟩:=J;have O:=Z K;have X:=(L.out.below y).drew.cell;have Y:=(M.out.below y).drew.cell;have T:=@bK wr.drew;clear hp U K V;obtain⟨t,l⟩:=zE (eP p.1 ⟨d,a,g⟩);go_wp2;refine aZ [([0,1,2,3,4,5,6],7)] [] ?_;simp only[bS,cP];unfold bA;repeat(go_big_quiet_step (fail))
    refine aA ?_;clear T X Y;go_wp2_with (first|(go_at_call 264;refine(aM0 A1 n1 c1 p.1 ⟨d,a,g⟩ _ O.out (by omega)).mono ?_;rintro e w3 ⟨rfl,D⟩;rw[l.out]));refine⟨D,?_⟩;unfold bA;refine aA ?_;have F:=Z (cC1 y.drew D);clear P Q R S D;cases t
    . go_wp2;go_roundw;case rel =>
       refine⟨k+1,by omega,by go_num,?_,F.out⟩;show ∀q∈_,_;rw[cU B.out];intro q hq;rcases List.mem_append.1 hq with hq|hq
       . exact C.out q hq
       . rw[List.mem_singleton.1 hq];exact l.out
      case measure=>simp[intOf];omega
    . have m:z=(k:Int):=by
       rw[<- H.out];rcases kO ⟨d,a,g⟩ r.parts with⟨_,h⟩|⟨j,q,h1,h2,h3,h4⟩
       . rw[h p (aJ B.out)]at l;cases l.out
       . rw[h3];rcases Nat.lt_trichotomy j k with h|h|h
         . have:=C.out q (aJ (i:=j) (by rw[List.getElem?_take,if_pos h];exact h1));rw[this]at h2;cases h2
         . rw[h]
         . have h5:=h4 k p h B.out;rw[h5]at l;cases l.out
      go_wp2;go_ret;exact⟨hN m.symm,cC1 I F.out⟩
  . have m:z = -1:=by
     rw[<- H.out];rcases kO ⟨d,a,g⟩ r.parts with⟨h,_⟩|⟨j,q,h1,h2,h3,h4⟩
     . exact h
     . have hj:=(List.getElem?_eq_some_iff.1 h1).1;rw[cI]at hj;have:=C.out q (aJ (i:=j) (by rw[List.getElem?_take,if_pos (by have:=G.out.len;omega)];exact h1));rw[this]at h2;cases h2
    go_wp2;go_ret;exact⟨hN m.symm,hb⟩
theorem rZ (a:Rg):∀(x:Int) (f:Bool) (A:Option Addr) (n c:Nat) (y:Int) (g:Bool) (B:Option Addr) (m d:Nat) (b:Rg) (w:World),RgS w x f A n c a->RgS w y g B m d b->Sm a->Sm b ->
 Calls Tryz.prog 35 #[.agg #[x,.bool f,.slice A n c],.agg #[y,.bool g,.slice B m d]] w fun e w'=>e=.returned (.bool (decide (a=b)))/\Below w w w':=by
 induction hsz:a.size using Nat.strongRecOn generalizing a with
 |
  _ s ih =>
  intro x f A n c y g B m d b w l o z C;have v:Below w w ((w.alloc (.cells #[x,.bool f,.slice A n c] 71)).alloc (.cells #[y,.bool g,.slice B m d] 71)):=((aB _ _).alloc (aD _) _).alloc (by simp) _;have h0:decide (a=b)=(decide (x=y)&&decide (f=g)&&decide (a.parts=b.parts)):=by rw[bV];simp only[decide_eq_true_eq,aI];rw[aG5,l.hw,o.hw,l.hf,o.hf,and_assoc]
  have hn:=l.len;have hm:=o.len;have d0:n<=100000:=by rw[hn];exact z.1
  have c6:m<=100000:=by rw[hm];exact C.1
  rw[h0];clear h0;by_cases D:x=y
  . by_cases F:f=g
    . by_cases a0:n=m
      . subst D F a0;generalize hr:(decide (x=x)&&decide (f=f)&&decide (a.parts=b.parts))=r;have b4:Hid (decide (a.parts.drop 0=b.parts.drop 0)=r):=(by show _=_;simpa using hr);have b2:=Z ih;have a7:=Z l;have a8:=Z o;have b7:=Z hsz;have b5:=Z z;have b6:=Z C;have j:=Z v;have c8:=l.ok.1;have c9:=o.ok.1;clear ih l o hsz hr z C hn hm v;have V:(x != x)=false:=(by simp);have g2:(f != f)=false:=(by simp);go_enter Tryz.func35,Tryz.ntmps35;go_wp2;obtain⟨W0,G⟩:∃W:World,Hid ((w.alloc (.cells #[x,.bool f,.slice A n c] 71)).alloc (.cells #[x,.bool f,.slice B n d] 71)=W):=⟨_,rfl⟩;rw[G.out]at j;have E1:Hid (aT W0 w 71 #[x,.bool f,.slice A n c]):=(by rw[<- G.out];exact Z ((aT.new w _ _).alloc _));have E2:Hid (aT W0 (w.heap.size+1) 71 #[x,.bool f,.slice B n d]):=(by have:=aT.new (w.alloc (.cells #[x,.bool f,.slice A n c] 71)) 71 #[x,.bool f,.slice B n d];rw[G.out,aX]at this;exact this);go_loopw [30] (fun i wr=>∃k:Nat,k<=n/\i=.int .i64 (k:Int)/\Hid (decide (a.parts.drop k=b.parts.drop k)=r)/\Below W0 W0 wr) (fun i _=>n-(intOf i).toNat);case atStart=>exact⟨0,by omega,rfl,b4,by rw[G.out];exact aB _ _⟩
        case round =>
         obtain⟨k,hk,rfl,Y,E⟩:=hrel;have hb:=cC1 j.out E;by_cases hlt:k<n
         . obtain⟨c3,o1,p,A1,n1,c1,x1,f1,A2,n2,c2,rfl,hp,a1⟩:=(a7.out.keep (aC hb.drew)).at hlt;obtain⟨c4,o2,q,B1,m1,d1,y1,c0,B2,m2,d2,rfl,hq,a2⟩:=(a8.out.keep (aC hb.drew)).at hlt;have T:Hid (r=(decide (p.1=q.1)&&decide (p.2=q.2)&&decide (a.parts.drop (k+1)=b.parts.drop (k+1)))):=(by show _=_;rw[<- Y.out,eL hp,eL hq,bV];simp only[List.cons.injEq,decide_eq_true_eq,aI,Prod.ext_iff]);have a9:=iX hp;rw[b7.out]at a9;have a5:=Z (b5.out.mem (aJ hp));have a6:=Z (b6.out.mem (aJ hq));have b3:=Z (b2.out p.2.size a9 p.2 rfl);have c7:n1<=100000:=(by rw[<- a1.vs.len];exact a5.out.1);have c5:m1<=100000:=(by rw[<- a2.vs.len];exact a6.out.1);have R:=Z a1;have S:=Z a2;obtain⟨K,L,M,N,_,_,_⟩:=a1;obtain⟨O,q1,q2,q3,_,_,_⟩:=a2;have P:=(E1.out.below E).drew.cell;have Q:=(E2.out.below E).drew.cell;have J:=@bK wr.drew;clear hp hq Y;obtain⟨t,H⟩:=zE (decide (p.1=q.1));go_wp2;refine aZ [([0,1,2,3,4,5,6,7,8,9,10,11],12),([13,14,15,16,17,18,19,20,21,22,23,24,25,26],27)] [28,29] ?_;simp only[bS,cP];unfold bA;repeat(go_big_quiet_step (fail))
           refine aA ?_;clear J P Q K L M N O q1 q2 q3;go_wp2_with (first|(go_at_call 88;refine(bT7 A1 B1 n1 m1 c1 d1 p.1 q.1 _ R.out.vs S.out.vs (by omega) (by omega)).mono ?_;rintro e w2 ⟨rfl,hb2⟩;rw[H.out]));refine⟨hb2,?_⟩;have I:=cC1 E.drew hb2;have a3:=Z I;obtain⟨K,L,M,N,_,_,b0⟩:=R.out.keep (aC hb2);obtain⟨O,q1,q2,q3,_,_,b1⟩:=S.out.keep (aC hb2);have b8:=Z b0;have b9:=Z b1;have P:=(E1.out.below I).cell;have Q:=(E2.out.below I).cell;have J:=@bK w2;clear b0 b1 hb2 I R S hb E;unfold bA;cases t
           . repeat(go_big_quiet_step (fail))
             refine aA ?_;clear J P Q K L M N O q1 q2 q3;go_wp2_with fail;refine⟨aB _ _,?_⟩;unfold bA;repeat(go_big_quiet_step (fail))
             refine aA ?_;go_wp2;go_ret;exact⟨bR (by rw[T.out,H.out];rfl),cC1 j.out a3.out⟩
           . repeat(go_big_quiet_step (fail))
             refine aA ?_;clear J P Q K L M N O q1 q2 q3;obtain⟨u,U⟩:=zE (decide (p.2=q.2));go_wp2_with (first|(go_at_call 35;refine(b3.out x1 f1 A2 n2 c2 y1 c0 B2 m2 d2 q.2 _ b8.out b9.out a5.out.2 a6.out.2).mono ?_;rintro e w3 ⟨rfl,X⟩;rw[U.out]));refine⟨X,?_⟩;have a4:=Z (cC1 a3.out X);clear X;unfold bA;cases u
             . repeat(go_big_quiet_step (fail))
               refine aA ?_;go_wp2;go_ret;exact⟨bR (by rw[T.out,H.out,U.out];rfl),cC1 j.out a4.out⟩
             . repeat(go_big_quiet_step (fail))
               refine aA ?_;go_wp2;go_roundw;case rel=>refine⟨k+1,by omega,by go_num,?_,a4.out⟩;show _=_;rw[T.out,H.out,U.out];simp
               case measure=>simp[intOf];omega
         . go_wp2;go_ret;have h1:a.parts.drop k=[]:=aU (by rw[cI];have:=a7.out.len;omega);have h2:b.parts.drop k=[]:=aU (by rw[cI];have:=a8.out.len;omega);exact⟨bR (by rw[<- Y.out,h1,h2];simp),hb⟩
      . have hr:(decide (x=y)&&decide (f=g)&&decide (a.parts=b.parts))=false:=(by have:a.parts≠b.parts:=fun h=>a0 (by rw[hn,hm,<- cI,<- cI,h]);simp[this]);rw[hr];have g3:((n:Int) != (m:Int))=true:=(by simp;omega);subst D F;have V:(x != x)=false:=(by simp);have g2:(f != f)=false:=(by simp);have j:=Z v;clear ih l o hsz hr z C hn hm v a0;go_enter Tryz.func35,Tryz.ntmps35;go_wp2;go_ret;exact⟨rfl,j.out⟩
    . have hr:(decide (x=y)&&decide (f=g)&&decide (a.parts=b.parts))=false:=(by simp[F]);rw[hr];subst D;have V:(x != x)=false:=(by simp);have j:=Z v;clear ih l o hsz hr z C hn hm v;cases f<;>cases g<;>first|exact absurd rfl F|skip
      all_goals
       clear F;go_enter Tryz.func35,Tryz.ntmps35;go_wp2;go_ret;exact⟨rfl,j.out⟩
  . have hr:(decide (x=y)&&decide (f=g)&&decide (a.parts=b.parts))=false:=(by simp[D]);rw[hr];have V:(x != y)=true:=(by simp[D]);have j:=Z v;clear ih l o hsz hr z C hn hm v D;go_enter Tryz.func35,Tryz.ntmps35;go_wp2;go_ret;exact⟨rfl,j.out⟩
end Go.Proofs.YtnnmlhmffnfjfaaGreat
