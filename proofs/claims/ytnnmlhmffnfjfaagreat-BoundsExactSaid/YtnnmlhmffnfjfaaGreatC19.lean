/- Texts on which the walk stands. -/
import Derived.Test.YtnnmlhmffnfjfaaGreatC18
open Go renaming wpQuiet_nil → aA, bodyPost_ret → aF
open Go.RowKit.Below renaming refl → aB
open Nat renaming le_refl → aD, add_zero → bX
open List renaming mem_cons_self → aQ, mem_cons_of_mem → aS, getD_eq_getElem?_getD → bG
open Int renaming toNat_natCast → bM, eq_ofNat_of_zero_le → bO
set_option maxHeartbeats 16000000
set_option linter.unusedVariables false
set_option maxRecDepth 100000
namespace Go.Proofs.YtnnmlhmffnfjfaaGreat
section
open Go.RowKit
open Pd
theorem bJ6:(Tryz.prog.info? 64).map (fun i=>(i.zero,i.size,i.bytes))=some (some (.agg #[.int .i64 0,.int .i64 0,.int .i64 0,.int .i64 0,.int .i64 0,.int .i64 0,.string ⟨#[]⟩,.int .i64 0,.int .i64 0,.int .i64 0,.int .i64 0,.string ⟨#[]⟩,.slice none 0 0]),13,136):=by kernel_rfl
def tnD:Nat→Nat
 |0=>1
 |d+1=>1+3*tnD d
theorem bG9:∀d,1<=tnD d
 |0=>aD _
 |d+1=>by unfold tnD;omega
theorem aQ9 {d:Nat}(h:0<d):tnD d=1+3*tnD (d-1):=by
 cases d with
 |zero=>omega
 |succ d=>rfl
def rE (cols:List Int) (K:Nat) (w:World) (g:Nat) (e:Ending) (w':World):Prop:=∃(p:Pd) (A:Option Addr) (n c:Nat),e=.returned (.agg (iK p.h A n c))∧PrdL (fun b=>w.heap.size≤b) w' A n c p∧dB cols [] p=true∧nT p∧CaseAt w' g∧But (· = g) w w'∧p.nodes≤K
def cA8 (cols:List Int) (d:Nat):Prop:=∀(B g:Nat) (Ac:Option Addr) (nc cc:Nat) (dz:Int) (w:World),dz=(d:Int)→CaseAt w g→ClJ B g w Ac nc cols→nc≤12→iC cols=true→Calls Tryz.prog 75 #[.pointer (some ⟨g,0,none⟩),.slice Ac nc cc,.slice none 0 0,.int .i64 dz] w fun e w'=>rE cols (tnD d) w g e w'
structure TrS (w:World) (g T:Nat) (wr:World):Prop where
 bt:aT wr T 64 #[.int .i64 0,.int .i64 0,.int .i64 0,.int .i64 0,.int .i64 0,.int .i64 0,.string ⟨#[]⟩,.int .i64 0,.int .i64 0,.int .i64 0,.int .i64 0,.string ⟨#[]⟩,.slice none 0 0]
 cs:CaseAt wr g
 bu:But (· = g) w wr
 hT:w.heap.size≤T
 hg:g<w.heap.size
section
variable {w wr wr':World} {g T:Nat}
theorem TrS.step (h:TrS w g T wr)(hb:But (· = g) wr wr')(hc:CaseAt wr' g):TrS w g T wr':=⟨h.bt.but hb (by have:=h.hT;have:=h.hg;omega),hc,h.bu.trans hb,h.hT,h.hg⟩
theorem TrS.below (h:TrS w g T wr)(hb:Below wr wr wr'):TrS w g T wr':=h.step (But.of_below hb) (h.cs.below hb)
theorem TrS.off {U:Nat}(h:TrS w g T wr)(hb:But (· = U) wr wr')(a:T<U):TrS w g T wr':=⟨h.bt.but hb (by omega),lX h.cs hb (by have:=h.hT;have:=h.hg;omega),sL h.bu hb (by have:=h.hT;omega),h.hT,h.hg⟩
theorem TrS.belowB {B:Nat}(h:TrS w g T wr)(hb:Below B wr wr')(a:T<B):TrS w g T wr':=⟨(hb.block T a).trans h.bt,pJ h.cs hb (by have:=h.hT;have:=h.hg;omega),qW h.bu hb (by have:=h.hT;omega),h.hT,h.hg⟩
theorem TrS.fin {cols:List Int}{K:Nat}(h:TrS w g T wr){p:Pd}{A:Option Addr}{n c:Nat}(d:PrdL (fun b=>w.heap.size<=b/\b≠T) wr A n c p)(e:dB cols [] p=true)(i:nT p)(a:p.nodes<=K)(vs:List Value)(j:(iK p.h A n c).toList=vs):rE cols K w g (.returned (.agg (iK p.h A n c))) (mB wr T 0 vs) :=
 ⟨p,A,n,c,rfl,(d.but (fE T vs wr 0) (fun b h _=>h.2)).mono (fun _ h _=>h.1),e,i,lX h.cs (fE _ _ _ _) (by have:=h.hT;have:=h.hg;omega),sL h.bu (fE _ _ _ _) h.hT,a⟩
theorem bA9 {cols:List Int}{a k:Int}{l r:Od}(hc:1<=a/\a<=6)(d:k=3\/k=4\/k=5)(b:OdOk cols k l)(c:OdOk cols k r):dB cols [] (.nil ⟨3,a,l,r⟩)=true/\nT (.nil ⟨3,a,l,r⟩):=by
 refine⟨?_,⟨b.rg,c.rg⟩,trivial⟩;show(fK cols [] ⟨3,a,l,r⟩ 0&&true)=true;unfold fK;rw[if_pos rfl,Bool.and_true];refine decide_eq_true ⟨rfl,hc,?_,?_⟩
 . rw[show dJ cols [] l=k from b.kd];omega
 . rw[show dJ cols [] l=k from b.kd,show dJ cols [] r=k from c.kd]
theorem rO (op:Int):tM (dX op):=⟨⟨by show gV<=(0:Int);decide,by show(0:Int)<=9223372036854775807;decide⟩,⟨by show gV<=(0:Int);decide,by show(0:Int)<=9223372036854775807;decide⟩⟩
theorem xF (op:Int):iJ (dX op)=true:=decide_eq_true ⟨rfl,rfl,rfl⟩
theorem aQ6 {cols:List Int}{op:Int}(h:op=1\/op=2):dB cols [] (.nil (dX op))=true/\nT (.nil (dX op)):=by
 refine⟨?_,rO op,trivial⟩;rcases h with rfl|rfl<;>rfl
theorem bM1 {cols:List Int}{q:Pd}(b:dB cols [] q=true)(a:nT q):dB cols [] (.cons q (.nil (dX 6)))=true/\nT (.cons q (.nil (dX 6))):=by
 refine⟨?_,rO 6,a.1,a.2,trivial⟩;show(fK cols [] (dX 6) 1&&(dB cols [] q&&true))=true;rw[b];rfl
theorem bA8 {cols:List Int}{op:Int}(h:op=4\/op=5){l:List Pd}(b:∀q∈l,dB cols [] q=true/\nT q):dB cols [] (uA (dX op) l)=true/\nT (uA (dX op) l):=by
 refine⟨?_,?_⟩
 . unfold dB;rw[aO0,Bool.and_eq_true,oV,sM];refine⟨?_,fun q c=>(b q c).1⟩;unfold fK;rcases h with rfl|rfl
   . exact xF 4
   . exact xF 5
 . refine⟨by rw[aO0];exact rO op,?_⟩;clear h
   induction l with
   |nil=>trivial
   |cons a l ih=>exact⟨(b a aQ).2.1,(b a aQ).2.2,ih fun q c=>b q (aS _ c)⟩
end
theorem aV3 (h:Nd){K:Nat}:∀ {l:List Pd},(∀q∈l,q.nodes<=K)->(uA h l).nodes<=1+l.length*K
 |[],_=>by simp[uA,nodes]
 |
  a::l,hl=>by
  have c:=hl a aQ;have d:=aV3 h (l:=l) (fun q b=>hl q (aS _ b));simp only[uA,nodes,List.length_cons,Nat.succ_mul];omega
def fN (g:Nat) (a b:World):Prop:=But (· = g) a b
theorem xH (g:Nat):∀a b c,fN g a b->fN g b c->fN g a c:=fun _ _ _ h k=>But.trans h k
structure LpS (cols:List Int) (K:Nat) (w:World) (g T O:Nat) (op:Int) (A:Option Addr) (n c:Nat) (es:List PdE) (wr:World):Prop where
 q:TrS w g T wr
 bo:aT wr O 64 #[.int .i64 op,.int .i64 0,.int .i64 0,.int .i64 0,.int .i64 0,.int .i64 0,.string ⟨#[]⟩,.int .i64 0,.int .i64 0,.int .i64 0,.int .i64 0,.string ⟨#[]⟩,.slice A n c]
 ow:wr.ownsRow (O+1) 64 13 (.slice A n c) n (es.flatMap PdE.cs)
 ln:es.length=n
 ps:∀ e∈es,PrdL (fun b=>O+1≤b∧some b≠(Value.slice A n c).ownBlock) wr e.A e.n e.c e.p∧dB cols [] e.p=true∧nT e.p∧e.p.nodes≤K
 lo:T<O
section
variable {cols:List Int} {K:Nat} {w wr wr':World} {g T O:Nat} {op:Int} {A:Option Addr} {n c:Nat} {es:List PdE}
theorem LpS.gO (h:LpS cols K w g T O op A n c es wr):g<O:=by have:=h.q.hT;have:=h.q.hg;have:=h.lo;omega
theorem LpS.step (h:LpS cols K w g T O op A n c es wr)(hb:But (· = g) wr wr')(hc:CaseAt wr' g):LpS cols K w g T O op A n c es wr':=by
 have j:=h.gO;refine⟨h.q.step hb hc,h.bo.but hb (by omega),fB h.ow hb (fun q i=>by have:=(cN h.ow i).1;omega),h.ln,fun e a=>⟨(h.ps e a).1.but hb (fun b d _=>by have:=d.1;omega),(h.ps e a).2⟩,h.lo⟩
theorem LpS.below (h:LpS cols K w g T O op A n c es wr)(hb:Below wr wr wr'):LpS cols K w g T O op A n c es wr':=h.step (But.of_below hb) (h.q.cs.below hb)
theorem LpS.app (h:LpS cols K w g T O op A n c es wr){V:Nat}(B:∀b,(Value.slice A n c).ownBlock=some b->b<V)(I:O<V){q:PdE}(E:PrdL (fun b=>V<=b) wr q.A q.n q.c q.p)(F:dB cols [] q.p=true)(H:nT q.p/\q.p.nodes<=K)
 {cs:Array Value}{G i:Nat}{d:World}(s:d.ownsRow (O+1) 64 13 (.slice (some ⟨G,0,none⟩) (n+1) i) (n+1) ((es++[q]).flatMap PdE.cs))(D:(wr.alloc (.cells cs 64)).grownBy d (Value.slice A n c).ownBlock)(r:Below (O+1) wr d)(l:(Value.slice A n c).ownBlock=some G\/G=wr.heap.size+1) :
 LpS cols K w g T O op (some ⟨G,0,none⟩) (n+1) i (es++[q]) (d.setCell ⟨O,12,none⟩ (.slice (some ⟨G,0,none⟩) (n+1) i)):=by
 have J:(wr.alloc (.cells cs 64)).heap.size=wr.heap.size+1:=by simp
 have o:But (· = O) d (d.setCell ⟨O,12,none⟩ (.slice (some ⟨G,0,none⟩) (n+1) i)):=But.set (S:=fun k=>k=O) d (p:=⟨O,12,none⟩) rfl _;have y:But (fun k=>(Value.slice A n c).ownBlock=some k) (wr.alloc (.cells cs 64)) d:=cC5 D (fun k m=>m);have C:aT d O 64 _:=(r.block O (by omega)).trans h.bo;refine⟨(h.q.belowB r (by have:=h.lo;omega)).off o h.lo,C.set_ 12 _,fB s o (fun k m=>by have:=(cN s m).1;omega),by rw[List.length_append,h.ln];rfl,fun e j=>?_,h.lo⟩;have t:∀ {e:PdE},PrdL (fun b=>O+1<=b/\some b≠(Value.slice A n c).ownBlock) wr e.A e.n e.c e.p->PrdL (fun b=>O+1<=b/\some b≠(Value.slice (some ⟨G,0,none⟩) (n+1) i).ownBlock) (d.setCell ⟨O,12,none⟩ (.slice (some ⟨G,0,none⟩) (n+1) i)) e.A e.n e.c e.p:=by
  intro e z;have v:=z.mono (L':=fun b=>(O+1<=b/\some b≠(Value.slice A n c).ownBlock)/\b<wr.heap.size) fun b a hb=>⟨a,hb⟩;have x:=(v.but (But.alloc (S:=fun _=>False) wr (.cells cs 64)) (fun _ _ _ h=>h)).but y (fun b a _ e=>a.1.2 e.symm);refine(x.but o (fun b a _=>by have:=a.1.1;omega)).mono fun b a _=>⟨a.1.1,fun e=>?_⟩;have u:b=G:=by simpa[Value.ownBlock]using e
  rcases l with l|l
  . exact a.1.2 (by rw[l,u])
  . have:=a.2;omega
 rcases List.mem_append.1 j with j|j
 . exact⟨t (h.ps e j).1,(h.ps e j).2⟩
 . rw[List.mem_singleton.1 j];exact⟨t (E.mono fun b a _=>⟨by omega,fun e=>by have:=B b e.symm;omega⟩),F,H⟩
theorem LpS.fin {d:Nat}(h:LpS cols K w g T O op A n c es wr)(t:op=4\/op=5)(y:1+n*K<=d)(vs:List Value)(v:(iK (dX op) A n c).toList=vs):rE cols d w g (.returned (.agg (iK (dX op) A n c))) (mB wr T 0 vs):=by
 have s:=yA (L:=fun b=>O+1<=b) (dX op) h.ow h.ln (fun b hb=>(cN h.ow hb).1) (fun e a=>(h.ps e a).1.mono fun _ m _=>m.1);obtain⟨u,x⟩:=bA8 t (cols:=cols) (l:=es.map PdE.p) (fun q i=>by
  obtain⟨e,a,rfl⟩:=List.mem_map.1 i;exact⟨(h.ps e a).2.1,(h.ps e a).2.2.1⟩)
 have r:(uA (dX op) (es.map PdE.p)).nodes<=d:=by
  have o:=aV3 (dX op) (l:=es.map PdE.p) (K:=K) (fun q i=>by
   obtain⟨e,a,rfl⟩:=List.mem_map.1 i;exact(h.ps e a).2.2.2)
  rw[List.length_map,h.ln]at o;omega
 have k:(uA (dX op) (es.map PdE.p)).h=dX op:=aO0 _ _;have j:=h.q.fin (p:=uA (dX op) (es.map PdE.p)) (A:=A) (n:=n) (c:=c) (s.mono fun b m _=>⟨by have:=h.lo;have:=h.q.hT;omega,by have:=h.lo;omega⟩) u x r vs (by rw[k];exact v);rw[k]at j;exact j
end
set_option maxRecDepth 100000 in
theorem aF7 (cols:List Int)(d:Nat)(hd:d<=3)(ih:0<d->cA8 cols (d-1)):cA8 cols d:=by
 intro B g c3 J c9 a1 w j1 hc hl hn j0;obtain⟨l6,hi,a9,b0,b1⟩:=info_parts bJ6;have Y:=Z ih;have K:=Z j0;have F:=Z hl;have L:=Z j1;have m3:0<=a1:=by omega
 have m4:a1<=3:=by omega
 obtain⟨W0,f2⟩:∃W:World,Hid (w.alloc (.cells #[zO,zO,zO,zO,zO,zO,zS,zO,zO,zO,zO,zS,zN] 64)=W):=⟨_,rfl⟩;obtain⟨T,U⟩:=zE (w.heap.size);have HQ:Hid (TrS w g T W0):=by rw[<- f2.out,<- U.out];exact Z ⟨aT.new _ _ _,hc.below ((aB _ _).alloc (aD _) _),But.alloc _ _,aD _,hc.lt⟩
 clear hc hl j0 ih j1;go_enter Tryz.func75,Tryz.ntmps75;go_wp2_with fail;rw[f2.out,U.out];refine(gE g 9 _ HQ.out.cs (by omega) (by omega)).mono ?_;rintro e w1 ⟨⟨x,g2,g3,rfl⟩,i4,hb1⟩;replace HQ:=Z (HQ.out.step hb1 i4);have X:=Z (And.intro g2 g3);clear i4 hb1 f2 g2 g3;go_upto_region 2 with fail;go_cut [9,16]from 14 (fun n b wc=>n=.int .i64 x/\∃c8:Bool,b=.bool c8/\Hid (c8=true->x=0)/\Hid (TrS w g T wc));case first =>
  by_cases h0:x=0
  . subst h0;go_wp2_with fail;refine(mZ g 2 _ HQ.out.cs (by omega) (by omega)).mono ?_;rintro e O ⟨⟨b,rfl⟩,i6,hb2⟩;replace HQ:=Z (HQ.out.step hb2 i6);clear i6 hb2;go_wp2;go_meet;case rel=>exact⟨rfl,b,rfl,Z (fun _=>by trivial),HQ⟩
  . have m2:(x == 0)=false:=(by simp[h0]);clear h0;go_wp2;go_meet;case rel=>exact⟨rfl,false,rfl,Z (fun h=>by cases h),HQ⟩
 case rest =>
 clear HQ;obtain⟨rfl,c8,rfl,c4,HQ⟩:=hcut;obtain⟨O,f4⟩:∃z,z=wc:=⟨_,rfl⟩;subst f4;cases c8;rotate_left
 . go_wp2_with fail;refine(gE g 2 _ HQ.out.cs (by omega) (by omega)).mono ?_;rintro e u ⟨⟨y,N,a8,rfl⟩,I,G⟩;replace HQ:=Z (HQ.out.step G I);have hv:=aQ6 (cols:=cols) (op:=1+y) (by omega);have E:Hid (rE cols (tnD d) w g (.returned (.agg #[.int .i64 (1+y),zO,zO,zO,zO,zO,zS,zO,zO,zO,zO,zS,zN])) (mB u T 0 [.int .i64 (1+y),zO,zO,zO,zO,zO,zS,zO,zO,zO,zO,zS,zN])):=Z (HQ.out.fin (p:=.nil (dX (1+y))) (PrdL.nil _ _ _) hv.1 hv.2 (bG9 d) _ rfl);clear I G hv;obtain⟨b2,b8,b3,b9,b4,c0,b5,c1,b6,c2,b7,e0,d6,e1,d7,e2,d8,e3,d9,e4,d5,g8,g5,g9,g7,h2,Q,D,C⟩:=qJ (w:=u) (HQ.out.bt) (.int .i64 (1+y)) zO zO zO zO zO zS zO zO zO zO zS zN;rw[C]at E;clear D C;clear F HQ X c4 Y K L hi a9 b0 b1 U;go_wp2;exact aF (v:=.agg #[.int .i64 (1+y),zO,zO,zO,zO,zO,zS,zO,zO,zO,zO,zS,zN]) (by simp[results,Tryz.results75,go_sem,Q]) rfl E.out
 go_upto_region 4 with fail;go_cut [27]from 14 (fun b wc=>wc=O/\b=.bool (decide (x<6\/d=0)));case first =>
  by_cases h6:x<6
  . go_wp2;go_meet;case rel=>exact⟨rfl,by rw[decide_eq_true (.inl h6)]⟩
  . by_cases l1:d=0
    . have h1:a1<1:=(by have:=L.out;omega);go_wp2;go_meet;case rel=>exact⟨rfl,by rw[decide_eq_true (.inr l1)]⟩
    . have h1:¬a1<1:=(by have:=L.out;omega);go_wp2;go_meet;case rel=>exact⟨rfl,by rw[decide_eq_false (fun h=>by omega)]⟩
 case rest =>
 obtain⟨rfl,rfl⟩:=hcut;obtain⟨O,f4⟩:∃z,z=wc:=⟨_,rfl⟩;subst f4;by_cases a6:x<6\/d=0
 . rw[decide_eq_true a6];clear a6 Y X c4;go_upto_if 36 with fail;go_cut [10]from 14 (fun v wc=>∃s:Int,v=.int .i64 s/\Hid (s=3\/s=4\/s=5)/\Hid (TrS w g T wc));case first =>
    by_cases m7:0<J
    . go_wp2_with fail;refine(gE g (J:Int) _ HQ.out.cs (by omega) (by omega)).mono ?_;rintro e u ⟨⟨y,N,a8,rfl⟩,I,G⟩;obtain⟨m,rfl⟩:=bO N;have hm:m<J:=(by omega);replace HQ:=Z (HQ.out.step G I);clear N a8 I G;obtain⟨m1,m8,s,rfl,hx,j8⟩:=(F.out.case HQ.out.bu).sl.at hm;have k7:=j8 0 _ rfl;simp only[Nat.mul_one,bX]at k7;have k2:Hid (s=3\/s=4\/s=5):=Z (by
       have h:=List.all_eq_true.1 K.out s (List.mem_of_getElem? hx);have h:=of_decide_eq_true h;omega)
      clear hx j8;go_wp2;go_meet;case rel=>exact⟨s,rfl,k2,HQ⟩
    . obtain rfl:0=J:=(by omega);go_wp2;go_meet;case rel=>exact⟨4,rfl,Z (by omega),HQ⟩
   case rest =>
   clear HQ;obtain⟨s,rfl,R,HQ⟩:=hcut;obtain⟨u,k4⟩:∃z,z=wc:=⟨_,rfl⟩;subst k4;go_wp2_with fail;refine(gE g 6 _ HQ.out.cs (by omega) (by omega)).mono ?_;rintro e w4 ⟨⟨y,N,a8,rfl⟩,a4,a3⟩;replace HQ:=Z (HQ.out.step a3 a4);have h5:Hid (1<=1+y/\1+y<=6):=Z (by omega);clear a4 a3;go_wp2_with fail;refine(xG B g cols c3 J c9 s _ HQ.out.cs (F.out.case HQ.out.bu) hn R.out).mono ?_;rintro e w5 ⟨l,rfl,a7,a5,a0⟩;replace HQ:=Z (HQ.out.step a0 a5);have e6:=Z a7;clear a5 a0 a7;go_wp2_with fail;refine(yT g s _ HQ.out.cs R.out).mono ?_;rintro e P ⟨⟨⟨d1,d0,d2⟩,j5,j6,j7,rfl⟩,i7,i3⟩;replace HQ:=Z (HQ.out.step i3 i7);have S:=Z (bW2 (cols:=cols) j5 j6 j7 R.out);clear j5 j6 j7 i7 i3;have c6:Hid (T<P.heap.size):=Z HQ.out.bt.lt;replace HQ:=Z (HQ.out.below ((aB _ _).alloc (aD _) (.cells #[(3:Int),.int .i64 (1+y),l.k,l.ix,l.v.k,l.v.i,l.v.t,(3:Int),zO,d1,d0,d2,zN] 64)));have o:=Z (aT.new P 64 #[(3:Int),.int .i64 (1+y),l.k,l.ix,l.v.k,l.v.i,l.v.t,(3:Int),zO,d1,d0,d2,zN]);obtain⟨V,M⟩:=zE (P.heap.size);rw[M.out]at o c6;go_upto_region 9 with fail;rw[M.out];generalize hW:P.alloc (.cells #[(3:Int),.int .i64 (1+y),l.k,l.ix,l.v.k,l.v.i,l.v.t,(3:Int),zO,d1,d0,d2,zN] 64)=w7 at *;clear hW M;go_wp2_with fail;refine(mZ g 3 _ HQ.out.cs (by omega) (by omega)).mono ?_;rintro e w8 ⟨⟨b,rfl⟩,i8,g0⟩;have c7:Hid (V≠g):=Z (HQ.out.cs.ne o.out (by decide));replace o:=Z (o.out.but g0 c7.out);replace HQ:=Z (HQ.out.step g0 i8);clear i8 g0;go_upto_if 58 with fail;go_cut []from 14 (fun wc=>∃r:Od,Hid (aT wc V 64 #[(3:Int),.int .i64 (1+y),l.k,l.ix,l.v.k,l.v.i,l.v.t,r.k,r.ix,r.v.k,r.v.i,r.v.t,zN])/\Hid (OdOk cols s r)/\Hid (TrS w g T wc));case first =>
    cases b
    . go_wp2;go_meet;case rel=>exact⟨⟨3,0,⟨d1,d0,d2⟩⟩,o,S,HQ⟩
    . go_wp2_with fail;refine(xG B g cols c3 J c9 s _ HQ.out.cs (F.out.case HQ.out.bu) hn R.out).mono ?_;rintro e w9 ⟨r,rfl,a7,i9,g1⟩;replace o:=Z (o.out.but g1 c7.out);replace HQ:=Z (HQ.out.step g1 i9);have k1:=Z a7;clear i9 g1 a7;obtain⟨b2,b8,b3,b9,b4,c0,b5,c1,b6,c2,b7,D,C⟩:=put5 (w:=w9) (o.out) r.k r.ix r.v.k r.v.i r.v.t;have f0:Hid (aT ((((((w9).setCell ⟨V,7,none⟩ r.k).setCell ⟨V,8,none⟩ r.ix).setCell ⟨V,9,none⟩ r.v.k).setCell ⟨V,10,none⟩ r.v.i).setCell ⟨V,11,none⟩ r.v.t) V 64 #[(3:Int),.int .i64 (1+y),l.k,l.ix,l.v.k,l.v.i,l.v.t,r.k,r.ix,r.v.k,r.v.i,r.v.t,zN]):=Z D;have e9:Hid (TrS w g T ((((((w9).setCell ⟨V,7,none⟩ r.k).setCell ⟨V,8,none⟩ r.ix).setCell ⟨V,9,none⟩ r.v.k).setCell ⟨V,10,none⟩ r.v.i).setCell ⟨V,11,none⟩ r.v.t)):=Z (by
       rw[<- C];exact HQ.out.off (fE V [r.k,r.ix,r.v.k,r.v.i,r.v.t] w9 7) c6.out)
      clear HQ o D C;go_wp2;go_meet;case rel=>exact⟨r,f0,k1,e9⟩
   case rest =>
   clear HQ o S;obtain⟨r,o,S,HQ⟩:=hcut;obtain⟨w9,k5⟩:∃z,z=wc:=⟨_,rfl⟩;subst k5;go_wp2_with fail;refine(mZ g 6 _ HQ.out.cs (by omega) (by omega)).mono ?_;rintro e d3 ⟨⟨k6,rfl⟩,i5,f9⟩;replace o:=Z (o.out.but f9 c7.out);replace HQ:=Z (HQ.out.step f9 i5);clear i5 f9;go_upto_if 66 with fail;go_cut []from 14 (fun wc=>∃l r:Od,Hid (aT wc V 64 #[(3:Int),.int .i64 (1+y),l.k,l.ix,l.v.k,l.v.i,l.v.t,r.k,r.ix,r.v.k,r.v.i,r.v.t,zN])/\Hid (OdOk cols s l/\OdOk cols s r)/\Hid (TrS w g T wc));case first =>
    cases k6
    . go_wp2;go_meet;case rel=>exact⟨l,r,o,Z ⟨e6.out,S.out⟩,HQ⟩
    . skip
      obtain⟨b2,b8,b3,b9,b4,c0,b5,c1,b6,c2,b7,e0,d6,e1,d7,e2,d8,e3,d9,e4,d5,D,C⟩:=put10 (w:=d3) (o.out) r.k r.ix r.v.k r.v.i r.v.t l.k l.ix l.v.k l.v.i l.v.t;have f0:Hid (aT (((((((((((d3).setCell ⟨V,2,none⟩ r.k).setCell ⟨V,3,none⟩ r.ix).setCell ⟨V,4,none⟩ r.v.k).setCell ⟨V,5,none⟩ r.v.i).setCell ⟨V,6,none⟩ r.v.t).setCell ⟨V,7,none⟩ l.k).setCell ⟨V,8,none⟩ l.ix).setCell ⟨V,9,none⟩ l.v.k).setCell ⟨V,10,none⟩ l.v.i).setCell ⟨V,11,none⟩ l.v.t) V 64 #[(3:Int),.int .i64 (1+y),r.k,r.ix,r.v.k,r.v.i,r.v.t,l.k,l.ix,l.v.k,l.v.i,l.v.t,zN]):=Z D;have e9:Hid (TrS w g T (((((((((((d3).setCell ⟨V,2,none⟩ r.k).setCell ⟨V,3,none⟩ r.ix).setCell ⟨V,4,none⟩ r.v.k).setCell ⟨V,5,none⟩ r.v.i).setCell ⟨V,6,none⟩ r.v.t).setCell ⟨V,7,none⟩ l.k).setCell ⟨V,8,none⟩ l.ix).setCell ⟨V,9,none⟩ l.v.k).setCell ⟨V,10,none⟩ l.v.i).setCell ⟨V,11,none⟩ l.v.t)):=Z (by
       rw[<- C];exact HQ.out.off (fE V [r.k,r.ix,r.v.k,r.v.i,r.v.t,l.k,l.ix,l.v.k,l.v.i,l.v.t] d3 2) c6.out)
      clear HQ o D C;go_wp2;go_meet;case rel=>exact⟨r,l,f0,Z ⟨S.out,e6.out⟩,e9⟩
   case rest =>
   clear HQ o e6 S;obtain⟨l2,a,o,e7,HQ⟩:=hcut;obtain⟨j9,k3⟩:∃z,z=wc:=⟨_,rfl⟩;subst k3;have hv:=bA9 h5.out R.out e7.out.1 e7.out.2;have E:Hid (rE cols (tnD d) w g (.returned (.agg #[(3:Int),.int .i64 (1+y),l2.k,l2.ix,l2.v.k,l2.v.i,l2.v.t,a.k,a.ix,a.v.k,a.v.i,a.v.t,zN])) (mB j9 T 0 [(3:Int),.int .i64 (1+y),l2.k,l2.ix,l2.v.k,l2.v.i,l2.v.t,a.k,a.ix,a.v.k,a.v.i,a.v.t,zN])):=Z (HQ.out.fin (p:=.nil ⟨3,1+y,l2,a⟩) (PrdL.nil _ _ _) hv.1 hv.2 (bG9 d) _ rfl);obtain⟨b2,b8,b3,b9,b4,c0,b5,c1,b6,c2,b7,e0,d6,e1,d7,e2,d8,e3,d9,e4,d5,g8,g5,g9,g7,h2,Q,D,C⟩:=qJ (w:=j9) (HQ.out.bt) (3:Int) (.int .i64 (1+y)) l2.k l2.ix l2.v.k l2.v.i l2.v.t a.k a.ix a.v.k a.v.i a.v.t zN;have m0:=o.out.cell;rw[C]at E;clear D C;clear F HQ o h5 e7 R K L hi a9 b0 b1 U hv c6 c7;go_wp2;exact aF (v:=.agg #[(3:Int),.int .i64 (1+y),l2.k,l2.ix,l2.v.k,l2.v.i,l2.v.t,a.k,a.ix,a.v.k,a.v.i,a.v.t,zN]) (by simp[results,Tryz.results75,go_sem,Q]) rfl E.out
 rw[decide_eq_false a6];have H:Hid (0<d/\a1-1=((d-1:Nat):Int)):=Z (by have:=L.out;omega);by_cases h6:x=6
 . subst h6;clear a6 X c4;go_wp2_with fail;refine(Y.out H.out.1 B g c3 J c9 _ _ H.out.2 HQ.out.cs (F.out.case HQ.out.bu) hn K.out).mono ?_;rintro e u ⟨q,A,n,c,rfl,a2,hv,hw,I,G,l3⟩;have k9:=HQ.out.bt.lt;have k8:=G.size;replace HQ:=Z (HQ.out.step G I);have l5:=HQ.out.hT;have f7:=bM1 (cols:=cols) hv hw;have h9:(Pd.cons q (.nil (dX 6))).nodes<=tnD d:=(by rw[aQ9 H.out.1];show q.nodes+1<=_;omega);have f8:Below u u (u.alloc (.cells (iK q.h A n c) 64)):=(aB _ _).alloc (aD _) _;have i1:PrdL (fun b=>w.heap.size<=b/\b≠T) (u.alloc (.cells (iK q.h A n c) 64)) (some ⟨u,0,none⟩) 1 1 (uA (dX 6) ([⟨q,A,n,c⟩].map PdE.p)) :=
    aM5 (es:=[⟨q,A,n,c⟩]) (dX 6) (aT.new _ _ _) (by simp[PdE.cs]) rfl ⟨by omega,by omega⟩ (fun e he=>by
     rw[List.mem_singleton.1 he];exact(a2.mono (L':=fun b=>w.heap.size<=b/\b≠T) (fun b hb _=>⟨by omega,by omega⟩)).below f8)
   have c5:=Z (HQ.out.below f8);have E:Hid (rE cols (tnD d) w g (.returned (.agg #[(6:Int),zO,zO,zO,zO,zO,zS,zO,zO,zO,zO,zS,.slice (some ⟨u,0,none⟩) 1 1])) (mB (u.alloc (.cells (iK q.h A n c) 64)) T 0 [(6:Int),zO,zO,zO,zO,zO,zS,zO,zO,zO,zO,zS,.slice (some ⟨u,0,none⟩) 1 1])):=Z (c5.out.fin (p:=.cons q (.nil (dX 6))) i1 f7.1 f7.2 h9 _ rfl);clear a2 hv hw I G k9 k8 l5 f7 f8 i1 HQ h9 l3;unfold iK at E c5 ⊢;obtain⟨b2,b8,b3,b9,b4,c0,b5,c1,b6,c2,b7,e0,d6,e1,d7,e2,d8,e3,d9,e4,d5,g8,g5,g9,g7,h2,Q,D,C⟩:=qJ (w:=u.alloc (.cells #[q.h.op,q.h.cm,q.h.l.k,q.h.l.ix,q.h.l.v.k,q.h.l.v.i,q.h.l.v.t,q.h.r.k,q.h.r.ix,q.h.r.v.k,q.h.r.v.i,q.h.r.v.t,.slice A n c] 64)) (c5.out.bt) (6:Int) zO zO zO zO zO zS zO zO zO zO zS (.slice (some ⟨u,0,none⟩) 1 1);rw[C]at E;clear D C;clear F c5 K L H Y hi a9 b0 b1 U;go_wp2;exact aF (v:=.agg #[(6:Int),zO,zO,zO,zO,zO,zS,zO,zO,zO,zO,zS,.slice (some ⟨u,0,none⟩) 1 1]) (by simp[results,Tryz.results75,go_sem,Q]) rfl E.out
 have e8:Hid (4+x-7=4\/4+x-7=5):=Z (by have:=X.out;omega);have g6:(x == 6)=false:=by simp[h6]
 obtain⟨g2,g3⟩:=X.out;obtain⟨V,M⟩:=zE (O.heap.size);have HLp:Hid (LpS cols (tnD (d-1)) w g T O (4+x-7) none 0 0 [] (O.alloc (.cells #[.int .i64 (4+x-7),zO,zO,zO,zO,zO,zS,zO,zO,zO,zO,zS,zN] 64))):=Z ⟨HQ.out.below ((aB _ _).alloc (aD _) _),aT.new _ _ _,⟨by simp,.inl ⟨rfl,rfl⟩⟩,rfl,fun e h=>(by cases h),HQ.out.bt.lt⟩;rw[M.out]at HLp;clear h6 X c4 HQ a6;go_upto_region 17 with fail;rw[M.out];generalize hW:O.alloc (.cells #[.int .i64 (4+x-7),zO,zO,zO,zO,zO,zS,zO,zO,zO,zO,zS,zN] 64)=u at *;clear hW M g6;obtain⟨op,h7⟩:=zE (4+x-7);rw[h7.out]at e8 HLp;go_wp2_with fail;refine(gE g 3 _ HLp.out.q.cs (by omega) (by omega)).mono ?_;rintro e w4 ⟨⟨y,N,a8,rfl⟩,a4,a3⟩;obtain⟨n0,rfl⟩:=bO N;have m6:n0<3:=by omega
 replace HLp:=Z (HLp.out.step a3 a4);clear a4 a3 N a8;go_wp2_with fail;go_loopw [13] (fun i wr=>∃(k:Nat) (A:Option Addr) (n c:Nat) (es:List PdE),k<=3/\n+k<=3/\i=.int .i64 ((k:Int)-1)/\Hid (LpS cols (tnD (d-1)) w g T V op A n c es wr)) (fun i _=>(intOf i+1).toNat);case atStart=>exact⟨n0+1,none,0,0,[],by omega,by omega,congrArg (Value.int .i64) (by omega),HLp⟩
 case round =>
  clear HLp;obtain⟨k,A,n,c,es,hk,m5,rfl,HLp⟩:=hrel;by_cases hlt:0<k;rotate_left
  . obtain rfl:0=k:=(by omega);have E:Hid (rE cols (tnD d) w g (.returned (.agg #[op,zO,zO,zO,zO,zO,zS,zO,zO,zO,zO,zS,.slice A n c])) (mB wr T 0 [op,zO,zO,zO,zO,zO,zS,zO,zO,zO,zO,zS,.slice A n c])):=Z (HLp.out.fin e8.out (by rw[aQ9 H.out.1,Nat.add_le_add_iff_left];exact Nat.mul_le_mul_right _ (by omega)) _ rfl);obtain⟨b2,b8,b3,b9,b4,c0,b5,c1,b6,c2,b7,e0,d6,e1,d7,e2,d8,e3,d9,e4,d5,g8,g5,g9,g7,h2,Q,D,C⟩:=qJ (w:=wr) (HLp.out.q.bt) op zO zO zO zO zO zS zO zO zO zO zS (.slice A n c);have m0:=HLp.out.bo.cell;rw[C]at E;clear D C;clear F HLp K L H Y hi a9 b0 b1 U e8 h7;go_wp2;exact aF (v:=.agg #[op,zO,zO,zO,zO,zO,zS,zO,zO,zO,zO,zS,.slice A n c]) (by simp[results,Tryz.results75,go_sem,Q]) rfl E.out
  go_upto_region 20 with fail;refine jQ [9,11] (fN g) bG3 (xH g) pS (.one [0,1,2,3,4,5,6] [] 7 (.one [] [] 8 (.one [] [] 9 (.one [] [10] 11 (.last [] []))))) ?_;replace HLp:=Z (HLp.out.below (aB wr wr).drew);generalize l0:wr.drew=d4 at *;clear l0;have l7:∀(z:LaterR (fN g) d4) j,(cS (fN g) d4 z).cell? ⟨V,j,none⟩=(#[op,zO,zO,zO,zO,zO,zS,zO,zO,zO,zO,zS,.slice A n c]:Array Value)[j]?:=fun z j=>z.cell (HLp.out.bo.cell j) (fun W h=>(HLp.out.bo.but h (by have:=HLp.out.gO;omega)).cell j);unfold eU;simp only[cP];repeat(go_big_quiet_step (fail))
  refine aA ?_;repeat(go_big_quiet_step (fail))
  refine aA ?_;clear l7;go_wp2_with fail;refine(Y.out H.out.1 B g c3 J c9 _ _ H.out.2 HLp.out.q.cs (F.out.case HLp.out.q.bu) hn K.out).mono ?_;rintro e w5 ⟨q,e5,g4,f5,rfl,a2,hv,hw,a5,a0,j3⟩;go_wp2_with fail;refine⟨⟨fun _=>a0,trivial⟩,?_⟩;have f1:Hid ((∀b,(Value.slice A n c).ownBlock=some b->b<d4.heap.size)/\V<d4.heap.size):=Z ⟨fun b hb=>(cN HLp.out.ow hb).2.1,HLp.out.bo.lt⟩;replace HLp:=Z (HLp.out.step a0 a5);have h3:=Z a2;have f3:=Z (And.intro hv (And.intro hw j3));have hsz:V+1<=w5.heap.size:=HLp.out.bo.lt;clear a2 hv hw a5 a0 j3;unfold iK;unfold eU;simp only[cP];repeat(go_big_quiet_step (fail))
  refine aA ?_;repeat(go_big_quiet_step (fail))
  refine aA ?_;go_wp2_with fail;refine⟨⟨fun _=>But.alloc _ _,trivial⟩,?_⟩;unfold eU;simp only[cP];repeat(go_big_quiet_step (fail))
  refine aA ?_;repeat(go_big_quiet_step (fail))
  refine aA ?_;go_wp2_with (at_builtin;go_loud (refine cB (by rfl) (.tmp 96) (.tmp 103) _ (by rfl) (V+1) 64 l6 _ 13 136 Tryz.underlying62 hi a9 b0 b1 (by rfl) (by omega) (.slice A n c) n _ (by rfl) w5 _ HLp.out.ow w5 (by rfl) (by rfl) (by rfl) (aA2 ⟨q,e5,g4,f5⟩) (by simp only[maxLen];omega) (by omega) hsz ?_;intro g6 h8 P j4 j2 f6 i2 l4));refine⟨⟨fun h=>(h (by decide)).elim,trivial⟩,?_⟩;have i0:P.ownsRow (V+1) 64 13 (.slice (some ⟨g6,0,none⟩) (n+1) h8) (n+1) ((es++([⟨q,e5,g4,f5⟩]:List PdE)).flatMap PdE.cs):=by rw[List.flatMap_append];exact j4
  have k0:=Z (HLp.out.app (q:=⟨q,e5,g4,f5⟩) f1.out.1 f1.out.2 h3.out f3.out.1 f3.out.2 i0 j2 f6 i2);have h4:Hid (aT P V 64 #[op,zO,zO,zO,zO,zO,zS,zO,zO,zO,zO,zS,.slice A n c]):=Z ((f6.block V (by omega)).trans HLp.out.bo);clear HLp h3 f3 f1 i0 j4 j2 f6 i2 l4;have l9:=h4.out.cell;have l8:=h4.out.free;unfold eU;simp only[cP];repeat(go_big_quiet_step (fail))
  refine aA ?_;repeat(go_big_quiet_step (fail))
  refine aA ?_;go_wp2_with fail;refine⟨⟨fun h=>(h (by decide)).elim,trivial⟩,?_⟩;unfold eU;simp only[cP];go_simp;repeat(go_big_quiet_step (fail))
  refine aA ?_;repeat(go_big_quiet_step (fail))
  refine aA ?_;clear l9 l8;go_wp2;go_roundw;case rel=>exact⟨k-1,_,n+1,h8,_,by omega,by omega,congrArg (Value.int .i64) (by omega),k0⟩
  case measure=>simp[intOf];omega
theorem zC (cols:List Int):∀d:Nat,d<=3->cA8 cols d
 |0,h=>aF7 cols 0 h fun h=>absurd h (by omega)
 |d+1,h=>aF7 cols (d+1) h fun _=>zC cols d (by omega)
theorem bO0 (x:Int)(w:World):Calls Tryz.prog 162 #[x] w fun e w'=>e=.returned (.bool (decide (3<=x/\x<=5)))/\w=w':=by
 by_cases h:3<=x/\x<=5
 . rw[decide_eq_true h];have h:x=3\/x=4\/x=5:=(by omega);rcases h with rfl|rfl|rfl
   all_goals
    go_enter Tryz.func162,Tryz.ntmps162;go_wp2;go_ret;exact⟨rfl,rfl⟩
 . rw[decide_eq_false h];have a:(x == 3)=false:=(by simp;omega);have b:(x == 4)=false:=(by simp;omega);have c:(x == 5)=false:=(by simp;omega);clear h;go_enter Tryz.func162,Tryz.ntmps162;go_wp2;go_ret;exact⟨rfl,rfl⟩
theorem aG7 (A:Option Addr)(n c:Nat)(cs:List Int)(w:World)(hs:wX w A n cs)(u:n<=9223372036854775807) :
 Calls Tryz.prog 97 #[.slice A n c] w fun e w'=>e=.returned (.bool (iC cs))/\w=w':=by
 have q:=Z hs;have r:=Z hs.len;clear hs;obtain⟨a,j⟩:=zE (iC (cs.drop 0));have m:iC cs=a:=j.out;rw[m];clear m;go_enter Tryz.func97,Tryz.ntmps97;go_wp2_with fail;go_loop [7] (fun i=>∃k:Nat,k<=n/\i=.int .i64 (k:Int)/\Hid (iC (cs.drop k)=a)) (fun i=>n-(intOf i).toNat);case atStart=>exact⟨0,by omega,rfl,j⟩
 case round =>
  obtain⟨k,hk,rfl,g⟩:=hrel;clear j;by_cases hlt:k<n
  . obtain⟨b,o,x,rfl,hx,p⟩:=q.out.at hlt;have t:=p 0 _ rfl;simp only[Nat.mul_one,bX]at t;have l:=Z (aK3 hx);clear hx p;go_wp2_with fail;refine(bO0 x _).mono ?_;rintro e v ⟨rfl,rfl⟩;obtain⟨d,Hd⟩:=zE (decide (3<=x/\x<=5));rw[Hd.out]at l ⊢;cases d
    . obtain rfl:false=a:=(by rw[<- g.out,l.out];rfl);go_wp2;go_ret;exact⟨rfl,rfl⟩
    . have s:Hid (iC (cs.drop (k+1))=a):=Z (by rw[<- g.out,l.out];rfl);go_wp2;go_round;case rel=>exact⟨k+1,by omega,by go_num,s⟩
      case measure=>simp[intOf];omega
  . obtain rfl:true=a:=(by rw[<- g.out,List.drop_eq_nil_of_le (by rw[r.out];omega)];rfl);clear g;go_wp2;go_ret;exact⟨rfl,rfl⟩
theorem bB9:∀(N:Nat) (p:Pd) (A:Option Addr) (n c:Nat) (a:Int) (w:World),p.nodes<=N->PrdS w A n c p->0<=a->a<=24 ->
 Calls Tryz.prog 98 #[.agg (iK p.h A n c),a] w fun e w'=>e=.returned (.int .i64 (min 25 (a+(p.nodes:Int))))/\Below w w w':=by
 intro N
 induction N with
 |zero=>intro p A n c a w C;have:=eA p;omega
 |
  succ N ih =>
  intro p A n c a w C hs h0 a5;have U:=Z ih;have L:=Z C;have P:=Z hs.len;obtain⟨o,B⟩:=zE (min 25 (a+(p.nodes:Int)));rw[B.out];unfold iK;have M:=Z (hs.keep (aM w (.cells #[p.h.op,p.h.cm,p.h.l.k,p.h.l.ix,p.h.l.v.k,p.h.l.v.i,p.h.l.v.t,p.h.r.k,p.h.r.ix,p.h.r.v.k,p.h.r.v.i,p.h.r.v.t,.slice A n c] 64)));have HB:=Z ((aB w w).alloc (aD _) (.cells #[p.h.op,p.h.cm,p.h.l.k,p.h.l.ix,p.h.l.v.k,p.h.l.v.i,p.h.l.v.t,p.h.r.k,p.h.r.ix,p.h.r.v.k,p.h.r.v.i,p.h.r.v.t,.slice A n c] 64));have x:=Z (aT.new w 64 #[p.h.op,p.h.cm,p.h.l.k,p.h.l.ix,p.h.l.v.k,p.h.l.v.i,p.h.l.v.t,p.h.r.k,p.h.r.ix,p.h.r.v.k,p.h.r.v.i,p.h.r.v.t,.slice A n c]);clear ih C hs;go_enter Tryz.func98,Tryz.ntmps98;go_upto_region 1 with fail;obtain⟨X,y⟩:=zE (w.heap.size);rw[y.out]at x;rw[y.out];generalize hW1:w.alloc (.cells #[p.h.op,p.h.cm,p.h.l.k,p.h.l.ix,p.h.l.v.k,p.h.l.v.i,p.h.l.v.t,p.h.r.k,p.h.r.ix,p.h.r.v.k,p.h.r.v.i,p.h.r.v.t,.slice A n c] 64)=J at *;clear hW1 y;have D:=x.out.cell;have E:Hid (min 25 (a+1+((p.rest 0).nodes:Int)-1)=o):=Z (by rw[fI,<- B.out];congr 1;omega);clear B;go_wp2_with fail;go_loopw [1,5] (fun m i wr=>∃(k:Nat) (b:Int),k<=n/\i=.int .i64 (k:Int)/\m=.int .i64 b/\(k:Int)+1<=b/\b<=25/\Hid (min 25 (b+((p.rest k).nodes:Int)-1)=o)/\Hid (Below J J wr)) (fun _ i _=>n-(intOf i).toNat);case atStart=>exact⟨0,a+1,by omega,rfl,rfl,by omega,by omega,E,Z (aB _ _)⟩
  case round =>
   obtain⟨k,b,hk,rfl,rfl,a6,a7,j,g⟩:=hrel;clear D E;have D:=(x.out.below g.out).cell;by_cases hlt:k<n
   . by_cases hm:b<=24
     . have F:=Z (M.out.keep (aC g.out));obtain⟨b',o',q,A1,n1,c1,rfl,hq,d⟩:=F.out.at hlt;have O:=Z d.s;obtain⟨V,W,d2,d3,d4,d5,d6,d7,d8,d9,Y,a0,a1,a2⟩:=d;have R:=Z (eX hq);have T:=Z (bC6 hq);have G:=Z (eA q);have S:=Z (eA (p.rest (k+1)));have H:decide (b<=24)=true:=decide_eq_true hm;clear a2 hq F;go_wp2_with fail;refine(U.out q A1 n1 c1 b _ (by have:=R.out;have:=L.out;omega) O.out (by omega) hm).mono ?_;rintro e w4 ⟨rfl,I⟩;have K:=Z (cC1 g.out I);obtain⟨u,z⟩:=zE (min 25 (b+(q.nodes:Int)));rw[z.out];have a3:(k:Int)+1+1<=u/\u<=25:=(by have:=z.out;have:=G.out;omega);have Q:Hid (min 25 (u+((p.rest (k+1)).nodes:Int)-1)=o):=Z (by have h1:=z.out;have h2:=G.out;have h3:=S.out;have h4:=T.out;rw[<- j.out];omega);obtain⟨a8,a4⟩:=a3;clear I D V W d2 d3 d4 d5 d6 d7 d8 d9 Y a0 a1 H;go_wp2;go_roundw;case rel=>exact⟨k+1,u,by omega,by go_num,rfl,by omega,a4,Q,K⟩
       case measure=>simp[intOf];omega
     . obtain rfl:b=o:=(by have:=eA (p.rest k);rw[<- j.out];omega);have H:decide (b<=24)=false:=decide_eq_false hm;clear j;go_wp2;go_ret;exact⟨rfl,cC1 HB.out g.out⟩
   . obtain rfl:b=o:=(by have h:(p.rest k).nodes=1:=(by rw[fD (by rw[<- P.out];omega)];rfl);rw[<- j.out,h];omega);clear j;go_wp2;go_ret;exact⟨rfl,cC1 HB.out g.out⟩
theorem aT5:∀(N:Nat) (p:Pd) (A:Option Addr) (n c:Nat) (m:Nat) (a:Int) (w:World),p.nodes<=N->N<=1000->PrdS w A n c p->a=(m:Int)->m<=1000 ->
 Calls Tryz.prog 99 #[.agg (iK p.h A n c),a] w fun e w'=>e=.returned (.bool (decide (m<p.depth)))/\Below w w w':=by
 intro N
 induction N with
 |zero=>intro p A n c m a w z;have:=eA p;omega
 |
  succ N ih =>
  intro p A n c m a w z J hs C hm;have S:=Z ih;have G:Hid (p.nodes<=N+1/\N+1<=1000):=Z ⟨z,J⟩;have P:=Z hs.len;have a3:n<=1000:=by have:=pH p;have:=hs.len;omega
  obtain⟨b,u⟩:=zE (decide (m<p.depth));rw[u.out];unfold iK;have M:=Z (hs.keep (aM w (.cells #[p.h.op,p.h.cm,p.h.l.k,p.h.l.ix,p.h.l.v.k,p.h.l.v.i,p.h.l.v.t,p.h.r.k,p.h.r.ix,p.h.r.v.k,p.h.r.v.i,p.h.r.v.t,.slice A n c] 64)));have HB:=Z ((aB w w).alloc (aD _) (.cells #[p.h.op,p.h.cm,p.h.l.k,p.h.l.ix,p.h.l.v.k,p.h.l.v.i,p.h.l.v.t,p.h.r.k,p.h.r.ix,p.h.r.v.k,p.h.r.v.i,p.h.r.v.t,.slice A n c] 64));have x:=Z (aT.new w 64 #[p.h.op,p.h.cm,p.h.l.k,p.h.l.ix,p.h.l.v.k,p.h.l.v.i,p.h.l.v.t,p.h.r.k,p.h.r.ix,p.h.r.v.k,p.h.r.v.i,p.h.r.v.t,.slice A n c]);clear ih z J hs;go_enter Tryz.func99,Tryz.ntmps99;go_upto_region 1 with fail;obtain⟨X,y⟩:=zE (w.heap.size);rw[y.out]at x;rw[y.out];generalize hW1:w.alloc (.cells #[p.h.op,p.h.cm,p.h.l.k,p.h.l.ix,p.h.l.v.k,p.h.l.v.i,p.h.l.v.t,p.h.r.k,p.h.r.ix,p.h.r.v.k,p.h.r.v.i,p.h.r.v.t,.slice A n c] 64)=L at *;clear hW1 y;have D:=x.out.cell;by_cases B:a=0
  . subst B;obtain rfl:true=b:=(by rw[<- u.out,decide_eq_true (by have:=wS p;omega)]);clear C;go_wp2;go_ret;exact⟨rfl,HB.out⟩
  . have g0:(a == 0)=false:=(by simpa using B);have E:Hid (decide (m<(p.rest 0).depth)=b):=Z (by rw[fI];exact u.out);have g:Hid (a=(m:Int)/\1<=m):=Z ⟨C,by omega⟩;have a1:1<=a:=(by omega);have a2:a<=1000:=(by omega);clear u C hm B;go_wp2_with fail;clear g0;go_loopw [11] (fun i wr=>∃k:Nat,k<=n/\i=.int .i64 (k:Int)/\Hid (decide (m<(p.rest k).depth)=b)/\Hid (Below L L wr)) (fun i _=>n-(intOf i).toNat);case atStart=>exact⟨0,by omega,rfl,E,Z (aB _ _)⟩
    case round =>
     obtain⟨k,hk,rfl,o,j⟩:=hrel;clear D E;have D:=(x.out.below j.out).cell;by_cases hlt:k<n
     . have H:=Z (M.out.keep (aC j.out));obtain⟨b',o',q,A1,n1,c1,rfl,hq,d⟩:=H.out.at hlt;have O:=Z d.s;obtain⟨T,U,d2,d3,d4,d5,d6,d7,d8,d9,V,W,Y,a0⟩:=d;have R:=Z (eX hq);have I:=Z (bF2 hq);clear a0 hq H;go_wp2_with fail;refine(S.out q A1 n1 c1 (m-1) (a-1) _ (by have:=R.out;have:=G.out;omega) (by have:=G.out;omega) O.out (by have:=g.out;omega) (by have:=g.out;omega)).mono ?_;rintro e w4 ⟨rfl,K⟩;have F:=Z (cC1 j.out K);obtain⟨d,Hd⟩:=zE (decide (m-1<q.depth));rw[Hd.out];clear K D T U d2 d3 d4 d5 d6 d7 d8 d9 V W Y;cases d
       . have Q:Hid (decide (m<(p.rest (k+1)).depth)=b):=Z (by
          have h1:=of_decide_eq_false Hd.out;have h2:=g.out;rw[<- o.out,I.out];rw[decide_eq_decide];omega)
         go_wp2;go_roundw;case rel=>exact⟨k+1,by omega,by go_num,Q,F⟩
         case measure=>simp[intOf];omega
       . obtain rfl:true=b:=(by have h1:=of_decide_eq_true Hd.out;have h2:=g.out;rw[<- o.out,I.out,decide_eq_true (by omega)]);go_wp2;go_ret;exact⟨rfl,cC1 HB.out F.out⟩
     . obtain rfl:false=b:=(by have h:(p.rest k).depth=1:=(by rw[fD (by rw[<- P.out];omega)];rfl);rw[<- o.out,h,decide_eq_false (by have:=g.out;omega)]);clear o;go_wp2;go_ret;exact⟨rfl,cC1 HB.out j.out⟩
end
section
open Go.RowKit
theorem aG4 (cols ps:List Int)(o:Od)(C:Option Addr)(r M:Nat)(D:Option Addr)(s N:Nat)(w:World)(hc:wX w C r cols)(hp:wX w D s ps) :
 Calls Tryz.prog 164 #[.slice C r M,.slice D s N,.agg #[o.k,o.ix,o.v.k,o.v.i,o.v.t]] w fun e w'=>e=.returned (.int .i64 (dJ cols ps o))/\Below w w w':=by
 obtain⟨k,a,⟨d,l,m⟩⟩:=o;obtain⟨g,p⟩:=zE (dJ cols ps ⟨k,a,⟨d,l,m⟩⟩);rw[p.out];have G:=Z hc.len;have H:=Z hp.len;have J:=Z (hc.keep (aM w (.cells #[k,a,d,l,m] 61)));have K:=Z (hp.keep (aM w (.cells #[k,a,d,l,m] 61)));have F:=Z (aT.new w 61 #[k,a,d,l,m]);have HB:=Z ((aB w w).alloc (aD _) (.cells #[k,a,d,l,m] 61));clear hc hp;go_enter Tryz.func164,Tryz.ntmps164;go_upto_region 1 with fail;generalize hW:w.alloc (.cells #[k,a,d,l,m] 61)=Q at *;clear hW;have P:=F.out.cell;by_cases h3:k=3
 . have c:Hid ((if a=0/\gL ⟨d,l,m⟩=true then d else 0)=g):=Z (by rw[<- p.out,aA9 h3]);subst h3;clear p;by_cases hi:a=0
   . subst hi;go_wp2_with fail;refine(wG ⟨d,l,m⟩ _).mono ?_;rintro e R ⟨rfl,hb2⟩;have S:=(F.out.below hb2).cell;have E:=Z (cC1 HB.out hb2);clear P hb2;obtain⟨q,L⟩:=zE (gL ⟨d,l,m⟩);rw[L.out]at c ⊢;cases q
     . obtain rfl:0=g:=c.out;go_wp2;go_ret;exact⟨rfl,E.out⟩
     . obtain rfl:d=g:=c.out;go_wp2;go_ret;exact⟨rfl,E.out⟩
   . have u:(a != 0)=true:=(by simpa using hi);obtain rfl:0=g:=(by rw[<- c.out,if_neg (fun h=>hi h.1)]);clear hi c;go_wp2;go_ret;exact⟨rfl,HB.out⟩
 by_cases h1:k=1
 . have c:Hid ((if 0<=a/\a<(cols.length:Int)/\(⟨d,l,m⟩:Vl)=bE then cols.getD a.toNat 0 else 0)=g):=Z (by rw[<- p.out,aB1 h1]);clear p h3;subst h1;by_cases h0:a<0
   . obtain rfl:0=g:=(by rw[<- c.out,if_neg (fun h=>by omega)]);have u:decide (a<0)=true:=decide_eq_true h0;clear c h0;go_wp2;go_ret;exact⟨rfl,HB.out⟩
   . have u:decide (a<0)=false:=decide_eq_false h0;by_cases hn:a<(r:Int)
     . have A:decide ((r:Int)<=a)=false:=decide_eq_false (by omega);have y:=uO d l m 0 0 ⟨#[]⟩;by_cases n:(⟨d,l,m⟩:Vl)=⟨0,0,⟨#[]⟩⟩
       . obtain⟨j,rfl⟩:=bO (Int.not_lt.1 h0);obtain⟨b,o,x,rfl,hx,z⟩:=J.out.at (show j<r by omega);have B:=z 0 _ rfl;simp only[Nat.mul_one,bX]at B;obtain rfl:x=g:=(by rw[<- c.out,if_pos ⟨by omega,by rw[G.out];omega,n⟩,bM,bG,hx];rfl);rw[decide_eq_false (fun h=>h n)]at y;have O:j<r:=(by omega);have I:decide (r<=j)=false:=(by simp;omega);clear hx z c n h0 hn;go_wp2;go_ret;exact⟨rfl,HB.out⟩
       . obtain rfl:0=g:=(by rw[<- c.out,if_neg (fun h=>n h.2.2)]);rw[decide_eq_true n]at y;clear c n h0 hn;go_wp2;go_ret;exact⟨rfl,HB.out⟩
     . have A:decide ((r:Int)<=a)=true:=decide_eq_true (by omega);obtain rfl:0=g:=(by rw[<- c.out,if_neg (fun h=>by have:=G.out;omega)]);clear c h0 hn;go_wp2;go_ret;exact⟨rfl,HB.out⟩
 by_cases h2:k=2
 . have c:Hid ((if 0<=a/\a<(ps.length:Int)/\(⟨d,l,m⟩:Vl)=bE then ps.getD a.toNat 0 else 0)=g):=Z (by rw[<- p.out,aB0 h2]);clear p h3 h1;subst h2;by_cases h0:a<0
   . obtain rfl:0=g:=(by rw[<- c.out,if_neg (fun h=>by omega)]);have u:decide (a<0)=true:=decide_eq_true h0;clear c h0;go_wp2;go_ret;exact⟨rfl,HB.out⟩
   . have u:decide (a<0)=false:=decide_eq_false h0;by_cases hn:a<(s:Int)
     . have A:decide ((s:Int)<=a)=false:=decide_eq_false (by omega);have y:=uO d l m 0 0 ⟨#[]⟩;by_cases n:(⟨d,l,m⟩:Vl)=⟨0,0,⟨#[]⟩⟩
       . obtain⟨j,rfl⟩:=bO (Int.not_lt.1 h0);obtain⟨b,o,x,rfl,hx,z⟩:=K.out.at (show j<s by omega);have B:=z 0 _ rfl;simp only[Nat.mul_one,bX]at B;obtain rfl:x=g:=(by rw[<- c.out,if_pos ⟨by omega,by rw[H.out];omega,n⟩,bM,bG,hx];rfl);rw[decide_eq_false (fun h=>h n)]at y;have O:j<s:=(by omega);have I:decide (s<=j)=false:=(by simp;omega);clear hx z c n h0 hn;go_wp2;go_ret;exact⟨rfl,HB.out⟩
       . obtain rfl:0=g:=(by rw[<- c.out,if_neg (fun h=>n h.2.2)]);rw[decide_eq_true n]at y;clear c n h0 hn;go_wp2;go_ret;exact⟨rfl,HB.out⟩
     . have A:decide ((s:Int)<=a)=true:=decide_eq_true (by omega);obtain rfl:0=g:=(by rw[<- c.out,if_neg (fun h=>by have:=H.out;omega)]);clear c h0 hn;go_wp2;go_ret;exact⟨rfl,HB.out⟩
 obtain rfl:0=g:=by rw[<- p.out,xK h1 h2 h3]
 have u:(k == 1)=false:=by simpa using h1
 have A:(k == 2)=false:=by simpa using h2
 have I:(k == 3)=false:=by simpa using h3
 clear h1 h2 h3 p;go_wp2;go_ret;exact⟨rfl,HB.out⟩
end
section
open Go.RowKit
open Pd
theorem zP (h:Nd)(A:Option Addr)(n c:Nat)(w:World):Calls Tryz.prog 163 #[.agg (iK h A n c)] w fun e w'=>e=.returned (.bool (iJ h))/\Below w w w':=by
 obtain⟨b,v⟩:=zE (iJ h);rw[v.out];obtain⟨op,a,⟨d,g,⟨p,o,q⟩⟩,⟨i,j,⟨l,k,m⟩⟩⟩:=h;unfold iK;have HB:=Z ((aB w w).alloc (aD _) (.cells #[op,a,d,g,p,o,q,i,j,l,k,m,.slice A n c] 64));have x:=Z (aT.new w 64 #[op,a,d,g,p,o,q,i,j,l,k,m,.slice A n c]);have y:=bH7 d g p o q 0 0 0 0 ⟨#[]⟩;have z:=bH7 i j l k m 0 0 0 0 ⟨#[]⟩;obtain⟨q1,t⟩:=zE (decide ((⟨d,g,⟨p,o,q⟩⟩:Od)=⟨0,0,⟨0,0,⟨#[]⟩⟩⟩));obtain⟨q2,u⟩:=zE (decide ((⟨i,j,⟨l,k,m⟩⟩:Od)=⟨0,0,⟨0,0,⟨#[]⟩⟩⟩));have r:Hid ((decide (a=0)&&(q1&&q2))=b):=Z (by
  rw[<- v.out,<- t.out,<- u.out,Bool.eq_iff_iff];simp[iJ,wC,bE])
 rw[t.out]at y;rw[u.out]at z;clear t u v;go_enter Tryz.func163,Tryz.ntmps163;go_upto_region 1 with fail;generalize hW1:w.alloc (.cells #[op,a,d,g,p,o,q,i,j,l,k,m,.slice A n c] 64)=C at *;clear hW1;have D:=x.out.cell;by_cases hc:a=0
 . subst hc;have s:Hid ((q1&&q2)=b):=r;clear r;cases q1
   . obtain rfl:false=b:=s.out;go_wp2;go_ret;exact⟨rfl,HB.out⟩
   . cases q2
     . obtain rfl:false=b:=s.out;go_wp2;go_ret;exact⟨rfl,HB.out⟩
     . obtain rfl:true=b:=s.out;go_wp2;go_ret;exact⟨rfl,HB.out⟩
 . have B:(a == 0)=false:=(by simpa using hc);obtain rfl:false=b:=(by rw[<- r.out,decide_eq_false hc];rfl);clear hc r;go_wp2;go_ret;exact⟨rfl,HB.out⟩
theorem aS8 (cols ps:List Int):∀(N:Nat) (p:Pd) (A:Option Addr) (n c:Nat) (M:Option Addr) (P T:Nat) (O:Option Addr) (Q U:Nat) (w:World),p.nodes<=N->N<=1000->PrdS w A n c p->wX w M P cols->wX w O Q ps ->
 Calls Tryz.prog 100 #[.slice M P T,.slice O Q U,.agg (iK p.h A n c)] w fun e w'=>e=.returned (.bool (dB cols ps p))/\Below w w w':=by
 intro N
 induction N with
 |zero=>intro p A n c M P T O Q U w e2;have:=eA p;omega
 |
  succ N ih =>
  intro p A n c M P T O Q U w e2 e6 hs hc hp;have e1:=Z ih;have a2:Hid (p.nodes<=N+1/\N+1<=1000):=Z ⟨e2,e6⟩;have e3:=hs.len;have e9:n<=1000:=by have:=pH p;omega
  obtain⟨b,e0⟩:=zE (dB cols ps p);rw[e0.out];obtain⟨hd,c9⟩:=zE (p.h);have a:Hid ((fK cols ps hd n&&fH cols ps (p.rest 0))=b):=Z (by rw[fI,e3,<- c9.out];exact e0.out);rw[c9.out];have b2:=Z e3;clear ih e2 e6 e0 e3 c9;obtain⟨op,j,⟨o,r,⟨B,z,C⟩⟩,⟨t,u,⟨x,v,y⟩⟩⟩:=hd;unfold iK;have a0:=Z (hs.keep (aM w (.cells #[op,j,o,r,B,z,C,t,u,x,v,y,.slice A n c] 64)));have G:=Z (hc.keep (aM w (.cells #[op,j,o,r,B,z,C,t,u,x,v,y,.slice A n c] 64)));have H:=Z (hp.keep (aM w (.cells #[op,j,o,r,B,z,C,t,u,x,v,y,.slice A n c] 64)));have E:=Z (aT.new w 64 #[op,j,o,r,B,z,C,t,u,x,v,y,.slice A n c]);have HB:=Z ((aB w w).alloc (aD _) (.cells #[op,j,o,r,B,z,C,t,u,x,v,y,.slice A n c] 64));clear hs hc hp;go_enter Tryz.func100,Tryz.ntmps100;go_upto_region 1 with fail;obtain⟨X,c8⟩:=zE (w.heap.size);rw[c8.out]at E;rw[c8.out];generalize hW:w.alloc (.cells #[op,j,o,r,B,z,C,t,u,x,v,y,.slice A n c] 64)=w1 at *;clear hW c8;have m:=E.out.cell;by_cases h3:op=3
  . subst h3;rw[lA rfl]at a;go_wp2_with fail;refine(aG4 cols ps ⟨o,r,⟨B,z,C⟩⟩ M P T O Q U _ G.out H.out).mono ?_;rintro e L ⟨rfl,hb2⟩;have g:=Z (cC1 HB.out hb2);have I:=Z (E.out.below hb2);replace G:=Z (G.out.keep (aC hb2));replace H:=Z (H.out.keep (aC hb2));clear HB E a0 hb2 m;have m:=I.out.cell;obtain⟨k1,e8⟩:=zE (dJ cols ps ⟨o,r,⟨B,z,C⟩⟩);obtain⟨k2,e5⟩:=zE (dJ cols ps ⟨t,u,⟨x,v,y⟩⟩);rw[e8.out]at a ⊢;rw[e5.out]at a;go_upto_region 8 with fail;by_cases a1:n=0
    . subst a1;rw[lM (by rw[fI];exact b2.out.symm),Bool.and_true]at a;by_cases K:1<=j
      . have g2:decide (1<=j)=true:=decide_eq_true K;by_cases a3:j<=6
        . have g3:decide (j<=6)=true:=decide_eq_true a3;by_cases a4:k1=0
          . have g4:(k1 != 0)=false:=(by simpa using a4);obtain rfl:false=b:=(by rw[<- a.out,decide_eq_false (fun h=>h.2.2.1 a4)]);clear a K a3 a4;go_wp2;go_ret;exact⟨rfl,g.out⟩
          . have g4:(k1 != 0)=true:=(by simpa using a4);go_wp2_with fail;refine(aG4 cols ps ⟨t,u,⟨x,v,y⟩⟩ M P T O Q U _ G.out H.out).mono ?_;rintro e w3 ⟨rfl,e7⟩;have e4:=Z (cC1 g.out e7);rw[e5.out];clear m e7;by_cases a5:k1=k2
            . have g5:(k1 == k2)=true:=(by simpa using a5);obtain rfl:true=b:=(by rw[<- a.out,decide_eq_true (by first|exact⟨rfl,⟨K,a3⟩,a4,a5⟩|exact⟨trivial,⟨K,a3⟩,a4,a5⟩)]);clear a K a3 a4 a5;go_wp2;go_ret;exact⟨rfl,e4.out⟩
            . have g5:(k1 == k2)=false:=(by simpa using a5);obtain rfl:false=b:=(by rw[<- a.out,decide_eq_false (fun h=>a5 h.2.2.2)]);clear a K a3 a4 a5;go_wp2;go_ret;exact⟨rfl,e4.out⟩
        . have g3:decide (j<=6)=false:=decide_eq_false a3;obtain rfl:false=b:=(by rw[<- a.out,decide_eq_false (fun h=>a3 h.2.1.2)]);clear a K a3;go_wp2;go_ret;exact⟨rfl,g.out⟩
      . have g2:decide (1<=j)=false:=decide_eq_false K;obtain rfl:false=b:=(by rw[<- a.out,decide_eq_false (fun h=>K h.2.1.1)]);clear a K;go_wp2;go_ret;exact⟨rfl,g.out⟩
    . have g1:((n:Int) == 0)=false:=(by simp;omega);obtain rfl:false=b:=(by rw[<- a.out,decide_eq_false (fun h=>a1 h.1)];rfl);clear a a1;go_wp2;go_ret;exact⟨rfl,g.out⟩
  by_cases c0:op=1\/op=2
  . rw[rW c0]at a;have Y:Hid (∀(W:World),Calls Tryz.prog 163 #[.agg #[op,j,o,r,B,z,C,t,u,x,v,y,.slice A n c]] W fun e w'=>e=.returned (.bool (iJ ⟨op,j,⟨o,r,⟨B,z,C⟩⟩,⟨t,u,⟨x,v,y⟩⟩⟩))/\Below W W w'):=Z fun W=>zP ⟨op,j,⟨o,r,⟨B,z,C⟩⟩,⟨t,u,⟨x,v,y⟩⟩⟩ A n c W;obtain⟨c3,c5⟩:=zE (iJ ⟨op,j,⟨o,r,⟨B,z,C⟩⟩,⟨t,u,⟨x,v,y⟩⟩⟩);rw[c5.out]at a Y;clear h3;rcases c0 with rfl|rfl
    all_goals
     go_wp2_with fail;refine(Y.out _).mono ?_;rintro e L ⟨rfl,hb2⟩;have g:=Z (cC1 HB.out hb2);have f1:=(E.out.below hb2).cell;clear m hb2;cases c3
     . obtain rfl:false=b:=(by rw[<- a.out];simp);go_wp2;go_ret;exact⟨rfl,g.out⟩
     . by_cases a1:n=0
       . subst a1;obtain rfl:true=b:=(by rw[<- a.out,lM (by rw[fI];exact b2.out.symm)];rfl);go_wp2;go_ret;exact⟨rfl,g.out⟩
       . have g1:((n:Int) == 0)=false:=(by simp;omega);obtain rfl:false=b:=(by rw[<- a.out,decide_eq_false a1];rfl);clear a1 a;go_wp2;go_ret;exact⟨rfl,g.out⟩
  by_cases c7:op=4\/op=5\/op=6
  . by_cases c6:op=6/\n≠1
    . obtain rfl:false=b:=(by rw[<- a.out,kZ c6.1,decide_eq_false c6.2];rfl);clear a c7 h3 c0;obtain⟨rfl,h2⟩:=c6;go_wp2;go_ret;exact⟨rfl,HB.out⟩
    . have J:Hid ((iJ ⟨op,j,⟨o,r,⟨B,z,C⟩⟩,⟨t,u,⟨x,v,y⟩⟩⟩&&fH cols ps (p.rest 0))=b):=Z (by
       rw[<- a.out];rcases c7 with h|h|h
       . rw[rX (.inl h)]
       . rw[rX (.inr h)]
       . rw[kZ h,decide_eq_true (show n=1 by omega)];rfl)
      have c4:Hid (op=6->n=1):=Z (fun h=>by omega);have Y:Hid (∀(W:World),Calls Tryz.prog 163 #[.agg #[op,j,o,r,B,z,C,t,u,x,v,y,.slice A n c]] W fun e w'=>e=.returned (.bool (iJ ⟨op,j,⟨o,r,⟨B,z,C⟩⟩,⟨t,u,⟨x,v,y⟩⟩⟩))/\Below W W w'):=Z fun W=>zP ⟨op,j,⟨o,r,⟨B,z,C⟩⟩,⟨t,u,⟨x,v,y⟩⟩⟩ A n c W;obtain⟨c3,c5⟩:=zE (iJ ⟨op,j,⟨o,r,⟨B,z,C⟩⟩,⟨t,u,⟨x,v,y⟩⟩⟩);rw[c5.out]at J Y;clear a h3 c0 c6 c5;have f0:=Z e9;rcases c7 with rfl|rfl|rfl
      . clear c4;go_wp2_with fail;refine(Y.out _).mono ?_;rintro e L ⟨rfl,hb2⟩;have g:=Z (cC1 HB.out hb2);have I:=Z (E.out.below hb2);have b0:=Z (a0.out.keep (aC hb2));have a6:=Z (G.out.keep (aC hb2));have a8:=Z (H.out.keep (aC hb2));clear m hb2 HB E a0 G H;have m:=I.out.cell;cases c3
        . obtain rfl:false=b:=(by rw[<- J.out];rfl);go_wp2;go_ret;exact⟨rfl,g.out⟩
        rw[Bool.true_and]at J;go_wp2_with fail;go_loopw [71] (fun i wr=>∃k:Nat,k<=n/\i=.int .i64 (k:Int)/\Hid (fH cols ps (p.rest k)=b)/\Hid (Below L L wr)) (fun i _=>n-(intOf i).toNat);case atStart=>exact⟨0,by omega,rfl,J,Z (aB _ _)⟩
        case round =>
         obtain⟨k,hk,rfl,D,l⟩:=hrel;clear m;by_cases hlt:k<n
         . have S:=Z (b0.out.keep (aC l.out));obtain⟨b',o',q,A1,n1,c1,rfl,hq,d⟩:=S.out.at hlt;have b1:=Z d.s;obtain⟨d0,d1,d2,d3,d4,d5,d6,d7,d8,d9,b6,b7,b8,b9⟩:=d;have b5:=Z (eX hq);have F:=Z (nU hq cols ps);clear b9 hq S;have m:=(I.out.below l.out).cell;have a7:=Z (a6.out.keep (aC l.out));have a9:=Z (a8.out.keep (aC l.out));go_wp2_with fail;refine(e1.out q A1 n1 c1 M P T O Q U _ (by have:=b5.out;have:=a2.out;omega) (by have:=a2.out;omega) b1.out a7.out a9.out).mono ?_;rintro e w4 ⟨rfl,V⟩;have R:=Z (cC1 l.out V);clear V m d0 d1 d2 d3 d4 d5 d6 d7 d8 d9 b6 b7 b8;obtain⟨c2,b4⟩:=zE (dB cols ps q);rw[b4.out]at F ⊢;cases c2
           . obtain rfl:false=b:=(by rw[<- D.out,F.out];rfl);go_wp2;go_ret;exact⟨rfl,cC1 g.out R.out⟩
           . have b3:Hid (fH cols ps (p.rest (k+1))=b):=Z (by rw[<- D.out,F.out];rfl);go_wp2;go_roundw;case rel=>exact⟨k+1,by omega,by go_num,b3,R⟩
             case measure=>simp[intOf];omega
         . obtain rfl:true=b:=(by rw[<- D.out,fD (by rw[<- b2.out];omega)];rfl);clear D;go_wp2;go_ret;exact⟨rfl,cC1 g.out l.out⟩
      . clear c4;go_wp2_with fail;refine(Y.out _).mono ?_;rintro e L ⟨rfl,hb2⟩;have g:=Z (cC1 HB.out hb2);have I:=Z (E.out.below hb2);have b0:=Z (a0.out.keep (aC hb2));have a6:=Z (G.out.keep (aC hb2));have a8:=Z (H.out.keep (aC hb2));clear m hb2 HB E a0 G H;have m:=I.out.cell;cases c3
        . obtain rfl:false=b:=(by rw[<- J.out];rfl);go_wp2;go_ret;exact⟨rfl,g.out⟩
        rw[Bool.true_and]at J;go_wp2_with fail;go_loopw [71] (fun i wr=>∃k:Nat,k<=n/\i=.int .i64 (k:Int)/\Hid (fH cols ps (p.rest k)=b)/\Hid (Below L L wr)) (fun i _=>n-(intOf i).toNat);case atStart=>exact⟨0,by omega,rfl,J,Z (aB _ _)⟩
        case round =>
         obtain⟨k,hk,rfl,D,l⟩:=hrel;clear m;by_cases hlt:k<n
         . have S:=Z (b0.out.keep (aC l.out));obtain⟨b',o',q,A1,n1,c1,rfl,hq,d⟩:=S.out.at hlt;have b1:=Z d.s;obtain⟨d0,d1,d2,d3,d4,d5,d6,d7,d8,d9,b6,b7,b8,b9⟩:=d;have b5:=Z (eX hq);have F:=Z (nU hq cols ps);clear b9 hq S;have m:=(I.out.below l.out).cell;have a7:=Z (a6.out.keep (aC l.out));have a9:=Z (a8.out.keep (aC l.out));go_wp2_with fail;refine(e1.out q A1 n1 c1 M P T O Q U _ (by have:=b5.out;have:=a2.out;omega) (by have:=a2.out;omega) b1.out a7.out a9.out).mono ?_;rintro e w4 ⟨rfl,V⟩;have R:=Z (cC1 l.out V);clear V m d0 d1 d2 d3 d4 d5 d6 d7 d8 d9 b6 b7 b8;obtain⟨c2,b4⟩:=zE (dB cols ps q);rw[b4.out]at F ⊢;cases c2
           . obtain rfl:false=b:=(by rw[<- D.out,F.out];rfl);go_wp2;go_ret;exact⟨rfl,cC1 g.out R.out⟩
           . have b3:Hid (fH cols ps (p.rest (k+1))=b):=Z (by rw[<- D.out,F.out];rfl);go_wp2;go_roundw;case rel=>exact⟨k+1,by omega,by go_num,b3,R⟩
             case measure=>simp[intOf];omega
         . obtain rfl:true=b:=(by rw[<- D.out,fD (by rw[<- b2.out];omega)];rfl);clear D;go_wp2;go_ret;exact⟨rfl,cC1 g.out l.out⟩
      . obtain rfl:=c4.out rfl;clear c4;go_wp2_with fail;refine(Y.out _).mono ?_;rintro e L ⟨rfl,hb2⟩;have g:=Z (cC1 HB.out hb2);have I:=Z (E.out.below hb2);have b0:=Z (a0.out.keep (aC hb2));have a6:=Z (G.out.keep (aC hb2));have a8:=Z (H.out.keep (aC hb2));clear m hb2 HB E a0 G H;have m:=I.out.cell;cases c3
        . obtain rfl:false=b:=(by rw[<- J.out];rfl);go_wp2;go_ret;exact⟨rfl,g.out⟩
        rw[Bool.true_and]at J;go_wp2_with fail;go_loopw [71] (fun i wr=>∃k:Nat,k<=1/\i=.int .i64 (k:Int)/\Hid (fH cols ps (p.rest k)=b)/\Hid (Below L L wr)) (fun i _=>1-(intOf i).toNat);case atStart=>exact⟨0,by omega,rfl,J,Z (aB _ _)⟩
        case round =>
         obtain⟨k,hk,rfl,D,l⟩:=hrel;clear m;by_cases hlt:k<1
         . have S:=Z (b0.out.keep (aC l.out));obtain⟨b',o',q,A1,n1,c1,rfl,hq,d⟩:=S.out.at hlt;have b1:=Z d.s;obtain⟨d0,d1,d2,d3,d4,d5,d6,d7,d8,d9,b6,b7,b8,b9⟩:=d;have b5:=Z (eX hq);have F:=Z (nU hq cols ps);clear b9 hq S;have m:=(I.out.below l.out).cell;have a7:=Z (a6.out.keep (aC l.out));have a9:=Z (a8.out.keep (aC l.out));go_wp2_with fail;refine(e1.out q A1 n1 c1 M P T O Q U _ (by have:=b5.out;have:=a2.out;omega) (by have:=a2.out;omega) b1.out a7.out a9.out).mono ?_;rintro e w4 ⟨rfl,V⟩;have R:=Z (cC1 l.out V);clear V m d0 d1 d2 d3 d4 d5 d6 d7 d8 d9 b6 b7 b8;obtain⟨c2,b4⟩:=zE (dB cols ps q);rw[b4.out]at F ⊢;cases c2
           . obtain rfl:false=b:=(by rw[<- D.out,F.out];rfl);go_wp2;go_ret;exact⟨rfl,cC1 g.out R.out⟩
           . have b3:Hid (fH cols ps (p.rest (k+1))=b):=Z (by rw[<- D.out,F.out];rfl);go_wp2;go_roundw;case rel=>exact⟨k+1,by omega,by go_num,b3,R⟩
             case measure=>simp[intOf];omega
         . obtain rfl:true=b:=(by rw[<- D.out,fD (by rw[<- b2.out];omega)];rfl);clear D;go_wp2;go_ret;exact⟨rfl,cC1 g.out l.out⟩
  . have g1:(op == 1)=false:=(by simp;omega);have g2:(op == 2)=false:=(by simp;omega);have g3:(op == 3)=false:=(by simpa using h3);have g4:(op == 4)=false:=(by simp;omega);have g5:(op == 5)=false:=(by simp;omega);have g6:(op == 6)=false:=(by simp;omega);obtain rfl:false=b:=(by rw[<- a.out,nL (by simp only;omega) (by simp only;omega) (by simp only;omega) (by simp only;omega) (by simp only;omega) (by simp only;omega)];rfl);clear a c7 h3 c0;go_wp2;go_ret;exact⟨rfl,HB.out⟩
theorem xD (cols ps:List Int)(p:Pd)(A:Option Addr)(n c:Nat)(x:Option Addr)(q K:Nat)(y:Option Addr)(s L:Nat)(w:World)(hs:PrdS w A n c p)(hc:wX w x q cols)(hp:wX w y s ps)(a0:q<=9223372036854775807)(a1:s<=9223372036854775807) :
 Calls Tryz.prog 40 #[.slice x q K,.slice y s L,.agg (iK p.h A n c)] w fun e w'=>e=.returned (.int .i64 (hK cols ps p))/\Below w w w':=by
 obtain⟨b,o⟩:=zE (hK cols ps p);rw[o.out];unfold iK;have F:=Z (hs.keep (aM w (.cells #[p.h.op,p.h.cm,p.h.l.k,p.h.l.ix,p.h.l.v.k,p.h.l.v.i,p.h.l.v.t,p.h.r.k,p.h.r.ix,p.h.r.v.k,p.h.r.v.i,p.h.r.v.t,.slice A n c] 64)));have D:=Z (hc.keep (aM w (.cells #[p.h.op,p.h.cm,p.h.l.k,p.h.l.ix,p.h.l.v.k,p.h.l.v.i,p.h.l.v.t,p.h.r.k,p.h.r.ix,p.h.r.v.k,p.h.r.v.i,p.h.r.v.t,.slice A n c] 64)));have E:=Z (hp.keep (aM w (.cells #[p.h.op,p.h.cm,p.h.l.k,p.h.l.ix,p.h.l.v.k,p.h.l.v.i,p.h.l.v.t,p.h.r.k,p.h.r.ix,p.h.r.v.k,p.h.r.v.i,p.h.r.v.t,.slice A n c] 64)));have B:=Z (aT.new w 64 #[p.h.op,p.h.cm,p.h.l.k,p.h.l.ix,p.h.l.v.k,p.h.l.v.i,p.h.l.v.t,p.h.r.k,p.h.r.ix,p.h.r.v.k,p.h.r.v.i,p.h.r.v.t,.slice A n c]);have HB:=Z ((aB w w).alloc (aD _) (.cells #[p.h.op,p.h.cm,p.h.l.k,p.h.l.ix,p.h.l.v.k,p.h.l.v.i,p.h.l.v.t,p.h.r.k,p.h.r.ix,p.h.r.v.k,p.h.r.v.i,p.h.r.v.t,.slice A n c] 64));clear hs hc hp;go_enter Tryz.func40,Tryz.ntmps40;go_upto_region 1 with fail;obtain⟨X,Q⟩:=zE (w.heap.size);rw[Q.out]at B;rw[Q.out];generalize hW:w.alloc (.cells #[p.h.op,p.h.cm,p.h.l.k,p.h.l.ix,p.h.l.v.k,p.h.l.v.i,p.h.l.v.t,p.h.r.k,p.h.r.ix,p.h.r.v.k,p.h.r.v.i,p.h.r.v.t,.slice A n c] 64)=w1 at *;clear hW;go_wp2_with fail;refine(aG7 x q K cols _ D.out a0).mono ?_;rintro e w2 ⟨rfl,rfl⟩;obtain⟨b1,j⟩:=zE (iC cols);rw[j.out];cases b1
 . obtain rfl:1=b:=(by rw[<- o.out,hK,j.out];rfl);go_wp2;go_ret;exact⟨rfl,HB.out⟩
 go_wp2_with fail;refine(aG7 y s L ps _ E.out a1).mono ?_;rintro e w2 ⟨rfl,rfl⟩;obtain⟨b2,z⟩:=zE (iC ps);rw[z.out];cases b2
 . obtain rfl:1=b:=(by rw[<- o.out,hK,j.out,z.out];rfl);go_wp2;go_ret;exact⟨rfl,HB.out⟩
 have a:Hid ((if p.nodes<=24/\p.depth<=8 then (if dB cols ps p=true then 0 else 50)else 2)=b):=Z (by rw[<- o.out,hK,j.out,z.out];rfl);clear o j z;have u:=B.out.cell;go_wp2_with fail;refine(bB9 p.nodes p A n c 0 _ (aD _) F.out (by omega) (by omega)).mono ?_;rintro e w3 ⟨rfl,d⟩;have G:=Z (F.out.keep (aC d));have O:=Z (D.out.keep (aC d));have P:=Z (E.out.keep (aC d));have H:=Z (B.out.below d);have C:=Z (cC1 HB.out d);clear F D E B HB u d;have u:=H.out.cell;obtain⟨m,I⟩:=zE (min 25 (0+(p.nodes:Int)));rw[I.out];by_cases hn:p.nodes<=24;rotate_left
 . rw[if_neg (fun h=>hn h.1)]at a;obtain rfl:2=b:=a.out;have R:decide (24<m)=true:=decide_eq_true (by have:=I.out;omega);clear hn;go_wp2;go_ret;exact⟨rfl,C.out⟩
 have J:=Z hn;have R:decide (24<m)=false:=decide_eq_false (by have:=I.out;omega);clear hn;go_wp2_with fail;refine(aT5 p.nodes p A n c 8 8 _ (aD _) (by have:=J.out;omega) G.out rfl (by omega)).mono ?_;rintro e w4 ⟨rfl,g⟩;have V:=Z (G.out.keep (aC g));have T:=Z (O.out.keep (aC g));have U:=Z (P.out.keep (aC g));have W:=Z (H.out.below g);have M:=Z (cC1 C.out g);clear G O P H C u g R;by_cases hd:p.depth<=8;rotate_left
 . rw[if_neg (fun h=>hd h.2)]at a;rw[decide_eq_true (show 8<p.depth by omega)];obtain rfl:2=b:=a.out;clear hd;go_wp2;go_ret;exact⟨rfl,M.out⟩
 rw[if_pos ⟨J.out,hd⟩]at a;rw[decide_eq_false (show ¬8<p.depth by omega)];clear hd;have u:=W.out.cell;go_wp2_with fail;refine(aS8 cols ps p.nodes p A n c x q K y s L _ (aD _) (by have:=J.out;omega) V.out T.out U.out).mono ?_;rintro e w5 ⟨rfl,S⟩;have N:=Z (cC1 M.out S);obtain⟨v,Y⟩:=zE (dB cols ps p);rw[Y.out]at a ⊢;clear S u;cases v
 . obtain rfl:50=b:=a.out;go_wp2;go_ret;exact⟨rfl,N.out⟩
 . obtain rfl:0=b:=a.out;go_wp2;go_ret;exact⟨rfl,N.out⟩
theorem tnD_le {d:Nat}(h:d<=3):tnD d<=40:=by
 rcases(show d=0\/d=1\/d=2\/d=3 by omega)with rfl|rfl|rfl|rfl<;>decide
set_option maxRecDepth 100000 in
theorem zX (K:Nat)(cols:List Int)(d:Nat)(hd:d<=3)(b4:tnD d<=K)(b3:tnD 1<=K)(B g:Nat)(y:Option Addr)(u M:Nat)(V:Int)(w:World)(a9:V=(d:Int))(hc:CaseAt w g)(hl:ClJ B g w y u cols)(hn:u<=12)(a8:iC cols=true) :
 Calls Tryz.prog 30 #[.pointer (some ⟨g,0,none⟩),.slice y u M,zN,V] w fun e w'=>rE cols K w g e w':=by
 have I:=Z a8;have O:=Z a9;obtain⟨W0,R⟩:∃W:World,Hid (w.alloc (.cells #[zO,zO,zO,zO,zO,zO,zS,zO,zO,zO,zO,zS,zN] 64)=W):=⟨_,rfl⟩;obtain⟨T,J⟩:=zE (w.heap.size);have HQ:Hid (TrS w g T W0/\T+1<=W0.heap.size):=by rw[<- R.out,<- J.out];exact Z ⟨⟨aT.new _ _ _,hc.below ((aB _ _).alloc (aD _) _),But.alloc _ _,aD _,hc.lt⟩,by simp⟩
 have a:Hid (ClJ B g W0 y u cols):=Z (hl.case HQ.out.1.bu);have C:=Z HQ.out.2;replace HQ:=Z HQ.out.1;clear hc hl a8 a9;go_enter Tryz.func30,Tryz.ntmps30;go_wp2_with fail;rw[R.out,J.out];refine(zC cols d hd B g y u M V _ O.out HQ.out.cs a.out hn I.out).mono ?_;rintro e x ⟨p,c,m,j,rfl,E,hv,hw,a6,hb1,b0⟩;have n:Hid (PrdL (fun b=>w.heap.size<=b/\b≠T) x c m j p):=Z (E.mono fun b hl _=>by have:=C.out;have:=HQ.out.hT;exact⟨by omega,by omega⟩);have P:Hid (p.nodes<=K):=Z (Nat.le_trans b0 b4);have L:=Z (And.intro hv hw);replace HQ:=Z (HQ.out.step hb1 a6);replace a:=Z (a.out.case hb1);clear E hv hw a6 hb1 b0 R C;unfold iK;have N:Below x x (x.alloc (.cells #[p.h.op,p.h.cm,p.h.l.k,p.h.l.ix,p.h.l.v.k,p.h.l.v.i,p.h.l.v.t,p.h.r.k,p.h.r.ix,p.h.r.v.k,p.h.r.v.i,p.h.r.v.t,.slice c m j] 64)):=(aB _ _).alloc (aD _) _;have o:=Z (aT.new x 64 #[p.h.op,p.h.cm,p.h.l.k,p.h.l.ix,p.h.l.v.k,p.h.l.v.i,p.h.l.v.t,p.h.r.k,p.h.r.ix,p.h.r.v.k,p.h.r.v.i,p.h.r.v.t,.slice c m j]);obtain⟨X,S⟩:=zE (x.heap.size);rw[S.out]at o;replace HQ:=Z (HQ.out.below N);replace a:=Z (a.out.below N);replace n:=Z (n.out.below N);clear N;go_upto_region 2 with fail;rw[S.out];generalize hWW:x.alloc (.cells #[p.h.op,p.h.cm,p.h.l.k,p.h.l.ix,p.h.l.v.k,p.h.l.v.i,p.h.l.v.t,p.h.r.k,p.h.r.ix,p.h.r.v.k,p.h.r.v.i,p.h.r.v.t,.slice c m j] 64)=w2 at *;clear hWW S;have b2:=o.out.cell;go_wp2_with fail;refine(xD cols [] p c m j y u M none 0 0 _ n.out.s a.out.sl Sl.nil (by omega) (by omega)).mono ?_;rintro e Y ⟨rfl,F⟩;obtain⟨a4,U⟩:=zE (hK cols [] p);rw[U.out];replace o:=Z (o.out.below F);replace HQ:=Z (HQ.out.below F);replace a:=Z (a.out.below F);replace n:=Z (n.out.below F);clear F b2;by_cases h2:a4=2
 . subst h2;clear o U n L P;have C:Hid (T+1<=Y.heap.size):=Z HQ.out.bt.lt;go_wp2_with fail;refine(zC cols 1 (by omega) B g y u M 1 _ rfl HQ.out.cs a.out hn I.out).mono ?_;rintro e w4 ⟨q,z,G,D,rfl,E,hv,hw,a7,a5,b1⟩;have hsz:=HQ.out.bu.size;have a3:Hid (PrdL (fun b=>w.heap.size<=b/\b≠T) w4 z G D q):=Z (E.mono fun b hl _=>by have:=C.out;exact⟨by omega,by omega⟩);have a2:Hid (q.nodes<=K):=Z (Nat.le_trans b1 b3);have Q:=Z (And.intro hv hw);replace HQ:=Z (HQ.out.step a5 a7);clear E hv hw a7 a5 b1 hsz C a I O;unfold iK;have A:Hid (rE cols K w g (.returned (.agg #[q.h.op,q.h.cm,q.h.l.k,q.h.l.ix,q.h.l.v.k,q.h.l.v.i,q.h.l.v.t,q.h.r.k,q.h.r.ix,q.h.r.v.k,q.h.r.v.i,q.h.r.v.t,.slice z G D])) (mB w4 T 0 [q.h.op,q.h.cm,q.h.l.k,q.h.l.ix,q.h.l.v.k,q.h.l.v.i,q.h.l.v.t,q.h.r.k,q.h.r.ix,q.h.r.v.k,q.h.r.v.i,q.h.r.v.t,.slice z G D])):=Z (HQ.out.fin (p:=q) a3.out Q.out.1 Q.out.2 a2.out _ rfl);obtain⟨b5,c8,b6,c9,c0,d3,c1,d4,c2,d5,c3,d6,c4,d7,c5,d8,c6,d9,c7,e0,b7,d0,b8,d1,b9,d2,a1,a0,H⟩:=qJ (w:=w4) (HQ.out.bt) q.h.op q.h.cm q.h.l.k q.h.l.ix q.h.l.v.k q.h.l.v.i q.h.l.v.t q.h.r.k q.h.r.ix q.h.r.v.k q.h.r.v.i q.h.r.v.t (.slice z G D);rw[H]at A;clear a0 H;clear HQ a3 Q a2 J;go_wp2;exact aF (v:=.agg #[q.h.op,q.h.cm,q.h.l.k,q.h.l.ix,q.h.l.v.k,q.h.l.v.i,q.h.l.v.t,q.h.r.k,q.h.r.ix,q.h.r.v.k,q.h.r.v.i,q.h.r.v.t,.slice z G D]) (by simp[results,Tryz.results30,go_sem,a1]) rfl A.out
 . have g2:(a4 == 2)=false:=(by simpa using h2);clear h2 U I O a;have b2:=o.out.cell;have A:Hid (rE cols K w g (.returned (.agg #[p.h.op,p.h.cm,p.h.l.k,p.h.l.ix,p.h.l.v.k,p.h.l.v.i,p.h.l.v.t,p.h.r.k,p.h.r.ix,p.h.r.v.k,p.h.r.v.i,p.h.r.v.t,.slice c m j])) (mB Y T 0 [p.h.op,p.h.cm,p.h.l.k,p.h.l.ix,p.h.l.v.k,p.h.l.v.i,p.h.l.v.t,p.h.r.k,p.h.r.ix,p.h.r.v.k,p.h.r.v.i,p.h.r.v.t,.slice c m j])):=Z (HQ.out.fin (p:=p) n.out L.out.1 L.out.2 P.out _ rfl);obtain⟨b5,c8,b6,c9,c0,d3,c1,d4,c2,d5,c3,d6,c4,d7,c5,d8,c6,d9,c7,e0,b7,d0,b8,d1,b9,d2,a1,a0,H⟩:=qJ (w:=Y) (HQ.out.bt) p.h.op p.h.cm p.h.l.k p.h.l.ix p.h.l.v.k p.h.l.v.i p.h.l.v.t p.h.r.k p.h.r.ix p.h.r.v.k p.h.r.v.i p.h.r.v.t (.slice c m j);rw[H]at A;clear a0 H;clear HQ n L P J o;go_wp2;exact aF (v:=.agg #[p.h.op,p.h.cm,p.h.l.k,p.h.l.ix,p.h.l.v.k,p.h.l.v.i,p.h.l.v.t,p.h.r.k,p.h.r.ix,p.h.r.v.k,p.h.r.v.i,p.h.r.v.t,.slice c m j]) (by simp[results,Tryz.results30,go_sem,a1]) rfl A.out
theorem aE8 (cols:List Int)(d:Nat)(j:d<=3)(B g:Nat)(b:Option Addr)(a i:Nat)(c:Int)(w:World)(l:c=(d:Int))(hc:CaseAt w g)(m:ClJ B g w b a cols)(n:a<=12)(k:iC cols=true) :
 Calls Tryz.prog 30 #[.pointer (some ⟨g,0,none⟩),.slice b a i,zN,c] w fun e o=>rE cols 40 w g e o:=zX 40 cols d j (tnD_le j) (by decide) B g b a i c w l hc m n k
end
end Go.Proofs.YtnnmlhmffnfjfaaGreat
