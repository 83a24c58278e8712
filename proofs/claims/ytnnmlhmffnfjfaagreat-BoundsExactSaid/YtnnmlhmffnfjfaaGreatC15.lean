/- Texts on which the walk stands. -/
import Derived.Test.YtnnmlhmffnfjfaaGreatC14
open Go.RowKit.Below renaming refl → aB
set_option maxHeartbeats 8000000
set_option linter.unusedVariables false
set_option maxRecDepth 100000
namespace Go.Proofs.YtnnmlhmffnfjfaaGreat
open Go.RowKit
open Pd
theorem lA {cols ps:List Int}{h:Nd}{n:Nat}(a:h.op=3):fK cols ps h n=decide (n=0/\(1<=h.cm/\h.cm<=6)/\dJ cols ps h.l≠0/\dJ cols ps h.l=dJ cols ps h.r):=by unfold fK;rw[if_pos a]
theorem rW {cols ps:List Int}{h:Nd}{n:Nat}(a:h.op=1\/h.op=2):fK cols ps h n=(decide (n=0)&&iJ h):=by unfold fK;rw[if_neg (by omega),if_pos a]
theorem kZ {cols ps:List Int}{h:Nd}{n:Nat}(a:h.op=6):fK cols ps h n=(decide (n=1)&&iJ h):=by unfold fK;rw[if_neg (by omega),if_neg (by omega),if_pos a]
theorem rX {cols ps:List Int}{h:Nd}{n:Nat}(a:h.op=4\/h.op=5):fK cols ps h n=iJ h:=by unfold fK;rw[if_neg (by omega),if_neg (by omega),if_neg (by omega),if_pos a]
theorem nL {cols ps:List Int}{h:Nd}{n:Nat}(c:h.op≠1)(d:h.op≠2)(a:h.op≠3)(e:h.op≠4)(g:h.op≠5)(b:h.op≠6):fK cols ps h n=false:=by unfold fK;rw[if_neg a,if_neg (by omega),if_neg b,if_neg (by omega)]
theorem lM {cols ps:List Int}{p:Pd}(h:p.len=0):fH cols ps p=true:=by
 cases p with
 |nil _=>rfl
 |cons a t=>simp[Pd.len]at h
theorem bC2 (cols ps:List Int):∀(N:Nat) (p:Pd) (A:Option Addr) (n c:Nat) (j:Option Addr) (o x:Nat) (m:Option Addr) (u y:Nat) (w:World),p.nodes<=N->N<=1000->PrdS w A n c p->wX w j o cols->wX w m u ps ->
 Calls Tryz.prog 130 #[.agg #[.slice j o x,.slice m u y],.agg (iK p.h A n c)] w fun e w'=>e=.returned (.bool (dB cols ps p))/\Below w w w':=by
 intro N
 induction N with
 |zero=>intro p A n c j o x m u y w e9;have:=eA p;omega
 |
  succ N ih =>
  intro p A n c j o x m u y w e9 f7 hs hc hp;have e8:=Z ih;have a6:Hid (p.nodes<=N+1/\N+1<=1000):=Z ⟨e9,f7⟩;have f1:=hs.len;have h0:n<=1000:=by have:=pH p;omega
  obtain⟨a,e7⟩:=zE (dB cols ps p);rw[e7.out];obtain⟨hd,e3⟩:=zE (p.h);have g:Hid ((fK cols ps hd n&&fH cols ps (p.rest 0))=a):=Z (by rw[fI,f1,<- e3.out];exact e7.out);rw[e3.out];have a9:=Z f1;clear ih e9 f7 e7 f1 e3;obtain⟨op,b,⟨D,E,⟨L,K,M⟩⟩,⟨F,G,⟨I,H,J⟩⟩⟩:=hd;unfold iK;have c7:=Z ((hs.keep (aM w (.cells #[.slice j o x,.slice m u y] 175))).keep (aM _ (.cells #[op,b,D,E,L,K,M,F,G,I,H,J,.slice A n c] 64)));have a2:=Z ((hc.keep (aM w (.cells #[.slice j o x,.slice m u y] 175))).keep (aM _ (.cells #[op,b,D,E,L,K,M,F,G,I,H,J,.slice A n c] 64)));have a7:=Z ((hp.keep (aM w (.cells #[.slice j o x,.slice m u y] 175))).keep (aM _ (.cells #[op,b,D,E,L,K,M,F,G,I,H,J,.slice A n c] 64)));have b2:=Z ((aT.new w 175 #[.slice j o x,.slice m u y]).alloc (.cells #[op,b,D,E,L,K,M,F,G,I,H,J,.slice A n c] 64));have b5:=Z (aT.new (w.alloc (.cells #[.slice j o x,.slice m u y] 175)) 64 #[op,b,D,E,L,K,M,F,G,I,H,J,.slice A n c]);rw[show(w.alloc (.cells #[.slice j o x,.slice m u y] 175)).heap.size=w.heap.size+1 by simp]at b5;have e1:=(aB w w).alloc (Nat.le_refl _) (.cells #[.slice j o x,.slice m u y] 175);have HB:=Z (e1.alloc e1.size (.cells #[op,b,D,E,L,K,M,F,G,I,H,J,.slice A n c] 64));clear e1 hs hc hp;go_enter Tryz.func130,Tryz.ntmps130;go_upto_region 1 with fail;generalize hW:(w.alloc (.cells #[.slice j o x,.slice m u y] 175)).alloc (.cells #[op,b,D,E,L,K,M,F,G,I,H,J,.slice A n c] 64)=w1 at *;clear hW;obtain⟨X,e2⟩:=zE (w.heap.size+1);rw[e2.out]at b5;rw[e2.out];clear e2;have c5:=b5.out.cell;have S:=b2.out.cell;by_cases h3:op=3
  . subst h3;rw[lA rfl]at g;go_upto_region 4 with fail;have f9:=@bK w1.drew;refine aZ [([0,1,2,4,5,6],3),([],7)] [8,9] ?_;simp only[bS,cP];unfold bA;repeat(go_big_quiet_step (fail))
    refine wpQuiet_nil ?_;clear f9;go_wp2_with fail;refine(bI9 cols ps ⟨D,E,⟨L,K,M⟩⟩ j o x m u y _ (a2.out.keep (aC (aB _ _).drew)) (a7.out.keep (aC (aB _ _).drew))).mono ?_;rintro e w2 ⟨rfl,hb2⟩;go_wp2_with fail;refine⟨hb2,?_⟩;have f3:=Z (cC1 HB.out.drew hb2);have f4:=Z (b5.out.drew.below hb2);replace a2:=Z ((a2.out.keep (aC (aB _ _).drew)).keep (aC hb2));replace a7:=Z ((a7.out.keep (aC (aB _ _).drew)).keep (aC hb2));clear HB b5 b2 c7 hb2 c5 S;obtain⟨k1,f5⟩:=zE (dJ cols ps ⟨D,E,⟨L,K,M⟩⟩);obtain⟨k2,e4⟩:=zE (dJ cols ps ⟨F,G,⟨I,H,J⟩⟩);rw[f5.out]at g ⊢;rw[e4.out]at g;unfold bA;refine wpQuiet_nil ?_;go_wp2_with fail;refine(bI9 cols ps ⟨F,G,⟨I,H,J⟩⟩ j o x m u y _ a2.out a7.out).mono ?_;rintro e w3 ⟨rfl,c8⟩;go_wp2_with fail;refine⟨c8,?_⟩;have a8:=Z (cC1 f3.out c8);have f8:=Z (f4.out.below c8);clear f3 f4 c8;rw[e4.out];clear f5 e4;unfold bA;repeat(go_big_quiet_step (fail))
    refine wpQuiet_nil ?_;go_upto_region 5 with fail;have c5:=f8.out.cell;by_cases a1:n=0
    . subst a1;rw[lM (by rw[fI];exact a9.out.symm),Bool.and_true]at g;by_cases T:1<=b
      . have g2:decide (1<=b)=true:=decide_eq_true T;by_cases a3:b<=6
        . have g3:decide (b<=6)=true:=decide_eq_true a3;by_cases a4:k1=0
          . have g4:(k1 != 0)=false:=(by simpa using a4);obtain rfl:false=a:=(by rw[<- g.out,decide_eq_false (fun h=>h.2.2.1 a4)]);clear g T a3 a4;go_wp2;go_ret;exact⟨rfl,a8.out⟩
          . have g4:(k1 != 0)=true:=(by simpa using a4);by_cases a5:k1=k2
            . have g5:(k1 == k2)=true:=(by simpa using a5);obtain rfl:true=a:=(by rw[<- g.out,decide_eq_true ⟨rfl,⟨T,a3⟩,a4,a5⟩]);clear g T a3 a4 a5;go_wp2;go_ret;exact⟨rfl,a8.out⟩
            . have g5:(k1 == k2)=false:=(by simpa using a5);obtain rfl:false=a:=(by rw[<- g.out,decide_eq_false (fun h=>a5 h.2.2.2)]);clear g T a3 a4 a5;go_wp2;go_ret;exact⟨rfl,a8.out⟩
        . have g3:decide (b<=6)=false:=decide_eq_false a3;obtain rfl:false=a:=(by rw[<- g.out,decide_eq_false (fun h=>a3 h.2.1.2)]);clear g T a3;go_wp2;go_ret;exact⟨rfl,a8.out⟩
      . have g2:decide (1<=b)=false:=decide_eq_false T;obtain rfl:false=a:=(by rw[<- g.out,decide_eq_false (fun h=>T h.2.1.1)]);clear g T;go_wp2;go_ret;exact⟨rfl,a8.out⟩
    . have g1:((n:Int) == 0)=false:=(by simp;omega);obtain rfl:false=a:=(by rw[<- g.out,decide_eq_false (fun h=>a1 h.1)];rfl);clear g a1;go_wp2;go_ret;exact⟨rfl,a8.out⟩
  by_cases b0:op=1\/op=2\/op=4\/op=5\/op=6
  . by_cases f0:((op=1\/op=2)/\n≠0)\/(op=6/\n≠1)
    . obtain rfl:false=a:=by
       rw[<- g.out];rcases f0 with⟨h1,h2⟩|⟨h1,h2⟩
       . rw[rW h1,decide_eq_false h2];rfl
       . rw[kZ h1,decide_eq_false h2];rfl
      clear g b0 h3;rcases f0 with⟨rfl|rfl,h2⟩|⟨rfl,h2⟩
      all_goals
       go_wp2;go_ret;exact⟨rfl,HB.out⟩
    . have P:Hid ((iJ ⟨op,b,⟨D,E,⟨L,K,M⟩⟩,⟨F,G,⟨I,H,J⟩⟩⟩&&fH cols ps (p.rest 0))=a):=Z (by
       rw[<- g.out];rcases b0 with h|h|h|h|h
       . rw[rW (.inl h),decide_eq_true (show n=0 by omega)];rfl
       . rw[rW (.inr h),decide_eq_true (show n=0 by omega)];rfl
       . rw[rX (.inl h)]
       . rw[rX (.inr h)]
       . rw[kZ h,decide_eq_true (show n=1 by omega)];rfl)
      have O:Hid (((op=1\/op=2)->n=0)/\(op=6->n=1)):=Z ⟨fun h=>by omega,fun h=>by omega⟩;clear g h3 f0;have c9:=aS6 D E L K M 0 0 0 0 ⟨#[]⟩;have e0:=aS6 F G I H J 0 0 0 0 ⟨#[]⟩;obtain⟨q1,e5⟩:=zE (decide ((⟨D,E,⟨L,K,M⟩⟩:Od)≠⟨0,0,⟨0,0,⟨#[]⟩⟩⟩));obtain⟨q2,e6⟩:=zE (decide ((⟨F,G,⟨I,H,J⟩⟩:Od)≠⟨0,0,⟨0,0,⟨#[]⟩⟩⟩));have f6:Hid (iJ ⟨op,b,⟨D,E,⟨L,K,M⟩⟩,⟨F,G,⟨I,H,J⟩⟩⟩=(decide (b=0)&&(!q1 && !q2))):=Z (by
       rw[<- e5.out,<- e6.out,Bool.eq_iff_iff];simp[iJ,wC,bE])
      rw[e5.out]at c9;rw[e6.out]at e0;rw[f6.out]at P;clear f6 e5 e6;have g6:(decide (b=0)&&(!q1 && !q2))=true\/(a=false/\((b≠0)\/(b=0/\q1=true)\/(b=0/\q1=false/\q2=true))):=by
       by_cases h:b=0
       . cases q1<;>cases q2<;>simp[h]at P ⊢ <;> first|exact P.out|exact P.out.symm
       . have:=P.out;rw[decide_eq_false h]at this;exact .inr ⟨this.symm,.inl h⟩
      rcases g6 with f2|⟨rfl,g0⟩
      rotate_left
      . clear P;rcases g0 with h|⟨rfl,rfl⟩|⟨rfl,rfl,rfl⟩
        . have g9:(b != 0)=true:=(by simpa using h);clear h;rcases b0 with rfl|rfl|rfl|rfl|rfl
          . obtain rfl:=O.out.1 (.inl rfl);go_wp2;go_ret;exact⟨rfl,HB.out⟩
          . obtain rfl:=O.out.1 (.inr rfl);go_wp2;go_ret;exact⟨rfl,HB.out⟩
          . go_wp2;go_ret;exact⟨rfl,HB.out⟩
          . go_wp2;go_ret;exact⟨rfl,HB.out⟩
          . obtain rfl:=O.out.2 rfl;go_wp2;go_ret;exact⟨rfl,HB.out⟩
        all_goals
         rcases b0 with rfl|rfl|rfl|rfl|rfl
         . obtain rfl:=O.out.1 (.inl rfl);go_wp2;go_ret;exact⟨rfl,HB.out⟩
         . obtain rfl:=O.out.1 (.inr rfl);go_wp2;go_ret;exact⟨rfl,HB.out⟩
         . go_wp2;go_ret;exact⟨rfl,HB.out⟩
         . go_wp2;go_ret;exact⟨rfl,HB.out⟩
         . obtain rfl:=O.out.2 rfl;go_wp2;go_ret;exact⟨rfl,HB.out⟩
      rw[f2,Bool.true_and]at P;obtain⟨rfl,rfl,rfl⟩:b=0/\q1=false/\q2=false:=(by simpa using f2);clear f2;have g7:Hid (p.nodes<=N+1/\N+1<=1000):=a6;rcases b0 with rfl|rfl|rfl|rfl|rfl
      . obtain rfl:=O.out.1 (.inl rfl);obtain rfl:true=a:=(by rw[<- P.out,lM (by rw[fI];exact a9.out.symm)]);go_wp2_with fail;go_loop [78] (fun i=>i=zO) (fun _=>0);case atStart=>exact rfl
        case round=>obtain rfl:=hrel;go_wp2;go_ret;exact⟨rfl,HB.out⟩
      . obtain rfl:=O.out.1 (.inr rfl);obtain rfl:true=a:=(by rw[<- P.out,lM (by rw[fI];exact a9.out.symm)]);go_wp2_with fail;go_loop [78] (fun i=>i=zO) (fun _=>0);case atStart=>exact rfl
        case round=>obtain rfl:=hrel;go_wp2;go_ret;exact⟨rfl,HB.out⟩
      . clear O;go_wp2_with fail;clear c9 e0;go_loopw [78] (fun i wr=>∃k:Nat,k<=n/\i=.int .i64 (k:Int)/\Hid (fH cols ps (p.rest k)=a)/\Hid (Below w1 w1 wr)) (fun i _=>n-(intOf i).toNat);case atStart=>exact⟨0,by omega,rfl,P,Z (aB _ _)⟩
        case round =>
         obtain⟨k,hk,rfl,C,z⟩:=hrel;clear c5 S;by_cases hlt:k<n
         . have V:=Z (c7.out.keep (aC z.out));obtain⟨b',o',q,A1,n1,c1,rfl,hq,d⟩:=V.out.at hlt;have b4:=Z (d.s.keep (aM wr (.cells #[q.h.op,q.h.cm,q.h.l.k,q.h.l.ix,q.h.l.v.k,q.h.l.v.i,q.h.l.v.t,q.h.r.k,q.h.r.ix,q.h.r.v.k,q.h.r.v.i,q.h.r.v.t,.slice A1 n1 c1] 64)));obtain⟨d0,d1,d2,d3,d4,d5,d6,d7,d8,d9,b9,c0,c2,c3⟩:=d;have b8:=Z (eX hq);have R:=Z (nU hq cols ps);have B:=Z (z.out.alloc z.out.size (.cells #[q.h.op,q.h.cm,q.h.l.k,q.h.l.ix,q.h.l.v.k,q.h.l.v.i,q.h.l.v.t,q.h.r.k,q.h.r.ix,q.h.r.v.k,q.h.r.v.i,q.h.r.v.t,.slice A1 n1 c1] 64));have W:=Z (aT.new wr 64 #[q.h.op,q.h.cm,q.h.l.k,q.h.l.ix,q.h.l.v.k,q.h.l.v.i,q.h.l.v.t,q.h.r.k,q.h.r.ix,q.h.r.v.k,q.h.r.v.i,q.h.r.v.t,.slice A1 n1 c1]);clear c3 hq;obtain⟨Y,Q⟩:=zE (wr.heap.size);rw[Q.out]at W;go_upto_region 20 with fail;rw[Q.out];generalize hW3:wr.alloc (.cells #[q.h.op,q.h.cm,q.h.l.k,q.h.l.ix,q.h.l.v.k,q.h.l.v.i,q.h.l.v.t,q.h.r.k,q.h.r.ix,q.h.r.v.k,q.h.r.v.i,q.h.r.v.t,.slice A1 n1 c1] 64)=w3 at *;clear hW3 Q d0 d1 d2 d3 d4 d5 d6 d7 d8 d9 b9 c0 c2 V;have c6:=W.out.cell;have S:=(b2.out.below B.out).cell;have b1:=Z (a2.out.keep (aC B.out));have b3:=Z (a7.out.keep (aC B.out));go_wp2_with fail;refine(e8.out q A1 n1 c1 j o x m u y _ (by have:=b8.out;have:=a6.out;omega) (by have:=a6.out;omega) b4.out b1.out b3.out).mono ?_;rintro e w4 ⟨rfl,a0⟩;have U:=Z (cC1 B.out a0);clear a0 c6 S;obtain⟨c4,b7⟩:=zE (dB cols ps q);rw[b7.out]at R ⊢;cases c4
           . obtain rfl:false=a:=(by rw[<- C.out,R.out];rfl);go_wp2;go_ret;exact⟨rfl,cC1 HB.out U.out⟩
           . have b6:Hid (fH cols ps (p.rest (k+1))=a):=Z (by rw[<- C.out,R.out];rfl);go_wp2;go_roundw;case rel=>exact⟨k+1,by omega,by go_num,b6,U⟩
             case measure=>simp[intOf];omega
         . obtain rfl:true=a:=(by rw[<- C.out,fD (by rw[<- a9.out];omega)];rfl);clear C;go_wp2;go_ret;exact⟨rfl,cC1 HB.out z.out⟩
      . clear O;go_wp2_with fail;clear c9 e0;go_loopw [78] (fun i wr=>∃k:Nat,k<=n/\i=.int .i64 (k:Int)/\Hid (fH cols ps (p.rest k)=a)/\Hid (Below w1 w1 wr)) (fun i _=>n-(intOf i).toNat);case atStart=>exact⟨0,by omega,rfl,P,Z (aB _ _)⟩
        case round =>
         obtain⟨k,hk,rfl,C,z⟩:=hrel;clear c5 S;by_cases hlt:k<n
         . have V:=Z (c7.out.keep (aC z.out));obtain⟨b',o',q,A1,n1,c1,rfl,hq,d⟩:=V.out.at hlt;have b4:=Z (d.s.keep (aM wr (.cells #[q.h.op,q.h.cm,q.h.l.k,q.h.l.ix,q.h.l.v.k,q.h.l.v.i,q.h.l.v.t,q.h.r.k,q.h.r.ix,q.h.r.v.k,q.h.r.v.i,q.h.r.v.t,.slice A1 n1 c1] 64)));obtain⟨d0,d1,d2,d3,d4,d5,d6,d7,d8,d9,b9,c0,c2,c3⟩:=d;have b8:=Z (eX hq);have R:=Z (nU hq cols ps);have B:=Z (z.out.alloc z.out.size (.cells #[q.h.op,q.h.cm,q.h.l.k,q.h.l.ix,q.h.l.v.k,q.h.l.v.i,q.h.l.v.t,q.h.r.k,q.h.r.ix,q.h.r.v.k,q.h.r.v.i,q.h.r.v.t,.slice A1 n1 c1] 64));have W:=Z (aT.new wr 64 #[q.h.op,q.h.cm,q.h.l.k,q.h.l.ix,q.h.l.v.k,q.h.l.v.i,q.h.l.v.t,q.h.r.k,q.h.r.ix,q.h.r.v.k,q.h.r.v.i,q.h.r.v.t,.slice A1 n1 c1]);clear c3 hq;obtain⟨Y,Q⟩:=zE (wr.heap.size);rw[Q.out]at W;go_upto_region 20 with fail;rw[Q.out];generalize hW3:wr.alloc (.cells #[q.h.op,q.h.cm,q.h.l.k,q.h.l.ix,q.h.l.v.k,q.h.l.v.i,q.h.l.v.t,q.h.r.k,q.h.r.ix,q.h.r.v.k,q.h.r.v.i,q.h.r.v.t,.slice A1 n1 c1] 64)=w3 at *;clear hW3 Q d0 d1 d2 d3 d4 d5 d6 d7 d8 d9 b9 c0 c2 V;have c6:=W.out.cell;have S:=(b2.out.below B.out).cell;have b1:=Z (a2.out.keep (aC B.out));have b3:=Z (a7.out.keep (aC B.out));go_wp2_with fail;refine(e8.out q A1 n1 c1 j o x m u y _ (by have:=b8.out;have:=a6.out;omega) (by have:=a6.out;omega) b4.out b1.out b3.out).mono ?_;rintro e w4 ⟨rfl,a0⟩;have U:=Z (cC1 B.out a0);clear a0 c6 S;obtain⟨c4,b7⟩:=zE (dB cols ps q);rw[b7.out]at R ⊢;cases c4
           . obtain rfl:false=a:=(by rw[<- C.out,R.out];rfl);go_wp2;go_ret;exact⟨rfl,cC1 HB.out U.out⟩
           . have b6:Hid (fH cols ps (p.rest (k+1))=a):=Z (by rw[<- C.out,R.out];rfl);go_wp2;go_roundw;case rel=>exact⟨k+1,by omega,by go_num,b6,U⟩
             case measure=>simp[intOf];omega
         . obtain rfl:true=a:=(by rw[<- C.out,fD (by rw[<- a9.out];omega)];rfl);clear C;go_wp2;go_ret;exact⟨rfl,cC1 HB.out z.out⟩
      . obtain rfl:=O.out.2 rfl;clear O;go_wp2_with fail;clear c9 e0;go_loopw [78] (fun i wr=>∃k:Nat,k<=1/\i=.int .i64 (k:Int)/\Hid (fH cols ps (p.rest k)=a)/\Hid (Below w1 w1 wr)) (fun i _=>1-(intOf i).toNat);case atStart=>exact⟨0,by omega,rfl,P,Z (aB _ _)⟩
        case round =>
         obtain⟨k,hk,rfl,C,z⟩:=hrel;clear c5 S;by_cases hlt:k<1
         . have V:=Z (c7.out.keep (aC z.out));obtain⟨b',o',q,A1,n1,c1,rfl,hq,d⟩:=V.out.at hlt;have b4:=Z (d.s.keep (aM wr (.cells #[q.h.op,q.h.cm,q.h.l.k,q.h.l.ix,q.h.l.v.k,q.h.l.v.i,q.h.l.v.t,q.h.r.k,q.h.r.ix,q.h.r.v.k,q.h.r.v.i,q.h.r.v.t,.slice A1 n1 c1] 64)));obtain⟨d0,d1,d2,d3,d4,d5,d6,d7,d8,d9,b9,c0,c2,c3⟩:=d;have b8:=Z (eX hq);have R:=Z (nU hq cols ps);have B:=Z (z.out.alloc z.out.size (.cells #[q.h.op,q.h.cm,q.h.l.k,q.h.l.ix,q.h.l.v.k,q.h.l.v.i,q.h.l.v.t,q.h.r.k,q.h.r.ix,q.h.r.v.k,q.h.r.v.i,q.h.r.v.t,.slice A1 n1 c1] 64));have W:=Z (aT.new wr 64 #[q.h.op,q.h.cm,q.h.l.k,q.h.l.ix,q.h.l.v.k,q.h.l.v.i,q.h.l.v.t,q.h.r.k,q.h.r.ix,q.h.r.v.k,q.h.r.v.i,q.h.r.v.t,.slice A1 n1 c1]);clear c3 hq;obtain⟨Y,Q⟩:=zE (wr.heap.size);rw[Q.out]at W;go_upto_region 20 with fail;rw[Q.out];generalize hW3:wr.alloc (.cells #[q.h.op,q.h.cm,q.h.l.k,q.h.l.ix,q.h.l.v.k,q.h.l.v.i,q.h.l.v.t,q.h.r.k,q.h.r.ix,q.h.r.v.k,q.h.r.v.i,q.h.r.v.t,.slice A1 n1 c1] 64)=w3 at *;clear hW3 Q d0 d1 d2 d3 d4 d5 d6 d7 d8 d9 b9 c0 c2 V;have c6:=W.out.cell;have S:=(b2.out.below B.out).cell;have b1:=Z (a2.out.keep (aC B.out));have b3:=Z (a7.out.keep (aC B.out));go_wp2_with fail;refine(e8.out q A1 n1 c1 j o x m u y _ (by have:=b8.out;have:=a6.out;omega) (by have:=a6.out;omega) b4.out b1.out b3.out).mono ?_;rintro e w4 ⟨rfl,a0⟩;have U:=Z (cC1 B.out a0);clear a0 c6 S;obtain⟨c4,b7⟩:=zE (dB cols ps q);rw[b7.out]at R ⊢;cases c4
           . obtain rfl:false=a:=(by rw[<- C.out,R.out];rfl);go_wp2;go_ret;exact⟨rfl,cC1 HB.out U.out⟩
           . have b6:Hid (fH cols ps (p.rest (k+1))=a):=Z (by rw[<- C.out,R.out];rfl);go_wp2;go_roundw;case rel=>exact⟨k+1,by omega,by go_num,b6,U⟩
             case measure=>simp[intOf];omega
         . obtain rfl:true=a:=(by rw[<- C.out,fD (by rw[<- a9.out];omega)];rfl);clear C;go_wp2;go_ret;exact⟨rfl,cC1 HB.out z.out⟩
  . have g1:(op == 1)=false:=(by simp;omega);have g2:(op == 2)=false:=(by simp;omega);have g3:(op == 3)=false:=(by simpa using h3);have g4:(op == 4)=false:=(by simp;omega);have g5:(op == 5)=false:=(by simp;omega);have g8:(op == 6)=false:=(by simp;omega);obtain rfl:false=a:=(by rw[<- g.out,nL (by simp only;omega) (by simp only;omega) (by simp only;omega) (by simp only;omega) (by simp only;omega) (by simp only;omega)];rfl);clear g b0 h3;go_wp2;go_ret;exact⟨rfl,HB.out⟩
end Go.Proofs.YtnnmlhmffnfjfaaGreat
