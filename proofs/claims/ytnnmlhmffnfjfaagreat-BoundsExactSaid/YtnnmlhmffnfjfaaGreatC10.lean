/- Texts on which the walk stands. -/
import Derived.Test.YtnnmlhmffnfjfaaGreatC9
import Derived.Deep.CutBlock
open Go renaming wpQuiet_nil → aA
open Go.RowKit.Below renaming refl → aB
open Nat renaming le_refl → aD, le_trans → bI, zero_add → cA, lt_of_lt_of_le → cC
open Bool renaming and_eq_true → aI, eq_iff_iff → bV
open List renaming mem_of_getElem? → aJ, getElem?_eq_getElem → aN, flatMap_append → aP, eq_nil_of_length_eq_zero → aR, getD_eq_getElem?_getD → bG, mem_singleton → bU, take_of_length_le → bW, getElem?_map → cE
open Int renaming lt_or_le → cD
set_option maxHeartbeats 8000000
set_option linter.unusedVariables false
set_option maxRecDepth 100000
namespace Go.Proofs.YtnnmlhmffnfjfaaGreat
section
open Go.RowKit
open Rg
theorem uN (A:Option Addr)(n c:Nat)(l:List Iv)(w:World)(hs:kH w A n l) :
 Calls Tryz.prog 262 #[.slice A n c] w fun e w'=>e=.returned (.bool (cM l))/\Below w w w':=by
 rcases Nat.lt_or_ge 64 n with h|h
 . have hl:=hs.len;have hv:cM l=false:=(by simp[cM];omega);rw[hv];have a:decide ((n:Int)<=64)=false:=(by simp;omega);clear hl hs;go_enter Tryz.func262,Tryz.ntmps262;go_wp2;go_ret;exact⟨rfl,aB _ _⟩
 . exact aS5 A n c l w hs (by omega)
theorem bP1 {a b:List Iv}(e:cM a=true)(hb:cM b=true):eF (iA 2) a b=[]↔wR a b:=by
 have i:cL none a=true:=by simp[cM]at e;exact e.2
 have j:cL none b=true:=by simp[cM]at hb;exact hb.2
 obtain⟨n,g⟩:=aK0 (iA 2) rfl i j;constructor
 . intro h v _ k;have:=g v;rw[h,k]at this;simpa[eP,iA,qN]using this.symm
 . intro h;rcases hm:eF (iA 2) a b with _|⟨x,l⟩
   . rfl
   . obtain⟨m,l2⟩:=bX3 n (by rw[hm];simp);have d:=g (lo (eF (iA 2) a b));rw[l2]at d;have c:eP a (lo (eF (iA 2) a b))=true/\eP b (lo (eF (iA 2) a b))=true:=(by simpa[iA,qN]using d.symm);rw[h _ m c.1]at c;cases c.2
theorem bQ4:∀(d:Nat) (r:Rg) (x:Int) (f:Bool) (A:Option Addr) (n c:Nat) (w:World),RgS w x f A n c r->r.size<=64->d<=12 ->
 Calls Tryz.prog 231 #[.agg #[x,.bool f,.slice A n c],(d:Int)] w fun e w'=>e=.returned (.bool (sW d r))/\Below w w w':=by
 intro d
 induction d with
 |
  zero =>
  intro r x f A n c w a hs _;have h0:sW 0 r=(decide (x=0)&&decide (n=0)):=by rw[bV,hJ,aB8,a.hw,<- a.len];simp
  rw[h0];have o:Below w w (w.alloc (.cells #[x,.bool f,.slice A n c] 71)):=(aB _ _).alloc (aD _) _;clear h0 a hs;by_cases hx:x=0
  . subst hx;go_enter Tryz.func231,Tryz.ntmps231;go_wp2;go_ret;refine⟨bR ?_,o⟩;rw[bV];simp
  . have g1:(x != 0)=true:=(by simp[hx]);have hr:(decide (x=0)&&decide (n=0))=false:=(by simp[hx]);rw[hr];clear hr hx;go_enter Tryz.func231,Tryz.ntmps231;go_wp2;go_ret;exact⟨rfl,o⟩
 |
  succ d ih =>
  intro r x f A n c w a hs hd;have o:Below w w (w.alloc (.cells #[x,.bool f,.slice A n c] 71)):=(aB _ _).alloc (aD _) _;by_cases hx:x=((d+1:Nat):Int)
  . cases f
    . have f2:Hid (kE (d+1) r↔kR d r.parts):=(by show _↔_;rw[iW,a.hw,a.hf];simp[hx,kR]);have g1:(x != ((d+1:Nat):Int))=false:=(by simp[hx]);have g4:(((d+1:Nat):Int) == 0)=false:=(by simp;omega);generalize d9:((d+1:Nat):Int)=G at *;have j4:n<=64:=(by have:=a.len;have:=eK r;omega);have j6:=a.ok.1;have f3:=Z ih;have O:=Z a;have i7:=Z hx;have i4:=Z d9;have d8:G-1=(d:Int):=(by omega);have j3:1<=G/\G<=12:=(by omega);have f1:=Z d8;clear ih a hx d9 d8;obtain⟨W0,a2⟩:∃W:World,Hid (w.alloc (.cells #[x,zF,.slice A n c] 71)=W):=⟨_,rfl⟩;rw[a2.out]at o;have E:Hid (aT W0 w 71 #[x,zF,.slice A n c]):=(by have:=aT.new w 71 #[x,zF,.slice A n c];rw[a2.out]at this;exact this);go_enter Tryz.func231,Tryz.ntmps231;go_wp2;go_loopw [23] (fun i wr=>∃k:Nat,k<=n/\i=.int .i64 (k:Int)/\Hid (kR d (r.parts.take k))/\Below W0 W0 wr) (fun i _=>n-(intOf i).toNat);case atStart=>exact⟨0,by omega,rfl,⟨by simp,by simp⟩,by rw[a2.out];exact aB _ _⟩
      case round =>
       obtain⟨k,hk,rfl,C,X⟩:=hrel;have hb:=cC1 o X;by_cases hlt:k<n
       . obtain⟨d2,o1,p,A1,n1,c1,x1,H,A2,n2,c2,rfl,hp,e5⟩:=(O.out.keep (aC hb)).at hlt;have i6:=Z e5;have g:=Z hp;have j7:=iX hp;obtain⟨p0,p1,p2,p3,h6,b7,e8⟩:=e5;have a8:=Z b7;have a7:=Z e8;have e4:=b7.len;have c9:=Z e4;have z1:=(E.out.below X).cell;have S:=Z (aT.new wr 141 #[.slice A1 n1 c1,x1,.bool H,.slice A2 n2 c2]);have d6:Below wr wr (wr.alloc (.cells #[.slice A1 n1 c1,x1,.bool H,.slice A2 n2 c2] 141)):=(aB _ _).alloc (aD _) _;have N:=Z d6;clear hp h6 b7 e8 e4 d6;by_cases J:n1=0
         . have g6:((n1:Int) == 0)=true:=(by simp[J]);have b:Hid (¬qE d p):=Z fun h=>h.1 (aR (by rw[c9.out,J]));clear J;go_wp2;go_ret;exact⟨bR (dK (lR g.out b.out)).symm,cC1 hb N.out⟩
         . have g6:((n1:Int) == 0)=false:=(by simp[J]);have h5:0<n1:=(by omega);clear J;go_wp2_with fail;refine(uN A1 n1 c1 p.1 _ (a8.out.keep (aC N.out))).mono ?_;rintro e w1 ⟨rfl,hb1⟩;obtain⟨v1,P⟩:=zE (cM p.1);rw[P.out];have T:=cC1 N.out hb1;have y1:=(S.out.below hb1).cell;clear z1 p0 p1 p2 p3;cases v1
           . have b:Hid (¬qE d p):=Z fun h=>(by have h1:=h.2.1;rw[P.out]at h1;cases h1);go_wp2;go_ret;exact⟨bR (dK (lR g.out b.out)).symm,cC1 hb T⟩
           . go_wp2_with fail;rw[f1.out];refine(f3.out p.2 x1 H A2 n2 c2 _ (a7.out.keep (aC T)) (by omega) (by omega)).mono ?_;rintro e w2 ⟨rfl,hb2⟩;obtain⟨v3,R⟩:=zE (sW d p.2);rw[R.out];have U:=cC1 T hb2;have y2:=((S.out.below hb1).below hb2).cell;clear y1;cases v3
             . have b:Hid (¬qE d p):=Z fun h=>(by have h1:=hJ.2 ⟨h.2.2.2.1,h.2.2.2.2⟩;rw[R.out]at h1;cases h1);go_wp2;go_ret;exact⟨bR (dK (lR g.out b.out)).symm,cC1 hb U⟩
             . go_wp2_with fail;refine(wO x1 H A2 n2 c2 p.2 _ (a7.out.keep (aC U))).mono ?_;rintro e w3 ⟨rfl,b0⟩;obtain⟨v2,Q⟩:=zE (p.2.nix);rw[Q.out];have V:=cC1 U b0;have Y3:=Z (((S.out.below hb1).below hb2).below b0);have y3:=Y3.out.cell;clear y2;cases v2;rotate_left
               . have b:Hid (¬qE d p):=Z fun h=>(by have h1:=h.2.2.1;rw[Q.out]at h1;cases h1);go_wp2;go_ret;exact⟨bR (dK (lR g.out b.out)).symm,cC1 hb V⟩
               . have F:Hid (qE d p):=(by have h1:=hJ.1 R.out;refine⟨fun h=>?_,P.out,Q.out,h1.1,h1.2⟩;have:=c9.out;rw[h]at this;simp at this;omega);have M:=Z V;have I:=Z (cC1 X V);clear hb1 hb2 b0 T U V N S P Q R;go_wp2;have t:=@bK w3;have j5:k<=c:=(by omega);have z3:=(E.out.below I.out).cell;refine mA (by kernel_rfl) (by kernel_rfl) ?_;rcases Nat.eq_zero_or_pos k with y|y
                 . have g0:decide (0<k)=false:=(by simp[y]);have c0:=Z y;clear y;repeat(go_big_quiet_step (fail))
                   refine aA ?_;intro L l;have z4:=(E.out.below (cC1 I.out l)).cell;have m:=Z l;clear t z3 y3 l g0;go_wp2;go_loopw [7] (fun i wr'=>i=zO/\Below L L wr') (fun _ _=>0);case atStart=>exact⟨rfl,aB _ _⟩
                   case round =>
                    obtain⟨rfl,z⟩:=hrel;have g5:decide (0<k)=false:=(by have:=c0.out;simp;omega);go_wp2;go_roundw;case rel=>refine⟨k+1,by omega,by go_num,?_,cC1 (cC1 I.out m.out) z⟩;show kR _ _;rw[cU g.out];refine C.out.snoc F.out fun q hq=>?_;rw[c0.out]at hq;simp at hq
                    case measure=>simp[intOf];omega
                 . have g0:decide (0<k)=true:=(by simp[y]);obtain⟨f8,o6,e7,B1,m1,j0,x2,j2,B2,m2,j1,d3,b4,b6⟩:=(O.out.keep (aC hb)).at (show k-1<n by omega);obtain⟨rfl,rfl⟩:d2=f8/\o1=o6:=(by injection d3 with h;injection h with h1 h2;exact⟨h1,h2⟩);have b5:=b6.keep (aC M.out);have f6:Hid (qE d e7):=C.out.1 e7 (aJ (i:=k-1) (by rw[List.getElem?_take,if_pos (by omega)];exact b4));have h4:0<m1:=by
                    have h1:=b5.vs.len;have h2:=f6.out.1;rcases Nat.eq_zero_or_pos m1 with h|h
                    . exact absurd (aR (by omega)) h2
                    . exact h
                   obtain⟨i8,o7,u,rfl,b2,hu⟩:=bI7 b5.vs h4;obtain⟨f9,o8,v,rfl,b3,hv⟩:=bI7 (a8.out.keep (aC M.out)) h5;obtain⟨D,_,_,_,_,_,_⟩:=b5;obtain⟨⟨h9,h8,i0⟩,u',k2⟩:=u;obtain⟨⟨i2,i1,i3⟩,k3,k4⟩:=v;obtain⟨u0,u1,u2⟩:=hu;obtain⟨v0,v1,v2⟩:=hv;dsimp only at b2 b3 u0 u1 u2 v0 v1 v2;have c4:=Z b2;have c5:=Z b3;have c6:=Z b4;have i5:=Z b6;clear b2 b3 b4 d3 b6;obtain⟨a9,a3⟩:=zE (bZ ⟨h9,h8,i0⟩ ⟨i2,i1,i3⟩);repeat(go_big_quiet_step (first|(go_at_call 112;exact aA7 (eN ⟨_,_,_⟩ ⟨_,_,_⟩ _))))
                   refine aA ?_;intro L l;rw[a3.out];have z4:=(E.out.below (cC1 I.out l)).cell;have f0:=Z l;have m:=Z (cC1 M.out l);have Y4:=Z (Y3.out.below l);clear t z3 y3 l g0 D u0 u1 u2 v0 v1 v2 Y3 M;rcases cD a9 0 with d7|d7
                   . have g5:decide (0<=a9)=false:=(by simp;omega);rw[g5];have d0:=Z (a8.out.keep (aC m.out));have f7:=Z (a7.out.keep (aC m.out));have f5:=Z F.out.2.2.2.2;go_wp2;go_loopw [7] (fun i wr'=>∃j:Nat,j<=k/\i=.int .i64 (j:Int)/\Hid (∀q∈r.parts.take j,wR q.1 p.1/\q.2≠p.2)/\Below L L wr') (fun i _=>k-(intOf i).toNat);case atStart=>exact⟨0,by omega,rfl,(by show ∀q∈_,_;simp),aB _ _⟩
                     case round =>
                      obtain⟨j,hj,rfl,e0,z⟩:=hrel;have d5:=cC1 m.out z;by_cases e3:j<k
                      . obtain⟨g2,o9,q,C1,l1,e1,x3,g3,C2,l2,e2,d4,hq,e6⟩:=(O.out.keep (aC (cC1 hb d5).drew)).at (show j<n by omega);obtain⟨rfl,rfl⟩:d2=g2/\o1=o9:=(by injection d4 with h;injection h with h1 h2;exact⟨h1,h2⟩);have a4:Hid (qE d q):=C.out.1 q (aJ (i:=j) (by rw[List.getElem?_take,if_pos (by omega)];exact hq));have j8:=iX hq;have c7:=Z e6;obtain⟨D,q1,q2,q3,_,_,_⟩:=e6;have HQ:=Z hq;have Y5:=Z (Y4.out.below z).drew;have y5:=Y5.out.cell;have b8:=Z z.drew;have c8:=Z ((E.out.below (cC1 I.out f0.out)).below z).drew;have z5:=c8.out.cell;have t:=@bK wr.drew;obtain⟨h7,a6⟩:=zE (decide (q.2=p.2));clear hq d4;go_wp2;refine aZ [([0,1,2,3,4,5,6,7],8),([9,10,11,12,13,14,15,16,17],18)] [19,20,21] ?_;simp only[bS,cP];unfold bA;repeat(go_big_quiet_step (fail))
                        refine aA ?_;clear t y5 z5 D q1 q2 q3;go_wp2_with (first|(go_at_call 35;refine(rZ q.2 x3 g3 C2 l2 e2 x1 H A2 n2 c2 p.2 _ c7.out.rg (f7.out.keep (aC b8.out)) (nX ⟨by omega,a4.out.2.2.2.2⟩) (nX ⟨by omega,f5.out⟩)).mono ?_;rintro e w6 ⟨rfl,B⟩;rw[a6.out]));refine⟨B,?_⟩;have a0:=Z (cC1 b8.out B);obtain⟨D,q1,q2,q3,_,e9,_⟩:=c7.out.keep (aC B);have d1:=Z e9;have y6:=(Y5.out.below B).cell;have z6:=(c8.out.below B).cell;have t:=@bK w6;clear e9 B;unfold bA;cases h7
                        . repeat(go_big_quiet_step (fail))
                          refine aA ?_;clear t y6 z6 D q1 q2 q3;have k1:q.1.length<=64:=(by have:=a4.out.2.1;simp[cM]at this;exact this.1);have k0:p.1.length<=64:=(by have:=F.out.2.1;simp[cM]at this;exact this.1);have c3:=Z (And.intro d1.out.len (d0.out.len));go_wp2_with (first|(go_at_call 229;refine(gW 2 C1 (some ⟨f9,o8,none⟩) l1 n1 e1 c1 q.1 p.1 _ d1.out (d0.out.keep (aC a0.out)) (by have:=c3.out.1;omega) (by have:=c3.out.2;omega)).mono ?_;rintro e w7 ⟨A7,i9,rfl,g8,b1⟩));refine⟨b1,?_⟩;have a1:=Z (bP1 a4.out.2.1 F.out.2.1);obtain⟨Y,a5⟩:=zE (eF (iA 2) q.1 p.1);rw[a5.out]at a1;rw[a5.out];have b9:=Z (cC1 a0.out b1);have j9:Y.length<=4096:=(by rw[<- a5.out];have h1:=tW (iA 2) q.1 p.1 (hH q.1 p.1) (hH q.1 p.1).length;have h2:=tK q.1 p.1;show(jW _ _ _ _ _).length<=_;omega);clear g8 b1;unfold bA;by_cases K:Y.length=0
                          . have g7:decide (0<Y.length)=false:=(by simp[aR K]);have f4:Hid (wR q.1 p.1):=a1.out.1 (aR K);clear K;repeat(go_big_quiet_step (fail))
                            refine aA ?_;go_wp2;go_roundw;case rel =>
                             refine⟨j+1,by omega,by go_num,?_,b9.out⟩;show ∀s∈_,_;rw[cU HQ.out];intro s hs;rcases List.mem_append.1 hs with hs|hs
                             . exact e0.out s hs
                             . have:s=q:=(by simpa using hs);rw[this];exact⟨f4.out,by simpa using a6.out⟩
                            case measure=>simp[intOf];omega
                          . have g7:decide (0<Y.length)=true:=(by simp only[decide_eq_true_eq];omega);have b:Hid (¬kE (d+1) r):=Z fun h=>K (by rw[a1.out.2 (tJ h e3 HQ.out g.out).2.1];rfl);clear K;repeat(go_big_quiet_step (fail))
                            refine aA ?_;go_wp2;go_ret;exact⟨bR (dK b.out).symm,cC1 hb (cC1 m.out b9.out)⟩
                        . have b:Hid (¬kE (d+1) r):=Z fun h=>(tJ h e3 HQ.out g.out).2.2 (by simpa using a6.out);repeat(go_big_quiet_step (fail))
                          refine aA ?_;clear t y6 z6 D q1 q2 q3;go_wp2_with fail;refine⟨aB _ _,?_⟩;unfold bA;repeat(go_big_quiet_step (fail))
                          refine aA ?_;go_wp2;go_ret;exact⟨bR (dK b.out).symm,cC1 hb (cC1 m.out a0.out)⟩
                      . go_wp2;go_roundw;case rel=>refine⟨k+1,by omega,by go_num,?_,cC1 X d5⟩;show kR _ _;have g9:j=k:=(by omega);have h2:=e0.out;rw[g9]at h2;rw[cU g.out];refine C.out.snoc F.out fun q hq=>⟨?_,h2 q hq⟩;have h3:=bI6 (k:=k-1) (p:=p) (by rw[Nat.sub_add_cancel y];exact C.out) c6.out (by rw[c4.out,c5.out,a3.out];exact d7);rw[Nat.sub_add_cancel y]at h3;exact h3 q hq
                        case measure=>simp[intOf];omega
                   . have g5:decide (0<=a9)=true:=(by simp;omega);have b:Hid (¬kE (d+1) r):=Z fun h=>(by have:=(tJ h (show k-1<k by omega) c6.out g.out).1;rw[c4.out,c5.out,a3.out]at this;omega);go_wp2;go_ret;exact⟨bR (dK b.out).symm,cC1 hb m.out⟩
       . go_wp2;go_ret;refine⟨bR ?_,hb⟩;have h1:=C.out;rw[bW (by rw[cI];have:=O.out.len;omega)]at h1;exact(hJ.2 (f2.out.2 h1)).symm
    . rw[dK (fun h=>by have:=((iW d r).1 h).2.1;rw[a.hf]at this;cases this)];have g1:(x != ((d+1:Nat):Int))=false:=(by simp[hx]);have g4:(((d+1:Nat):Int) == 0)=false:=(by simp;omega);generalize ((d+1:Nat):Int)=G at *;clear ih a hx;go_enter Tryz.func231,Tryz.ntmps231;go_wp2;go_ret;exact⟨rfl,o⟩
  . rw[dK (fun h=>hx (by rw[<- a.hw];exact((iW d r).1 h).1))];have g1:(x != ((d+1:Nat):Int))=true:=(by simp only[bne_iff_ne];exact hx);generalize ((d+1:Nat):Int)=G at *;clear ih a hx;go_enter Tryz.func231,Tryz.ntmps231;go_wp2;go_ret;exact⟨rfl,o⟩
theorem tV (r:Rg)(x:Int)(f:Bool)(A:Option Addr)(n c:Nat)(w:World)(i:RgS w x f A n c r) :
 Calls Tryz.prog 196 #[.agg #[x,.bool f,.slice A n c]] w fun e w'=>e=.returned (.bool (okB r))/\Below w w w':=by
 have hx:=i.hw;have j:=Z i;have b:=Z hx;clear i hx;have k:=Z (aT.new w 71 #[x,.bool f,.slice A n c]);have a:Hid (Below w w (w.alloc (.cells #[x,.bool f,.slice A n c] 71))):=Z ((aB _ _).alloc (aD _) _);rcases cD x 0 with h0|h0
 . rw[mN (fun h=>by have h1:=h.1;rw[b.out]at h1;omega)];have m:decide (0<=x)=false:=(by simp;omega);go_enter Tryz.func196,Tryz.ntmps196;go_wp2;go_ret;exact⟨rfl,a.out⟩
 . have m:decide (0<=x)=true:=(by simp;omega);rcases cD 12 x with h1|h1
   . rw[mN (fun h=>by have h2:=h.2.1;rw[b.out]at h2;omega)];have o:decide (x<=12)=false:=(by simp;omega);go_enter Tryz.func196,Tryz.ntmps196;go_wp2;go_ret;exact⟨rfl,a.out⟩
   . have o:decide (x<=12)=true:=(by simp;omega);go_enter Tryz.func196,Tryz.ntmps196;go_wp2_with fail;refine(aC1 r x f A n c 0 _ (j.out.keep (aC a.out)) (by omega)).mono ?_;rintro e s ⟨rfl,hb1⟩;have q:=(k.out.below hb1).cell;have g:=cC1 a.out hb1;by_cases hs:r.size<=64
     . have e1:tX 0 r=r.size:=(by rw[tX,if_pos (by omega)];omega);rw[e1];have p:decide ((r.size:Int)<=64)=true:=(by simp;omega);obtain⟨d,rfl⟩:=Int.eq_ofNat_of_zero_le h0;go_wp2_with fail;refine(bQ4 d r _ f A n c _ (j.out.keep (aC g)) hs (by omega)).mono ?_;rintro e t ⟨rfl,hb2⟩;go_wp2;go_ret;refine⟨bR ?_,cC1 g hb2⟩;rw[bV,fR,hJ];unfold nR;rw[b.out];constructor
       . intro h;exact⟨h0,h1,hs,h⟩
       . intro h;exact h.2.2.2
     . have e1:tX 0 r=65:=(by rw[tX,if_neg (by omega)]);rw[e1];have p:decide (((65:Nat):Int)<=64)=false:=(by decide);have l:=Z (mN (fun h=>hs h.2.2.1));go_wp2;go_ret;exact⟨bR l.out.symm,g⟩
end
section
open Go.RowKit
structure LaterR (R:World→World→Prop) (w:World) where
 nxt:World
 rel:nxt=w∨R w nxt
instance (R:World→World→Prop) (w:World):Nonempty (LaterR R w):=⟨⟨w,.inl rfl⟩⟩
instance (R:World→World→Prop) (w:World):Inhabited (LaterR R w):=⟨⟨w,.inl rfl⟩⟩
def cS (R:World→World→Prop) (w:World) (x:LaterR R w):World:=x.nxt
abbrev clsR (R:World→World→Prop) (w:World):World→Prop:=fun W=>∃x:LaterR R w,W=cS R w x
theorem cA0 {R:World->World->Prop}{w W:World}:clsR R w W↔(W=w\/R w W):=⟨fun⟨x,h⟩=>by rw[h];exact x.rel,fun h=>⟨⟨W,h⟩,rfl⟩⟩
theorem LaterR.cell {R:World->World->Prop}{w:World}(y:LaterR R w){a:Addr}{v:Option Value}(b:w.cell? a=v)(h:∀W,R w W->W.cell? a=v):(cS R w y).cell? a=v:=by
 rcases y.rel with e|e
 . show y.nxt.cell? a=v;rw[e];exact b
 . exact h _ e
inductive PlanR where
 | last (qs ws:List Nat)
 | one (qs ws:List Nat) (e:Nat) (t:PlanR)
def PlanR.len:PlanR→Nat
 |.last qs ws=>qs.length+ws.length
 |.one qs ws _ t=>qs.length+(ws.length+(t.len+1))
structure Eff (late:List Nat) (R1 R2:World→World→Prop) (i:Nat) (w w':World):Prop where
 r1:i ∉ late→R1 w w'
 r2:R2 w w'
def bA1 (late:List Nat) (R1 R2:World→World→Prop) (i:Nat) (w w':World):Prop:=(i∉late→w'=w∨R1 w w')∧(w'=w∨R2 w w')
theorem Eff.c {late:List Nat}{R1 R2:World->World->Prop}{i:Nat}{w w':World}(h:Eff late R1 R2 i w w'):bA1 late R1 R2 i w w':=⟨fun a=>.inr (h.r1 a),.inr h.r2⟩
theorem bA1.refl {late:List Nat}{R1 R2:World->World->Prop}{i:Nat}{w:World}:bA1 late R1 R2 i w w:=⟨fun _=>.inl rfl,.inl rfl⟩
def sT (ops:Array Oper):Nat→Nat→Nat→Bool
 |0,_,_=>false
 |
  n+1,f,i=>match ops[f]? with
  |none=>false
  |some o=>o.after.any fun e=>Region.binds .any e&&(e.on == i || sT ops n e.on i)
def jM (ops:Array Oper) (listed:Array Bool):Prop:=∀k o,ops[k]?=some o→listed.getD k true=true→∀e∈o.after,Region.binds .any e=true→listed.getD e.on false=true
theorem bK0 {l:Array Bool}{k:Nat}(h:l.getD k false=true):l.getD k true=true:=by
 rw[Array.getD_eq_getD_getElem?]at h ⊢;cases hk:l[k]? with
 |none=>rfl
 |some b=>rw[hk]at h;exact h
theorem aO2 {l:Array Bool}{k:Nat}(h:l.getD k true=false):l.getD k false=false:=by
 rw[Array.getD_eq_getD_getElem?]at h ⊢;cases hk:l[k]? with
 |none=>rfl
 |some b=>rw[hk]at h;exact h
theorem aI1 {l:Array Bool}{j k:Nat}(h:l.getD k false=true):(l.setIfInBounds j true).getD k false=true:=by
 by_cases b:j=k
 . subst b;rw[Array.getD_eq_getD_getElem?]at h ⊢;rw[Array.getElem?_setIfInBounds];by_cases a:j<l.size
   . simp[a]
   . simp[Array.getElem?_eq_none (Nat.le_of_not_lt a)]at h
 . rw[getD_set_ne false b];exact h
theorem pC {ops:Array Oper}{a:Array Bool}(hc:jM ops a):∀(n f i:Nat),sT ops n f i=true->∀o,ops[f]?=some o->(∀e∈o.after,Region.binds .any e=true->a.getD e.on false=true)->a.getD i false=true
 |0,_,_,h,_,_,_=>by cases h
 |
  n+1,f,i,h,o,ho,hall=>by
  unfold sT at h;rw[ho]at h;simp only[Array.any_eq_true',aI,Bool.or_eq_true,beq_iff_eq]at h;obtain⟨e,b,hb,h⟩:=h;rcases h with h|h
  . rw[<- h];exact hall e b hb
  . have d:=hall e b hb;cases hk:ops[e.on]? with
    |
     none=>cases n with
     |zero=>cases h
     |succ n=>unfold sT at h;rw[hk]at h;cases h
    |some o'=>exact pC hc n e.on i h o' hk fun c j g=>hc e.on o' hk (bK0 d) c j g
theorem jM.more {ops:Array Oper}{b:Array Bool}(hc:jM ops b){j:Nat}{i:Oper}(m:ops[j]?=some i)(l:∀e∈i.after,Region.binds .any e=true->b.getD e.on false=true):jM ops (b.setIfInBounds j true):=by
 intro k o a g e c hb;by_cases d:j=k
 . subst d;rw[m]at a;injection a with a;subst a;exact aI1 (l e c hb)
 . rw[getD_set_ne true d]at g;exact aI1 (hc k o a g e c hb)
theorem jM.start (ops:Array Oper):jM ops (Array.replicate ops.size false):=by
 intro k o c a;have b:k<ops.size:=(Array.getElem?_eq_some_iff.1 c).1;rw[Array.getD_eq_getD_getElem?,Array.getElem?_replicate,if_pos b]at a;cases a
def lateOk (late:List Nat) (ops:Array Oper) (listed:Array Bool) (i:Nat):Bool:=late.all fun f=>listed.getD f true || sT ops ops.size f i
def mD (late:List Nat) (ops:Array Oper):List Nat→Array Bool→Option (Array Bool)
 |[],listed=>some listed
 |i::r,listed=>if kJ ops i&&(Region.ready .any ops listed).contains i&&Region.free .any ops listed i&&lateOk late ops listed i then mD late ops r (listed.setIfInBounds i true)else none
section
variable {P:Program} {ops:Array Oper} {Q:Exit→Act→World→Prop} {md:Region.Mode} {R1 R2:World→World→Prop} {late:List Nat}
def oS (late:List Nat) (R1 R2:World→World→Prop) (P:Program) (md:Region.Mode) (ops:Array Oper) (Q:Exit→Act→World→Prop):Nat→Array Bool→Act→World→Prop
 |0,listed,a,w=>Region.ready md ops listed=[]∧Q .normal a w
 |
  fuel+1,listed,a,w =>
  (Region.ready md ops listed=[]→Q .normal a w) ∧
  ∀i∈Region.ready md ops listed,wpOp P ops Q i (fun a' w'=>bA1 late R1 R2 i w w'∧oS late R1 R2 P md ops Q fuel (listed.setIfInBounds i true) a' w') a w
theorem oR:∀(fuel:Nat) (b:Array Bool) (a:Act) (w:World),oS late R1 R2 P md ops Q fuel b a w->wpAny P md ops Q fuel b a w
 |0,_,_,_,h=>h
 |fuel+1,_,_,_,h=>⟨h.1,fun i hi=>wpOp_mono (fun a' w' c=>oR fuel _ a' w' c.2) (h.2 i hi)⟩
theorem uE {R:World->World->Prop}(N:∀a b c,R a b->R b c->R a c)(g:Nat->Prop)(a1:∀j w w',g j->bA1 late R1 R2 j w w'->w'=w\/R w w')
 {i:Nat}{q:Oper}{v:Value}(hi:ops[i]?=some q)(J:∀(j:Nat) (o:Oper) cs b,ops[j]?=some o->o.op≠.select cs b)
 (M:∀c a w,Q (.panic c) (a.put q.dst v) w->Q (.panic c) a w) :
 ∀
  (fuel:Nat) (d:Array Bool) (a:Act) (w:World),jM ops d ->
  (∀f,¬g f->d.getD f true=false->sT ops ops.size f i=true) ->
  (∀j m,ops[j]?=some m->j≠i->d.getD j true=false->(∀e∈m.after,Region.binds .any e=true->e.on≠i)->q.apart ops m=true) ->
  i∈Region.ready .any ops d->YieldsIf P ops (fun W=>W=w\/R w W) q v a ->
  oS late R1 R2 P .any ops Q fuel (d.setIfInBounds i true) (a.put q.dst v) w->oS late R1 R2 P .any ops Q (fuel+1) d a w:=by
 intro fuel
 induction fuel with
 |
  zero =>
  intro d a w _ _ _ p y H;refine⟨fun h=>(by rw[h]at p;cases p),fun j u=>?_⟩;by_cases l:j=i
  . subst l;exact y.wpOp hi (.inl rfl) ⟨bA1.refl,H⟩
  . have:=ready_mono u l;rw[H.1]at this;cases this
 |
  succ fuel ih =>
  intro d a w D E F p y H;refine⟨fun h=>(by rw[h]at p;cases p),fun j u=>?_⟩;by_cases l:j=i
  . subst l;exact y.wpOp hi (.inl rfl) ⟨bA1.refl,H⟩
  . have s:=H.2 j (ready_mono u l);obtain⟨A,m,r,z⟩:=mem_ready.1 u;have B:=(mem_ready.1 p).1;have a0:∀e∈m.after,Region.binds .any e=true->e.on≠i:=fun e O hb S=>(by have s:=z e O hb;rw[S,aO2 B]at s;cases s);have L:=wpOp_putIf r (F j m r l A a0) (fun cs b=>J i q cs b hi) (fun cs b=>J j m cs b r) M y s;have K:∀k,(d.setIfInBounds j true).getD k true=false->d.getD k true=false:=fun k x=>by
     by_cases I:j=k
     . subst I;exact A
     . rw[getD_set_ne true I]at x;exact x
    have U:∀k g,ops[k]?=some g->k≠i->(d.setIfInBounds j true).getD k true=false ->
     (∀e∈g.after,Region.binds .any e=true->e.on≠i)->q.apart ops g=true:=fun k g V X x Y=>F k g V X (K k x) Y
    refine wpOp_mono (fun a' w' t=>⟨t.2.1,ih (d.setIfInBounds j true) a' w' (D.more r z) (fun f T a2=>E f T (K f a2)) U (ready_mono p (Ne.symm l)) (cC6 (fun W n=>?_) t.1) ?_⟩) L
    . by_cases G:g j
      . rcases a1 j w w' G t.2.1 with e|e
        . rw[e]at n;exact n
        . rcases n with n|n
          . rw[n];exact .inr e
          . exact .inr (N _ _ _ e n)
      . exfalso;have C:=pC D ops.size j i (E j G A) m r z;rw[aO2 B]at C;cases C
    . rw[Array.setIfInBounds_comm _ _ l];exact t.2.2
theorem fO {R:World->World->Prop}(p:∀a b c,R a b->R b c->R a c)(g:List Nat)(s:∀j w w',j∉g->bA1 late R1 R2 j w w'->w'=w\/R w w')
 (q:Region.noSelect ops=true)(m:∀c a d v w,Q (.panic c) (Act.put a d v) w->Q (.panic c) a w){K:Act->Prop}{w:World}{fuel:Nat}{l':Array Bool}
 (u:∀a,jM ops l'->K a->oS late R1 R2 P .any ops Q fuel l' a w) :
 ∀(A:List Nat) (e:Array Bool) (a:Act),jM ops e->mD g ops A e=some l'->wpQuiet P ops (clsR R w) K (dE ops A) a->oS late R1 R2 P .any ops Q (A.length+fuel) e a w
 |
  [],e,a,hcl,hc,h=>by
  simp only[mD,Option.some.injEq]at hc;subst hc;simp only[List.length_nil,cA];exact u a hcl h
 |
  i::r,e,a,hcl,hc,h=>by
  unfold mD at hc;split at hc
  . rename_i C;simp only[aI]at C;obtain⟨⟨⟨y,U⟩,D⟩,L⟩:=C;have z:i∈Region.ready .any ops e:=(by simpa using U);have E:∀f,¬f∉g->e.getD f true=false->sT ops ops.size f i=true:=fun f N V=>(by have k:=List.all_eq_true.1 L f (Decidable.of_not_not N);rw[V,Bool.false_or]at k;exact k);cases hi:ops[i]? with
    |none=>simp[kJ,hi]at y
    |
     some o =>
     simp only[kJ,hi]at y;have T:dE ops (i::r)=o::dE ops r:=(by simp[dE,eS,hi]);rw[T]at h;unfold wpQuiet at h;have O:(i::r).length+fuel=(r.length+fuel)+1:=(by simp;omega);have B:jM ops (e.setIfInBounds i true):=(by obtain⟨_,Y,S,J⟩:=mem_ready.1 z;exact hcl.more S J);rw[O];by_cases t:Region.wanted o (yielded ops a.tmps)=true
     . rw[if_pos t]at h;obtain⟨v,k,H⟩:=h;refine uE p (fun j=>j∉g) s hi (Region.noSelect_spec q) (fun c a w=>m c a _ _ w) _ e a w hcl E (Region.free_spec hi D) z (v:=v) (.inl ⟨t,fun W I=>?_⟩) (fO p g s q m u r _ _ B hc H);have l:=k W (cA0.2 I);have M:=nM o y a.eval P W;unfold Oper.quietAt at l;generalize (execOp a.eval o).run P W=X at *;cases X with
       |
        ok n w' =>
        cases n<;>simp only[Oper.quietUpon]at l<;>simp only[hZ]at M;obtain⟨F,G⟩:=l;rw[F,G]
       |halt x w'=>simp only[Oper.quietUpon]at l
     . rw[if_neg t]at h;exact uE p (fun j=>j∉g) s hi (Region.noSelect_spec q) (fun c a w=>m c a _ _ w) _ e a w hcl E (Region.free_spec hi D) z (v:=undef) (.inr ⟨by simpa using t,rfl⟩) (fO p g s q m u r _ _ B hc h)
  . cases hc
def aD7 (late:List Nat) (ops:Array Oper):PlanR→Array Bool→Bool
 |
  .last qs ws,listed=>match mD late ops qs listed with
  |
   some l=>match mD [] ops ws l with
   |some l=>(Region.ready .any ops l).isEmpty
   |none=>false
  |none=>false
 |
  .one qs ws e t,listed=>match mD late ops qs listed with
  |
   some l=>match mD [] ops ws l with
   |some l=>(Region.ready .any ops l == [e])&&(decide (e<ops.size)&&aD7 late ops t (l.setIfInBounds e true))
   |none=>false
  |none=>false
def eU (late:List Nat) (R1 R2:World→World→Prop) (P:Program) (ops:Array Oper) (Q:Exit→Act→World→Prop):PlanR→Act→World→Prop
 |.last qs ws,a,w=>wpQuiet P ops (fun W=>∃x:LaterR R1 w,W=cS R1 w x) (fun a'=>wpQuiet P ops (fun W=>∃x:LaterR R2 w,W=cS R2 w x) (fun a'=>Q .normal a' w) (dE ops ws) a') (dE ops qs) a
 |.one qs ws e t,a,w=>wpQuiet P ops (fun W=>∃x:LaterR R1 w,W=cS R1 w x) (fun a'=>wpQuiet P ops (fun W=>∃x:LaterR R2 w,W=cS R2 w x) (fun a'=>wpList P ops (Exit.then (fun a'' w'=>Eff late R1 R2 e w w'∧eU late R1 R2 P ops Q t a'' w') Q) [eS ops e] a' w) (dE ops ws) a') (dE ops qs) a
theorem aH1 (q:∀a b c,R1 a b->R1 b c->R1 a c)(r:∀a b c,R2 a b->R2 b c->R2 a c)(p:Region.noSelect ops=true)(n:∀c a d v w,Q (.panic c) (Act.put a d v) w->Q (.panic c) a w) :
 ∀(t:PlanR) (m:Array Bool) (a:Act) (w:World),jM ops m->aD7 late ops t m=true->eU late R1 R2 P ops Q t a w->oS late R1 R2 P .any ops Q t.len m a w
 |
  .last qs ws,m,a,w,hcl,hc,h=>by
  unfold aD7 at hc;split at hc
  . rename_i l u;split at hc
    . rename_i l2 x;refine fO q late (fun j w w' s k=>k.1 s) p n (fuel:=ws.length) (fun a' o g=>?_) qs m a hcl u h;exact fO r [] (fun j w w' _ k=>k.2) p n (fuel:=0) (fun a' _ g=>⟨by simpa using hc,g⟩) ws l a' o x g
    . cases hc
  . cases hc
 |
  .one qs ws e t,m,a,w,hcl,hc,h=>by
  unfold aD7 at hc;split at hc
  . rename_i l u;split at hc
    . rename_i l2 x;simp only[aI,beq_iff_eq,decide_eq_true_eq]at hc;refine fO q late (fun j w w' s k=>k.1 s) p n (fuel:=ws.length+(t.len+1)) (fun a' o g=>?_) qs m a hcl u h;refine fO r [] (fun j w w' _ k=>k.2) p n (fuel:=t.len+1) (fun a' o g=>?_) ws l a' o x g;refine⟨fun y=>(by rw[hc.1]at y;cases y),fun i hi=>?_⟩;have D:=hi;rw[hc.1]at hi;have B:i=e:=(by simpa using hi);subst B;obtain⟨_,E,C,A⟩:=mem_ready.1 D;exact wpOp_mono (fun z w' ⟨hb,h''⟩=>⟨hb.c,aH1 q r p n t _ z w' (o.more C A) hc.2.2 h''⟩) (gN (jP hc.2.1) g)
    . cases hc
  . cases hc
theorem jQ {id:Nat}{a:Act}{w:World}{l:List Oper}(late:List Nat)(R1 R2:World->World->Prop)(i:∀a b c,R1 a b->R1 b c->R1 a c)(j:∀a b c,R2 a b->R2 b c->R2 a c)(t:PlanR)
 (h:eU late R1 R2 P l.toArray Q t a w.drew)
 (k:P.follows .mixedOrders=true:=by kernel_rfl)
 (hc:(Region.noSelect l.toArray&&(aD7 late l.toArray t (Array.replicate l.toArray.size false)&&decide (t.len=l.toArray.size)))=true:=by kernel_rfl)
 (g:∀c a d v w,Q (.panic c) (Act.put a d v) w->Q (.panic c) a w:=by intro _ _ d _ _ h;cases d<;>exact h) :
 (Code.region id l.toArray true).wp P Q a w:=by
 simp only[aI,decide_eq_true_eq]at hc;refine wp_region_any k ?_;have e:=aH1 i j hc.1 g t _ a _ (jM.start _) hc.2.1 h;rw[hc.2.2]at e;exact oR _ _ _ _ e
def bG3 (_ _:World):Prop:=True
theorem pS:∀a b c,bG3 a b->bG3 b c->bG3 a c:=fun _ _ _ _ _=>trivial
end
end
section
open Go.RowKit
open Rg
structure KM where
 i:Int
 k:Int
 x:Int
 f:Bool
 A:Option Addr
 n:Nat
 c:Nat
 r:Rg
 lo:Nat
 hi:Nat
def KM.cs (m:KM):List Value:=[.int .i64 m.i,.int .i64 m.k,.int .i64 m.x,.bool m.f,.slice m.A m.n m.c]
theorem KM.cs_len (m:KM):(KM.cs m).length=5:=rfl
theorem one_km (m:KM):∀u∈KM.cs m,u.oneCell'=true:=by simp[KM.cs,Value.oneCell']
structure FSt (B:Nat) (w:World) (A:Option Addr) (n c:Nat) (ms:List PM) (Ak:Option Addr) (nk ck:Nat) (ks:List KM):Prop where
 pt:PartsIn B w A n c ms
 kown:w.ownsRow B 253 5 (.slice Ak nk ck) nk (ks.flatMap KM.cs)
 klen:ks.length=nk
 krg:∀ m∈ks,uB m.lo m.hi w m.x m.f m.A m.n m.c m.r∧B≤m.lo∧m.hi≤w.heap.size
 kfar:∀ m∈ks,∀ q,m.lo≤q→q<m.hi→(Value.slice Ak nk ck).ownBlock≠some q∧(Value.slice A n c).ownBlock≠some q∧∀ m'∈ms,m'.vv.ownBlock≠some q
 pfar:∀ m∈ms,∀ q,m.lo≤q→q<m.hi→(Value.slice Ak nk ck).ownBlock≠some q
section
variable {B:Nat} {w w':World} {A A':Option Addr} {n c n' c':Nat} {ms ms':List PM} {Ak Ak':Option Addr} {nk ck nk' ck':Nat} {ks:List KM}
theorem FSt.below (h:FSt B w A n c ms Ak nk ck ks)(hb:Below w w w'):FSt B w' A n c ms Ak nk ck ks :=
 ⟨h.pt.below hb,fJ h.kown fun g _ i _=>hb.block g i,h.klen,fun m j=>by
  obtain⟨b,d,a⟩:=h.krg m j;exact⟨b.keep fun k _ e=>hb.block k (cC e a),d,bI a hb.size⟩,h.kfar,h.pfar⟩
theorem FSt.step (h:FSt B w A n c ms Ak nk ck ks)(D:PartsIn B w' A' n' c' ms')(hb:But (fun q=>(Value.slice A n c).ownBlock=some q\/(∃m∈ms,m.vv.ownBlock=some q)\/q<B) w w')
 (z:∀q,(Value.slice A' n' c').ownBlock=some q->(Value.slice A n c).ownBlock=some q\/w.heap.size<=q)
 (C:∀b∈ms',∀q,b.vv.ownBlock=some q->(∃m∈ms,m.vv.ownBlock=some q)\/w.heap.size<=q)
 (E:∀b∈ms',(∃m∈ms,m.lo=b.lo/\m.hi=b.hi)\/∀q,b.lo<=q->q<b.hi->(Value.slice Ak nk ck).ownBlock≠some q):FSt B w' A' n' c' ms' Ak nk ck ks:=by
 refine⟨D,fB h.kown hb fun k o a=>?_,h.klen,fun m d=>?_,fun m d q i g=>?_,fun m d q i g=>?_⟩
 . rcases a with a|⟨m,d,a⟩|a
   . exact fV h.kown h.pt.own (by decide) o a
   . exact fV h.kown (h.pt.ok m d).own (by decide) o a
   . have:=(cN h.kown o).1;omega
 . obtain⟨i,g,t⟩:=h.krg m d;refine⟨i.keep fun k y u=>hb.block k (cC u t) fun a=>?_,g,bI t hb.size⟩;obtain⟨_,j,l⟩:=h.kfar m d k y u;rcases a with a|⟨b,p,a⟩|a
   . exact j a
   . exact l b p a
   . omega
 . obtain⟨v,j,l⟩:=h.kfar m d q i g;have H:=cC g (h.krg m d).2.2;refine⟨v,fun a=>?_,fun b p a=>?_⟩
   . rcases z q a with e|e
     . exact j e
     . omega
   . rcases C b p q a with⟨s,r,e⟩|e
     . exact l s r e
     . omega
 . rcases E m d with⟨s,r,F,G⟩|x
   . exact h.pfar s r q (by omega) (by omega)
   . exact x q i g
theorem FSt.known (h:FSt B w A n c ms Ak nk ck ks){i k x:Int}{f:Bool}{A2:Option Addr}{n2 c2 lo hi:Nat}{r:Rg}
 (C:w'.ownsRow B 253 5 (.slice Ak' (nk+1) ck') (nk+1) ((ks++[KM.mk i k x f A2 n2 c2 r lo hi]).flatMap KM.cs))
 (hb:But (fun q=>(Value.slice Ak nk ck).ownBlock=some q) w w')(y:∀q,(Value.slice Ak' (nk+1) ck').ownBlock=some q->(Value.slice Ak nk ck).ownBlock=some q\/w.heap.size<=q)
 (D:uB lo hi w x f A2 n2 c2 r)(z:B<=lo)(p:hi<=w.heap.size)
 (u:∀q,lo<=q->q<hi->(Value.slice Ak nk ck).ownBlock≠some q/\(Value.slice A n c).ownBlock≠some q/\∀m∈ms,m.vv.ownBlock≠some q) :
 FSt B w' A n c ms Ak' (nk+1) ck' (ks++[KM.mk i k x f A2 n2 c2 r lo hi]):=by
 have v:∀q,(Value.slice Ak nk ck).ownBlock=some q->(Value.slice A n c).ownBlock≠some q/\∀m∈ms,m.vv.ownBlock≠some q:=fun q j =>
  ⟨fV h.kown h.pt.own (by decide) j,fun m a=>fV h.kown (h.pt.ok m a).own (by decide) j⟩
 refine⟨⟨fB h.pt.own hb fun q j b=>(v q b).1 j,h.pt.len,fun m a=>(h.pt.ok m a).but hb (fun q j b=>(v q b).2 m a j) (fun q g d b=>h.pfar m a q g d b),h.pt.apart,h.pt.far⟩,C,by simp[h.klen],fun m a=>?_,fun m a q g d=>?_,fun m a q g d b=>?_⟩
 . rcases List.mem_append.1 a with a|a
   . obtain⟨g,d,o⟩:=h.krg m a;exact⟨g.keep fun q t l=>hb.block q (cC l o) fun b=>(h.kfar m a q t l).1 b,d,bI o hb.size⟩
   . rw[bU]at a;subst a;exact⟨D.keep fun q t l=>hb.block q (cC l p) fun b=>(u q t l).1 b,z,bI p hb.size⟩
 . have s:q<w.heap.size/\(Value.slice Ak nk ck).ownBlock≠some q/\(Value.slice A n c).ownBlock≠some q/\∀E∈ms,E.vv.ownBlock≠some q:=by
    rcases List.mem_append.1 a with a|a
    . exact⟨cC d (h.krg m a).2.2,h.kfar m a q g d⟩
    . rw[bU]at a;subst a;exact⟨cC d p,u q g d⟩
   refine⟨fun b=>?_,s.2.2⟩;rcases y q b with e|e
   . exact s.2.1 e
   . have:=s.1;omega
 . rcases y q b with e|e
   . exact h.pfar m a q g d e
   . have o:=(h.pt.ok m a).hi;omega
end
theorem PartsIn.region2 {B:Nat}{w:World}{A:Option Addr}{n c:Nat}{ms:List PM}(h:PartsIn B w A n c ms)(x:Int)(f:Bool):uB B w w x f A n c (tN x f (ms.map PM.pr)):=by
 intro w' j;have a:=h.region x w' j;refine⟨w_mk _ _ _,f_mk _ _ _,a.ok,by rw[a.len,len_mk,len_mk],fun g=>?_⟩;obtain⟨b,o,e,i⟩:=a.ex g;refine⟨b,o,e,tZ.of fun k p d=>?_⟩;rw[iS]at d;exact i.at (by rw[iS];exact d)
theorem PartsIn.addv {B:Nat}{w w':World}{A A':Option Addr}{n c c':Nat}{ms:List PM}(h:PartsIn B w A n c ms){m:PM}
 (D:w'.ownsRow B 141 4 (.slice A' (n+1) c') (n+1) ((ms++[m]).flatMap PM.cs))
 (hb:But (fun k=>(Value.slice A n c).ownBlock=some k\/k<B) w w')(z:∀k,(Value.slice A' (n+1) c').ownBlock=some k->(Value.slice A n c).ownBlock=some k\/w.heap.size<=k)
 (v:m.Ok B w)(s:∀k,m.lo<=k->k<m.hi->(Value.slice A n c).ownBlock≠some k/\m.vv.ownBlock≠some k/\∀a∈ms,a.vv.ownBlock≠some k)
 (t:∀k,m.vv.ownBlock=some k->∀a∈ms,a.vv.ownBlock≠some k/\¬(a.lo<=k/\k<a.hi)):PartsIn B w' A' (n+1) c' (ms++[m]):=by
 have u:∀a:PM,a.Ok B w->(∀k,a.lo<=k->k<a.hi->(Value.slice A n c).ownBlock≠some k)->a.Ok B w':=fun a p y=>by
  refine p.but hb (fun k o d=>?_) (fun k l g d=>?_)
  . rcases d with d|d
    . exact fV p.own h.own (by decide) o d
    . have:=(cN p.own o).1;omega
  . rcases d with d|d
    . exact y k l g d
    . have:=p.lo;omega
 refine⟨D,by simp[h.len],fun a b=>?_,?_,fun a b k l g=>?_⟩
 . rcases List.mem_append.1 b with b|b
   . exact u a (h.ok a b) fun k j r=>(h.far a b k j r).1
   . rw[bU]at b;subst b;exact u a v fun k j r=>(s k j r).1
 . refine List.pairwise_append.2 ⟨h.apart,List.pairwise_singleton _ _,fun E C x i k o g=>?_⟩;rw[bU]at i;subst i;exact(t k g E C).1 o
 . have q:k<w.heap.size/\(Value.slice A n c).ownBlock≠some k/\m.vv.ownBlock≠some k/\∀a∈ms,a.vv.ownBlock≠some k:=by
    rcases List.mem_append.1 b with b|b
    . have j:=h.far a b k l g;exact⟨cC g (h.ok a b).hi,j.1,fun d=>(t k d a b).2 ⟨l,g⟩,j.2⟩
    . rw[bU]at b;subst b;exact⟨cC g v.hi,s k l g⟩
   refine⟨fun d=>?_,fun x i=>?_⟩
   . rcases z k d with e|e
     . exact q.2.1 e
     . have:=q.1;omega
   . rcases List.mem_append.1 i with i|i
     . exact q.2.2.2 x i
     . rw[bU]at i;subst i;exact q.2.2.1
theorem bP5:(Tryz.prog.info? 253).map (fun i=>(i.zero,i.size,i.bytes))=some (some (.agg #[.int .i64 0,.int .i64 0,.int .i64 0,.bool false,.slice none 0 0]),5,56):=by kernel_rfl
def cB1 (w:World) (r:Rg) (e:Ending) (w':World):Prop :=
 ∃(x:Int) (f:Bool) (A:Option Addr) (n c:Nat),e=.returned (.agg #[.int .i64 x,.bool f,.slice A n c])∧uB w.heap.size w'.heap.size w' x f A n c r∧Below w.heap.size w w'
def bG4 (w:World) (r:Rg) (e:Ending) (w':World):Prop :=
 ∃(x:Int) (f:Bool) (A:Option Addr) (n c:Nat) (ms:List PM),e=.returned (.agg #[.int .i64 x,.bool f,.slice A n c])∧uB w.heap.size w'.heap.size w' x f A n c r∧Below w.heap.size w w'∧PartsIn (w.heap.size+3) w' A n c ms∧ms.map PM.pr=r.parts
theorem bG4.new {w:World}{r:Rg}{e:Ending}{w':World}(h:bG4 w r e w'):cB1 w r e w':=by
 obtain⟨x,f,A,n,c,ms,a,b,d,_,_⟩:=h;exact⟨x,f,A,n,c,a,b,d⟩
theorem uB.hw {lo hi:Nat}{w:World}{x:Int}{f:Bool}{A:Option Addr}{n c:Nat}{r:Rg}(h:uB lo hi w x f A n c r):r.w=x:=h.s.hw
theorem mW {w w':World}(h:w.grownBy w' none):Below w w w' :=
 (aB _ _).grown h (aD _) (fun k a=>by cases a)
theorem bE5 (r:Rg):∀(x:Int) (f:Bool) (A:Option Addr) (n c:Nat) (w:World),RgS w x f A n c r->Sm r ->
 Calls Tryz.prog 237 #[.agg #[x,.bool f,.slice A n c]] w fun e w'=>bG4 w r e w':=by
 induction hsz:r.size using Nat.strongRecOn generalizing r with
 |
  _ s ih =>
  intro x f A n c w U b3;obtain⟨k4,j5,k1,k2,k3⟩:=info_parts nJ;obtain⟨k5,j6,k0,g4,g5⟩:=info_parts aN8;have h9:=Z ih;have a5:=Z U;have i7:=Z hsz;have i5:=Z b3;have hn:n<=100000:=by rw[U.len];exact b3.1
  have l3:=U.ok.1;obtain⟨Q,a7⟩:∃W:World,Hid (((w.alloc (.cells #[x,.bool f,.slice A n c] 71)).alloc (.cells zR 71)).alloc (.cells #[x,.bool f,zN] 71)=W):=⟨_,rfl⟩;have a1:Hid (aT Q (w.heap.size+1) 71 zR/\aT Q (w.heap.size+2) 71 #[x,.bool f,zN]/\Q.heap.size=w.heap.size+3):=by rw[<- a7.out];exact Z ⟨(aT.step (by simp)).alloc _,aT.step (by simp),by simp⟩
  have h3:Hid (Below w w Q):=by rw[<- a7.out];exact Z ((((aB _ _).alloc (aD _) _).alloc (by simp) _).alloc (by simp;omega) _)
  clear ih U hsz b3;go_enter Tryz.func237,Tryz.ntmps237;go_wp2_with fail;rw[a7.out];go_loopw [14] (fun i wr=>∃(k:Nat) (A':Option Addr) (c':Nat) (ms:List PM),k<=n/\i=.int .i64 (k:Int)/\aT wr (w.heap.size+1) 71 zR/\aT wr (w.heap.size+2) 71 #[x,.bool f,.slice A' k c']/\Hid (PartsIn (w.heap.size+3) wr A' k c' ms)/\Hid (ms.map PM.pr=r.parts.take k)/\Below w w wr/\w.heap.size+3<=wr.heap.size) (fun i _=>n-(intOf i).toNat);case atStart=>exact⟨0,none,0,[],by omega,rfl,a1.out.1,a1.out.2.1,Z ⟨⟨by simp,.inl ⟨rfl,rfl⟩⟩,rfl,(fun m hm=>by cases hm),List.Pairwise.nil,(fun m hm=>by cases hm)⟩,rfl,h3.out,by have:=a1.out.2.2;omega⟩
  case round =>
   obtain⟨k,A',c',ms,hk,rfl,u,V,d,a8,hb,l9⟩:=hrel;by_cases hlt:k<n
   . obtain⟨b,o,p,A1,n1,c1,B,z,A2,n2,c2,rfl,hp,g2⟩:=(a5.out.keep (aC hb)).at hlt;have g1:=iX hp;rw[i7.out]at g1;have f1:=Z (i5.out.mem (aJ hp));have i8:=Z (cU hp);have l2:n1<=100000:=(by rw[<- g2.vs.len];exact f1.out.1);obtain⟨i9,j0,j1,j2,g7,b5,g8⟩:=g2;have i2:=Z g7;have i3:=Z b5.len;have f2:=Z b5;have e7:=Z g8;have i0:=Z (h9.out p.2.size g1 p.2 rfl);have c9:=Z u;have c5:=Z V;have c4:=Z hb;clear hp g7 b5 g8 u V hb;go_upto_region 5 with fail;have C:Below wr wr (wr.alloc (.cells #[.slice A1 n1 c1,B,.bool z,.slice A2 n2 c2] 141)):=(aB _ _).alloc (aD _) _;have e6:Hid (aT (wr.alloc (.cells #[.slice A1 n1 c1,B,.bool z,.slice A2 n2 c2] 141)) wr 141 #[.slice A1 n1 c1,B,.bool z,.slice A2 n2 c2]):=Z (aT.new _ _ _);have e3:=Z (d.out.below C);have d0:=Z (c9.out.below C);have a0:=Z (c5.out.below C);have b7:=Z (cC1 c4.out C);have f3:=Z (f2.out.keep (aC C));have e8:=Z (e7.out.keep (aC C));have g3:(wr.alloc (.cells #[.slice A1 n1 c1,B,.bool z,.slice A2 n2 c2] 141)).heap.size=wr.heap.size+1:=World.size_alloc _ _;have e1:Hid (∀q,(Value.slice A' k c').ownBlock=some q->w.heap.size+3<=q/\q<wr.heap.size):=Z (fun q hq=>⟨(cN d.out.own hq).1,(cN d.out.own hq).2.1⟩);have e2:Hid (∀m∈ms,(∀q,m.vv.ownBlock=some q->q<wr.heap.size)/\m.hi<=wr.heap.size):=Z (fun m hm=>⟨fun q hq=>(cN (d.out.ok m hm).own hq).2.1,(d.out.ok m hm).hi⟩);generalize hW1:wr.alloc (.cells #[.slice A1 n1 c1,B,.bool z,.slice A2 n2 c2] 141)=a at *;clear hW1 C i9 j0 j1 j2 f2 e7 c4 c9 c5 d;obtain⟨S,a6⟩:∃S:Nat->Prop,Hid ((fun q=>(Value.slice A' k c').ownBlock=some q)=S):=⟨_,rfl⟩;have J:Hid (∀q,S q->w.heap.size+3<=q/\q<wr.heap.size):=(by rw[<- a6.out];exact e1);refine bQ S (.one [0,1,2,3,5,6] 4 (.one [] 7 (.one [8] 9 (.one [] 10 (.fin [11] 12))))) ?_;have k6:∀(y:LaterS S a.drew) j,(dG S a.drew y).cell? ⟨w.heap.size+2,j,none⟩=(#[x,.bool f,.slice A' k c']:Array Value)[j]?:=fun y j=>(a0.out.drew.but y.but (fun h=>by have:=J.out _ h;omega)).cell j;have k7:∀(y:LaterS S a.drew) j,(dG S a.drew y).cell? ⟨wr,j,none⟩=(#[.slice A1 n1 c1,B,.bool z,.slice A2 n2 c2]:Array Value)[j]?:=fun y j=>(e6.out.drew.but y.but (fun h=>by have:=J.out _ h;omega)).cell j;have M:Below a a a.drew:=(aB _ _).drew;have e4:=Z (e3.out.below M);have f4:Hid (kH a.drew A1 n1 p.1):=Z (f3.out.keep (aC M));have e9:Hid (RgS a.drew B z A2 n2 c2 p.2):=Z (e8.out.keep (aC M));have b8:=Z (cC1 b7.out M);have d1:=Z d0.out.drew;have c6:=Z a0.out.drew;have l5:a.drew.heap.size=wr.heap.size+1:=g3;generalize hW2:a.drew=W2 at *;clear hW2 f3 e8 b7 d0 a0 e6 e3 M g3;unfold bB;simp only[cP];repeat(go_big_quiet_step (fail))
     refine aA ?_;clear k6 k7;go_wp2_with (at_builtin;refine gG (cs:=Iv.cs) W2 (by rfl) _ (.tmp 21) _ (by rfl) (w.heap.size+3) 187 k4 _ 7 72 Tryz.underlying139 j5 k1 k2 k3 (by rfl) (by omega) zN 0 [] (by rfl) ⟨by simp,.inl ⟨rfl,rfl⟩⟩ A1 n1 c1 p.1 (by rfl) f4.out i2.out.2 Iv.cs_len iL (by simp only[maxLen];omega) (by omega) (by omega) ?_;intro I K N b2 f7 j3 a9 j7;simp only[cA,List.nil_append]at b2 a9 ⊢);have t:=mW f7;refine⟨But.of_below t,?_⟩;have a2:=Z b2;have b6:=Z a9;have e5:=Z (e4.out.below t);have f0:=Z (e9.out.keep (aC t));have b9:=Z (cC1 b8.out t);have d2:=Z (d1.out.below t);have c7:=Z (c6.out.below t);have l6:=t.size;clear b2 f7 j3 a9 j7 t f4 e9 b8 d1 c6 e4;unfold bB;simp only[cP];refine aA ?_;go_wp2_with (first|(go_at_call 237;refine(i0.out B z A2 n2 c2 _ f0.out f1.out.2).mono ?_;rintro e D ⟨Y,T,O,X,R,m0,rfl,f5,l,_,_⟩));refine⟨But.of_below l,?_⟩;have d7:=Z f5;have d9:=Z (fJ a2.out (fun g _ hl _=>l.block g hl));have d8:Hid (∀q,(Value.slice I n1 K).ownBlock=some q->q=W2.heap.size/\q<N.heap.size):=Z (fun q hq=>by
      refine⟨?_,(cN a2.out hq).2.1⟩;rcases b6.out with h|h
      . rw[h]at hq;cases hq
      . rw[h]at hq;injection hq with hq;exact hq.symm)
     have a4:=Z (e5.out.below l);have c0:=Z (cC1 b9.out l);have d3:=Z (d2.out.below l);have c8:=Z (c7.out.below l);have l7:=l.size;clear f5 l a2 b6 e5 f0 b9 d2 c7;unfold bB;simp only[cP];repeat(go_big_quiet_step (fail))
     refine aA ?_;go_wp2_with fail;refine⟨But.alloc _ _,?_⟩;unfold bB;simp only[cP];refine aA ?_;go_wp2_with (at_builtin;refine cB (by rfl) (.tmp 19) (.tmp 27) _ (by rfl) (w.heap.size+3) 141 k5 _ 4 64 Tryz.underlying69 j6 k0 g4 g5 (by rfl) (by omega) (.slice A' k c') k _ (by rfl) D #[.slice I n1 K,Y,.bool T,.slice O X R] a4.out.own D (by rfl) (by rfl) (by rfl) (aN0 (PM.mk I n1 K p.1 Y T O X R p.2 N D)) (by simp only[maxLen];omega) (by omega) (by omega) ?_;intro L F E g0 f8 j4 f6 l1);have b0:But S (D.alloc (.cells #[.slice I n1 K,Y,.bool T,.slice O X R] 141)) E:=cC5 f8 (fun k hk=>by rw[<- a6.out];exact hk);refine⟨b0,?_⟩;have H:But S D E:=(But.alloc _ _).trans b0;have a3:=Z g0;have h0:=Z f6;have d4:=Z (d3.out.but H (fun h=>by have:=J.out _ h;omega));have P:=Z (c8.out.but H (fun h=>by have:=J.out _ h;omega));have c3:Hid (Below w w E):=Z (H.below c0.out (by omega) (fun q hq=>by have:=J.out _ hq;omega));have d5:=Z H;have l8:=H.size;clear g0 f8 j4 f6 b0 H d3 c8 c0;unfold bB;simp only[cP];have j8:=P.out.cell;have j9:=P.out.free;repeat(go_big_quiet_step (fail))
     refine aA ?_;go_upto_region 6 with fail;have G:But (· = w.heap.size+2) E (E.setCell ⟨w.heap.size+2,2,none⟩ (.slice (some ⟨L,0,none⟩) (k+1) F)):=But.set (S:=fun q=>q=w.heap.size+2) _ (p:=⟨w.heap.size+2,2,none⟩) rfl _;have h5:Hid (aT (E.setCell ⟨w.heap.size+2,2,none⟩ (.slice (some ⟨L,0,none⟩) (k+1) F)) (w.heap.size+2) 71 #[x,.bool f,.slice (some ⟨L,0,none⟩) (k+1) F]):=Z (P.out.set_ 2 _);generalize hW10:E.setCell ⟨w.heap.size+2,2,none⟩ (.slice (some ⟨L,0,none⟩) (k+1) F)=g9 at *;clear hW10 j8 j9;have h6:=Z (d4.out.but G (by omega));have h4:Hid (Below w w g9):=Z (G.below c3.out (by omega) (fun q hq=>by omega));have l4:=G.size;have e0:=Z (fB a3.out G (fun q hq hs=>by have:=(cN a3.out hq).1;omega));have i1:Hid (PartsIn (w.heap.size+3) g9 (some ⟨L,0,none⟩) (k+1) F (ms++[PM.mk I n1 K p.1 Y T O X R p.2 N D])):=by
      refine Z (a4.out.addv ?_ ?_ ?_ ?_ ?_ ?_)
      . rw[aP];simpa[PM.cs]using e0.out
      . refine(d5.out.wide (fun q hq=>?_)).trans (G.wide (fun q hq=>.inr (by omega)));rw[<- a6.out]at hq;exact .inl hq
      . intro q hq;simp only[Value.ownBlock,Option.some.injEq]at hq;subst hq;rcases h0.out with e|e
        . exact .inl e
        . exact .inr (by omega)
      . exact⟨d9.out,i3.out,d7.out,by show w.heap.size+3<=N.heap.size;omega,aD _⟩
      . intro q (h1:N.heap.size<=q) (h2:q<D.heap.size);refine⟨fun hs=>?_,fun hs=>?_,fun b4 b1 hs=>?_⟩
        . have:=e1.out q hs;omega
        . have:=d8.out q hs;omega
        . have:=(e2.out b4 b1).1 q hs;omega
      . intro q hq b4 b1;have h1:=d8.out q hq;have h2:=e2.out b4 b1;exact⟨fun hs=>by have:=h2.1 q hs;omega,fun hs=>by omega⟩
     clear d4 P c3 d5 G a3 e0 a4 d9 d7;go_wp2_with fail;go_roundw;case rel=>refine⟨k+1,_,F,_,by omega,by go_num,h6.out,h5.out,i1,?_,h4.out,by omega⟩;show _=_;rw[List.map_append,a8.out,i8.out];rfl
     case measure=>simp[intOf];omega
   . obtain rfl:k=n:=(by omega);have g6:=(bY (a':=.int .i64 x) (b':=.bool f) (c':=.slice A' k c') u).cell;have g4:=(u.set_ 0 x).cell;have g5:=((u.set_ 0 x).set_ 1 (.bool f)).cell;obtain⟨k8,k9,l0⟩:=bF u x (.bool f);have m1:=V.cell;have m2:=u.cell;have f9:tN x f (ms.map PM.pr)=r:=(by have h1:=a5.out;rw[a8.out,bW (by rw[cI,h1.len];exact aD _),<- h1.hw,<- h1.hf];exact qQ r);have d6:=Z (d.out.region2 x f);rw[f9]at d6;have h7:=Z (bD hb (show w.heap.size<=w.heap.size+1 by omega) x (.bool f) (.slice A' k c'));have h8:Hid (uB w (cO wr (w.heap.size+1) x (.bool f) (.slice A' k c')).heap.size (cO wr (w.heap.size+1) x (.bool f) (.slice A' k c')) x f A' k c' r):=(by refine Z ((d6.out.keep fun q h1 h2=>(bJ wr (w.heap.size+1) _ _ _).block q h2 (by omega)).wide (by omega) (by rw[kW];exact aD _)));have i4:=Z (d.out.but (bJ wr (w.heap.size+1) x (.bool f) (.slice A' k c')) (fun q hq=>by omega));have i6:Hid (ms.map PM.pr=r.parts):=Z (by rw[a8.out,bW (by rw[cI,a5.out.len];exact aD _)]);unfold cO at g6;clear f9 u V hb;go_wp2;exact bodyPost_ret (v:=.agg #[x,.bool f,.slice A' k c']) (by simp[results,Tryz.results237,go_sem,g6]) rfl ⟨x,f,A',k,c',ms,rfl,h8.out,h7.out,i4.out,i6.out⟩
theorem bQ6 (r:Rg)(x:Int)(f:Bool)(A:Option Addr)(n c:Nat)(w:World)(a:RgS w x f A n c r)(b:Sm r) :
 Calls Tryz.prog 237 #[.agg #[x,.bool f,.slice A n c]] w fun e w'=>cB1 w r e w' :=
 (bE5 r x f A n c w a b).mono fun _ _ h=>h.new
def iI (ro:Vl→Rg) (P:List Vl) (r:Rg):Nat→List Iv
 |0=>[]
 |k+1=>if decide (ro (P.getD k bE)=r)then eO (iI ro P r k) (pB P k)else iI ro P r k
def fP (ro:Vl→Rg) (P:List Vl) (k:Nat):List (List Iv×Rg):=(eZ ro (P.take k)).map fun r=>(iI ro P r k,r)
theorem yG {P:List Vl}{k:Nat}{p:Vl}(h:P[k]?=some p):P.getD k bE=p:=by rw[bG,h];rfl
theorem yV (ro:Vl->Rg)(P:List Vl)(r:Rg):∀(R S:List Vl),P=S++R->cmb (fun p=>decide (ro p=r)) (iI ro P r S.length) R=iI ro P r P.length
 |[],S,h=>by rw[h,List.append_nil];rfl
 |
  p::R,S,h=>by
  have a:P.getD S.length bE=p:=by rw[h];simp
  have c:pB P S.length=seg p R:=by unfold pB;rw[a];have:P[S.length+1]?=R[0]?:=(by rw[h,List.getElem?_append_right (by omega)];simp);rw[this];cases R<;>rfl
  have b:=yV ro P r R (S++[p]) (by rw[h];simp);rw[List.length_append,List.length_singleton,iI,a,c]at b;rw[cmb];exact b
theorem aQ4 {P:List Vl}(h:hY P)(ro:Vl->Rg)(r:Rg):iI ro P r P.length=dT ro P r:=by
 rw[<- yV ro P r P [] rfl];have:=(aP1 (fun p=>decide (ro p=r)) P h).1 [] (fun y h=>by cases h);exact this
theorem tA (ro:Vl->Rg)(P:List Vl)(r:Rg):∀k,(iI ro P r k).length<=k
 |0=>aD _
 |
  k+1=>by
  have a:=tA ro P r k;unfold iI;split
  . have:=aI0 (iI ro P r k) (pB P k);omega
  . omega
theorem yU {ro:Vl->Rg}{P:List Vl}{r:Rg}:∀k,k<=P.length->(∀q∈P.take k,ro q≠r)->iI ro P r k=[]
 |0,_,_=>rfl
 |
  k+1,hk,h=>by
  have a:=aN (show k<P.length by omega);have d:=cU a;rw[d]at h;have b:ro (P.getD k bE)≠r:=by rw[yG a];exact h _ (List.mem_append.2 (.inr (List.mem_singleton.2 rfl)))
  rw[iI,decide_eq_false b];exact yU k (by omega) fun q c=>h q (List.mem_append.2 (.inl c))
theorem aE9 (ro:Vl->Rg)(P:List Vl)(k:Nat):(fP ro P k).map (·.2)=eZ ro (P.take k):=by
 unfold fP;rw[List.map_map];exact List.map_id' _
theorem aM7 {P:List Vl}(h:hY P)(ro:Vl->Rg):fP ro P P.length=cY ro P:=by
 unfold fP;rw[List.take_length,kB];exact List.map_congr_left fun r _=>by rw[aQ4 h]
theorem bU1 {ro:Vl->Rg}{K:List Vl}{s:Rg}(h:s∈eZ ro K):s.nix=false:=((eQ s _).1 h).2
theorem aT7 {ro:Vl->Rg}{P:List Vl}{k:Nat}{p:Vl}(a:P[k]?=some p)(h:(ro p).nix=true):fP ro P (k+1)=fP ro P k:=by
 unfold fP;rw[cU a,kA,h];simp only[Bool.true_or,if_true];refine List.map_congr_left fun r c=>?_;have b:ro (P.getD k bE)≠r:=by rw[yG a];intro e;have:=bU1 c;rw[<- e,h]at this;cases this
 rw[iI,decide_eq_false b];rfl
theorem bU0 {ro:Vl->Rg}{P:List Vl}{k:Nat}{p:Vl}(c:P[k]?=some p)(b:(ro p).nix=false):gK (fP ro P k) (ro p)=(eZ ro (P.take (k+1))).map fun r=>(iI ro P r k,r):=by
 unfold gK;rw[aE9,b,cU c,kA,b];simp only[Bool.false_or,decide_eq_true_eq];by_cases a:ro p∈eZ ro (P.take k)
 . rw[if_pos a,if_pos a];rfl
 . rw[if_neg a,if_neg a,List.map_append,List.map_cons,List.map_nil,yU k (by have:=(List.getElem?_eq_some_iff.1 c).1;omega) fun q d e=>a ((eQ _ _).2 ⟨List.mem_map.2 ⟨q,d,e⟩,b⟩)];rfl
theorem aM6 {ro:Vl->Rg}{P:List Vl}{k:Nat}{p:Vl}(c:P[k]?=some p)(m:(ro p).nix=false){j:Nat}(d:(eZ ro (P.take (k+1)))[j]?=some (ro p)) :
 fP ro P (k+1)=(gK (fP ro P k) (ro p)).modify j (fun q=>(eO q.1 (pB P k),q.2)):=by
 rw[bU0 c m];have g:(eZ ro (P.take (k+1))).Nodup:=iP _;unfold fP;refine List.ext_getElem? fun i=>?_;rw[cE,List.getElem?_modify,cE];cases hi:(eZ ro (P.take (k+1)))[i]? with
 |none=>rfl
 |
  some s =>
  simp only[Option.map_some,Option.map_eq_map,Option.some.injEq];by_cases e:j=i
  . subst e;rw[d]at hi;injection hi with hi;subst hi;rw[iI,yG c];simp
  . have l:ro p≠s:=fun h=>(by subst h;have a:=rV g d;have b:=rV g hi;omega);rw[iI,yG c,decide_eq_false l];simp[e]
theorem aT0 {L:List (List Iv×Rg)}{r:Rg}(b:r.nix=false):gK L r=if r∈L.map (·.2)then L else L++[([],r)]:=by
 unfold gK;by_cases a:r∈L.map (·.2)
 . rw[if_pos a,if_pos (by rw[b,decide_eq_true a];rfl)]
 . rw[if_neg a,if_neg (by rw[b,decide_eq_false a];decide)]
end
section
open Go.RowKit
def bS3 (w:World) (S:Nat→Prop) (base:Nat) (R:List Iv) (e:Ending) (w':World):Prop :=
 ∃(A':Option Addr) (c':Nat),e=.returned (.slice A' R.length c')∧w'.ownsRow base 187 7 (.slice A' R.length c') R.length (R.flatMap Iv.cs)∧Below base w w'∧But S w w'∧∀q,(Value.slice A' R.length c').ownBlock=some q→S q∨w.heap.size≤q
theorem bP4 (A:Option Addr)(n c base:Nat)(L:List Iv)(B:Option Addr)(m cb:Nat)(P:List Vl)(i:Nat)(w:World)(e0:w.ownsRow base 187 7 (.slice A n c) n (L.flatMap Iv.cs))(d8:L.length=n)
 (c5:qA w B m P)(hi:i<m)(hn:n<=100000)(hm:m<=1000000)(d9:base<=w.heap.size) :
 Calls Tryz.prog 238 #[.slice A n c,.slice B m cb,(i:Int)] w fun e w'=>bS3 w (fun q=>(Value.slice A n c).ownBlock=some q) base (eO L (pB P i)) e w':=by
 obtain⟨S,s⟩:∃S:Nat->Prop,Hid ((fun q=>(Value.slice A n c).ownBlock=some q)=S):=⟨_,rfl⟩;rw[s.out];obtain⟨i0,a8,a9,b0,b1⟩:=info_parts nJ;obtain⟨b,o,x,rfl,hx,e3⟩:=c5.at hi;have f1:=c5.len;have c4:=Z e0;have H:=Z d8
 -- the interval
 obtain⟨q,c7,hq,e8⟩:∃(q:Vl) (c7:Bool),(c7=true/\i+1=m/\q=bE\/c7=false/\i+1<m/\P[i+1]?=some q)/\Hid (pB P i=⟨x,q,c7⟩):=by
  have h1:P.getD i bE=x:=by rw[bG,hx];rfl
  rcases Nat.lt_or_ge (i+1) m with h|h
  . have h2:P[i+1]?=some (P[i+1]'(by omega)):=aN _;refine⟨_,false,.inr ⟨rfl,h,h2⟩,?_⟩;show _=_;unfold pB;rw[h1,h2]
  . refine⟨bE,true,.inl ⟨rfl,by omega,rfl⟩,?_⟩;show _=_;unfold pB;rw[h1,List.getElem?_eq_none (by omega)]
 obtain⟨d,a,l⟩:=x;obtain⟨e9,c1,c2⟩:=VlAt.of e3;dsimp only at e9 c1 c2;have e6:=Z c5;clear e0 d8 e3 hx f1 c5;rw[e8.out];rcases hq with⟨rfl,c6,rfl⟩|⟨rfl,c6,hq⟩
 . have g1:((i:Int) == (m:Int)-1)=true:=(by simp;omega);have f7:=Z c6;clear c6;go_enter Tryz.func238,Tryz.ntmps238;go_wp2;have K:Below w w (w.alloc (.cells #[d,a,l,zO,zO,zS,zT] 187)):=(aB _ _).alloc (aD _) _;have b3:=aT.new w 187 #[d,a,l,zO,zO,zS,zT];have O:=Z (c4.out.alloc (.cells #[d,a,l,zO,zO,zS,zT] 187));generalize w.alloc (.cells #[d,a,l,zO,zO,zS,zT] 187)=W at *;generalize b7:w.heap.size=z at *;have G:=Z b7;clear b7;have a1:base<=W.heap.size:=bI d9 (by have:=K.size;have:=G.out;omega);have U:=b3.cell;rcases Nat.eq_zero_or_pos n with Y|Y
   . have g2:decide (0<n)=false:=(by simp;omega);have I:Hid (eO L ⟨⟨d,a,l⟩,bE,true⟩=L++[⟨⟨d,a,l⟩,bE,true⟩]):=(by show _=_;have:L=[]:=aR (by have:=H.out;omega);rw[this];rfl);have e5:=Z Y;clear Y;have M:=@bK W.drew;refine aZ [([0,1,2,3,4,5,6,7,8,9,10,11,12,13,14,15,16,17,18,19],20)] [21,22] ?_;simp only[bS,cP];unfold bA;repeat(go_big_quiet_step (fail))
     refine aA ?_;clear M;go_wp2;refine⟨aB _ _,?_⟩;unfold bA;repeat(go_big_quiet_step (fail))
     refine aA ?_;have J:=Z O.out.drew;generalize t:W.drew=r at *;have b4:∀j,r.cell? ⟨z,j,none⟩=#[.int .i64 d,.int .i64 a,.string l,.int .i64 0,.int .i64 0,.string ⟨#[]⟩,.bool true][j]?:=(by rw[<- t];exact U);have N:Below base w r:=(by rw[<- t];exact(K.mono (by have:=G.out;omega)).drew);have F:But S w r:=(by rw[<- t];exact(But.of_below (by rw[G.out];exact K)).drew);have hW1:base<=r.heap.size:=(by rw[<- t];exact a1);clear t U;go_wp2_with (at_builtin;refine bH (by rfl) (.tmp 68) (.tmp 70) _ (by rfl) base 187 i0 _ 7 72 Tryz.underlying139 a8 a9 b0 b1 (by rfl) (by omega) (.slice A n c) n _ (by rfl) _ _ J.out r (by rfl) (by rfl) (by rfl) (iL ⟨⟨d,a,l⟩,bE,true⟩) (by simp only[maxLen];omega) (by omega) (hW1) ?_;intro g6 Q w6 a0 X R V b6);go_ret;have hj:=I.out;rw[hj];have u:(L++[(⟨⟨d,a,l⟩,bE,true⟩:Iv)]).length=n+1:=(by simp[H.out]);refine⟨_,Q,eR u.symm,?_,?_,?_,?_⟩
     . rw[u,aP];simpa[Iv.cs,bE]using a0
     . exact N.trans R
     . exact F.trans (cC5 X fun k hk=>by rw[<- s.out];exact hk)
     . intro q hq;simp only[Value.ownBlock,Option.some.injEq]at hq;subst hq;rcases V with h|h
       . exact .inl (by rw[<- s.out];exact h)
       . exact .inr (by have:=F.size;omega)
   . obtain⟨g,d1,hv,f3,f4⟩:=O.out.form Y;obtain⟨rfl,rfl⟩:A=some ⟨g,0,none⟩/\c=d1:=(by injection hv with h1 h2 h3;exact⟨h1,h3⟩);obtain⟨d0,o6,y,b2,a4,b5⟩:=(cC3 Iv.cs_len H.out O.out).at (show n-1<n by omega);obtain⟨rfl,rfl⟩:g=d0/\0=o6:=(by injection b2 with h;injection h with h1 h2;exact⟨h1,h2⟩);have c9:=Z a4;obtain⟨⟨a6,a5,a7⟩,⟨b9,b8,c0⟩,c3⟩:=y;obtain⟨y0,y1,y2,y3,y4,y5,y6⟩:=IvAt.of b5;dsimp only at y0 y1 y2 y3 y4 y5 y6;simp only[cA]at y0 y1 y2 y3 y4 y5 y6;have g2:decide (0<n)=true:=(by simp[Y]);have a3:Hid (L.getLast?=some ⟨⟨a6,a5,a7⟩,⟨b9,b8,c0⟩,c3⟩):=(by show _=_;rw[List.getLast?_eq_getElem?,H.out];exact a4);have f6:(1:Int)<=(n:Int):=(by omega);clear hv b2 b5 a4;cases c3
     . obtain⟨v,a2⟩:∃v,Hid (bZ ⟨b9,b8,c0⟩ ⟨d,a,l⟩=v):=⟨_,rfl⟩;have M:=@bK W.drew;refine aZ [([0,1,2,3,4,5,6,7,8,9,10,11,12,13,14,15,16,17,18,19],20)] [21,22] ?_;simp only[bS,cP];unfold bA;repeat(go_big_quiet_step (fail))
       refine aA ?_;clear M;go_wp2_with (first|(go_at_call 112;refine(eN ⟨_,_,_⟩ ⟨_,_,_⟩ _).mono ?_;rintro e r ⟨rfl,hb1⟩;rw[a2.out]));refine⟨hb1,?_⟩;unfold bA;repeat(go_big_quiet_step (fail))
       refine aA ?_;have T:dW W r:=(dW.refl _).drew.trans (aC hb1);have d7:=b3.drew.below hb1;have b4:=d7.cell;have J:=Z (fJ O.out.drew (fun g _ hl _=>hb1.block g hl));have N:Below base w r:=(K.mono (by have:=G.out;omega)).drew.trans (hb1.mono a1);have F:But S w r:=(But.of_below (by rw[G.out];exact K)).drew.trans (But.of_below hb1);have hW1:base<=r.heap.size:=bI a1 hb1.size;replace y3:=aW T y3;replace y4:=aW T y4;replace y5:=aW T y5;replace y6:=aW T y6;have f5:¬z=g:=fun e=>(by have h1:=jH c4.out;rw[G.out,e]at h1;exact h1 rfl);clear y0 y1 y2 U hb1 T;by_cases hv:v=0
       . have d5:(v == 0)=true:=(by simp[hv]);have I:Hid (eO L ⟨⟨d,a,l⟩,bE,true⟩=L.dropLast++[⟨⟨a6,a5,a7⟩,bE,true⟩]):=(by show _=_;unfold eO;rw[a3.out];simp only[a2.out,hv,Bool.not_false,decide_true,Bool.and_true,if_true]);have e7:=Z hv;clear hv;have f2:=fun q=>J.out.frozenAt q;have c8:=Z (mI bE true J.out H.out c9.out);go_wp2;have M:=@hC (fun k=>k=g) r.drew;refine gJ (fun k=>k=g) [([0,1,2,3,4,5,6,7,8,9,10,11],12),([13,14],15)] [] ?_;simp only[bS,cP];unfold dI;repeat(go_big_quiet_step (fail))
         refine aA ?_;clear M;go_wp2;refine⟨((But.set (S:=fun k=>k=g) _ (p:=⟨g,(n-1)*7+3,none⟩) rfl _).trans (But.set (S:=fun k=>k=g) _ (p:=⟨g,(n-1)*7+3+1,none⟩) rfl _)).trans (But.set (S:=fun k=>k=g) _ (p:=⟨g,(n-1)*7+3+2,none⟩) rfl _),?_⟩;unfold dI;repeat(go_big_quiet_step (fail))
         refine aA ?_;go_wp2;refine⟨But.set (S:=fun k=>k=g) _ (p:=⟨g,(n-1)*7+6,none⟩) rfl _,?_⟩;unfold dI;refine aA ?_;go_wp2;go_ret;have hj:=I.out;rw[hj];have u:(L.dropLast++[(⟨⟨a6,a5,a7⟩,bE,true⟩:Iv)]).length=n:=(by simp[H.out];omega);refine⟨_,c,eR u.symm,?_,?_,?_,?_⟩
         . rw[u];exact c8.out
         . exact(((N.drew.setCell (p:=⟨g,(n-1)*7+3,none⟩) (by simp;omega) _).setCell (p:=⟨g,(n-1)*7+3+1,none⟩) (by simp;omega) _).setCell (p:=⟨g,(n-1)*7+3+2,none⟩) (by simp;omega) _).setCell (p:=⟨g,(n-1)*7+6,none⟩) (by simp;omega) _
         . exact(((F.drew.trans (But.set (S:=S) _ (p:=⟨g,(n-1)*7+3,none⟩) (by rw[<- s.out];rfl) _)).trans (But.set (S:=S) _ (p:=⟨g,(n-1)*7+3+1,none⟩) (by rw[<- s.out];rfl) _)).trans (But.set (S:=S) _ (p:=⟨g,(n-1)*7+3+2,none⟩) (by rw[<- s.out];rfl) _)).trans (But.set (S:=S) _ (p:=⟨g,(n-1)*7+6,none⟩) (by rw[<- s.out];rfl) _)
         . intro q hq;exact .inl (by rw[<- s.out];exact hq)
       . have d5:(v == 0)=false:=(by simp[hv]);have I:Hid (eO L ⟨⟨d,a,l⟩,bE,true⟩=L++[⟨⟨d,a,l⟩,bE,true⟩]):=(by show _=_;unfold eO;rw[a3.out];simp[a2.out,hv]);go_wp2_with (at_builtin;refine bH (by rfl) (.tmp 68) (.tmp 70) _ (by rfl) base 187 i0 _ 7 72 Tryz.underlying139 a8 a9 b0 b1 (by rfl) (by omega) (.slice (some ⟨g,0,none⟩) n c) n _ (by rfl) _ _ J.out r (by rfl) (by rfl) (by rfl) (iL ⟨⟨d,a,l⟩,bE,true⟩) (by simp only[maxLen];omega) (by omega) hW1 ?_;intro g6 Q w6 a0 X R V b6);go_ret;have hj:=I.out;rw[hj];have u:(L++[(⟨⟨d,a,l⟩,bE,true⟩:Iv)]).length=n+1:=(by simp[H.out]);refine⟨_,Q,eR u.symm,?_,?_,?_,?_⟩
         . rw[u,aP];simpa[Iv.cs,bE]using a0
         . exact N.trans R
         . exact F.trans (cC5 X fun k hk=>by rw[<- s.out];exact hk)
         . intro q hq;simp only[Value.ownBlock,Option.some.injEq]at hq;subst hq;rcases V with h|h
           . exact .inl (by rw[<- s.out];exact h)
           . exact .inr (by have:=F.size;omega)
     . have I:Hid (eO L ⟨⟨d,a,l⟩,bE,true⟩=L++[⟨⟨d,a,l⟩,bE,true⟩]):=(by show _=_;unfold eO;rw[a3.out];simp);have M:=@bK W.drew;refine aZ [([0,1,2,3,4,5,6,7,8,9,10,11,12,13,14,15,16,17,18,19],20)] [21,22] ?_;simp only[bS,cP];unfold bA;repeat(go_big_quiet_step (fail))
       refine aA ?_;clear M;go_wp2;refine⟨aB _ _,?_⟩;unfold bA;repeat(go_big_quiet_step (fail))
       refine aA ?_;have J:=Z O.out.drew;generalize t:W.drew=r at *;have b4:∀j,r.cell? ⟨z,j,none⟩=#[.int .i64 d,.int .i64 a,.string l,.int .i64 0,.int .i64 0,.string ⟨#[]⟩,.bool true][j]?:=(by rw[<- t];exact U);have N:Below base w r:=(by rw[<- t];exact(K.mono (by have:=G.out;omega)).drew);have F:But S w r:=(by rw[<- t];exact(But.of_below (by rw[G.out];exact K)).drew);have hW1:base<=r.heap.size:=(by rw[<- t];exact a1);clear t U;go_wp2_with (at_builtin;refine bH (by rfl) (.tmp 68) (.tmp 70) _ (by rfl) base 187 i0 _ 7 72 Tryz.underlying139 a8 a9 b0 b1 (by rfl) (by omega) (.slice (some ⟨g,0,none⟩) n c) n _ (by rfl) _ _ J.out r (by rfl) (by rfl) (by rfl) (iL ⟨⟨d,a,l⟩,bE,true⟩) (by simp only[maxLen];omega) (by omega) hW1 ?_;intro g6 Q w6 a0 X R V b6);go_ret;have hj:=I.out;rw[hj];have u:(L++[(⟨⟨d,a,l⟩,bE,true⟩:Iv)]).length=n+1:=(by simp[H.out]);refine⟨_,Q,eR u.symm,?_,?_,?_,?_⟩
       . rw[u,aP];simpa[Iv.cs,bE]using a0
       . exact N.trans R
       . exact F.trans (cC5 X fun k hk=>by rw[<- s.out];exact hk)
       . intro q hq;simp only[Value.ownBlock,Option.some.injEq]at hq;subst hq;rcases V with h|h
         . exact .inl (by rw[<- s.out];exact h)
         . exact .inr (by have:=F.size;omega)
 . have g1:((i:Int) == (m:Int)-1)=false:=(by simp;omega);obtain⟨b',o',y,d6,hy,e4⟩:=e6.out.at c6;injection d6 with d6;injection d6 with hb1 hb2;subst hb1 hb2;rw[hq]at hy;injection hy with hy;subst hy;obtain⟨D,C,E⟩:=q;obtain⟨d2,d3,d4⟩:=VlAt.of e4;dsimp only at d2 d3 d4;clear hq e4;have f8:(i:Int)+1<(m:Int):=(by omega);have f0:=aW (aM w (.cells #[d,a,l,zO,zO,zS,zF] 187)) d2;have e1:=aW (aM w (.cells #[d,a,l,zO,zO,zS,zF] 187)) d3;have e2:=aW (aM w (.cells #[d,a,l,zO,zO,zS,zF] 187)) d4;clear d2 d3 d4;go_enter Tryz.func238,Tryz.ntmps238;go_wp2;clear f0 e1 e2;have K:Below w w (w.alloc (.cells #[d,a,l,D,C,E,zF] 187)):=(aB _ _).alloc (aD _) _;have b3:=aT.new w 187 #[d,a,l,D,C,E,zF];have O:=Z (c4.out.alloc (.cells #[d,a,l,D,C,E,zF] 187));generalize w.alloc (.cells #[d,a,l,D,C,E,zF] 187)=W at *;generalize b7:w.heap.size=z at *;have G:=Z b7;clear b7;have a1:base<=W.heap.size:=bI d9 (by have:=K.size;have:=G.out;omega);have U:=b3.cell;rcases Nat.eq_zero_or_pos n with Y|Y
   . have g2:decide (0<n)=false:=(by simp;omega);have I:Hid (eO L ⟨⟨d,a,l⟩,⟨D,C,E⟩,false⟩=L++[⟨⟨d,a,l⟩,⟨D,C,E⟩,false⟩]):=(by show _=_;have:L=[]:=aR (by have:=H.out;omega);rw[this];rfl);have e5:=Z Y;clear Y;have M:=@bK W.drew;refine aZ [([0,1,2,3,4,5,6,7,8,9,10,11,12,13,14,15,16,17,18,19],20)] [21,22] ?_;simp only[bS,cP];unfold bA;repeat(go_big_quiet_step (fail))
     refine aA ?_;clear M;go_wp2;refine⟨aB _ _,?_⟩;unfold bA;repeat(go_big_quiet_step (fail))
     refine aA ?_;have J:=Z O.out.drew;generalize t:W.drew=r at *;have b4:∀j,r.cell? ⟨z,j,none⟩=#[.int .i64 d,.int .i64 a,.string l,.int .i64 D,.int .i64 C,.string E,.bool false][j]?:=(by rw[<- t];exact U);have N:Below base w r:=(by rw[<- t];exact(K.mono (by have:=G.out;omega)).drew);have F:But S w r:=(by rw[<- t];exact(But.of_below (by rw[G.out];exact K)).drew);have hW1:base<=r.heap.size:=(by rw[<- t];exact a1);clear t U;go_wp2_with (at_builtin;refine bH (by rfl) (.tmp 68) (.tmp 70) _ (by rfl) base 187 i0 _ 7 72 Tryz.underlying139 a8 a9 b0 b1 (by rfl) (by omega) (.slice A n c) n _ (by rfl) _ _ J.out r (by rfl) (by rfl) (by rfl) (iL ⟨⟨d,a,l⟩,⟨D,C,E⟩,false⟩) (by simp only[maxLen];omega) (by omega) (hW1) ?_;intro g6 Q w6 a0 X R V b6);go_ret;have hj:=I.out;rw[hj];have u:(L++[(⟨⟨d,a,l⟩,⟨D,C,E⟩,false⟩:Iv)]).length=n+1:=(by simp[H.out]);refine⟨_,Q,eR u.symm,?_,?_,?_,?_⟩
     . rw[u,aP];simpa[Iv.cs,bE]using a0
     . exact N.trans R
     . exact F.trans (cC5 X fun k hk=>by rw[<- s.out];exact hk)
     . intro q hq;simp only[Value.ownBlock,Option.some.injEq]at hq;subst hq;rcases V with h|h
       . exact .inl (by rw[<- s.out];exact h)
       . exact .inr (by have:=F.size;omega)
   . obtain⟨g,d1,hv,f3,f4⟩:=O.out.form Y;obtain⟨rfl,rfl⟩:A=some ⟨g,0,none⟩/\c=d1:=(by injection hv with h1 h2 h3;exact⟨h1,h3⟩);obtain⟨d0,o6,y,b2,a4,b5⟩:=(cC3 Iv.cs_len H.out O.out).at (show n-1<n by omega);obtain⟨rfl,rfl⟩:g=d0/\0=o6:=(by injection b2 with h;injection h with h1 h2;exact⟨h1,h2⟩);have c9:=Z a4;obtain⟨⟨a6,a5,a7⟩,⟨b9,b8,c0⟩,c3⟩:=y;obtain⟨y0,y1,y2,y3,y4,y5,y6⟩:=IvAt.of b5;dsimp only at y0 y1 y2 y3 y4 y5 y6;simp only[cA]at y0 y1 y2 y3 y4 y5 y6;have g2:decide (0<n)=true:=(by simp[Y]);have a3:Hid (L.getLast?=some ⟨⟨a6,a5,a7⟩,⟨b9,b8,c0⟩,c3⟩):=(by show _=_;rw[List.getLast?_eq_getElem?,H.out];exact a4);have f6:(1:Int)<=(n:Int):=(by omega);clear hv b2 b5 a4;cases c3
     . obtain⟨v,a2⟩:∃v,Hid (bZ ⟨b9,b8,c0⟩ ⟨d,a,l⟩=v):=⟨_,rfl⟩;have M:=@bK W.drew;refine aZ [([0,1,2,3,4,5,6,7,8,9,10,11,12,13,14,15,16,17,18,19],20)] [21,22] ?_;simp only[bS,cP];unfold bA;repeat(go_big_quiet_step (fail))
       refine aA ?_;clear M;go_wp2_with (first|(go_at_call 112;refine(eN ⟨_,_,_⟩ ⟨_,_,_⟩ _).mono ?_;rintro e r ⟨rfl,hb1⟩;rw[a2.out]));refine⟨hb1,?_⟩;unfold bA;repeat(go_big_quiet_step (fail))
       refine aA ?_;have T:dW W r:=(dW.refl _).drew.trans (aC hb1);have d7:=b3.drew.below hb1;have b4:=d7.cell;have J:=Z (fJ O.out.drew (fun g _ hl _=>hb1.block g hl));have N:Below base w r:=(K.mono (by have:=G.out;omega)).drew.trans (hb1.mono a1);have F:But S w r:=(But.of_below (by rw[G.out];exact K)).drew.trans (But.of_below hb1);have hW1:base<=r.heap.size:=bI a1 hb1.size;replace y3:=aW T y3;replace y4:=aW T y4;replace y5:=aW T y5;replace y6:=aW T y6;have f5:¬z=g:=fun e=>(by have h1:=jH c4.out;rw[G.out,e]at h1;exact h1 rfl);clear y0 y1 y2 U hb1 T;by_cases hv:v=0
       . have d5:(v == 0)=true:=(by simp[hv]);have I:Hid (eO L ⟨⟨d,a,l⟩,⟨D,C,E⟩,false⟩=L.dropLast++[⟨⟨a6,a5,a7⟩,⟨D,C,E⟩,false⟩]):=(by show _=_;unfold eO;rw[a3.out];simp only[a2.out,hv,Bool.not_false,decide_true,Bool.and_true,if_true]);have e7:=Z hv;clear hv;have f2:=fun q=>J.out.frozenAt q;have c8:=Z (mI ⟨D,C,E⟩ false J.out H.out c9.out);go_wp2;have M:=@hC (fun k=>k=g) r.drew;refine gJ (fun k=>k=g) [([0,1,2,3,4,5,6,7,8,9,10,11],12),([13,14],15)] [] ?_;simp only[bS,cP];unfold dI;repeat(go_big_quiet_step (fail))
         refine aA ?_;clear M;go_wp2;refine⟨((But.set (S:=fun k=>k=g) _ (p:=⟨g,(n-1)*7+3,none⟩) rfl _).trans (But.set (S:=fun k=>k=g) _ (p:=⟨g,(n-1)*7+3+1,none⟩) rfl _)).trans (But.set (S:=fun k=>k=g) _ (p:=⟨g,(n-1)*7+3+2,none⟩) rfl _),?_⟩;unfold dI;repeat(go_big_quiet_step (fail))
         refine aA ?_;go_wp2;refine⟨But.set (S:=fun k=>k=g) _ (p:=⟨g,(n-1)*7+6,none⟩) rfl _,?_⟩;unfold dI;refine aA ?_;go_wp2;go_ret;have hj:=I.out;rw[hj];have u:(L.dropLast++[(⟨⟨a6,a5,a7⟩,⟨D,C,E⟩,false⟩:Iv)]).length=n:=(by simp[H.out];omega);refine⟨_,c,eR u.symm,?_,?_,?_,?_⟩
         . rw[u];exact c8.out
         . exact(((N.drew.setCell (p:=⟨g,(n-1)*7+3,none⟩) (by simp;omega) _).setCell (p:=⟨g,(n-1)*7+3+1,none⟩) (by simp;omega) _).setCell (p:=⟨g,(n-1)*7+3+2,none⟩) (by simp;omega) _).setCell (p:=⟨g,(n-1)*7+6,none⟩) (by simp;omega) _
         . exact(((F.drew.trans (But.set (S:=S) _ (p:=⟨g,(n-1)*7+3,none⟩) (by rw[<- s.out];rfl) _)).trans (But.set (S:=S) _ (p:=⟨g,(n-1)*7+3+1,none⟩) (by rw[<- s.out];rfl) _)).trans (But.set (S:=S) _ (p:=⟨g,(n-1)*7+3+2,none⟩) (by rw[<- s.out];rfl) _)).trans (But.set (S:=S) _ (p:=⟨g,(n-1)*7+6,none⟩) (by rw[<- s.out];rfl) _)
         . intro q hq;exact .inl (by rw[<- s.out];exact hq)
       . have d5:(v == 0)=false:=(by simp[hv]);have I:Hid (eO L ⟨⟨d,a,l⟩,⟨D,C,E⟩,false⟩=L++[⟨⟨d,a,l⟩,⟨D,C,E⟩,false⟩]):=(by show _=_;unfold eO;rw[a3.out];simp[a2.out,hv]);go_wp2_with (at_builtin;refine bH (by rfl) (.tmp 68) (.tmp 70) _ (by rfl) base 187 i0 _ 7 72 Tryz.underlying139 a8 a9 b0 b1 (by rfl) (by omega) (.slice (some ⟨g,0,none⟩) n c) n _ (by rfl) _ _ J.out r (by rfl) (by rfl) (by rfl) (iL ⟨⟨d,a,l⟩,⟨D,C,E⟩,false⟩) (by simp only[maxLen];omega) (by omega) hW1 ?_;intro g6 Q w6 a0 X R V b6);go_ret;have hj:=I.out;rw[hj];have u:(L++[(⟨⟨d,a,l⟩,⟨D,C,E⟩,false⟩:Iv)]).length=n+1:=(by simp[H.out]);refine⟨_,Q,eR u.symm,?_,?_,?_,?_⟩
         . rw[u,aP];simpa[Iv.cs,bE]using a0
         . exact N.trans R
         . exact F.trans (cC5 X fun k hk=>by rw[<- s.out];exact hk)
         . intro q hq;simp only[Value.ownBlock,Option.some.injEq]at hq;subst hq;rcases V with h|h
           . exact .inl (by rw[<- s.out];exact h)
           . exact .inr (by have:=F.size;omega)
     . have I:Hid (eO L ⟨⟨d,a,l⟩,⟨D,C,E⟩,false⟩=L++[⟨⟨d,a,l⟩,⟨D,C,E⟩,false⟩]):=(by show _=_;unfold eO;rw[a3.out];simp);have M:=@bK W.drew;refine aZ [([0,1,2,3,4,5,6,7,8,9,10,11,12,13,14,15,16,17,18,19],20)] [21,22] ?_;simp only[bS,cP];unfold bA;repeat(go_big_quiet_step (fail))
       refine aA ?_;clear M;go_wp2;refine⟨aB _ _,?_⟩;unfold bA;repeat(go_big_quiet_step (fail))
       refine aA ?_;have J:=Z O.out.drew;generalize t:W.drew=r at *;have b4:∀j,r.cell? ⟨z,j,none⟩=#[.int .i64 d,.int .i64 a,.string l,.int .i64 D,.int .i64 C,.string E,.bool false][j]?:=(by rw[<- t];exact U);have N:Below base w r:=(by rw[<- t];exact(K.mono (by have:=G.out;omega)).drew);have F:But S w r:=(by rw[<- t];exact(But.of_below (by rw[G.out];exact K)).drew);have hW1:base<=r.heap.size:=(by rw[<- t];exact a1);clear t U;go_wp2_with (at_builtin;refine bH (by rfl) (.tmp 68) (.tmp 70) _ (by rfl) base 187 i0 _ 7 72 Tryz.underlying139 a8 a9 b0 b1 (by rfl) (by omega) (.slice (some ⟨g,0,none⟩) n c) n _ (by rfl) _ _ J.out r (by rfl) (by rfl) (by rfl) (iL ⟨⟨d,a,l⟩,⟨D,C,E⟩,false⟩) (by simp only[maxLen];omega) (by omega) hW1 ?_;intro g6 Q w6 a0 X R V b6);go_ret;have hj:=I.out;rw[hj];have u:(L++[(⟨⟨d,a,l⟩,⟨D,C,E⟩,false⟩:Iv)]).length=n+1:=(by simp[H.out]);refine⟨_,Q,eR u.symm,?_,?_,?_,?_⟩
       . rw[u,aP];simpa[Iv.cs,bE]using a0
       . exact N.trans R
       . exact F.trans (cC5 X fun k hk=>by rw[<- s.out];exact hk)
       . intro q hq;simp only[Value.ownBlock,Option.some.injEq]at hq;subst hq;rcases V with h|h
         . exact .inl (by rw[<- s.out];exact h)
         . exact .inr (by have:=F.size;omega)
end
section
open Go.RowKit
open Rg
theorem qT:(Tryz.prog.info? 139).map (fun i=>(i.zero,i.size,i.bytes))=some (some (.slice none 0 0),1,24):=by kernel_rfl
theorem aV4 (p:xW):(aA6 p).length=1:=rfl
theorem bI3 (p:xW):∀u∈aA6 p,u.oneCell'=true:=by simp[aA6,Value.oneCell']
theorem bU2 {a b:Rg}{L:List Vl}(h:L.map (fun v=>[v])=sP ((nZ (dU a++dU b)).map fun v=>[v])):L=kI a b:=by
 obtain⟨d,e⟩:=lO (dU a++dU b);refine aE3 L _ ?_ d fun v=>?_
 . have:=aR7 ((nZ (dU a++dU b)).map fun v=>[v]);rw[<- h]at this;have c:=List.pairwise_map.1 this;exact c.imp_of_mem (fun {x y} _ _ h=>by rw[bV5]at h;exact h)
 . have:=aR5 ((nZ (dU a++dU b)).map fun v=>[v]) [v];rw[<- h]at this;have c:v∈L↔v∈nZ (dU a++dU b):=(by simpa using this);rw[c];unfold nZ;rw[List.mem_flatMap];exact(e v).symm
def aQ2 (N:Nat) (k:Int):Prop:=∀(a b:Rg) (xa:Int) (fa:Bool) (Aa:Option Addr) (na ca:Nat) (xb:Int) (fb:Bool) (Ab:Option Addr) (nb cb:Nat) (w:World),
 RgS w xa fa Aa na ca a→RgS w xb fb Ab nb cb b→eI N a→eI N b→dP a→dP b →
 Calls Tryz.prog 198 #[.int .i64 k,.agg #[.int .i64 xa,.bool fa,.slice Aa na ca],.agg #[.int .i64 xb,.bool fb,.slice Ab nb cb]] w fun e w'=>cB1 w (comb (iA k) N a b) e w'
structure FC where
 N:Nat
 k:Int
 a:Rg
 b:Rg
 xa:Int
 fa:Bool
 Aa:Option Addr
 na:Nat
 ca:Nat
 xb:Int
 fb:Bool
 Ab:Option Addr
 nb:Nat
 cb:Nat
 Ap:Option Addr
 P:List Vl
 O:Nat
 w0:World
def FC.at_ (g:FC) (p:Vl):Rg:=comb (iA g.k) g.N (g.a.at_ (g.N:Int) p) (g.b.at_ (g.N:Int) p)
structure FS0 (g:FC) (w:World):Prop where
 hs:g.w0.heap.size+3≤g.O∧g.O+1≤w.heap.size
 bel:Below g.w0.heap.size g.w0 w
 ba:aT w g.w0.heap.size 71 #[.int .i64 g.xa,.bool g.fa,.slice g.Aa g.na g.ca]
 bb:aT w (g.w0.heap.size+1) 71 #[.int .i64 g.xb,.bool g.fb,.slice g.Ab g.nb g.cb]
 br:aT w (g.w0.heap.size+2) 71 #[.int .i64 0,.bool false,.slice none 0 0]
 ra:uB 0 g.O w g.xa g.fa g.Aa g.na g.ca g.a
 rb:uB 0 g.O w g.xb g.fb g.Ab g.nb g.cb g.b
 pts:qA w g.Ap g.P.length g.P
 pl:0<g.P.length→∀ b o,g.Ap=some ⟨b,o,none⟩→b<g.O
theorem FS0.but {g:FC}{w w':World}{S:Nat->Prop}(h:FS0 g w)(hb:But S w w')(a:∀q,S q->g.O<=q):FS0 g w':=by
 have j:=h.hs;have k:=hb.size;exact⟨⟨j.1,by omega⟩,hb.below h.bel (by omega) (fun q c=>by have:=a q c;omega),h.ba.but hb (fun e=>by have:=a _ e;omega),h.bb.but hb (fun e=>by have:=a _ e;omega),h.br.but hb (fun e=>by have:=a _ e;omega),
  h.ra.keep fun q _ c=>hb.block q (by omega) (fun e=>by have:=a _ e;omega),h.rb.keep fun q _ c=>hb.block q (by omega) (fun e=>by have:=a _ e;omega),
  h.pts.but hb (fun i b o d e=>by have:=h.pl i b o d;have:=a _ e;omega),h.pl⟩
theorem FS0.below {g:FC}{w w':World}(h:FS0 g w)(hb:Below w w w'):FS0 g w':=h.but (S:=fun _=>False) (But.of_below hb) (fun _ h=>h.elim)
theorem RgS.f0 {w:World}{x:Int}{f:Bool}{A:Option Addr}{n c O:Nat}{r:Rg}(h:RgS w x f A n c r)(e:w.heap.size<=O):uB 0 O w x f A n c r:=fun w' d=>h.keep fun a b=>by
 have g:=gS b;exact World.cell?_of_block (w:=w) (d a.block (Nat.zero_le _) (by omega))
structure FR (g:FC) (k:Nat) (Ak:Option Addr) (nk ck:Nat) (w:World) (A:Option Addr) (n c:Nat) (ms:List PM) (ks:List KM):Prop where
 s0:FS0 g w
 bo:aT w g.O 71 #[.int .i64 g.xa,.bool false,.slice A n c]
 st:FSt (g.O+1) w A n c ms Ak nk ck ks
 pr:ms.map PM.pr=fP g.at_ g.P k
 kn:∀ m∈ks,m.r=comb (iA g.k) g.N (fU g.a m.i) (fU g.b m.k)
 le:n≤k
theorem bU5 {ro:Vl->Rg}{P:List Vl}{k:Nat}{ms:List PM}(h:ms.map PM.pr=fP ro P k)(j:∀p,Sm (ro p)):∀m∈ms,Sm m.r/\m.vs.length<=k:=fun m d=>by
 have c:m.pr∈fP ro P k:=by rw[<- h];exact List.mem_map.2 ⟨m,d,rfl⟩
 obtain⟨r,i,e⟩:=List.mem_map.1 c;obtain⟨q,_,g⟩:=List.mem_map.1 ((eQ r _).1 i).1;have a:iI ro P r k=m.vs:=congrArg Prod.fst e;have b:r=m.r:=congrArg Prod.snd e;rw[<- b,<- a,<- g];exact⟨j q,tA _ _ _ _⟩
theorem room_vs {ro:Vl->Rg}{P:List Vl}{k:Nat}{ms:List PM}{r:Rg}(h:ms.map PM.pr=gK (fP ro P k) r):∀m∈ms,m.vs.length<=k:=fun m d=>by
 have a:m.pr∈gK (fP ro P k) r:=by rw[<- h];exact List.mem_map.2 ⟨m,d,rfl⟩
 unfold gK at a;have b:m.pr∈fP ro P k\/m.pr=([],r):=by
  split at a
  . exact .inl a
  . rcases List.mem_append.1 a with a|a
    . exact .inl a
    . exact .inr (by simpa using a)
 rcases b with b|b
 . obtain⟨s,g,e⟩:=List.mem_map.1 b;have c:iI ro P s k=m.vs:=congrArg Prod.fst e;rw[<- c];exact tA _ _ _ _
 . have c:m.vs=[]:=congrArg Prod.fst b;rw[c];exact Nat.zero_le _
theorem bE6 (k:Int):aQ2 0 k:=by
 intro a b xa fa Aa na ca xb fb Ab nb cb w i m l r t u;have s:xa=0:=by rw[<- i.hw];exact l.1
 subst s;have hr:comb (iA k) 0 a b=.nil 0 (iA k fa fb):=by rw[comb,i.hf,m.hf]
 rw[hr];obtain⟨q,j⟩:=zE (iA k fa fb);rw[j.out];obtain⟨g,d⟩:∃W:World,Hid (((w.alloc (.cells #[zO,.bool fa,.slice Aa na ca] 71)).alloc (.cells #[xb,.bool fb,.slice Ab nb cb] 71)).alloc (.cells zR 71)=W):=⟨_,rfl⟩;have c:Hid (aT g (w.heap.size+2) 71 zR/\g.heap.size=w.heap.size+3):=by rw[<- d.out];exact Z ⟨aT.step (by simp),by simp⟩
 have o:Hid (Below w w g):=by rw[<- d.out];exact Z ((((aB _ _).alloc (aD _) _).alloc (by simp) _).alloc (by simp;omega) _)
 clear i m l r t u hr;go_enter Tryz.func198,Tryz.ntmps198;go_wp2_with fail;rw[d.out];refine(aL0 k fa fb _).mono ?_;rintro e A ⟨rfl,rfl⟩;rw[j.out];have D:=c.out.1.cell;obtain⟨x,y,z⟩:=bF c.out.1 zO (.bool q);have n:=(bY (a':=zO) (b':=.bool q) (c':=zN) c.out.1).cell;have B:=(c.out.1.set_ 0 zO).cell;have C:=((c.out.1.set_ 0 zO).set_ 1 (.bool q)).cell;have p:=Z (bD o.out (show w.heap.size<=w.heap.size+2 by omega) zO (.bool q) zN);unfold cO at n;go_wp2;exact bodyPost_ret (v:=.agg #[zO,.bool q,zN]) (by simp[results,Tryz.results198,go_sem,n]) rfl ⟨0,q,none,0,0,rfl,uB.nil _ _,p.out⟩
end
end Go.Proofs.YtnnmlhmffnfjfaaGreat
