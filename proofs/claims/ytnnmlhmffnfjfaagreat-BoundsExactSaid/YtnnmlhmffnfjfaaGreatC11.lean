/- Texts on which the walk stands. -/
import Derived.Test.YtnnmlhmffnfjfaaGreatC10
open Go renaming wpQuiet_nil → aA, bodyPost_ret → aF
open Go.RowKit.Below renaming refl → aB, setCell → bC, alloc → cG
open Nat renaming le_refl → aD, add_zero → bX
open Bool renaming and_eq_true → aI
open List renaming mem_of_getElem? → aJ, getElem?_eq_getElem → aN, flatMap_append → aP, mem_cons_self → aQ, eq_nil_of_length_eq_zero → aR, mem_cons_of_mem → aS, length_cons → bL, mem_singleton → bU, take_of_length_le → bW, getElem?_map → cE
open Go.World renaming size_alloc → aX, cell?_of_block → bP
open Int renaming toNat_natCast → bM, lt_or_le → cD
set_option maxHeartbeats 8000000
set_option linter.unusedVariables false
set_option maxRecDepth 100000
namespace Go.Proofs.YtnnmlhmffnfjfaaGreat
open Go.RowKit
open Rg
theorem bE7 (N:Nat)(k:Int)(ih:aQ2 N k)(H9:N+1<=12):aQ2 (N+1) k:=by
 intro a b xa fa Aa na ca xb fb Ab nb cb w g0 k6 n5 n6 p9 q4;have x3:xa=((N+1:Nat):Int):=by rw[<- g0.hw];exact n5.1
 have x4:xb=((N+1:Nat):Int):=by rw[<- k6.hw];exact n6.1
 have H7:(xa == 0)=false:=by simp;omega
 have I5:na<=64:=by rw[g0.len];exact Nat.le_trans (eK a) p9.1
 have I6:nb<=64:=by rw[k6.len];exact Nat.le_trans (eK b) q4.1
 have E3:0<=xa/\xa<=12:=by omega
 have E4:0<=xb/\xb<=12:=by omega
 obtain⟨x7,u7,v1,v6,v7⟩:=info_parts qT;obtain⟨E5,C6,D1,D2,a7⟩:=info_parts bP5;obtain⟨E6,C7,D4,D5,D6⟩:=info_parts aN8;have h4:=Z g0;have HB:=Z k6;have z0:=Z ih;have I:=Z (And.intro n5 (And.intro n6 (And.intro p9 q4)));have A4:=Z (And.intro x3 x4);obtain⟨l2,t7⟩:=zE (comb (iA k) (N+1) a b);rw[t7.out];obtain⟨G,j9⟩:∃W:World,Hid (((w.alloc (.cells #[xa,.bool fa,.slice Aa na ca] 71)).alloc (.cells #[xb,.bool fb,.slice Ab nb cb] 71)).alloc (.cells zR 71)=W):=⟨_,rfl⟩;have d5:Hid (aT G w 71 #[xa,.bool fa,.slice Aa na ca]/\aT G (w.heap.size+1) 71 #[xb,.bool fb,.slice Ab nb cb]/\aT G (w.heap.size+2) 71 zR):=by rw[<- j9.out];exact Z ⟨((aT.step rfl).alloc _).alloc _,(aT.step (by simp)).alloc _,aT.step (by simp)⟩
 have p8:G.heap.size=w.heap.size+3:=by rw[<- j9.out];simp
 have h5:Hid (Below w w G):=by rw[<- j9.out];exact Z ((((aB _ _).alloc (aD _) _).alloc (by simp) _).alloc (by simp;omega) _)
 clear g0 k6 ih n5 n6 p9 q4 x3 x4;go_enter Tryz.func198,Tryz.ntmps198;go_wp2_with fail;rw[j9.out]
 -- the lists of a
 go_loopw [7,32] (fun v i wr=>∃(t:Nat) (A':Option Addr) (c':Nat) (qs:List xW),t<=na/\i=.int .i64 (t:Int)/\v=.slice A' t c'/\wr.ownsRow G 139 1 (.slice A' t c') t (qs.flatMap aA6)/\Hid (qs.map (·.2)=(dU a).take t/\∀q∈qs,LstOk G q)/\Below G G wr) (fun _ i _=>na-(intOf i).toNat);case atStart=>exact⟨0,none,0,[],by omega,rfl,rfl,⟨by simp,.inl ⟨rfl,rfl⟩⟩,Z ⟨by simp,by simp⟩,aB _ _⟩
 case round =>
  obtain⟨t,A',c',qs,ht,rfl,rfl,b0,HQ,J⟩:=hrel;have hb:=cC1 h5.out J;by_cases hlt:t<na
  . obtain⟨A5,F8,p,A1,n1,c1,G3,G1,A2,n2,c2,rfl,hp,e6⟩:=(h4.out.keep (aC hb)).at hlt;obtain⟨B0,F9,G0,y2,F4,B1,G4,G2,y3,F5,B2,d8,b4,e7⟩:=(h4.out.keep (aC h5.out)).at hlt;rw[hp]at b4;injection b4 with b4;subst b4;injection d8 with d8;injection d8 with e1 e2;subst e1 e2;have q0:=aW (aC J) e7.c0;rw[e6.c0]at q0;injection q0 with q0;injection q0 with q1 q2 q3;subst q1 q2 q3;have p5:n1<=64:=(by rw[<- e6.vs.len];exact(lV I.out.2.2.1.2 (aJ hp)).1);have m4:Hid ((qs++[((A1,n1,c1),p.1)]).map (·.2)=(dU a).take (t+1)/\∀q∈qs++[((A1,n1,c1),p.1)],LstOk G q):=by
     refine Z ⟨?_,fun q hq=>?_⟩
     . rw[List.map_append,HQ.out.1,cU (x:=p.1) (by unfold dU;rw[cE,hp];rfl)];rfl
     . rcases List.mem_append.1 hq with hq|hq
       . exact HQ.out.2 q hq
       . rw[List.mem_singleton.1 hq];exact⟨e7.vs,p5⟩
    have z1:=(d5.out.1.below J).cell;obtain⟨k4,_,_,_,_,_,_⟩:=e6;have f2:=Z b0;have hsz:=J.size;clear e7 hp b0 hb;go_wp2_with (at_builtin;refine cB (by rfl) (.tmp 35) (.tmp 42) _ (by rfl) G 139 x7 _ 1 24 Tryz.underlying176 u7 v1 v6 v7 (by rfl) (by omega) (.slice A' t c') t _ (by rfl) wr #[.slice A1 n1 c1] f2.out wr (by rfl) (by rfl) (by rfl) (bI3 ((A1,n1,c1),p.1)) (by simp only[maxLen];omega) (by omega) hsz ?_;intro C0 n4 w6 p6 C5 o1 C3 C9);go_roundw;case rel=>refine⟨t+1,_,n4,_,by omega,by go_num,rfl,?_,m4,J.trans o1⟩;rw[aP];simpa[aA6]using p6
    case measure=>simp[intOf];omega
  . obtain rfl:t=na:=(by omega);have m9:Hid (qs.map (·.2)=dU a/\∀q∈qs,LstOk G q):=(by refine Z ⟨?_,HQ.out.2⟩;rw[HQ.out.1,bW];unfold dU;rw[List.length_map,cI,h4.out.len];exact aD _);have f2:=Z b0;have f1:=Z J;have D9:=J.size;have z2:=(d5.out.2.1.below J).cell;clear b0 hb J HQ hlt;go_wp2_with fail;clear z2
    -- the lists of b
    go_loopw [7,48] (fun v i wr'=>∃(u:Nat) (A':Option Addr) (c':Nat) (qs:List xW),u<=nb/\i=.int .i64 (u:Int)/\v=.slice A' (t+u) c'/\wr'.ownsRow G 139 1 (.slice A' (t+u) c') (t+u) (qs.flatMap aA6)/\Hid (qs.map (·.2)=dU a++(dU b).take u/\∀q∈qs,LstOk G q)/\Below G G wr') (fun _ i _=>nb-(intOf i).toNat);case atStart=>exact⟨0,A',c',qs,by omega,rfl,rfl,f2.out,Z ⟨by rw[m9.out.1];simp,m9.out.2⟩,f1.out⟩
    case round =>
     clear f2 f1 m9 D9;obtain⟨u,A',c',qs,hu,rfl,rfl,b0,HQ,J⟩:=hrel;have hb:=cC1 h5.out J;by_cases hlt:u<nb
     . obtain⟨A5,F8,p,A1,n1,c1,G3,G1,A2,n2,c2,rfl,hp,e6⟩:=(HB.out.keep (aC hb)).at hlt;obtain⟨B0,F9,G0,y2,F4,B1,G4,G2,y3,F5,B2,d8,b4,e7⟩:=(HB.out.keep (aC h5.out)).at hlt;rw[hp]at b4;injection b4 with b4;subst b4;injection d8 with d8;injection d8 with e1 e2;subst e1 e2;have q0:=aW (aC J) e7.c0;rw[e6.c0]at q0;injection q0 with q0;injection q0 with q1 q2 q3;subst q1 q2 q3;have p5:n1<=64:=(by rw[<- e6.vs.len];exact(lV I.out.2.2.2.2 (aJ hp)).1);have m4:Hid ((qs++[((A1,n1,c1),p.1)]).map (·.2)=dU a++(dU b).take (u+1)/\∀q∈qs++[((A1,n1,c1),p.1)],LstOk G q):=by
        refine Z ⟨?_,fun q hq=>?_⟩
        . rw[List.map_append,HQ.out.1,cU (x:=p.1) (by unfold dU;rw[cE,hp];rfl),List.append_assoc];rfl
        . rcases List.mem_append.1 hq with hq|hq
          . exact HQ.out.2 q hq
          . rw[List.mem_singleton.1 hq];exact⟨e7.vs,p5⟩
       have z1:=(d5.out.2.1.below J).cell;obtain⟨k4,_,_,_,_,_,_⟩:=e6;have f2:=Z b0;have hsz:=J.size;clear e7 hp b0 hb;go_wp2_with (at_builtin;refine cB (by rfl) (.tmp 51) (.tmp 58) _ (by rfl) G 139 x7 _ 1 24 Tryz.underlying176 u7 v1 v6 v7 (by rfl) (by omega) (.slice A' (t+u) c') (t+u) _ (by rfl) wr #[.slice A1 n1 c1] f2.out wr (by rfl) (by rfl) (by rfl) (bI3 ((A1,n1,c1),p.1)) (by simp only[maxLen];omega) (by omega) hsz ?_;intro C0 n4 w6 p6 C5 o1 C3 C9);go_roundw;case rel=>refine⟨u+1,_,n4,_,by omega,by go_num,rfl,?_,m4,J.trans o1⟩;rw[<- Nat.add_assoc,aP];simpa[aA6]using p6
       case measure=>simp[intOf];omega
     . obtain rfl:u=nb:=(by omega);have w5:qs.length=t+u:=(by have h1:=b0.1;rw[hV aV4]at h1;omega);have r5:Hid (LstsS wr A' (t+u) qs):=Z ⟨cC3 aV4 w5 b0,fun q hq=>(HQ.out.2 q hq).keep (aC J)⟩;have t6:Hid (qs.map (·.2)=dU a++dU b):=(by show _=_;rw[HQ.out.1,bW];unfold dU;rw[List.length_map,cI,HB.out.len];exact aD _);have f1:=Z J;clear b0 hb J HQ hlt w5;go_wp2_with fail;refine(xC A' (t+u) c' qs _ r5.out (by omega)).mono ?_;rintro e l ⟨l4,B6,P,o3,rfl,o4,p0⟩;rw[t6.out]at o3;obtain rfl:=bU2 o3;have C2:=bH9 I.out.2.2.1 I.out.2.2.2;obtain⟨u2,E0,_,_⟩:=aM1 I.out.1 I.out.2.1;have q7:=Z u2;have s9:Hid (l2=tN xa false (cY (fun p=>comb (iA k) N (a.at_ (N:Int) p) (b.at_ (N:Int) p)) (kI a b))):=(by show _=_;rw[<- t7.out,A4.out.1];rfl);obtain⟨P,z8⟩:=zE (kI a b);rw[z8.out]at C2 q7 s9 o4 ⊢;have e9:=Z (cC1 f1.out p0);have h6:=Z (cC1 h5.out (cC1 f1.out p0));have m1:=Z o4;have J1:G.heap.size<=l.heap.size:=e9.out.size;have z1:=(d5.out.1.below e9.out).cell;clear o3 o4 p0 u2 E0 r5 f1 t6;go_wp2_with fail
       -- the state
       have t0:Hid (FS0 ⟨N,k,a,b,xa,fa,Aa,t,ca,xb,fb,Ab,u,cb,l4,P,l.heap.size,w⟩ (l.alloc (.cells #[xa,zF,zN] 71))):=by
        have hbb:=(h6.out.alloc h6.out.size (.cells #[xa,zF,zN] 71));refine Z ⟨⟨by show w.heap.size+3<=l.heap.size;omega,by show l.heap.size+1<=_;rw[aX];exact aD _⟩,hbb,(d5.out.1.below e9.out).alloc _,(d5.out.2.1.below e9.out).alloc _,(d5.out.2.2.below e9.out).alloc _,
         ((h4.out.keep (aC h6.out)).f0 (aD _)).keep (fun q _ hq=>Below.heap_alloc _ _ _ hq),((HB.out.keep (aC h6.out)).f0 (aD _)).keep (fun q _ hq=>Below.heap_alloc _ _ _ hq),m1.out.keep (aM _ _),fun hn b o g0=>m1.out.lt Vl.cs_len (by omega) hn b o g0⟩
       have q9:Hid (aT (l.alloc (.cells #[xa,zF,zN] 71)) l 71 #[xa,zF,zN]):=Z (aT.new _ _ _);clear z1;go_loopw [12,68] (fun v i wr=>∃(q nk:Nat) (Ak:Option Addr) (ck:Nat),q<=P.length/\i=.int .i64 (q:Int)/\v=.slice Ak nk ck/\nk<=q/\Hid (∃(A:Option Addr) (n c:Nat) (ms:List PM) (ks:List KM),FR ⟨N,k,a,b,xa,fa,Aa,t,ca,xb,fb,Ab,u,cb,l4,P,l.heap.size,w⟩ q Ak nk ck wr A n c ms ks)) (fun _ i _=>P.length-(intOf i).toNat);case atStart=>refine⟨0,0,none,0,by omega,rfl,rfl,by omega,Z ⟨none,0,0,[],[],t0.out,q9.out,⟨⟨⟨by simp,.inl ⟨rfl,rfl⟩⟩,rfl,(fun m hm=>by cases hm),List.Pairwise.nil,(fun m hm=>by cases hm)⟩,⟨by simp,.inl ⟨rfl,rfl⟩⟩,rfl,(fun m hm=>by cases hm),(fun m hm=>by cases hm),(fun m hm=>by cases hm)⟩,rfl,(fun m hm=>by cases hm),by omega⟩⟩
       case round =>
        clear t0 q9 m1 e9 h6;obtain⟨q,nk,Ak,ck,hq,rfl,rfl,I7,O⟩:=hrel;by_cases hlt:q<P.length
        . obtain⟨A,n,c,ms,ks,a3⟩:=O.out;clear O;obtain⟨T,op,p,C1,hp,k9⟩:=a3.s0.pts.at hlt;obtain rfl:l4=some ⟨T,op,none⟩:=C1;have k9:∀(j:Nat) (u:Value),(Vl.cs p)[j]?=some u->wr.cell? ⟨T,op+q*3+j,none⟩=some u:=k9;have m3:Hid (P[q]?=some p):=hp;obtain⟨L,K,M⟩:=p;obtain⟨k4,t9,u0⟩:=VlAt.of k9;dsimp only at k4 t9 u0;have e4:Below wr wr (wr.alloc (.cells #[L,K,M] 59)):=(aB _ _).alloc (aD _) _;have O:=Z a3;have s1:Hid (aT (wr.alloc (.cells #[L,K,M] 59)) wr 59 #[L,K,M]):=Z (aT.new _ _ _);have J5:l.heap.size+1<=wr.heap.size:=a3.s0.hs.2;clear hp k9 a3;go_upto_region 20 with fail;have i3:Hid (FS0 _ _):=Z (O.out.s0.below e4);have q8:=Z e4;generalize hW1:wr.alloc (.cells #[L,K,M] 59)=W1 at *;clear hW1 e4 k4 t9 u0;have z1:=i3.out.ba.drew.cell;have z2:=i3.out.bb.drew.cell;have z3:=s1.out.drew.cell;dsimp only at z1 z2;have i5:=@bK W1.drew;obtain⟨X,k0⟩:=zE (kG a.parts ⟨L,K,M⟩);obtain⟨Y,k1⟩:=zE (kG b.parts ⟨L,K,M⟩);refine aZ [([0,1,3,4],2),([],5)] [6,7] ?_;simp only[bS,cP];unfold bA;repeat(go_big_quiet_step (fail))
          refine aA ?_;clear i5 z1 z2 z3;go_wp2_with (first|(go_at_call 235;refine(bK5 a xa fa Aa t ca ⟨L,K,M⟩ _ (i3.out.ra.s.keep (aC (aB W1 W1).drew)) (nX I.out.2.2.1)).mono ?_;rintro e K6 ⟨rfl,hb2⟩;rw[k0.out]));refine⟨hb2,?_⟩;have l5:=Z (cC1 (aB W1 W1).drew hb2);clear hb2;unfold bA;refine aA ?_;go_wp2_with (first|(go_at_call 235;refine(bK5 b xb fb Ab u cb ⟨L,K,M⟩ _ (i3.out.rb.s.keep (aC l5.out)) (nX I.out.2.2.2)).mono ?_;rintro e R ⟨rfl,o9⟩;rw[k1.out]));refine⟨o9,?_⟩;have h7:=Z (cC1 q8.out (cC1 l5.out o9));clear o9;unfold bA;repeat(go_big_quiet_step (fail))
          refine aA ?_;have b9:Hid (FS0 _ _):=Z (O.out.s0.below h7.out);have l9:Hid (aT _ _ _ _):=Z (O.out.bo.below h7.out);have a1:Hid (FSt _ _ _ _ _ _ _ _ _ _):=Z (O.out.st.below h7.out);have p8:=h7.out.size;have p2 : -1<=X/\X<(t:Int):=(by have h1:=rU a.parts ⟨L,K,M⟩;rw[k0.out,cI]at h1;have h2:=h4.out.len;omega);have p3 : -1<=Y/\Y<(u:Int):=(by have h1:=rU b.parts ⟨L,K,M⟩;rw[k1.out,cI]at h1;have h2:=HB.out.len;omega);have j5:Hid (fU a X=a.at_ (N:Int) ⟨L,K,M⟩):=(by show _=_;rw[<- k0.out];exact rest_at I.out.1.1 _);have j6:Hid (fU b Y=b.at_ (N:Int) ⟨L,K,M⟩):=(by show _=_;rw[<- k1.out];exact rest_at I.out.2.1.1 _);obtain⟨ro,f5⟩:=zE (FC.at_ ⟨N,k,a,b,xa,fa,Aa,t,ca,xb,fb,Ab,u,cb,some ⟨T,op,none⟩,P,l.heap.size,w⟩ ⟨L,K,M⟩);clear i3 q8 l5 s1 h7;go_upto_block 6 with fail;go_cut [17] (fun s w4=>w4=R/\∃j:Nat,j<=nk/\s=.int .i64 (j:Int)/\∀m,ks[j]?=some m->m.i=X/\m.k=Y);case first =>
           go_wp2_with fail;go_loopw [17] (fun s w4=>w4=R/\∃j:Nat,j<=nk/\s=.int .i64 (j:Int)) (fun s _=>nk-(intOf s).toNat);case atStart=>exact⟨rfl,0,by omega,rfl⟩
           case round =>
            obtain⟨rfl,j,hj,rfl⟩:=hrel;by_cases i7:j<nk
            . obtain⟨d7,ok,m,o0,hm,c5⟩:=(cC3 KM.cs_len a1.out.klen a1.out.kown).at i7;have e0:=c5 0 _ rfl;have e1:=c5 1 _ rfl;have a8:=Z hm;obtain⟨l0,l1,d4,d2,d0,d3,d1,F,F3,F2⟩:=m;dsimp only[KM.cs]at e0 e1;simp only[bX]at e0;obtain rfl:Ak=some ⟨d7,ok,none⟩:=o0;clear hm c5;by_cases h1:l0=X
              . have n7:(l0 != X)=false:=(by simp[h1]);by_cases h2:l1=Y
                . have B9:(l1 != Y)=false:=(by simp[h2]);have y9:=Z (And.intro h1 h2);clear h1 h2;go_wp2_with fail;go_meet;case rel=>refine⟨rfl,j,hj,rfl,fun m hm=>?_⟩;rw[a8.out]at hm;injection hm with hm;subst hm;exact y9.out
                . have B9:(l1 != Y)=true:=(by simp[h2]);clear h1 h2;go_wp2_with fail;go_roundw;case rel=>exact⟨by trivial,j+1,by omega,by go_num⟩
                  case measure=>simp[intOf];omega
              . have n7:(l0 != X)=true:=(by simp[h1]);clear h1;go_wp2_with fail;go_roundw;case rel=>exact⟨by trivial,j+1,by omega,by go_num⟩
                case measure=>simp[intOf];omega
            . obtain rfl:j=nk:=(by omega);go_wp2_with fail;go_meet;case rel=>refine⟨rfl,j,hj,rfl,fun m hm=>?_⟩;have h1:=(List.getElem?_eq_some_iff.1 hm).1;have h2:=a1.out.klen;omega
          case rest =>
           obtain⟨hw,j,hj,rfl,u8⟩:=hcut;obtain rfl:R=wc:=hw.symm;clear hw;have r1:=Z u8;clear u8;go_upto_if 106 with fail;go_cut [12] (fun s l3=>∃(Ak':Option Addr) (b6 ck':Nat) (e8:List KM) (m:KM),s=.slice Ak' b6 ck'/\b6<=q+1/\FS0 ⟨N,k,a,b,xa,fa,Aa,t,ca,xb,fb,Ab,u,cb,some ⟨T,op,none⟩,P,l.heap.size,w⟩ l3/\aT l3 l 71 #[xa,zF,.slice A n c]/\FSt (l.heap.size+1) l3 A n c ms Ak' b6 ck' e8/\(∀m∈e8,m.r=comb (iA k) N (fU a m.i) (fU b m.k))/\e8[j]?=some m/\m.r=ro/\wr.heap.size<=l3.heap.size);case first =>
            by_cases i7:j<nk
            . have n7:((j:Int) == (nk:Int))=false:=(by simp;omega);obtain⟨m,hm⟩:∃m,ks[j]?=some m:=⟨_,aN (by rw[a1.out.klen];exact i7)⟩;have t5:Hid (ks[j]?=some m/\m.r=ro):=(by refine Z ⟨hm,?_⟩;obtain⟨e1,e2⟩:=r1.out m hm;rw[O.out.kn m (aJ hm),e1,e2,<- f5.out];dsimp only;rw[j5.out,j6.out];rfl);clear hm;go_wp2_with fail;go_meet;case rel=>exact⟨Ak,nk,ck,ks,m,rfl,by omega,b9.out,l9.out,a1.out,O.out.kn,t5.out.1,t5.out.2,p8⟩
            . obtain rfl:j=nk:=(by omega);have n7:((j:Int) == (j:Int))=true:=(by simp);have j0:Hid (∀z,(Value.slice Ak j ck).ownBlock=some z->l.heap.size+1<=z/\z<R.heap.size):=Z (fun z d=>⟨(cN a1.out.kown d).1,(cN a1.out.kown d).2.1⟩);have j4:Hid (∀z,(Value.slice A n c).ownBlock=some z->z<R.heap.size):=Z (fun z d=>(cN a1.out.pt.own d).2.1);have m8:Hid (∀m∈ms,∀z,m.vv.ownBlock=some z->z<R.heap.size):=Z (fun m hm z d=>(cN (a1.out.pt.ok m hm).own d).2.1);obtain⟨S,a0⟩:∃S:Nat->Prop,Hid ((fun z=>(Value.slice Ak j ck).ownBlock=some z)=S):=⟨_,rfl⟩;have a9:Hid (∀z,S z->l.heap.size+1<=z/\z<R.heap.size):=(by rw[<- a0.out];exact j0);have J6:w.heap.size+3<=l.heap.size:=b9.out.hs.1;go_upto_region 25 with fail;refine bQ S (.one [0,1,2,3,4,5,7,8] 6 (.one [] 9 (.one [] 10 (.one [11] 12 (.one [] 13 (.last [14])))))) ?_;have G5:∀(y:LaterS S R.drew) z,(dG S R.drew y).cell? ⟨w,z,none⟩=(#[xa,.bool fa,.slice Aa t ca]:Array Value)[z]?:=fun y z=>(b9.out.ba.drew.but y.but (fun h=>by have:=a9.out _ h;dsimp only at this;omega)).cell z;have G6:∀(y:LaterS S R.drew) z,(dG S R.drew y).cell? ⟨w.heap.size+1,z,none⟩=(#[xb,.bool fb,.slice Ab u cb]:Array Value)[z]?:=fun y z=>(b9.out.bb.drew.but y.but (fun h=>by have:=a9.out _ h;dsimp only at this;omega)).cell z;have u3:Below R R R.drew:=(aB _ _).drew;have l6:=Z u3;generalize hW:R.drew=K7 at *;clear hW u3;unfold bB;simp only[cP];repeat(go_big_quiet_step (fail))
              refine aA ?_;clear G5 G6;go_wp2_with (first|(go_at_call 236;refine(aI4 a xa fa Aa t ca X _ (b9.out.ra.s.keep (aC l6.out)) p2.2 p2.1 E3).mono ?_;rintro e w6 ⟨G9,f6,A6,F6,B3,rfl,o6,d9⟩;rw[j5.out]at o6));refine⟨But.of_below d9,?_⟩;have f3:=Z o6;have l7:=Z (cC1 l6.out d9);clear o6 d9;unfold bB;simp only[cP];refine aA ?_;go_wp2_with (first|(go_at_call 236;refine(aI4 b xb fb Ab u cb Y _ (b9.out.rb.s.keep (aC l7.out)) p3.2 p3.1 E4).mono ?_;rintro e C ⟨H0,B8,A7,F7,B4,rfl,o7,Q⟩;rw[j6.out]at o7));refine⟨But.of_below Q,?_⟩;have i2:=Z o7;have b1:=Z (cC1 l7.out Q);have s5:=Z (f3.out.keep (aC Q));clear o7 Q f3;unfold bB;simp only[cP];refine aA ?_;go_wp2_with (first|(go_at_call 198;refine(z0.out (a.at_ (N:Int) ⟨L,K,M⟩) (b.at_ (N:Int) ⟨L,K,M⟩) G9 f6 A6 F6 B3 H0 B8 A7 F7 B4 _ s5.out i2.out (I.out.1.at_ _) (I.out.2.1.at_ _) (jX I.out.2.2.1 _) (jX I.out.2.2.2 _)).mono ?_;rintro e B ⟨x8,f8,A8,n8,c8,rfl,g1,a4⟩));refine⟨But.of_below a4,?_⟩;have c7:comb (iA k) N (a.at_ (N:Int) ⟨L,K,M⟩) (b.at_ (N:Int) ⟨L,K,M⟩)=ro:=f5.out;rw[c7]at g1;have b2:=Z g1;have a6:=Z (cC1 b1.out a4);have w8:R.heap.size<=C.heap.size:=b1.out.size;have D7:R.heap.size<=B.heap.size:=a6.out.size;have d6:=Z (a1.out.below a6.out);clear g1 a4 c7 s5 i2;unfold bB;simp only[cP];repeat(go_big_quiet_step (fail))
              refine aA ?_;go_wp2_with fail;refine⟨But.alloc _ _,?_⟩;unfold bB;simp only[cP];refine aA ?_;go_wp2_with (at_builtin;refine cB (by rfl) (.tmp 107) (.tmp 119) _ (by rfl) (l.heap.size+1) 253 E5 _ 5 56 Tryz.underlying250 C6 D1 D2 a7 (by rfl) (by omega) (.slice Ak j ck) j _ (by rfl) B #[X,Y,x8,.bool f8,.slice A8 n8 c8] d6.out.kown B (by rfl) (by rfl) (by rfl) (one_km (KM.mk X Y x8 f8 A8 n8 c8 ro C B)) (by simp only[maxLen];omega) (by omega) (by omega) ?_;intro g9 c3 D c6 i6 o2 i4 D0);have a5:But S (B.alloc (.cells #[X,Y,x8,.bool f8,.slice A8 n8 c8] 253)) D:=cC5 i6 (fun z d=>by rw[<- a0.out];exact d);refine⟨a5,?_⟩;have V:Hid (But S B D):=Z ((But.alloc _ _).trans a5);have b3:=Z c6;have i8:=Z i4;have w9:B.heap.size<=D.heap.size:=V.out.size;have z9:Hid (FS0 _ D):=Z ((b9.out.below a6.out).but V.out (fun z d=>by have:=a9.out z d;dsimp only;omega));have i0:Hid (aT D _ _ _):=Z ((l9.out.below a6.out).but V.out (fun d=>by have:=a9.out _ d;omega));have y6:Hid (FSt (l.heap.size+1) D A n c ms (some ⟨g9,0,none⟩) (j+1) c3 (ks++[KM.mk X Y x8 f8 A8 n8 c8 ro C B])):=by
               refine Z (d6.out.known ?_ (V.out.wide (fun z d=>by rw[<- a0.out]at d;exact d)) (fun z d=>?_) b2.out (by omega) (aD _) (fun z h1 h2=>?_))
               . rw[aP];simpa[KM.cs]using b3.out
               . simp only[Value.ownBlock,Option.some.injEq]at d;subst d;rcases i8.out with e|e
                 . exact .inl e
                 . exact .inr (by omega)
               . exact⟨fun d=>by have:=j0.out z d;omega,fun d=>by have:=j4.out z d;omega,fun m hm d=>by have:=m8.out m hm z d;omega⟩
              have u9:ks.length=j:=a1.out.klen;have r2:=Z u9;clear c6 i6 o2 i4 a5 d6 b3 i8 l6 l7 b1 u9;unfold bB;simp only[cP];repeat(go_big_quiet_step (fail))
              refine aA ?_;go_wp2_with fail;go_meet;case rel =>
               refine⟨some ⟨g9,0,none⟩,j+1,c3,ks++[KM.mk X Y x8 f8 A8 n8 c8 ro C B],KM.mk X Y x8 f8 A8 n8 c8 ro C B,rfl,by omega,z9.out,i0.out,y6.out,fun m hm=>?_,?_,rfl,by omega⟩
               . rcases List.mem_append.1 hm with hm|hm
                 . exact O.out.kn m hm
                 . rw[List.mem_singleton.1 hm];dsimp only;rw[j5.out,j6.out];exact f5.out.symm
               . rw[List.getElem?_append_right (by rw[r2.out];exact aD _),r2.out,Nat.sub_self];rfl
           case rest =>
            obtain⟨Ak',b6,ck',e8,m,rfl,w2,g6,c4,U,v0,hm,k8,hsz⟩:=hcut;have i7:j<b6:=(by rw[<- U.klen];exact(List.getElem?_eq_some_iff.1 hm).1);obtain⟨d7,ok,c9,o0,E,c5⟩:=(cC3 KM.cs_len U.klen U.kown).at i7;rw[hm]at E;injection E with E;subst E;obtain rfl:Ak'=some ⟨d7,ok,none⟩:=o0;have i9:=Z (U.krg m (aJ hm)).1;obtain⟨l0,l1,d4,d2,d0,d3,d1,F,F3,F2⟩:=m;obtain rfl:F=ro:=k8;dsimp only at i9;have e2:=c5 2 _ rfl;have e3:=c5 3 _ rfl;have B7:=c5 4 _ rfl;have t1:=Z g6;have r8:=Z c4;have r0:=Z U;have r3:=Z v0;have A3:Hid (∀m∈ms,Sm m.r/\m.vs.length<=q):=Z (bU5 O.out.pr (fun p=>yL _ _ _ _ (jX I.out.2.2.1 p) (jX I.out.2.2.2 p)));have t4:Hid (Sm F):=Z (by rw[<- f5.out];exact yL _ _ _ _ (jX I.out.2.2.1 _) (jX I.out.2.2.2 _));have i1:Hid (ms.map PM.pr=fP (FC.at_ ⟨N,k,a,b,xa,fa,Aa,t,ca,xb,fb,Ab,u,cb,some ⟨T,op,none⟩,P,l.heap.size,w⟩) P q/\n<=q):=Z ⟨O.out.pr,O.out.le⟩;have I8:n<=q:=O.out.le;clear g6 c4 U v0 hm c5 b9 l9 a1 O r1 p8 j5 j6 k0 k1 p2 p3;go_wp2_with fail;have e4:Below wc wc (wc.alloc (.cells #[d4,.bool d2,.slice d0 d3 d1] 71)):=(aB _ _).alloc (aD _) _;refine(wO d4 d2 d0 d3 d1 F _ (i9.out.s.keep (aC e4))).mono ?_;rintro e w6 ⟨rfl,d9⟩;have g2:=cC1 e4 d9;have j7:=Z ((aT.new wc 71 #[d4,.bool d2,.slice d0 d3 d1]).below d9);have m7:Hid (FS0 _ w6):=Z (t1.out.below g2);have j2:Hid (aT w6 _ _ _):=Z (r8.out.below g2);have b7:Hid (FSt _ w6 _ _ _ _ _ _ _ _):=Z (r0.out.below g2);have f3:Hid (RgS w6 d4 d2 d0 d3 d1 F):=Z (i9.out.s.keep (aC g2));have J2:=g2.size;obtain⟨t8,m6⟩:=zE (wc.heap.size);rw[m6.out]at j7;obtain⟨v,f7⟩:=zE (F.nix);rw[f7.out];clear e2 e3 B7 e4 d9 g2 t1 r8 r0 i9;cases v;rotate_left
            . go_wp2_with fail;go_roundw;case rel=>refine⟨q+1,b6,some ⟨d7,ok,none⟩,ck',by omega,by go_num,rfl,w2,Z ⟨A,n,c,ms,e8,m7.out,j2.out,b7.out,?_,r3.out,by omega⟩⟩;rw[i1.out.1];exact(aT7 m3.out (by rw[f5.out];exact f7.out)).symm
              case measure=>simp[intOf];omega
            . have H2:=m6;go_upto_block 8 with fail;rw[m6.out];go_cut [17] (fun s C=>Below w6 w6 C/\∃g:Nat,g<=n/\s=.int .i64 (g:Int)/\(∀m∈ms.take g,m.r≠F)/\∀m,ms[g]?=some m->m.r=F);case first =>
               go_wp2_with fail;go_loopw [17] (fun s C=>Below w6 w6 C/\∃g:Nat,g<=n/\s=.int .i64 (g:Int)/\Hid (∀m∈ms.take g,m.r≠F)) (fun s _=>n-(intOf s).toNat);case atStart=>exact⟨aB _ _,0,by omega,rfl,Z (by simp)⟩
               case round =>
                obtain⟨Q,g,p4,rfl,b8⟩:=hrel;have y0:=(j2.out.below Q).drew.cell;have y1:=(j7.out.below Q).drew.cell;have b1:Hid (Below w6 w6 wr.drew):=Z Q.drew;have D3:=(hP b7.out.pt.own).1;clear Q;by_cases g5:g<n
                . obtain⟨n3,q5,m2,k5,a7,e5⟩:=((cC3 PM.cs_len b7.out.pt.len b7.out.pt.own).keep (aC b1.out)).at g5;have r6:=Z a7;have s2:=Z (b7.out.pt.ok m2 (aJ a7)).rg;have t3:=Z (A3.out m2 (aJ a7)).1;obtain⟨K0,K4,K1,K5,F1,E9,E7,F0,E8,x9,K3,K2⟩:=m2;have e1:=e5 1 _ rfl;have e2:=e5 2 _ rfl;have e3:=e5 3 _ rfl;dsimp only at s2 t3;obtain rfl:A=some ⟨n3,q5,none⟩:=k5;have n9:decide ((g:Int)<(n:Int))=true:=(by simp;omega);have i5:=@bK wr.drew;obtain⟨v2,n0⟩:=zE (decide (x9=F));clear a7 e5;go_wp2;refine aZ [([0,1,2,3,4,5,6,7,8,9,10,11,12],13)] [14,15] ?_;simp only[bS,cP];unfold bA;repeat(go_big_quiet_step (fail))
                  refine aA ?_;clear i5 y0 y1 e1 e2 e3;go_wp2_with (first|(go_at_call 35;refine(rZ x9 F1 E9 E7 F0 E8 d4 d2 d0 d3 d1 F _ (s2.out.s.keep (aC b1.out)) (f3.out.keep (aC b1.out)) t3.out t4.out).mono ?_;rintro e B ⟨rfl,a4⟩;rw[n0.out]));refine⟨a4,?_⟩;have a6:=Z (cC1 b1.out a4);clear a4;unfold bA;cases v2
                  . repeat(go_big_quiet_step (fail))
                    refine aA ?_;go_wp2_with fail;go_roundw;case rel =>
                     refine⟨a6.out,g+1,by omega,by go_num,Z fun m hm=>?_⟩;rw[cU r6.out]at hm;rcases List.mem_append.1 hm with hm|hm
                     . exact b8.out m hm
                     . rw[List.mem_singleton.1 hm];have:=n0.out;simpa using this
                    case measure=>simp[intOf];omega
                  . repeat(go_big_quiet_step (fail))
                    refine aA ?_;go_wp2_with fail;go_meet;case rel=>refine⟨a6.out,g,p4,rfl,b8.out,fun m hm=>?_⟩;rw[r6.out]at hm;injection hm with hm;rw[<- hm];have:=n0.out;simpa using this
                . obtain rfl:g=n:=(by omega);have n9:decide ((g:Int)<(g:Int))=false:=(by simp);have i5:=@bK wr.drew;go_wp2;refine aZ [([0,1,2,3,4,5,6,7,8,9,10,11,12],13)] [14,15] ?_;simp only[bS,cP];unfold bA;repeat(go_big_quiet_step (fail))
                  refine aA ?_;clear i5 y0 y1;go_wp2_with fail;refine⟨aB _ _,?_⟩;unfold bA;repeat(go_big_quiet_step (fail))
                  refine aA ?_;go_wp2_with fail;go_meet;case rel=>refine⟨b1.out,g,p4,rfl,b8.out,fun m hm=>?_⟩;have h1:=(List.getElem?_eq_some_iff.1 hm).1;have h2:=b7.out.pt.len;omega
              case rest =>
               obtain⟨Q,g,p4,rfl,w3,x6⟩:=hcut;obtain⟨C,E1⟩:∃z,z=wc:=⟨_,rfl⟩;subst E1;have b8:=Z (And.intro w3 x6);have j8:Hid (FS0 _ _):=Z (m7.out.below Q);have h8:Hid (aT _ _ _ _):=Z (j2.out.below Q);have a2:Hid (FSt _ _ _ _ _ _ _ _ _ _):=Z (b7.out.below Q);have i2:=Z (f3.out.keep (aC Q));have m5:=Z (j7.out.below Q);have w8:=Q.size;clear w3 x6 Q m7 j2 b7 f3 j7;have s8:Hid (g<n->F∈(fP (FC.at_ ⟨N,k,a,b,xa,fa,Aa,t,ca,xb,fb,Ab,u,cb,some ⟨T,op,none⟩,P,l.heap.size,w⟩) P q).map (·.2)):=Z fun h=>(by have h1:ms[g]?=some (ms[g]'(by rw[a2.out.pt.len];exact h)):=aN _;have h2:=b8.out.2 _ h1;rw[<- i1.out.1,zW,<- h2];exact List.mem_map.2 ⟨_,aJ h1,rfl⟩);have s7:Hid (g=n->F∉(fP (FC.at_ ⟨N,k,a,b,xa,fa,Aa,t,ca,xb,fb,Ab,u,cb,some ⟨T,op,none⟩,P,l.heap.size,w⟩) P q).map (·.2)):=Z fun h hm=>(by rw[<- i1.out.1,zW]at hm;obtain⟨m,hm,e⟩:=List.mem_map.1 hm;refine b8.out.1 m ?_ e;rw[h,bW (by rw[a2.out.pt.len];exact aD _)];exact hm);have H1:=h8.out.cell;go_upto_if 150 with fail;clear H1;go_cut [] (fun B=>∃(A':Option Addr) (n' c':Nat) (ms':List PM) (m:PM),FS0 ⟨N,k,a,b,xa,fa,Aa,t,ca,xb,fb,Ab,u,cb,some ⟨T,op,none⟩,P,l.heap.size,w⟩ B/\aT B l 71 #[xa,zF,.slice A' n' c']/\FSt (l.heap.size+1) B A' n' c' ms' (some ⟨d7,ok,none⟩) b6 ck' e8/\ms'.map PM.pr=gK (fP (FC.at_ ⟨N,k,a,b,xa,fa,Aa,t,ca,xb,fb,Ab,u,cb,some ⟨T,op,none⟩,P,l.heap.size,w⟩) P q) F/\ms'[g]?=some m/\m.r=F/\n'<=q+1);case first =>
                by_cases g5:g<n
                . have n9:((g:Int) == (n:Int))=false:=(by simp;omega);obtain⟨m,hm⟩:∃m,ms[g]?=some m:=⟨_,aN (by rw[a2.out.pt.len];exact g5)⟩;have r7:=Z (And.intro hm (b8.out.2 m hm));have z4:=Z (s8.out g5);clear hm;go_wp2_with fail;go_meet;case rel=>refine⟨A,n,c,ms,m,j8.out,h8.out,a2.out,?_,r7.out.1,r7.out.2,by omega⟩;rw[aT0 f7.out,if_pos z4.out];exact i1.out.1
                . obtain rfl:g=n:=(by omega);have n9:((g:Int) == (g:Int))=true:=(by simp);have z6:=Z (s7.out rfl);have j0:Hid (∀z,(Value.slice (some ⟨d7,ok,none⟩) b6 ck').ownBlock=some z->z<C.heap.size):=Z (fun z d=>(cN a2.out.kown d).2.1);have j4:Hid (∀z,(Value.slice A g c).ownBlock=some z->l.heap.size+1<=z/\z<C.heap.size):=Z (fun z d=>⟨(cN a2.out.pt.own d).1,(cN a2.out.pt.own d).2.1⟩);have m8:Hid (∀m∈ms,∀z,m.vv.ownBlock=some z->z<C.heap.size):=Z (fun m hm z d=>(cN (a2.out.pt.ok m hm).own d).2.1);obtain⟨S,a0⟩:∃S:Nat->Prop,Hid ((fun z=>(Value.slice A g c).ownBlock=some z)=S):=⟨_,rfl⟩;have a9:Hid (∀z,S z->l.heap.size+1<=z/\z<C.heap.size):=(by rw[<- a0.out];exact j4);have u1:¬S t8:=(by rw[<- a0.out];intro d;obtain⟨_,_,cs,h1⟩:=cN a2.out.pt.own d;have h2:=m5.out;unfold aT at h2;rw[h1]at h2;injection h2 with h2;injection h2 with _ h2;exact absurd h2 (by decide));go_upto_region 32 with fail;refine bQ S (.one [0,1,2] 3 (.one [4] 5 (.one [] 6 (.fin [7] 8)))) ?_;have q6:∀(y:LaterS S C.drew) z,(dG S C.drew y).cell? ⟨l,z,none⟩=(#[xa,zF,.slice A g c]:Array Value)[z]?:=fun y z=>(h8.out.drew.but y.but (fun h=>by have:=a9.out _ h;omega)).cell z;have G7:∀(y:LaterS S C.drew) z,(dG S C.drew y).cell? ⟨t8,z,none⟩=(#[d4,.bool d2,.slice d0 d3 d1]:Array Value)[z]?:=fun y z=>(m5.out.drew.but y.but u1).cell z;have u4:Below C C C.drew:=(aB _ _).drew;have l8:=Z u4;generalize hW:C.drew=h0 at *;clear hW u4 u1;unfold bB;simp only[cP];repeat(go_big_quiet_step (fail))
                  refine aA ?_;clear q6 G7;go_wp2_with (first|(go_at_call 237;refine(bQ6 F d4 d2 d0 d3 d1 _ (i2.out.keep (aC l8.out)) t4.out).mono ?_;rintro e B ⟨x8,f8,A8,n8,c8,rfl,g1,a4⟩));refine⟨But.of_below a4,?_⟩;have b2:=Z g1;have a6:=Z (cC1 l8.out a4);have J3:C.heap.size<=h0.heap.size:=l8.out.size;have D7:h0.heap.size<=B.heap.size:=a4.size;have d6:=Z (a2.out.below a6.out);have h9:Hid (aT B _ _ _):=Z (h8.out.below a6.out);have J7:l.heap.size+1<=C.heap.size:=j8.out.hs.2;clear g1 a4;unfold bB;simp only[cP];repeat(go_big_quiet_step (fail))
                  refine aA ?_;go_wp2_with fail;refine⟨But.alloc _ _,?_⟩;unfold bB;simp only[cP];refine aA ?_;go_wp2_with (at_builtin;refine cB (by rfl) (.tmp 152) (.tmp 156) _ (by rfl) (l.heap.size+1) 141 E6 _ 4 64 Tryz.underlying69 C7 D4 D5 D6 (by rfl) (by omega) (.slice A g c) g _ (by rfl) B #[zN,x8,.bool f8,.slice A8 n8 c8] d6.out.pt.own B (by rfl) (by rfl) (by rfl) (aN0 (PM.mk none 0 0 [] x8 f8 A8 n8 c8 F h0 B)) (by simp only[maxLen];omega) (by omega) (by omega) ?_;intro g9 c3 D c6 i6 o2 i4 D0);have a5:But S (B.alloc (.cells #[zN,x8,.bool f8,.slice A8 n8 c8] 141)) D:=cC5 i6 (fun z d=>by rw[<- a0.out];exact d);refine⟨a5,?_⟩;have V:Hid (But S B D):=Z ((But.alloc _ _).trans a5);have b3:=Z c6;have i8:=Z i4;have i0:Hid (aT D l 71 #[xa,zF,.slice A g c]):=Z (h9.out.but V.out (fun d=>by have:=a9.out _ d;omega));have w9:B.heap.size<=D.heap.size:=V.out.size;clear c6 i6 o2 i4 a5 h9;unfold bB;simp only[cP];have I9:=i0.out.cell;have J0:=i0.out.free;repeat(go_big_quiet_step (fail))
                  refine aA ?_;go_wp2_with fail;go_meet;case rel =>
                   have g4:But (fun z=>z=l.heap.size) D (D.setCell ⟨l,2,none⟩ (.slice (some ⟨g9,0,none⟩) (g+1) c3)):=But.set (S:=fun z=>z=l.heap.size) _ (p:=⟨l,2,none⟩) rfl _;have J4:(D.setCell ⟨l,2,none⟩ (.slice (some ⟨g9,0,none⟩) (g+1) c3)).heap.size=D.heap.size:=(by simp[World.setCell]);have z7:=fB b3.out g4 (fun z d hs=>by have:=(cN b3.out d).1;omega);have u5:But (fun z=>(Value.slice A g c).ownBlock=some z\/z<l.heap.size+1) B (D.setCell ⟨l,2,none⟩ (.slice (some ⟨g9,0,none⟩) (g+1) c3)) :=
                    (V.out.wide (fun z d=>.inl (by rw[<- a0.out]at d;exact d))).trans (g4.wide (fun z d=>.inr (by omega)))
                   have v8:∀z,(Value.slice (some ⟨g9,0,none⟩) (g+1) c3).ownBlock=some z->(Value.slice A g c).ownBlock=some z\/B.heap.size<=z:=fun z d=>by
                    simp only[Value.ownBlock,Option.some.injEq]at d;subst d;rcases i8.out with e|e
                    . exact .inl e
                    . exact .inr (by omega)
                   have o5:=d6.out.pt.add (x:=x8) (f:=f8) (A2:=A8) (n2:=n8) (c2:=c8) (lo:=h0.heap.size) (hi:=B.heap.size) (r:=F) (by rw[aP];simpa[PM.cs]using z7) u5 v8 b2.out (by omega) (aD _) (fun z h1 h2=>⟨fun d=>by have:=j4.out z d;omega,fun m hm d=>by have:=m8.out m hm z d;omega⟩);refine⟨some ⟨g9,0,none⟩,g+1,c3,ms++[PM.mk none 0 0 [] x8 f8 A8 n8 c8 F h0 B],PM.mk none 0 0 [] x8 f8 A8 n8 c8 F h0 B,?_,i0.out.set_ 2 _,?_,?_,?_,rfl,by omega⟩
                   . exact((j8.out.below a6.out).but V.out (fun z d=>by have:=a9.out z d;dsimp only;omega)).but g4 (fun z d=>by dsimp only;omega)
                   . refine d6.out.step o5 (u5.wide (fun z d=>?_)) v8 (fun c9 E z d=>?_) (fun c9 E=>?_)
                     . rcases d with d|d
                       . exact .inl d
                       . exact .inr (.inr d)
                     . rcases List.mem_append.1 E with E|E
                       . exact .inl ⟨c9,E,d⟩
                       . rw[bU]at E;subst E;simp[PM.vv,Value.ownBlock]at d
                     . rcases List.mem_append.1 E with E|E
                       . exact .inl ⟨c9,E,rfl,rfl⟩
                       . rw[bU]at E;subst E;exact .inr fun z h1 h2 d=>by have:=j0.out z d;dsimp only at h1;omega
                   . rw[aT0 f7.out,if_neg z6.out,List.map_append,i1.out.1];rfl
                   . have hl:ms.length=g:=a2.out.pt.len;rw[List.getElem?_append_right (by omega),hl,Nat.sub_self];rfl
               case rest =>
                obtain⟨A',n',c',ms',m,g6,c4,U,p7,hm,k8,I4⟩:=hcut;have t2:=Z g6;have h9:=Z c4;have b2:=Z U;have s3:=Z p7;have a8:=Z (And.intro hm k8);have g5:g<n':=(by rw[<- U.pt.len];exact(List.getElem?_eq_some_iff.1 hm).1);obtain⟨H,B5,x2,I2,I1⟩:=U.pt.own.form (by omega);obtain⟨rfl,rfl⟩:A'=some ⟨H,0,none⟩/\c'=B5:=(by injection x2 with h1 h2 h3;exact⟨h1,h3⟩);obtain⟨n3,q5,m2,k5,a7,e5⟩:=(cC3 PM.cs_len U.pt.len U.pt.own).at g5;rw[hm]at a7;injection a7 with a7;subst a7;obtain⟨rfl,rfl⟩:H=n3/\0=q5:=(by injection k5 with h;injection h with h1 h2;exact⟨h1,h2⟩);have e0:=e5 0 _ rfl;simp only[Nat.zero_add,bX]at e0;have j1:=Z (U.pt.ok m (aJ hm));have x1:m.vs.length<=q:=room_vs p7 m (aJ hm);have z5:=Z (j1.out.len);obtain⟨g7,k2⟩:=zE (m.A1);obtain⟨b5,f4⟩:=zE (m.n1);obtain⟨g8,k3⟩:=zE (m.c1);rw[k2.out,f4.out,k3.out]at e0;have I3:b5<=q:=(by rw[<- f4.out,<- j1.out.len];exact x1);have j3:Hid (wc.ownsRow (l.heap.size+1) 187 7 (.slice g7 b5 g8) b5 (m.vs.flatMap Iv.cs)):=(by have:=j1.out.own;unfold PM.vv at this;rw[k2.out,f4.out,k3.out]at this;exact Z this);have D3:=(hP U.pt.own).1;have E2:l.heap.size+1<=wc.heap.size:=g6.hs.2;clear g6 c4 U p7 hm k8 x2 k5 e5 x1 j8 h8 a2 i2 m5 b8 s8 s7 w8;obtain⟨S,a0⟩:∃S:Nat->Prop,Hid ((fun z=>(Value.slice g7 b5 g8).ownBlock=some z)=S):=⟨_,rfl⟩;have a9:Hid (∀z,S z->l.heap.size+1<=z/\z<wc.heap.size):=(by rw[<- a0.out];exact Z (fun z d=>⟨(cN j3.out d).1,(cN j3.out d).2.1⟩));have o8:¬S H:=(by rw[<- a0.out];intro d;exact fV j3.out b2.out.pt.own (by decide) d rfl);have w1:=gS (w:=wc) (a:=⟨H,g*4,none⟩) (by rw[e0];rfl);go_upto_region 33 with fail;refine bQ S (.one [0,1,2,3,4,5,6,7,8,9,10] 11 (.one [] 12 (.one [] 13 (.fin [] 14)))) ?_;have q6:∀(y:LaterS S wc.drew) z,(dG S wc.drew y).cell? ⟨l,z,none⟩=(#[xa,zF,.slice (some ⟨H,0,none⟩) n' c']:Array Value)[z]?:=fun y z=>(h9.out.drew.but y.but (fun h=>by have:=a9.out _ h;omega)).cell z;have G8:∀(y:LaterS S wc.drew),(dG S wc.drew y).cell? ⟨H,g*4,none⟩=some (.slice g7 b5 g8):=fun y=>(by rw[bP (w:=wc.drew) (y.but.block H w1 o8)];exact e0);have r9:Hid (wc.drew.ownsRow (l.heap.size+1) 187 7 (.slice g7 b5 g8) b5 (m.vs.flatMap Iv.cs)):=Z j3.out.drew;have p1:Below wc wc wc.drew:=(aB _ _).drew;have s4:Hid (qA wc.drew (some ⟨T,op,none⟩) P.length P):=Z (t2.out.pts.keep (aC p1));have y4:=Z p1;have D8:l.heap.size+1<=wc.drew.heap.size:=E2;have x0:wc.drew.heap.size=wc.heap.size:=rfl;have A0:=Z x0;generalize hW:wc.drew=K8 at *;clear hW p1 x0;unfold bB;simp only[cP];repeat(go_big_quiet_step (fail))
                refine aA ?_;clear q6 G8;go_wp2_with (first|(go_at_call 238;refine(bP4 g7 b5 g8 (l.heap.size+1) m.vs (some ⟨T,op,none⟩) P.length B6 P q _ r9.out (by rw[z5.out];exact f4.out) s4.out hlt (by omega) (by omega) D8).mono ?_;rintro e D ⟨A9,f9,rfl,c6,C4,a5,v9⟩));rw[a0.out]at a5;refine⟨a5,?_⟩;have b3:=Z c6;have r4:=Z v9;have V:Hid (But S wc D):=Z ((But.of_below y4.out).trans a5);have w9:=V.out.size;have m0:Hid (D.ownsRow (l.heap.size+1) 141 4 (.slice (some ⟨H,0,none⟩) n' c') n' (ms'.flatMap PM.cs)):=Z (fB b2.out.pt.own V.out (fun z d hs=>by
                 have:z=H:=(by simp only[Value.ownBlock,Option.some.injEq]at d;exact d.symm);rw[this]at hs;exact o8 hs))
                have H3:D.cell? ⟨H,g*4,none⟩=some (.slice g7 b5 g8):=(by rw[bP (w:=wc) (V.out.block H w1 o8)];exact e0);have I0:=fun z=>m0.out.frozenAt z;obtain⟨R9,s6⟩:=zE (eO m.vs (pB P q));rw[s6.out]at b3 r4 ⊢;clear c6 C4 a5 v9 r9 s4 e0;unfold bB;simp only[cP];refine aA ?_;go_wp2_with fail;refine⟨But.refl _ _,?_⟩;unfold bB;simp only[cP];refine aA ?_;go_wp2_with fail;refine⟨But.refl _ _,?_⟩;unfold bB;simp only[cP];refine aA ?_;go_wp2_with fail;go_roundw;case rel =>
                 have g4:But (fun z=>z=H) D (D.setCell ⟨H,g*4,none⟩ (.slice A9 R9.length f9)):=But.set (S:=fun z=>z=H) _ (p:=⟨H,g*4,none⟩) rfl _;have k7:But (fun z=>(Value.slice (some ⟨H,0,none⟩) n' c').ownBlock=some z\/m.vv.ownBlock=some z) wc (D.setCell ⟨H,g*4,none⟩ (.slice A9 R9.length f9)) :=
                  (V.out.wide (fun z d=>.inr (by unfold PM.vv;rw[k2.out,f4.out,k3.out];rw[<- a0.out]at d;exact d))).trans (g4.wide (fun z d=>.inl (by rw[d];rfl)))
                 have u6:∀z,((Value.slice (some ⟨H,0,none⟩) n' c').ownBlock=some z\/m.vv.ownBlock=some z)->l.heap.size+1<=z:=fun z d=>by
                  rcases d with d|d
                  . exact(cN b2.out.pt.own d).1
                  . exact(cN j1.out.own d).1
                 have w0:∀z,(Value.slice A9 R9.length f9).ownBlock=some z->m.vv.ownBlock=some z\/wc.heap.size<=z:=fun z d=>by
                  rcases r4.out z d with h|h
                  . left;unfold PM.vv;rw[k2.out,f4.out,k3.out];exact h
                  . right;have:=A0.out;omega
                 have o5:=b2.out.pt.set a8.out.1 (A1:=A9) (n1:=R9.length) (c1:=f9) (vs:=R9) (by
                  rw[<- aB9 PM.cs_len (u:=.slice A9 R9.length f9) (j:=0) ms' g m a8.out.1 (by omega) rfl];exact(m0.out.stored _ _).1)
                  (fB b3.out g4 (fun z d e=>fV b3.out m0.out (by decide) d (by rw[e];rfl))) rfl k7 w0
                 have c7:FC.at_ ⟨N,k,a,b,xa,fa,Aa,t,ca,xb,fb,Ab,u,cb,some ⟨T,op,none⟩,P,l.heap.size,w⟩ ⟨L,K,M⟩=F:=f5.out;refine⟨q+1,b6,some ⟨d7,ok,none⟩,ck',by omega,by go_num,rfl,w2,Z ⟨some ⟨H,0,none⟩,n',c',ms'.set g { m with A1:=A9,n1:=R9.length,c1:=f9,vs:=R9 },e8,t2.out.but k7 (fun z d=>by have:=u6 z d;dsimp only;omega),h9.out.but k7 (fun d=>by have:=u6 _ d;omega),?_,?_,r3.out,by omega⟩⟩
                 . refine b2.out.step o5 (k7.wide (fun z d=>?_)) (fun z d=>.inl d) (fun c9 E z d=>?_) (fun c9 E=>?_)
                   . rcases d with d|d
                     . exact .inl d
                     . exact .inr (.inl ⟨m,aJ a8.out.1,d⟩)
                   . rcases List.mem_or_eq_of_mem_set E with h|h
                     . exact .inl ⟨c9,h,d⟩
                     . subst h;rcases w0 z d with e|e
                       . exact .inl ⟨m,aJ a8.out.1,e⟩
                       . exact .inr e
                   . rcases List.mem_or_eq_of_mem_set E with h|h
                     . exact .inl ⟨c9,h,rfl,rfl⟩
                     . subst h;exact .inl ⟨m,aJ a8.out.1,rfl,rfl⟩
                 . have C8:(eZ (FC.at_ ⟨N,k,a,b,xa,fa,Aa,t,ca,xb,fb,Ab,u,cb,some ⟨T,op,none⟩,P,l.heap.size,w⟩) (P.take (q+1)))[g]?=some F:=(by have h1:=bU0 (ro:=FC.at_ ⟨N,k,a,b,xa,fa,Aa,t,ca,xb,fb,Ab,u,cb,some ⟨T,op,none⟩,P,l.heap.size,w⟩) m3.out (by rw[c7];exact f7.out);rw[c7,<- s3.out]at h1;have h2:(ms'.map PM.pr)[g]?=some m.pr:=(by rw[cE,a8.out.1];rfl);rw[h1,cE,Option.map_eq_some_iff]at h2;obtain⟨r,hr,e⟩:=h2;have e2:r=m.r:=congrArg Prod.snd e;rw[hr,e2,a8.out.2]);rw[aM6 (ro:=FC.at_ ⟨N,k,a,b,xa,fa,Aa,t,ca,xb,fb,Ab,u,cb,some ⟨T,op,none⟩,P,l.heap.size,w⟩) m3.out (by rw[c7];exact f7.out) (by rw[c7];exact C8),c7,<- s3.out];rw[<- s6.out];exact tG (f:=fun z=>(eO z.1 (pB P q),z.2)) a8.out.1 rfl
                case measure=>simp[intOf];omega
        . obtain rfl:q=P.length:=(by omega);obtain⟨A,n,c,ms,ks,a3⟩:=O.out;have c4:aT wr l 71 #[xa,zF,.slice A n c]:=a3.bo;have g3:aT wr (w.heap.size+2) 71 zR:=a3.s0.br;have H8:w.heap.size+3<=l.heap.size:=a3.s0.hs.1;have w7:tN xa false (ms.map PM.pr)=l2:=(by rw[a3.pr,s9.out];congr 1;exact aM7 q7.out _);have y7:Hid (uB (l.heap.size+1) wr wr xa false A n c l2):=(by rw[<- w7];exact Z (a3.st.pt.region2 xa false));have L0:=g3.cell;have K9:=c4.cell;have x5:=(bY (a':=.int .i64 xa) (b':=zF) (c':=.slice A n c) g3).cell;have J8:=(g3.set_ 0 xa).cell;have J9:=((g3.set_ 0 xa).set_ 1 zF).cell;obtain⟨H4,H5,H6⟩:=bF g3 xa zF;have y5:Hid (Below w w _):=Z (bD a3.s0.bel (show w.heap.size<=w.heap.size+2 by omega) xa zF (.slice A n c));have y8:Hid (uB w (cO wr (w.heap.size+2) xa zF (.slice A n c)).heap.size (cO wr (w.heap.size+2) xa zF (.slice A n c)) xa false A n c l2) :=
           Z ((y7.out.keep fun z h1 h2=>(bJ wr (w.heap.size+2) _ _ _).block z h2 (by omega)).wide (by omega) (by rw[kW];exact aD _))
          unfold cO at x5;clear w7 g3 c4 a3 O;go_wp2;exact aF (v:=.agg #[xa,zF,.slice A n c]) (by simp[results,Tryz.results198,go_sem,x5]) rfl ⟨xa,false,A,n,c,rfl,y8.out,y5.out⟩
theorem aJ0 (k:Int):∀N,N<=12->aQ2 N k
 |0,_=>bE6 k
 |N+1,h=>bE7 N k (aJ0 k N (by omega)) h
theorem aC2 (A:Option Addr)(n c:Nat)(ps:List iM)(w:World)(hs:SetsS w A n ps)(hn:n<=12) :
 Calls Tryz.prog 190 #[.slice A n c] w fun e w'=>∃(x:Int) (f:Bool) (A':Option Addr) (n' c':Nat),e=.returned (.agg #[x,.bool f,.slice A' n' c'])/\RgS w' x f A' n' c' (iE (ps.map (·.2)))/\Below w w w':=by
 obtain⟨i0,hi,e0,e2,e3⟩:=info_parts nJ;have a0:=Z hs;have a3:=Z hs.sl.len;clear hs;go_enter Tryz.func190,Tryz.ntmps190;go_wp2;go_loopw [4] (fun i wr=>∃(k:Nat) (z:Int) (x:Int) (f:Bool) (A':Option Addr) (n' c':Nat),k<=n/\i=.int .i64 z/\Hid (z=(k:Int)-1)/\aT wr (w.heap.size+1) 71 #[x,.bool f,.slice A' n' c']/\aT wr w 71 zR/\Hid (RgS wr x f A' n' c' (iE ((ps.map (·.2)).drop k)))/\Below w w wr) (fun i _=>(intOf i+1).toNat);case atStart =>
  refine⟨n,(n:Int)-1,0,true,none,0,0,by omega,rfl,rfl,?_,?_,?_,?_⟩
  . have:=aT.new (w.alloc (.cells zR 71)) 71 #[zO,zT,zN];rw[aX]at this;exact this
  . exact(aT.new w _ _).alloc _
  . show RgS _ _ _ _ _ _ _;rw[List.drop_eq_nil_of_le (by rw[List.length_map,a3.out];omega)];exact RgS.nil _ _
  . exact((aB _ _).alloc (aD _) _).alloc (by simp) _
 case round =>
  obtain⟨k,z,x,f,A',n',c',hk,rfl,E,r,u,m,hb⟩:=hrel;have g1:=r.cell;have hlt:=r.lt;rcases Nat.eq_zero_or_pos k with O|O
  . obtain rfl:z = -1:=(by have:=E.out;omega);have g0:=u.cell;obtain⟨a4,a5,a6⟩:=bF u x (.bool f);have T:Hid (aT _ _ _ #[x,zF,zN]):=Z (u.set_ 0 x);have U:Hid (aT _ _ _ #[x,.bool f,zN]):=Z (T.out.set_ 1 (.bool f));have F3:Hid (aT _ _ _ #[x,.bool f,.slice A' n' c']):=Z (U.out.set_ 2 (.slice A' n' c'));have y1:=T.out.cell;have y2:=U.out.cell;have y3:=F3.out.cell;have b8:=Z (bD hb (aD _) x (.bool f) (.slice A' n' c'));have c0:=Z (RgS.off u (bJ wr w x (.bool f) (.slice A' n' c')) m.out);go_wp2;refine aF (v:=.agg #[x,.bool f,.slice A' n' c']) (by simp[results,Tryz.results190,go_sem,y3]) rfl ⟨x,f,A',n',c',rfl,?_,b8.out⟩;have:=c0.out;rw[O,List.drop_zero]at this;exact this
  . obtain⟨j,rfl⟩:∃j:Nat,z=(j:Int):=⟨k-1,by have:=E.out;omega⟩;obtain rfl:k=j+1:=(by have:=E.out;omega);clear E O;obtain⟨b,o,p,rfl,hp,b5⟩:=a0.out.sl.at (show j<n by omega);have Q:=a0.out.ok p (aJ hp);have Hd:Hid ((ps.map (·.2)).drop j=p.2::(ps.map (·.2)).drop (j+1)):=(by show _=_;rw[eL (k:=j) (x:=p.2) (by rw[cE,hp];rfl)]);have hx:x=((n-(j+1):Nat):Int):=(by have h1:=m.out.hw;rw[aD9]at h1;have:=a3.out;simp at h1;omega);have f9:0<=x/\x<=12:=(by omega);clear hx;have e1:=aW ((aC hb).trans (aM wr (.cells #[.int .i64 (x+1),zF,zN] 71))) (b5 0 _ rfl);obtain⟨⟨A1,n1,c1⟩,l⟩:=p;dsimp only[mG]at e1 Q;simp only[Nat.mul_one,bX]at e1;have s:=Z Q;clear hp b5 Q;have L:=Z (r.alloc (.cells #[.int .i64 (x+1),zF,zN] 71));have a1:=Z (u.alloc (.cells #[.int .i64 (x+1),zF,zN] 71));have b9:=Z (aT.new wr 71 #[.int .i64 (x+1),zF,zN]);have R:=L.out.cell;have J:=Z ((aB wr wr).alloc (aD _) (.cells #[.int .i64 (x+1),zF,zN] 71));by_cases b3:n1=0
    . have g2:decide (0<n1)=false:=(by simp[b3]);have b4:¬wr.heap.size=w.heap.size+1:=(by omega);have b1:=L.out.free;obtain⟨a4,a5,a6⟩:=bF r (.int .i64 (x+1)) zF;have e7:=(((r.set_ 0 (.int .i64 (x+1))).set_ 1 zF).alloc (.cells #[.int .i64 (x+1),zF,zN] 71)).free;have e8:=(((r.set_ 0 (.int .i64 (x+1)))).alloc (.cells #[.int .i64 (x+1),zF,zN] 71)).free;have c4:Hid (l=[]):=aR (by have:=s.out.2.2.len;omega);clear b3;go_wp2;go_roundw;case rel=>refine⟨j,_,x+1,false,none,0,0,by omega,rfl,rfl,(bY r).alloc _,(u.but (bJ wr _ _ _ _) (by omega)).alloc _,?_,(bD hb (by omega) _ _ _).alloc (bD hb (by omega) _ _ _).size _⟩;show RgS _ _ _ _ _ _ _;rw[Hd.out,kP,c4.out,m.out.hw];exact RgS.nil _ _
      case measure=>simp[intOf]
    . have g2:decide (0<n1)=true:=(by simp;omega);go_wp2_with fail;refine(wO x f A' n' c' _ _ (m.out.keep (aC J.out))).mono ?_;rintro e d ⟨rfl,hb1⟩;obtain⟨v1,M⟩:=zE ((iE ((ps.map (·.2)).drop (j+1))).nix);rw[M.out];have D:=Z e1;clear R e1;have q:=Z (L.out.below hb1);have K:=Z (b9.out.below hb1);have R:=q.out.cell;have e4:=K.out.cell;have b1:=q.out.free;cases v1
      . have d9:=hb1.size;simp only[aX]at d9;have G:=cC1 J.out hb1;have d7:b<d.heap.size:=(by have h:=gS (w:=wr.alloc (.cells #[.int .i64 (x+1),zF,zN] 71)) (a:=⟨b,o+j,none⟩) (by rw[D.out];rfl);simp only[aX]at h;omega);have I:=Z G;have b7:=Z hb1;have f2:=s.out.2.1;go_upto_region 7 with fail;refine bQ (fun _=>False) (.one [0,1,2,3,5] 4 (.one [] 6 (.one [] 7 (.fin [8] 9)))) ?_;have e5:∀(y:LaterS (fun _=>False) d.drew),(dG (fun _=>False) d.drew y).cell? ⟨b,o+j,none⟩=some (.slice A1 n1 c1):=fun y=>(by rw[bP (w:=d.drew) (y.but.block b d7 (fun h=>h))];show d.cell? _=_;rw[aC hb1 _ (by rw[D.out];rfl)];exact D.out);have e6:∀(y:LaterS (fun _=>False) d.drew) z,(dG (fun _=>False) d.drew y).cell? ⟨w.heap.size+1,z,none⟩=(#[x,.bool f,.slice A' n' c']:Array Value)[z]?:=fun y z=>(q.out.drew.but y.but (fun h=>h)).cell z;have a8:=(s.out.2.2.keep (aC (cC1 hb G))).keep (aC (aB d d).drew);have W:Hid (kH d.drew A1 n1 l):=Z a8;have a2:Hid (aT d.drew _ _ _):=Z q.out.drew;have X:Hid (aT d.drew _ _ _):=Z K.out.drew;have b0:Below d d d.drew:=(aB _ _).drew;have V:=Z b0;have f8:d.drew.heap.size=d.heap.size:=rfl;generalize hW:d.drew=b6 at *;clear hW a8 hb1 b0 R e4 b1 q K D;unfold bB;simp only[cP];repeat(go_big_quiet_step (fail))
        refine aA ?_;clear e5 e6;go_wp2_with (at_builtin;refine gG (cs:=Iv.cs) b6 (by rfl) _ (.tmp 32) _ (by rfl) b6 187 i0 _ 7 72 Tryz.underlying139 hi e0 e2 e3 (by rfl) (by omega) zN 0 [] (by rfl) ⟨by simp,.inl ⟨rfl,rfl⟩⟩ A1 n1 c1 l (by rfl) W.out s.out.1.2 Iv.cs_len iL (by simp only[maxLen];omega) (by omega) (aD _) ?_;intro A2 c2 g P b2 c5 d6 d8;simp only[Nat.zero_add,List.nil_append]at P ⊢);have C:=mW b2;refine⟨But.of_below C,?_⟩;have B:Hid (Below d d g):=Z (cC1 V.out C);have T2:=Z (a2.out.below C);have F:=Z (X.out.below C);have f7:=B.out.size;have Y:=Z P;clear P b2 c5 d6 d8 C W a2 X V;unfold bB;simp only[cP];refine aA ?_;go_wp2_with fail;refine⟨But.refl _ _,?_⟩;unfold bB;simp only[cP];refine aA ?_;go_wp2_with fail;refine⟨But.alloc _ _,?_⟩;have e9:=(F.out.alloc (.cells #[.slice A2 n1 c2,x,.bool f,.slice A' n' c'] 141)).free;have f0:=(F.out.alloc (.cells #[.slice A2 n1 c2,x,.bool f,.slice A' n' c'] 141)).cell;have c7:¬w.heap.size+1=wr.heap.size:=(by omega);have N3:=Z ((F.out.alloc (.cells #[.slice A2 n1 c2,x,.bool f,.slice A' n' c'] 141)).set_ 2 (.slice (some ⟨g,0,none⟩) 1 1));have t:=Z ((T2.out.alloc (.cells #[.slice A2 n1 c2,x,.bool f,.slice A' n' c'] 141)).far (p:=⟨wr,2,none⟩) c7 (.slice (some ⟨g,0,none⟩) 1 1));have N:Hid (aT _ _ _ #[.int .i64 (x+1),.bool f,.slice A' n' c']):=Z (t.out.set_ 0 (.int .i64 (x+1)));have T5:Hid (aT _ _ _ #[.int .i64 (x+1),zF,.slice A' n' c']):=Z (N.out.set_ 1 zF);have N4:Hid (aT _ _ _ #[.int .i64 (x+1),zF,.slice (some ⟨g,0,none⟩) 1 1]):=Z N3.out;unfold bB;simp only[cP];repeat(go_big_quiet_step (fail))
        refine aA ?_;have f1:=N4.out.cell;have f4:=t.out.free;have f5:=N.out.free;have f6:=T5.out.free;have f3:=t.out.cell;have hq1:=N.out.cell;have hq2:=T5.out.cell;go_wp2;go_roundw;case rel =>
         have P2:=(aT.new g 141 #[.slice A2 n1 c2,x,.bool f,.slice A' n' c']).far (p:=⟨wr,2,none⟩) (by dsimp only;omega) (.slice (some ⟨g,0,none⟩) 1 1);have a7:But (· = wr.heap.size) (g.alloc (.cells #[.slice A2 n1 c2,x,.bool f,.slice A' n' c'] 141)) ((g.alloc (.cells #[.slice A2 n1 c2,x,.bool f,.slice A' n' c'] 141)).setCell ⟨wr,2,none⟩ (.slice (some ⟨g,0,none⟩) 1 1)):=But.set (S:=fun k=>k=wr.heap.size) _ (p:=⟨wr,2,none⟩) rfl _;have a9:=F.out.alloc (.cells #[.slice A2 n1 c2,x,.bool f,.slice A' n' c'] 141);have c8:=((cC3 (cs:=Iv.cs) Iv.cs_len s.out.2.2.len Y.out).keep (aM g (.cells #[.slice A2 n1 c2,x,.bool f,.slice A' n' c'] 141)));have c9:=kH.off a9 a7 c8;have d2:=((m.out.keep (aC I.out)).keep (aC B.out)).keep (aM g (.cells #[.slice A2 n1 c2,x,.bool f,.slice A' n' c'] 141));have d3:=RgS.off a9 a7 d2;have H:=bJ ((g.alloc (.cells #[.slice A2 n1 c2,x,.bool f,.slice A' n' c'] 141)).setCell ⟨wr,2,none⟩ (.slice (some ⟨g,0,none⟩) 1 1)) (w.heap.size+1) (.int .i64 (x+1)) zF (.slice (some ⟨g,0,none⟩) 1 1);have d0:=kH.off t.out H c9;have d4:=RgS.off t.out H d3;have d1:=P2.but H (by omega);have c6:=((cC1 (cC1 hb I.out) B.out).alloc (cC1 (cC1 hb I.out) B.out).size (.cells #[.slice A2 n1 c2,x,.bool f,.slice A' n' c'] 141)).setCell (p:=⟨wr,2,none⟩) (by dsimp only;omega) (.slice (some ⟨g,0,none⟩) 1 1);have d5:=((((a1.out.below b7.out).below B.out).alloc (.cells #[.slice A2 n1 c2,x,.bool f,.slice A' n' c'] 141)).far (p:=⟨wr,2,none⟩) (by dsimp only;omega) (.slice (some ⟨g,0,none⟩) 1 1)).but H (by omega);refine⟨j,_,x+1,false,some ⟨g,0,none⟩,1,1,by omega,rfl,rfl,bY t.out,d5,?_,bD c6 (by omega) _ _ _⟩;show RgS _ _ _ _ _ _ _;have b4:l.isEmpty=false:=by
          have:=s.out.2.2.len;cases l with
          |nil=>simp at this;omega
          |cons y l=>rfl
         rw[Hd.out,kP,M.out,m.out.hw,b4];exact RgS.one d1 (hP Y.out) d0 d4 _
        case measure=>simp[intOf]
      . obtain⟨a4,a5,a6⟩:=bF q.out (.int .i64 (x+1)) zF;have c3:=Z (a1.out.below hb1);go_wp2;go_roundw;case rel=>have G:=cC1 hb (cC1 J.out hb1);refine⟨j,_,x+1,false,none,0,0,by omega,rfl,rfl,bY q.out,c3.out.but (bJ d _ _ _ _) (by omega),?_,bD G (by omega) _ _ _⟩;show RgS _ _ _ _ _ _ _;rw[Hd.out,kP,M.out,m.out.hw];simp only[Bool.not_true,Bool.and_false,Bool.false_eq_true,if_false];exact RgS.nil _ _
        case measure=>simp[intOf]
theorem bY6 (A:Option Addr)(n c:Nat)(ps:List iM)(w:World)(hs:SetsS w A n ps) :
 Calls Tryz.prog 226 #[.slice A n c] w fun e w'=>gU w (mE (ps.map (·.2))) (kQ (ps.map (·.2))) e w':=by
 have G:=Z hs;have t:=Z hs.sl.len;clear hs;have M:=Z (aT.new w 71 zR);have D:=Z ((aB w w).alloc (aD _) (.cells zR 71));generalize S:kQ (ps.map (·.2))=J;generalize T:mE (ps.map (·.2))=K;have d:=Z S;have F:=Z T;clear S T;rcases Nat.lt_or_ge 12 n with a0|a0
 . have g1:decide (12<n)=true:=(by simp;omega);have e1:J=1:=(by rw[<- d.out];simp[kQ,t.out];omega);have e2:K=cQ:=(by rw[<- F.out];simp[mE,d.out,e1]);subst e1 e2;go_enter Tryz.func226,Tryz.ntmps226;go_wp2;refine aF (v:=.tuple #[.agg zR,(1:Int)]) (by simp[results,Tryz.results226,go_sem]) rfl ⟨0,false,none,0,0,rfl,RgS.nil _ _,?_⟩;repeat(first|exact D.out|exact aB _ _|refine bC ?_ (by simp) _|refine cG ?_ (by simp) _)
 . have g1:decide (12<n)=false:=(by simp;omega);obtain⟨W0,O⟩:∃W:World,Hid (w.alloc (.cells zR 71)=W):=⟨_,rfl⟩;rw[O.out]at M D;go_enter Tryz.func226,Tryz.ntmps226;go_wp2;go_loopw [12] (fun i wr=>∃k:Nat,k<=n/\i=.int .i64 (k:Int)/\Hid (∀p∈ps.take k,cM p.2=true)/\Below W0 W0 wr) (fun i _=>n-(intOf i).toNat);case atStart=>exact⟨0,by omega,rfl,(by show ∀p∈_,_;simp),by rw[O.out];exact aB _ _⟩
   case round =>
    obtain⟨k,hk,rfl,Q,hb⟩:=hrel;have m:=cC1 D.out hb;have r:=Z (M.out.below hb);have B:=r.out.cell;obtain⟨u,y,z⟩:=bF r.out zO zF;by_cases hlt:k<n
    . obtain⟨b,o,p,rfl,hp,R⟩:=(G.out.keep (aC m)).sl.at hlt;have I:=(G.out.keep (aC m)).ok p (aJ hp);have e1:=R 0 _ rfl;have N:=Z hp;obtain⟨⟨A1,n1,c1⟩,l⟩:=p;dsimp only[mG]at e1 I;simp only[Nat.mul_one,bX]at e1;have V:=Z I;clear hp R I;go_wp2_with fail;refine(uN A1 n1 c1 l _ V.out.2.2).mono ?_;rintro e U ⟨rfl,hb1⟩;obtain⟨v,H⟩:=zE (cM l);rw[H.out];have a:=Z (r.out.below hb1);clear B u y z e1;have B:=a.out.cell;cases v
      . have e1:J=30:=(by rw[<- d.out];exact aE1 (s:=l) (by simp[t.out];omega) (List.mem_map.2 ⟨_,aJ N.out,rfl⟩) H.out);have e2:K=cQ:=(by rw[<- F.out];simp[mE,d.out,e1]);subst e1 e2;obtain⟨u,y,z⟩:=bF a.out zO zF;have g:Hid (aT _ _ _ zR):=Z (a.out.set_ 0 zO);have j:Hid (aT _ _ _ zR):=Z (g.out.set_ 1 zF);have C:Hid (aT _ _ _ zR):=Z (j.out.set_ 2 zN);have y1:=g.out.cell;have y2:=j.out.cell;have L:=C.out.cell;have E:=Z (bD (cC1 m hb1) (aD _) zO zF zN);go_wp2;refine aF (v:=.tuple #[.agg zR,(30:Int)]) (by simp[results,Tryz.results226,go_sem,L]) rfl ⟨0,false,none,0,0,rfl,RgS.nil _ _,E.out⟩
      . go_wp2;go_roundw;case rel =>
         refine⟨k+1,by omega,by go_num,?_,cC1 hb hb1⟩;show ∀p∈_,_;rw[cU N.out];intro q hq;rcases List.mem_append.1 hq with hq|hq
         . exact Q.out q hq
         . have:q=((A1,n1,c1),l):=(by simpa using hq);rw[this];exact H.out
        case measure=>simp[intOf];omega
    . have e1:J=0:=(by rw[<- d.out];have h1:=Q.out;rw[bW (by have:=t.out;omega)]at h1;unfold kQ;rw[if_neg (by simp[t.out];omega),if_pos];rw[List.all_eq_true];intro s hs;obtain⟨q,hq,rfl⟩:=List.mem_map.1 hs;exact h1 q hq);have e2:iE (ps.map (·.2))=K:=(by rw[<- F.out];simp[mE,d.out,e1]);subst e1 e2;clear u y z;go_wp2_with fail;refine(aC2 A n c ps _ (G.out.keep (aC m)) (by omega)).mono ?_;rintro e U ⟨x,f,A',n',c',rfl,P,hb1⟩;have a:=Z (r.out.below hb1);clear B;have B:=a.out.cell;have X:=Z P;clear P;obtain⟨u,y,z⟩:=bF a.out x (.bool f);have g:Hid (aT _ _ _ #[x,zF,zN]):=Z (a.out.set_ 0 x);have j:Hid (aT _ _ _ #[x,.bool f,zN]):=Z (g.out.set_ 1 (.bool f));have C:Hid (aT _ _ _ #[x,.bool f,.slice A' n' c']):=Z (j.out.set_ 2 (.slice A' n' c'));have y1:=g.out.cell;have y2:=j.out.cell;have L:=C.out.cell;have E:=Z (bD (cC1 m hb1) (aD _) x (.bool f) (.slice A' n' c'));have Y:=Z (RgS.off a.out (bJ U w x (.bool f) (.slice A' n' c')) X.out);go_wp2;refine aF (v:=.tuple #[.agg #[x,.bool f,.slice A' n' c'],zO]) (by simp[results,Tryz.results226,go_sem,L]) rfl ⟨x,f,A',n',c',rfl,Y.out,E.out⟩
theorem aC3 (x:Int)(w:World):Calls Tryz.prog 141 #[x] w fun e w'=>gU w (if 0<=x/\x<=12 then .nil x false else cQ) (if 0<=x/\x<=12 then 0 else 1) e w':=by
 have c:∀v:Value,Below w w (w.alloc (.cells #[v,zF,zN] 71)):=fun v=>(aB _ _).alloc (aD _) _;rcases cD x 0 with h0|h0
 . have a:decide (x<0)=true:=(by simp;omega);rw[if_neg (by omega),if_neg (by omega)];go_enter Tryz.func141,Tryz.ntmps141;go_wp2;refine aF (v:=.tuple #[.agg zR,(1:Int)]) (by simp[results,Tryz.results141,go_sem]) rfl ⟨0,false,none,0,0,rfl,RgS.nil _ _,?_⟩;repeat(first|exact aB _ _|refine bC ?_ (by simp) _|refine cG ?_ (by simp) _)
 . have a:decide (x<0)=false:=(by simp;omega);rcases cD 12 x with h1|h1
   . have b:decide (12<x)=true:=(by simp;omega);rw[if_neg (by omega),if_neg (by omega)];go_enter Tryz.func141,Tryz.ntmps141;go_wp2;refine aF (v:=.tuple #[.agg zR,(1:Int)]) (by simp[results,Tryz.results141,go_sem]) rfl ⟨0,false,none,0,0,rfl,RgS.nil _ _,?_⟩;repeat(first|exact aB _ _|refine bC ?_ (by simp) _|refine cG ?_ (by simp) _)
   . have b:decide (12<x)=false:=(by simp;omega);rw[if_pos ⟨h0,h1⟩,if_pos ⟨h0,h1⟩];go_enter Tryz.func141,Tryz.ntmps141;go_wp2;refine aF (v:=.tuple #[.agg #[x,zF,zN],zO]) (by simp[results,Tryz.results141,go_sem]) rfl ⟨x,false,none,0,0,rfl,RgS.nil _ _,?_⟩;repeat(first|exact aB _ _|refine bC ?_ (by simp) _|refine cG ?_ (by simp) _)
abbrev aF1:Bool→Bool→Bool:=uX true true true
theorem bD9 (a:Rg)(xa:Int)(fa:Bool)(Aa:Option Addr)(na ca:Nat)(b:Rg)(xb:Int)(fb:Bool)(Ab:Option Addr)(nb cb:Nat)(w:World)(p:RgS w xa fa Aa na ca a)(q:RgS w xb fb Ab nb cb b)(r:kD a)(s:kD b) :
 Calls Tryz.prog 43 #[.agg #[xa,.bool fa,.slice Aa na ca],.agg #[xb,.bool fb,.slice Ab nb cb]] w fun e w'=>gU w (cX aF1 a b) (dY aF1 a b) e w':=by
 obtain⟨D,m⟩:=zE (dY aF1 a b);obtain⟨H,o⟩:=zE (cX aF1 a b);rw[m.out,o.out];have u:=Z p;have HB:=Z q;have l:=Z (And.intro r s);clear p q r s;obtain⟨W0,i⟩:∃W:World,Hid (((w.alloc (.cells #[xa,.bool fa,.slice Aa na ca] 71)).alloc (.cells #[xb,.bool fb,.slice Ab nb cb] 71)).alloc (.cells zR 71)=W):=⟨_,rfl⟩;have k:Hid (aT W0 (w.heap.size+2) 71 zR):=by rw[<- i.out];exact Z (aT.step (by simp))
 have g:Hid (Below w w W0):=by rw[<- i.out];exact Z ((((aB _ _).alloc (aD _) _).alloc (by simp) _).alloc (by simp;omega) _)
 go_enter Tryz.func43,Tryz.ntmps43;go_wp2_with fail;rw[i.out];refine(qM true true true a xa fa Aa na ca b xb fb Ab nb cb _ (u.out.keep (aC g.out)) (HB.out.keep (aC g.out)) l.out.1 l.out.2).mono ?_;rintro e I ⟨x,f,A,n,c,rfl,j,hb1⟩;rw[m.out];rw[o.out]at j;have d:=Z (k.out.below hb1);have y:=Z (cC1 g.out hb1);have B:=Z j;clear hb1 j k g;have z3:=d.out.cell;obtain⟨E,F,G⟩:=bF d.out x (.bool f);have t:=(bY (a':=.int .i64 x) (b':=.bool f) (c':=.slice A n c) d.out).cell;have J:=(d.out.set_ 0 x).cell;have K:=((d.out.set_ 0 x).set_ 1 (.bool f)).cell;have z:=Z (bD y.out (show w.heap.size<=w.heap.size+2 by omega) x (.bool f) (.slice A n c));have C:=Z (RgS.off d.out (bJ _ (w.heap.size+2) x (.bool f) (.slice A n c)) B.out);unfold cO at t;go_wp2;exact aF (v:=.tuple #[.agg #[x,.bool f,.slice A n c],D]) (by simp[results,Tryz.results43,go_sem,t]) rfl ⟨x,f,A,n,c,rfl,C.out,z.out⟩
theorem bG1:∀l:List (List Iv),(∀s∈l,cM s=true)->eI l.length (iE l)/\(iE l).fits=true/\(iE l).size<=l.length
 |[],_=>⟨⟨rfl,rfl⟩,rfl,by simp[iE,Rg.size]⟩
 |
  s::l,h=>by
  obtain⟨b,g,j⟩:=bG1 l (fun t i=>h t (aS _ i));have a:=h s aQ;have d:=aD9 l;unfold cM at a;rw[aI,decide_eq_true_eq]at a;rw[kP];split
  . rename_i hc;simp only[aI,Bool.not_eq_true']at hc;refine⟨⟨?_,rfl,fun p c=>?_,List.pairwise_singleton _ _⟩,?_,?_⟩
    . simp only[Rg.w,d];omega
    . rw[show(Rg.cons s (iE l) (.nil ((iE l).w+1) false)).parts=[(s,iE l)]from rfl,bU]at c;subst c;exact⟨fun e=>by have b:s=[]:=e;rw[b]at hc;simp at hc,a.2,b,hc.2⟩
    . simp only[Rg.fits,g,Bool.and_true,decide_eq_true_eq];exact a.1
    . simp only[Rg.size,bL];omega
  . refine⟨?_,rfl,by simp[Rg.size]⟩;have:=vF (l.length+1);rw[bL,d];simpa using this
theorem bG0:∀l:List (List Iv),(∀s∈l,∀x∈s,pV x.f/\pV x.t)->kD (iE l)
 |[],_=>trivial
 |
  s::l,h=>by
  rw[kP];split
  . exact⟨h s aQ,bG0 l (fun t a=>h t (aS _ a)),trivial⟩
  . trivial
theorem op_ok {op:Bool->Bool->Bool}{a b:Rg}(h:dY op a b=0):nR (cX op a b)/\cX op a b=comb op a.w.toNat a b/\nR a/\nR b/\a.w=b.w/\dP (comb op a.w.toNat a b):=by
 have d:cX op a b=comb op a.w.toNat a b:=by rw[cX,if_pos h]
 unfold dY at h;split at h
 . rename_i hc;simp only[aI,decide_eq_true_eq,fR]at hc;obtain⟨⟨c,hb⟩,g⟩:=hc;split at h
   . rename_i hi;have e:=lC op a.w.toNat a b c.2.2.2.1 (by rw[g];exact hb.2.2.2.1);have i:=e.width;refine⟨?_,d,c,hb,g,hi⟩;rw[d];have j:=c.1;have k:=c.2.1;refine⟨by omega,by omega,hi.1,?_,hi.2⟩;rw[i,bM];exact e
   . cases h
 . cases h
theorem op_err {op:Bool->Bool->Bool}{a b:Rg}(c:nR a)(hb:nR b)(d:a.w=b.w):dY op a b=if (comb op a.w.toNat a b).size<=64/\(comb op a.w.toNat a b).fits=true then 0 else 2:=by
 rw[dY,if_pos];simp only[aI,decide_eq_true_eq,fR];exact⟨⟨c,hb⟩,d⟩
theorem bV4 {op:Bool->Bool->Bool}{a b:Rg}(c:kD a)(hb:kD b):kD (cX op a b):=by
 unfold cX;split
 . exact aO7 op _ a b c hb
 . trivial
abbrev kX:Bool→Bool→Bool:=uX true false false
abbrev aA1:Bool→Bool→Bool:=uX false true false
theorem bW0 (a b c:Bool):uX a b c false false=false:=rfl
def dO (n:Nat):Rg:=iE (List.replicate n lE)
theorem yW:cM lE=true:=by decide +kernel
theorem bX9 {v:Vl}(h:bT v=true):eP lE v=true:=by
 have d:1<=v.k/\(v.k=1->v.i=0/\v.t=⟨#[]⟩):=by
  unfold bT at h;constructor
  . rcases cD v.k 1 with a|a
    . exfalso
      repeat' split at h
      all_goals simp_all
      all_goals omega
    . exact a
  . intro e;simp[e]at h;refine⟨h.1,wB.2 ?_⟩;exact h.2
 unfold eP lE xL;simp only[List.any_cons,List.any_nil,Bool.or_false,Bool.true_or,Bool.and_true,decide_eq_true_eq];rw[show v=⟨v.k,v.i,v.t⟩from rfl,sF];rcases cD 1 v.k with a|a
 . have:vS 1 v.k = -1:=(by simp[vS,a]);rw[this];simp
 . have e:v.k=1:=(by omega);obtain⟨b,c⟩:=d.2 e;rw[e,b,c,lD,lD,sI];decide
theorem bZ4 {r:Rg}(h:r.nix=true)(a:List Vl):r.den a=false:=by
 obtain⟨b,c⟩:=(aV2 r).1 h;have:r=.nil r.w false:=Rg.ext rfl b c;rw[this];cases a<;>rfl
theorem aO5:∀(l:List (List Iv)) (a:List Vl),a.length=l.length->(iE l).den a=(l.zip a).all fun p=>eP p.1 p.2
 |
  [],a,h=>by
  obtain rfl:=aR h;rfl
 |s::l,[],h=>by cases h
 |
  s::l,v::a,h=>by
  have c:=aO5 l a (by simpa using h);rw[kP,List.zip_cons_cons,List.all_cons,<- c];split
  . simp only[Rg.den];cases eP s v<;>rfl
  . rename_i hc;show false=_;by_cases b:s=[]
    . subst b;rfl
    . have:(iE l).nix=true:=by
       cases hn:(iE l).nix
       . exfalso;apply hc;rw[hn];cases s with|nil=>exact absurd rfl b|cons=>rfl
       . rfl
      rw[bZ4 this,Bool.and_false]
theorem aZ8 (n:Nat):(dO n).w=(n:Int):=by unfold dO;rw[aD9,List.length_replicate]
theorem vV (n:Nat):eI n (dO n)/\(dO n).fits=true/\(dO n).size<=n:=by
 have:=bG1 (List.replicate n lE) (fun s a=>by rw[(List.mem_replicate.1 a).2];exact yW);rw[List.length_replicate]at this;exact this
theorem wW {n:Nat}(h:n<=12):nR (dO n):=by
 obtain⟨a,b,d⟩:=vV n;have c:=aZ8 n;exact⟨by omega,by omega,by omega,by rw[c,bM];exact a,b⟩
theorem aP9 (n:Nat):kD (dO n):=bG0 _ fun s b=>by
 rw[(List.mem_replicate.1 b).2];intro x a;simp only[lE,bU]at a;subst a;exact⟨⟨by decide,by decide⟩,⟨by decide,by decide⟩⟩
theorem vW {n:Nat}{b:List Vl}(h:jB n b):(dO n).den b=true:=by
 unfold dO;rw[aO5 _ _ (by rw[List.length_replicate,h.1])];rw[List.all_eq_true];intro p c;have a:=List.of_mem_zip c;rw[(List.mem_replicate.1 a.1).2];exact bX9 (h.2 _ a.2)
def bF5 (n:Nat) (a:Rg):Rg:=comb aA1 n (dO n) a
section
variable {n:Nat} {a b c:Rg} (fa:eI n a) (fb:eI n b) (fc:eI n c)
include fa
theorem yJ {b:List Vl}(h:jB n b):(bF5 n a).den b = !a.den b:=by
 unfold bF5;rw[aD0 _ (bW0 _ _ _) n _ _ (vV n).1 fa b h.1,vW h];cases a.den b<;>rfl
include fb
theorem aC7 (d e g:Bool){c:List Vl}(h:jB n c):(comb (uX d e g) n a b).den c=uX d e g (a.den c) (b.den c):=aD0 _ (bW0 _ _ _) n _ _ fa fb c h.1
include fc
end
theorem aB6 (a:Rg)(xa:Int)(fa:Bool)(Aa:Option Addr)(na ca:Nat)(b:Rg)(xb:Int)(fb:Bool)(Ab:Option Addr)(nb cb:Nat)(w:World)(p:RgS w xa fa Aa na ca a)(q:RgS w xb fb Ab nb cb b)(r:kD a)(s:kD b) :
 Calls Tryz.prog 42 #[.agg #[xa,.bool fa,.slice Aa na ca],.agg #[xb,.bool fb,.slice Ab nb cb]] w fun e w'=>gU w (cX kX a b) (dY kX a b) e w':=by
 obtain⟨D,m⟩:=zE (dY kX a b);obtain⟨H,o⟩:=zE (cX kX a b);rw[m.out,o.out];have u:=Z p;have HB:=Z q;have l:=Z (And.intro r s);clear p q r s;obtain⟨W0,i⟩:∃W:World,Hid (((w.alloc (.cells #[xa,.bool fa,.slice Aa na ca] 71)).alloc (.cells #[xb,.bool fb,.slice Ab nb cb] 71)).alloc (.cells zR 71)=W):=⟨_,rfl⟩;have k:Hid (aT W0 (w.heap.size+2) 71 zR):=by rw[<- i.out];exact Z (aT.step (by simp))
 have g:Hid (Below w w W0):=by rw[<- i.out];exact Z ((((aB _ _).alloc (aD _) _).alloc (by simp) _).alloc (by simp;omega) _)
 go_enter Tryz.func42,Tryz.ntmps42;go_wp2_with fail;rw[i.out];refine(qM true false false a xa fa Aa na ca b xb fb Ab nb cb _ (u.out.keep (aC g.out)) (HB.out.keep (aC g.out)) l.out.1 l.out.2).mono ?_;rintro e I ⟨x,f,A,n,c,rfl,j,hb1⟩;rw[m.out];rw[o.out]at j;have d:=Z (k.out.below hb1);have y:=Z (cC1 g.out hb1);have B:=Z j;clear hb1 j k g;have z3:=d.out.cell;obtain⟨E,F,G⟩:=bF d.out x (.bool f);have t:=(bY (a':=.int .i64 x) (b':=.bool f) (c':=.slice A n c) d.out).cell;have J:=(d.out.set_ 0 x).cell;have K:=((d.out.set_ 0 x).set_ 1 (.bool f)).cell;have z:=Z (bD y.out (show w.heap.size<=w.heap.size+2 by omega) x (.bool f) (.slice A n c));have C:=Z (RgS.off d.out (bJ _ (w.heap.size+2) x (.bool f) (.slice A n c)) B.out);unfold cO at t;go_wp2;exact aF (v:=.tuple #[.agg #[x,.bool f,.slice A n c],D]) (by simp[results,Tryz.results42,go_sem,t]) rfl ⟨x,f,A,n,c,rfl,C.out,z.out⟩
def aV5 (r:Rg):Int:=if r.size≤64∧r.fits=true then 0 else 2
def bX4 (r:Rg):Rg:=if aV5 r=0 then r else cQ
theorem aO3 (r:Rg)(x:Int)(f:Bool)(A:Option Addr)(n c:Nat)(w:World)(E:RgS w x f A n c r)(F:Sm r) :
 Calls Tryz.prog 197 #[.agg #[x,.bool f,.slice A n c]] w fun e w'=>gU w (bX4 r) (aV5 r) e w':=by
 obtain⟨j,g⟩:=zE (aV5 r);obtain⟨G,t⟩:=zE (bX4 r);rw[g.out,t.out];have y:Hid (j≠0->G=cQ):=Z (fun h=>by rw[<- t.out,bX4,if_neg (by rw[g.out];exact h)]);have O:Hid (j=0->G=r):=Z (fun h=>by rw[<- t.out,bX4,if_pos (by rw[g.out];exact h)]);have q:=Z E;have N:=Z F;clear E F;obtain⟨W0,s⟩:∃W:World,Hid ((w.alloc (.cells #[x,.bool f,.slice A n c] 71)).alloc (.cells zR 71)=W):=⟨_,rfl⟩;have p:Hid (aT W0 w 71 #[x,.bool f,.slice A n c]/\aT W0 (w.heap.size+1) 71 zR):=by rw[<- s.out];exact Z ⟨(aT.step rfl).alloc _,aT.step (by simp)⟩
 have m:Hid (Below w w W0):=by rw[<- s.out];exact Z (((aB _ _).alloc (aD _) _).alloc (by simp) _)
 go_enter Tryz.func197,Tryz.ntmps197;go_wp2_with fail;rw[s.out];refine(aC1 r x f A n c 0 _ (q.out.keep (aC m.out)) (by omega)).mono ?_;rintro e P ⟨rfl,hb1⟩;have k:=Z (cC1 m.out hb1);have d:=Z (p.out.2.below hb1);have l:=Z (p.out.1.below hb1);clear hb1 p m;by_cases hs:r.size<=64
 . have e1:tX 0 r=r.size:=(by rw[tX,if_pos (by omega)];omega);rw[e1];have D:decide (64<(r.size:Int))=false:=(by simp;omega);have J:=l.out.cell;go_wp2_with fail;refine(bQ5 r x f A n c _ (q.out.keep (aC k.out)) N.out).mono ?_;rintro e Q ⟨rfl,hb2⟩;have o:=Z (cC1 k.out hb2);have a:=Z (d.out.below hb2);have L:=Z (l.out.below hb2);obtain⟨v,u⟩:=zE (r.fits);rw[u.out];clear hb2 J k d l D;cases v
   . have e1:j=2:=(by rw[<- g.out];simp[aV5,u.out]);have e2:=y.out (by omega);subst e1 e2;have K:=a.out.cell;obtain⟨z,B,C⟩:=bF a.out zO zF;have b:=(bY (a':=zO) (b':=zF) (c':=zN) a.out).cell;have H:=(a.out.set_ 0 zO).cell;have I:=((a.out.set_ 0 zO).set_ 1 zF).cell;have i:=Z (bD o.out (show w.heap.size<=w.heap.size+1 by omega) zO zF zN);unfold cO at b;go_wp2;exact aF (v:=.tuple #[.agg zR,(2:Int)]) (by simp[results,Tryz.results197,go_sem,b]) rfl ⟨0,false,none,0,0,rfl,RgS.nil _ _,i.out⟩
   . have e1:j=0:=(by rw[<- g.out];simp[aV5,u.out,hs]);have e2:=O.out e1;subst e1 e2;have J:=L.out.cell;have M:=Z (RgS.off a.out (bJ _ (w.heap.size+1) x (.bool f) (.slice A n c)) (q.out.keep (aC o.out)));have K:=a.out.cell;obtain⟨z,B,C⟩:=bF a.out x (.bool f);have b:=(bY (a':=.int .i64 x) (b':=.bool f) (c':=.slice A n c) a.out).cell;have H:=(a.out.set_ 0 x).cell;have I:=((a.out.set_ 0 x).set_ 1 (.bool f)).cell;have i:=Z (bD o.out (show w.heap.size<=w.heap.size+1 by omega) x (.bool f) (.slice A n c));unfold cO at b;go_wp2;exact aF (v:=.tuple #[.agg #[x,.bool f,.slice A n c],zO]) (by simp[results,Tryz.results197,go_sem,b]) rfl ⟨x,f,A,n,c,rfl,M.out,i.out⟩
 . have e1:tX 0 r=65:=(by rw[tX,if_neg (by omega)]);rw[e1];have D:decide (64<((65:Nat):Int))=true:=(by decide);have e1:j=2:=(by rw[<- g.out];simp[aV5,hs]);have e2:=y.out (by omega);subst e1 e2;have K:=d.out.cell;obtain⟨z,B,C⟩:=bF d.out zO zF;have b:=(bY (a':=zO) (b':=zF) (c':=zN) d.out).cell;have H:=(d.out.set_ 0 zO).cell;have I:=((d.out.set_ 0 zO).set_ 1 zF).cell;have i:=Z (bD k.out (show w.heap.size<=w.heap.size+1 by omega) zO zF zN);unfold cO at b;go_wp2;exact aF (v:=.tuple #[.agg zR,(2:Int)]) (by simp[results,Tryz.results197,go_sem,b]) rfl ⟨0,false,none,0,0,rfl,RgS.nil _ _,i.out⟩
theorem op_lim (op:Bool->Bool->Bool){a b:Rg}(d:okB a=true)(hb:okB b=true)(e:a.w=b.w):dY op a b=aV5 (comb op a.w.toNat a b)/\cX op a b=bX4 (comb op a.w.toNat a b):=by
 have c:dY op a b=aV5 (comb op a.w.toNat a b):=by rw[dY,d,hb,decide_eq_true e];rfl
 exact⟨c,by rw[cX,c];rfl⟩
theorem vH (k:Int)(a:Rg)(xa:Int)(fa:Bool)(Aa:Option Addr)(na ca:Nat)(b:Rg)(xb:Int)(fb:Bool)(Ab:Option Addr)(nb cb:Nat)(w:World)(M:RgS w xa fa Aa na ca a)(N:RgS w xb fb Ab nb cb b) :
 Calls Tryz.prog 145 #[k,.agg #[xa,.bool fa,.slice Aa na ca],.agg #[xb,.bool fb,.slice Ab nb cb]] w fun e w'=>gU w (cX (iA k) a b) (dY (iA k) a b) e w':=by
 obtain⟨r,n⟩:=zE (dY (iA k) a b);obtain⟨b0,I⟩:=zE (cX (iA k) a b);rw[n.out,I.out];have H:Hid (r≠0->b0=cQ):=Z (fun h=>by rw[<- I.out,cX,if_neg (by rw[n.out];exact h)]);have X:=Z M;have HB:=Z N;have A:=M.hw;have B:=N.hw;clear M N;obtain⟨W0,G⟩:∃W:World,Hid (((w.alloc (.cells #[xa,.bool fa,.slice Aa na ca] 71)).alloc (.cells #[xb,.bool fb,.slice Ab nb cb] 71)).alloc (.cells zR 71)=W):=⟨_,rfl⟩;have x:Hid (aT W0 w 71 #[xa,.bool fa,.slice Aa na ca]/\aT W0 (w.heap.size+1) 71 #[xb,.bool fb,.slice Ab nb cb]/\aT W0 (w.heap.size+2) 71 zR):=by rw[<- G.out];exact Z ⟨((aT.step rfl).alloc _).alloc _,(aT.step (by simp)).alloc _,aT.step (by simp)⟩
 have E:Hid (Below w w W0):=by rw[<- G.out];exact Z ((((aB _ _).alloc (aD _) _).alloc (by simp) _).alloc (by simp;omega) _)
 obtain⟨b1,p⟩:=zE (okB a);obtain⟨b2,z⟩:=zE (okB b);go_enter Tryz.func145,Tryz.ntmps145;go_wp2_with fail;rw[G.out];refine(tV a xa fa Aa na ca _ (X.out.keep (aC E.out))).mono ?_;rintro e w1 ⟨rfl,hb1⟩;rw[p.out];have y:=Z (And.intro (x.out.1.below hb1) (x.out.2.1.below hb1));have i:=Z (x.out.2.2.below hb1);have u:=Z (cC1 E.out hb1);clear hb1 x E;cases b1
 . have e1:r=40:=(by rw[<- n.out];simp[dY,p.out]);have e2:=H.out (by omega);subst e1 e2;have V:=i.out.cell;obtain⟨J,K,L⟩:=bF i.out zO zF;have d:=(bY (a':=zO) (b':=zF) (c':=zN) i.out).cell;have T:=(i.out.set_ 0 zO).cell;have U:=((i.out.set_ 0 zO).set_ 1 zF).cell;have g:=Z (bD u.out (show w.heap.size<=w.heap.size+2 by omega) zO zF zN);unfold cO at d;go_wp2;exact aF (v:=.tuple #[.agg zR,(40:Int)]) (by simp[results,Tryz.results145,go_sem,d]) rfl ⟨0,false,none,0,0,rfl,RgS.nil _ _,g.out⟩
 . have D:=y.out.2.cell;go_wp2_with fail;refine(tV b xb fb Ab nb cb _ (HB.out.keep (aC u.out))).mono ?_;rintro e w2 ⟨rfl,hb2⟩;rw[z.out];have F:=Z (And.intro (y.out.1.below hb2) (y.out.2.below hb2));have c:=Z (i.out.below hb2);have l:=Z (cC1 u.out hb2);clear hb2 y i u D;have z1:=F.out.1.cell;have D:=F.out.2.cell;cases b2
   . have e1:r=40:=(by rw[<- n.out];simp[dY,z.out]);have e2:=H.out (by omega);subst e1 e2;clear z1 D;have V:=c.out.cell;obtain⟨J,K,L⟩:=bF c.out zO zF;have d:=(bY (a':=zO) (b':=zF) (c':=zN) c.out).cell;have T:=(c.out.set_ 0 zO).cell;have U:=((c.out.set_ 0 zO).set_ 1 zF).cell;have g:=Z (bD l.out (show w.heap.size<=w.heap.size+2 by omega) zO zF zN);unfold cO at d;go_wp2;exact aF (v:=.tuple #[.agg zR,(40:Int)]) (by simp[results,Tryz.results145,go_sem,d]) rfl ⟨0,false,none,0,0,rfl,RgS.nil _ _,g.out⟩
   . by_cases hw:xa=xb
     . have g1:(xa != xb)=false:=(by simp[hw]);have R:a.w=b.w:=(by rw[A,B,hw]);have a0:=Z (op_lim (iA k) p.out z.out R);have S:=uW (fR.1 p.out);have C:=uW (fR.1 z.out);have a9:a.w.toNat<=12:=(by have:=(fR.1 p.out).2.1;omega);rw[<- R]at C;have a1:=Z S;have a2:=Z C;have a8:=Z (yL (iA k) a.w.toNat a b S.2 C.2);clear hw S C R A B;go_wp2_with fail;refine(aJ0 k a.w.toNat a9 a b xa fa Aa na ca xb fb Ab nb cb _ (X.out.keep (aC l.out)) (HB.out.keep (aC l.out)) a1.out.1 a2.out.1 a1.out.2 a2.out.2).mono ?_;rintro e w3 ⟨x3,f3,A3,n3,c3,rfl,a4,P⟩;have a6:=Z a4.s;have a3:=Z (c.out.below P);have Y:=Z (cC1 l.out P);clear z1 D a4 P F c l;go_wp2_with fail;refine(aO3 _ x3 f3 A3 n3 c3 _ a6.out a8.out).mono ?_;rintro e w4 ⟨x4,j,o,t,q,rfl,O,Q⟩;rw[<- a0.out.1,n.out];rw[<- a0.out.2,I.out]at O;have m:=Z (a3.out.below Q);have a5:=Z (cC1 Y.out Q);have a7:=Z (RgS.off m.out (bJ _ (w.heap.size+2) x4 (.bool j) (.slice o t q)) O);clear O Q a3 Y;have V:=m.out.cell;obtain⟨J,K,L⟩:=bF m.out x4 (.bool j);have d:=(bY (a':=.int .i64 x4) (b':=.bool j) (c':=.slice o t q) m.out).cell;have T:=(m.out.set_ 0 x4).cell;have U:=((m.out.set_ 0 x4).set_ 1 (.bool j)).cell;have g:=Z (bD a5.out (show w.heap.size<=w.heap.size+2 by omega) x4 (.bool j) (.slice o t q));unfold cO at d;go_wp2;exact aF (v:=.tuple #[.agg #[x4,.bool j,.slice o t q],r]) (by simp[results,Tryz.results145,go_sem,d]) rfl ⟨x4,j,o,t,q,rfl,a7.out,g.out⟩
     . have g1:(xa != xb)=true:=(by simp[hw]);have e1:r=40:=(by rw[<- n.out];simp[dY,A,B,hw]);have e2:=H.out (by omega);subst e1 e2;clear A B;have V:=c.out.cell;obtain⟨J,K,L⟩:=bF c.out zO zF;have d:=(bY (a':=zO) (b':=zF) (c':=zN) c.out).cell;have T:=(c.out.set_ 0 zO).cell;have U:=((c.out.set_ 0 zO).set_ 1 zF).cell;have g:=Z (bD l.out (show w.heap.size<=w.heap.size+2 by omega) zO zF zN);unfold cO at d;go_wp2;exact aF (v:=.tuple #[.agg zR,(40:Int)]) (by simp[results,Tryz.results145,go_sem,d]) rfl ⟨0,false,none,0,0,rfl,RgS.nil _ _,g.out⟩
theorem opR_eq:iA 1=aF1/\iA 2=kX/\iA 3=aA1:=⟨by funext x y;cases x<;>cases y<;>rfl,by funext x y;cases x<;>cases y<;>rfl,by funext x y;cases x<;>cases y<;>rfl⟩
end Go.Proofs.YtnnmlhmffnfjfaaGreat
