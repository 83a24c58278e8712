/- Texts on which the walk stands. -/
import Derived.Test.YtnnmlhmffnfjfaaGreatC11
import Derived.OwnWalk
open Go renaming wpQuiet_nil → aA, bodyPost_ret → aF
open Go.RowKit.Below renaming refl → aB
open Nat renaming le_refl → aD, le_trans → bI
open Bool renaming and_eq_true → aI, eq_iff_iff → bV
open List renaming getElem?_eq_getElem → aN, flatMap_append → aP, eq_nil_of_length_eq_zero → aR, getD_eq_getElem?_getD → bG
open Int renaming toNat_natCast → bM, eq_ofNat_of_zero_le → bO
set_option maxHeartbeats 8000000
set_option linter.unusedVariables false
set_option maxRecDepth 100000
namespace Go.Proofs.YtnnmlhmffnfjfaaGreat
section
open Go.RowKit
open Rg
def allC:Array Value:=#[.int .i64 1,.int .i64 0,.string ⟨#[]⟩,.int .i64 0,.int .i64 0,.string ⟨#[]⟩,.bool true]
theorem aQ0 {w:World}{g:Nat}(h:aT w g 187 allC):kH w (some ⟨g,0,none⟩) 1 lE:=tT (T:=187) (x:=⟨⟨1,0,⟨#[]⟩⟩,bE,true⟩) h
theorem aG8 (w:World):Calls Tryz.prog 224 #[] w fun e w'=>∃g,e=.returned (.slice (some ⟨g,0,none⟩) 1 1)/\aT w' g 187 allC/\Below w w w':=by
 go_enter Tryz.func224,Tryz.ntmps224;go_wp2;go_ret;exact⟨_,rfl,aT.new _ _ _,(aB _ _).alloc (aD _) _⟩
theorem aI2 (w:World):Calls Tryz.prog 131 #[] w fun e w'=>∃g,e=.returned (.slice (some ⟨g,0,none⟩) 1 1)/\aT w' g 187 allC/\Below w w w':=by
 go_enter Tryz.func131,Tryz.ntmps131;go_wp2_with fail;refine(lB 1 _).mono ?_;rintro e a ⟨rfl,hb1⟩;rw[show eG 1=(⟨1,0,⟨#[]⟩⟩,true)from rfl];dsimp only;go_wp2;go_ret;refine⟨_,rfl,aT.step (by simp),?_⟩;exact(hb1.alloc hb1.size _).alloc (by have:=hb1.size;simp;omega) _
theorem mR (p:iM):(mG p).length=1:=rfl
theorem yB (p:iM):∀u∈mG p,u.oneCell'=true:=by simp[mG,Value.oneCell']
def cC0 (w:World) (A:Option Addr) (n:Nat):Prop:=∃ps:List iM,SetsS w A n ps∧ps.map (·.2)=List.replicate n lE
def rG (w:World) (p:iM):Prop:=∃g,p=((some ⟨g,0,none⟩,1,1),lE)∧aT w g 187 allC
theorem rG.but {w b:World}{S:Nat->Prop}{p:iM}(h:rG w p)(hb:But S w b)(c:∀q,S q->∀cs,¬aT w q 187 cs):rG b p:=by
 obtain⟨g,e,a⟩:=h;exact⟨g,e,a.but hb (fun d=>c g d _ a)⟩
theorem rG.below {w a:World}{p:iM}(h:rG w p)(hb:Below w w a):rG a p:=h.but (S:=fun _=>False) (But.of_below hb) (fun _ h=>h.elim)
theorem lQ {w:World}{B n k c:Nat}{A:Option Addr}{d:List Value}(h:w.ownsRow B 139 1 (.slice A n c) k d){q:Nat}(b:(Value.slice A n c).ownBlock=some q)(cs:Array Value):¬aT w q 187 cs:=fun hb=>by
 obtain⟨_,_,e,a⟩:=cN h b;unfold aT at hb;rw[a]at hb;injection hb with hb;injection hb with _ hb;exact absurd hb (by decide)
theorem bL7 {w:World}{A:Option Addr}{n c B:Nat}{ps:List iM}(e:w.ownsRow B 139 1 (.slice A n c) n (ps.flatMap mG))(a:ps.length=n)(b:∀p∈ps,rG w p):cC0 w A n:=by
 refine⟨ps,⟨cC3 mR a e,fun p h=>?_⟩,?_⟩
 . obtain⟨g,rfl,d⟩:=b p h;exact⟨⟨aD _,fun h=>by cases h⟩,by show 1<=1000000;omega,aQ0 d⟩
 . rw[List.eq_replicate_iff];refine⟨by simp[a],fun l a=>?_⟩;obtain⟨p,h,rfl⟩:=List.mem_map.1 a;obtain⟨g,rfl,_⟩:=b p h;rfl
theorem aX2 (n:Nat)(hn:n<=12)(w:World):Calls Tryz.prog 191 #[(n:Int)] w fun e w'=>∃(A:Option Addr) (c:Nat),e=.returned (.slice A n c)/\cC0 w' A n/\Below w w w':=by
 obtain⟨E,x,y,z,B⟩:=info_parts qT;go_enter Tryz.func191,Tryz.ntmps191;go_wp2_with fail;go_loopw [3,4] (fun v i wr=>∃(k:Nat) (A':Option Addr) (c':Nat) (ps:List iM),k<=n/\i=.int .i64 (k:Int)/\v=.slice A' k c'/\wr.ownsRow w 139 1 (.slice A' k c') k (ps.flatMap mG)/\Hid (ps.length=k/\∀p∈ps,rG wr p)/\Below w w wr) (fun _ i _=>n-(intOf i).toNat);case atStart=>exact⟨0,none,0,[],by omega,rfl,rfl,⟨by simp,.inl ⟨rfl,rfl⟩⟩,Z ⟨rfl,by simp⟩,aB _ _⟩
 case round =>
  obtain⟨k,A',c',ps,hk,rfl,rfl,a,HQ,hb⟩:=hrel;by_cases hlt:k<n
  . have m:=Z a;have HB:=Z hb;clear a hb;go_wp2_with fail;refine(aG8 _).mono ?_;rintro e b ⟨g,rfl,d,hb1⟩;have F:=Z d;have l:=Z (fJ m.out (fun q _ hl _=>hb1.block q hl));have j:=Z (cC1 HB.out hb1);have D:=j.out.size;have o:Hid (∀p∈ps++[((some ⟨g,0,none⟩,1,1),lE)],rG b p):=Z fun p hp=>by
     rcases List.mem_append.1 hp with hp|hp
     . exact(HQ.out.2 p hp).below hb1
     . exact⟨g,List.mem_singleton.1 hp,d⟩
    clear d hb1;go_wp2_with (at_builtin;refine cB (by rfl) (.tmp 10) (.tmp 12) _ (by rfl) w 139 E _ 1 24 Tryz.underlying176 x y z B (by rfl) (by omega) (.slice A' k c') k _ (by rfl) b #[.slice (some ⟨g,0,none⟩) 1 1] l.out b (by rfl) (by rfl) (by rfl) (yB ((some ⟨g,0,none⟩,1,1),lE)) (by simp only[maxLen];omega) (by omega) D ?_;intro G s J C u t H I);go_roundw;case rel=>have hbu:=(But.alloc (S:=fun q=>(Value.slice A' k c').ownBlock=some q) b (.cells #[.slice (some ⟨g,0,none⟩) 1 1] 139)).trans (cC5 u (fun q hq=>hq));refine⟨k+1,_,s,ps++[((some ⟨g,0,none⟩,1,1),lE)],by omega,by go_num,rfl,?_,Z ⟨by simp[HQ.out.1],fun p hp=>(o.out p hp).but hbu (fun q hq cs=>lQ l.out hq cs)⟩,j.out.trans t⟩;rw[aP];simpa[mG]using C
    case measure=>simp[intOf];omega
  . obtain rfl:k=n:=(by omega);have r:Hid (cC0 wr A' k):=Z (bL7 a HQ.out.1 HQ.out.2);have HB:=Z hb;clear a hb HQ;go_wp2;go_ret;exact⟨A',c',rfl,r.out,HB.out⟩
theorem bH3 {n k:Nat}{a:List Value}{v z:Value}(b:a.length=k)(c:k<n):(a++List.replicate (n-k) z).set k v=a++[v]++List.replicate (n-(k+1)) z:=by
 rw[List.set_append_right _ _ (by omega),b,Nat.sub_self,show n-k=(n-(k+1))+1 by omega,List.replicate_succ];simp
def jK (x:Int):Int:=if 0≤x∧x≤12 then 0 else 1
def jJ (x:Int):Rg:=if 0≤x∧x≤12 then dO x.toNat else cQ
theorem vE (x:Int)(w:World):Calls Tryz.prog 81 #[x] w fun e w'=>gU w (jJ x) (jK x) e w':=by
 obtain⟨a8,a4,a5,a6,a7⟩:=info_parts qT;have a:=Z (aT.new w 71 zR);have u:=Z ((aB w w).alloc (aD _) (.cells zR 71));obtain⟨W0,A⟩:∃W:World,Hid (w.alloc (.cells zR 71)=W):=⟨_,rfl⟩;rw[A.out]at a u;have P:W0.heap.size=w.heap.size+1:=by rw[<- A.out];simp
 rcases Int.lt_or_le x 0 with h0|h0
 . have g1:decide (x<0)=true:=(by simp;omega);rw[jJ,jK,if_neg (by omega),if_neg (by omega)];go_enter Tryz.func81,Tryz.ntmps81;go_wp2;refine aF (v:=.tuple #[.agg zR,(1:Int)]) (by simp[results,Tryz.results81,go_sem]) rfl ⟨0,false,none,0,0,rfl,RgS.nil _ _,?_⟩;repeat(first|exact aB _ _|refine Below.setCell ?_ (by simp) _|refine Below.alloc ?_ (by simp) _)
 . have g1:decide (x<0)=false:=(by simp;omega);rcases Int.lt_or_le 12 x with h1|h1
   . have g2:decide (12<x)=true:=(by simp;omega);rw[jJ,jK,if_neg (by omega),if_neg (by omega)];go_enter Tryz.func81,Tryz.ntmps81;go_wp2;refine aF (v:=.tuple #[.agg zR,(1:Int)]) (by simp[results,Tryz.results81,go_sem]) rfl ⟨0,false,none,0,0,rfl,RgS.nil _ _,?_⟩;repeat(first|exact aB _ _|refine Below.setCell ?_ (by simp) _|refine Below.alloc ?_ (by simp) _)
   . have g2:decide (12<x)=false:=(by simp;omega);rw[jJ,jK,if_pos ⟨h0,h1⟩,if_pos ⟨h0,h1⟩];obtain⟨n,rfl⟩:=bO h0;have hn:n<=12:=(by omega);rw[bM];clear h0 h1;go_enter Tryz.func81,Tryz.ntmps81;go_upto_region 3 with fail;rw[A.out];go_wp2_with (at_make;refine wpList_make_full _ rfl _ _ 176 rfl (w.heap.size+1) 139 a8 zN 1 Tryz.underlying176 a4 a5 a6 .i64 .i64 _ _ n rfl rfl rfl rfl (by rw[a7];omega) (by unfold maxLen;omega) (by omega) ?_;intro Q E L);rw[P]at E;have N:(madeCells (Value.slice none 0 0).cells (n*1)).toList=List.replicate n (Value.slice none 0 0):=by
      have h1:∀i:Nat,(Value.slice none 0 0).cells[i % (Value.slice none 0 0).cells.size]! = Value.slice none 0 0:=fun i=>(by show(#[Value.slice none 0 0]:Array Value)[i % 1]! = _;rw[Nat.mod_one];rfl);unfold madeCells;rw[Nat.mul_one,Array.toList_map,List.eq_replicate_iff];exact⟨by simp,fun b hb=>by
       obtain⟨i,_,rfl⟩:=List.mem_map.1 hb;exact h1 i⟩
     have s:Below W0 W0 Q:=mW L;have I:=Z (a.out.below s);have G:=Z (cC1 u.out s);have y:=Z E;rw[N]at y;have b4:w.heap.size+1<=Q.heap.size:=(by have:=s.size;omega);clear E L N s a u P;go_wp2_with fail;go_loopw [17] (fun i wr=>∃(k:Nat) (ps:List iM),k<=n/\i=.int .i64 (k:Int)/\wr.ownsRow (w.heap.size+1) 139 1 (.slice (some ⟨w.heap.size+1,0,none⟩) n n) n (ps.flatMap mG++List.replicate (n-k) (Value.slice none 0 0))/\Hid (ps.length=k/\∀p∈ps,rG wr p)/\aT wr w 71 zR/\Below w w wr) (fun i _=>n-(intOf i).toNat);case atStart=>exact⟨0,[],by omega,rfl,by simpa using y.out,Z ⟨rfl,by simp⟩,I.out,G.out⟩
     case round =>
      clear y I G;obtain⟨k,ps,hk,rfl,m,HQ,t,hb⟩:=hrel;by_cases hlt:k<n
      . have H:=Z m;have HB:=Z hb;have j:=Z t;clear m hb t;go_wp2_with fail;refine(aI2 _).mono ?_;rintro e F ⟨g,rfl,J,hb2⟩;have r:=Z (fJ H.out (fun q _ hl _=>hb2.block q hl));have T:=Z (cC1 HB.out hb2);have Y:=Z (j.out.below hb2);have a1:Hid (∀p∈ps++[((some ⟨g,0,none⟩,1,1),lE)],rG F p):=Z fun p hp=>by
         rcases List.mem_append.1 hp with hp|hp
         . exact(HQ.out.2 p hp).below hb2
         . exact⟨g,List.mem_singleton.1 hp,J⟩
        have D:(ps.flatMap mG).length=k:=(by rw[hV mR,HQ.out.1,Nat.mul_one]);have hc:=r.out.cells (g:=w.heap.size+1) rfl k zN (by rw[List.getElem?_append_right (by omega),D,Nat.sub_self,show n-k=(n-k-1)+1 by omega,List.replicate_succ];rfl);rw[lF,Nat.zero_add]at hc;have b3:=fun z=>r.out.frozenAt z;have X:=Z D;clear J hb2 H HB j D;go_wp2;go_roundw;case rel=>have K:But (fun q=>(Value.slice (some ⟨w.heap.size+1,0,none⟩) n n).ownBlock=some q) F (F.setCell ⟨w.heap.size+1,k,none⟩ (.slice (some ⟨g,0,none⟩) 1 1)):=But.set (S:=fun q=>(Value.slice (some ⟨w.heap.size+1,0,none⟩) n n).ownBlock=some q) _ (p:=⟨w.heap.size+1,k,none⟩) rfl _;refine⟨k+1,ps++[((some ⟨g,0,none⟩,1,1),lE)],by omega,by go_num,?_,Z ⟨by simp[HQ.out.1],fun p hp=>(a1.out p hp).but K (fun q hq cs=>lQ r.out hq cs)⟩,Y.out.but K (fun hq=>by simp only[Value.ownBlock,Option.some.injEq]at hq;omega),T.out.setCell (p:=⟨w.heap.size+1,k,none⟩) (by dsimp only;omega) _⟩;have h1:=(r.out.stored k (.slice (some ⟨g,0,none⟩) 1 1)).1;rw[bH3 X.out hlt]at h1;rw[aP];exact h1
        case measure=>simp[intOf];omega
      . obtain rfl:k=n:=(by omega);rw[Nat.sub_self,List.replicate_zero,List.append_nil]at m;obtain⟨a9,O,M⟩:=bL7 m HQ.out.1 HQ.out.2;have a3:=Z O;have a0:=Z M;have HB:=Z hb;have j:=Z t;clear m hb HQ O M t;go_wp2_with fail;refine(bL1 _ k k a9 _ a3.out hn).mono ?_;rintro e w3 ⟨x3,c,d,o,l,rfl,B,C⟩;rw[a0.out]at B;have a:=Z (j.out.below C);have U:=Z (cC1 HB.out C);have a2:=Z (RgS.off a.out (bJ _ w x3 (.bool c) (.slice d o l)) B);clear B C j HB;have b5:=a.out.cell;obtain⟨b0,b1,b2⟩:=bF a.out x3 (.bool c);have R:=(bY (a':=.int .i64 x3) (b':=.bool c) (c':=.slice d o l) a.out).cell;have y1:=(a.out.set_ 0 x3).cell;have y2:=((a.out.set_ 0 x3).set_ 1 (.bool c)).cell;have V:=Z (bD U.out (aD _) x3 (.bool c) (.slice d o l));unfold cO at R;go_wp2;exact aF (v:=.tuple #[.agg #[x3,.bool c,.slice d o l],zO]) (by simp[results,Tryz.results81,go_sem,R]) rfl ⟨x3,c,d,o,l,rfl,a2.out,V.out⟩
noncomputable def iH (a:Rg):Int:=if okB a then dY aA1 (dO a.w.toNat) a else 40
noncomputable def gC (a:Rg):Rg:=if okB a then cX aA1 (dO a.w.toNat) a else cQ
theorem pY (a:Rg)(xa:Int)(fa:Bool)(Aa:Option Addr)(na ca:Nat)(w:World)(A:RgS w xa fa Aa na ca a)(N:kD a) :
 Calls Tryz.prog 39 #[.agg #[xa,.bool fa,.slice Aa na ca]] w fun e w'=>gU w (gC a) (iH a) e w':=by
 obtain⟨z,u⟩:=zE (iH a);obtain⟨M,y⟩:=zE (gC a);rw[u.out,y.out];have H:=Z A;have L:=A.hw;have S:=Z N;clear A N;obtain⟨W0,n⟩:∃W:World,Hid ((w.alloc (.cells #[xa,.bool fa,.slice Aa na ca] 71)).alloc (.cells zR 71)=W):=⟨_,rfl⟩;have t:Hid (aT W0 w 71 #[xa,.bool fa,.slice Aa na ca]/\aT W0 (w.heap.size+1) 71 zR):=by rw[<- n.out];exact Z ⟨(aT.step rfl).alloc _,aT.step (by simp)⟩
 have p:Hid (Below w w W0):=by rw[<- n.out];exact Z (((aB _ _).alloc (aD _) _).alloc (by simp) _)
 have a1:W0.heap.size=w.heap.size+2:=by rw[<- n.out];simp
 obtain⟨Y,i⟩:=zE (okB a);go_enter Tryz.func39,Tryz.ntmps39;go_wp2_with fail;rw[n.out];refine(nF a xa fa Aa na ca _ (H.out.keep (aC p.out))).mono ?_;rintro e w1 ⟨rfl,hb1⟩;rw[i.out];have o:=Z (t.out.1.below hb1);have b:=Z (t.out.2.below hb1);have q:=Z (cC1 p.out hb1);have a2:=hb1.size;clear hb1 t p;cases Y
 . have e1:z=40:=(by rw[<- u.out];simp[iH,i.out]);have e2:M=cQ:=(by rw[<- y.out];simp[gC,i.out]);subst e1 e2;have a0:=b.out.cell;obtain⟨U,V,X⟩:=bF b.out zO zF;have m:=(bY (a':=zO) (b':=zF) (c':=zN) b.out).cell;have y1:=(b.out.set_ 0 zO).cell;have y2:=((b.out.set_ 0 zO).set_ 1 zF).cell;have s:=Z (bD q.out (show w.heap.size<=w.heap.size+1 by omega) zO zF zN);unfold cO at m;go_wp2;exact aF (v:=.tuple #[.agg zR,(40:Int)]) (by simp[results,Tryz.results39,go_sem,m]) rfl ⟨0,false,none,0,0,rfl,RgS.nil _ _,s.out⟩
 . have E:=fR.1 i.out;have x:Hid (a.w.toNat<=12/\jJ xa=dO a.w.toNat/\z=dY aA1 (dO a.w.toNat) a/\M=cX aA1 (dO a.w.toNat) a):=by
    have h1:=E.1;have h2:=E.2.1;refine Z ⟨by omega,?_,?_,?_⟩
    . rw[jJ,<- L,if_pos ⟨h1,h2⟩]
    . rw[<- u.out,iH,if_pos i.out]
    . rw[<- y.out,gC,if_pos i.out]
   clear E L;have G:=o.out.cell;go_wp2_with fail;refine(vE xa _).mono ?_;rintro e F ⟨x2,c,A2,n2,c2,rfl,B,hb2⟩;rw[x.out.2.1]at B;obtain⟨e2,T⟩:=zE (jK xa);rw[T.out];have Q:=Z (B.keep (aM F (.cells #[x2,.bool c,.slice A2 n2 c2] 71)));have R:=Z (aT.new F 71 #[x2,.bool c,.slice A2 n2 c2]);have C:=cC1 q.out hb2;have r:=Z (C.alloc C.size (.cells #[x2,.bool c,.slice A2 n2 c2] 71));have O:=Z ((o.out.below hb2).alloc (.cells #[x2,.bool c,.slice A2 n2 c2] 71));have J:=Z ((b.out.below hb2).alloc (.cells #[x2,.bool c,.slice A2 n2 c2] 71));have a3:=hb2.size;clear B hb2 C o b q G;go_upto_region 4 with fail;generalize hW2:F.alloc (.cells #[x2,.bool c,.slice A2 n2 c2] 71)=W2 at *;clear hW2;have G:=O.out.cell;have z2:=R.out.cell;go_wp2_with fail;refine(qM false true false (dO a.w.toNat) x2 c A2 n2 c2 a xa fa Aa na ca _ Q.out (H.out.keep (aC r.out)) (aP9 _) S.out).mono ?_;rintro e w3 ⟨x3,d,j,l,k,rfl,K,D⟩;have g:=Z (J.out.below D);have P:=Z (cC1 r.out D);have I:=Z (RgS.off g.out (bJ _ (w.heap.size+1) x3 (.bool d) (.slice j l k)) K);rw[<- x.out.2.2.2]at I;rw[<- x.out.2.2.1];clear K D J r G z2;have a0:=g.out.cell;obtain⟨U,V,X⟩:=bF g.out x3 (.bool d);have m:=(bY (a':=.int .i64 x3) (b':=.bool d) (c':=.slice j l k) g.out).cell;have y1:=(g.out.set_ 0 x3).cell;have y2:=((g.out.set_ 0 x3).set_ 1 (.bool d)).cell;have s:=Z (bD P.out (show w.heap.size<=w.heap.size+1 by omega) x3 (.bool d) (.slice j l k));unfold cO at m;go_wp2;exact aF (v:=.tuple #[.agg #[x3,.bool d,.slice j l k],z]) (by simp[results,Tryz.results39,go_sem,m]) rfl ⟨x3,d,j,l,k,rfl,I.out,s.out⟩
theorem pZ (a:Rg)(xa:Int)(fa:Bool)(Aa:Option Addr)(na ca:Nat)(w:World)(F:RgS w xa fa Aa na ca a) :
 Calls Tryz.prog 144 #[.agg #[xa,.bool fa,.slice Aa na ca]] w fun e w'=>gU w (gC a) (iH a) e w':=by
 obtain⟨E,C⟩:=zE (iH a);obtain⟨a4,D⟩:=zE (gC a);rw[C.out,D.out];have L:=Z F;have I:=F.hw;clear F;obtain⟨W0,B⟩:∃W:World,Hid ((w.alloc (.cells #[xa,.bool fa,.slice Aa na ca] 71)).alloc (.cells zR 71)=W):=⟨_,rfl⟩;have A:Hid (aT W0 w 71 #[xa,.bool fa,.slice Aa na ca]/\aT W0 (w.heap.size+1) 71 zR):=by rw[<- B.out];exact Z ⟨(aT.step rfl).alloc _,aT.step (by simp)⟩
 have s:Hid (Below w w W0):=by rw[<- B.out];exact Z (((aB _ _).alloc (aD _) _).alloc (by simp) _)
 obtain⟨b2,i⟩:=zE (okB a);go_enter Tryz.func144,Tryz.ntmps144;go_wp2_with fail;rw[B.out];refine(tV a xa fa Aa na ca _ (L.out.keep (aC s.out))).mono ?_;rintro e l ⟨rfl,hb1⟩;rw[i.out];have M:=Z (A.out.1.below hb1);have c:=Z (A.out.2.below hb1);have t:=Z (cC1 s.out hb1);clear hb1 A s;cases b2
 . have e1:E=40:=(by rw[<- C.out];simp[iH,i.out]);have e2:a4=cQ:=(by rw[<- D.out];simp[gC,i.out]);subst e1 e2;have b3:=c.out.cell;obtain⟨a7,a8,a9⟩:=bF c.out zO zF;have m:=(bY (a':=zO) (b':=zF) (c':=zN) c.out).cell;have y1:=(c.out.set_ 0 zO).cell;have y2:=((c.out.set_ 0 zO).set_ 1 zF).cell;have x:=Z (bD t.out (show w.heap.size<=w.heap.size+1 by omega) zO zF zN);unfold cO at m;go_wp2;exact aF (v:=.tuple #[.agg zR,(40:Int)]) (by simp[results,Tryz.results144,go_sem,m]) rfl ⟨0,false,none,0,0,rfl,RgS.nil _ _,x.out⟩
 . have H:=fR.1 i.out;have h0:0<=xa:=(by rw[<- I];exact H.1);obtain⟨n,rfl⟩:=bO h0;have hn:n<=12:=(by have:=H.2.1;omega);have Y:Hid (E=dY aA1 (dO n) a/\a4=cX aA1 (dO n) a):=by
    have h1:a.w.toNat=n:=(by rw[I,bM]);refine Z ⟨?_,?_⟩
    . rw[<- C.out,iH,if_pos i.out,h1]
    . rw[<- D.out,gC,if_pos i.out,h1]
   clear H I h0;obtain⟨S,T⟩:∃S:Nat->Prop,Hid ((fun q=>q=w.heap.size+1)=S):=⟨_,rfl⟩;have a0:¬S w.heap.size:=(by rw[<- T.out];intro h;omega);go_upto_region 3 with fail;refine bQ S (.one [0,1,4] 2 (.one [] 3 (.one [] 5 (.one [6,7] 8 (.last [9]))))) ?_;have b1:∀(y:LaterS S l.drew) z,(dG S l.drew y).cell? ⟨w,z,none⟩=(#[(n:Int),.bool fa,.slice Aa na ca]:Array Value)[z]?:=fun y z=>(M.out.drew.but y.but a0).cell z;have O:Hid (Below w w l.drew):=Z t.out.drew;have X:Hid (aT l.drew _ _ _):=Z c.out.drew;generalize hW:l.drew=b4 at *;clear hW M c t;unfold bB;simp only[cP];repeat(go_big_quiet_step (fail))
   refine aA ?_;clear b1 a0;go_wp2_with (first|(go_at_call 191;refine(aX2 n hn _).mono ?_;rintro e w2 ⟨A2,c2,rfl,b0,hb2⟩));refine⟨But.of_below hb2,?_⟩;obtain⟨ps,a3,a2⟩:=b0;have Q:=Z a3;have P:=Z a2;have N:=Z (cC1 O.out hb2);have U:=Z (X.out.below hb2);clear hb2 a3 a2 O X;unfold bB;simp only[cP];refine aA ?_;go_wp2_with (first|(go_at_call 190;refine(aC2 A2 n c2 ps _ Q.out hn).mono ?_;rintro e w3 ⟨x3,f3,K,n3,c3,rfl,G,p⟩;rw[P.out]at G));refine⟨But.of_below p,?_⟩;have R:Hid (RgS w3 x3 f3 K n3 c3 (dO n)):=Z G;have u:=Z (cC1 N.out p);have V:=Z (U.out.below p);clear p G N U Q P;unfold bB;simp only[cP];refine aA ?_;go_wp2_with (first|(go_at_call 145;refine(vH 3 (dO n) x3 f3 K n3 c3 a (n:Int) fa Aa na ca _ R.out (L.out.keep (aC u.out))).mono ?_;rintro e J ⟨x4,b,d,k,j,rfl,o,r⟩;rw[opR_eq.2.2]at o ⊢;rw[<- Y.out.1];rw[<- Y.out.2]at o));refine⟨But.of_below r,?_⟩;have a5:=Z (cC1 u.out r);have g:=Z (V.out.below r);have a6:=Z (RgS.off g.out (bJ _ (w.heap.size+1) x4 (.bool b) (.slice d k j)) o);clear r o u V R;unfold bB;simp only[cP];repeat(go_big_quiet_step (fail))
   refine aA ?_;have b3:=g.out.cell;obtain⟨a7,a8,a9⟩:=bF g.out x4 (.bool b);have m:=(bY (a':=.int .i64 x4) (b':=.bool b) (c':=.slice d k j) g.out).cell;have y1:=(g.out.set_ 0 x4).cell;have y2:=((g.out.set_ 0 x4).set_ 1 (.bool b)).cell;have x:=Z (bD a5.out (show w.heap.size<=w.heap.size+1 by omega) x4 (.bool b) (.slice d k j));have a1:But S J (cO J (w.heap.size+1) x4 (.bool b) (.slice d k j)):=(by rw[<- T.out];exact bJ J (w.heap.size+1) _ _ _);unfold cO at m a1;go_wp2_with fail;refine⟨a1,?_⟩;unfold bB;simp only[cP];repeat(go_big_quiet_step (fail))
   refine aA ?_;go_wp2;exact aF (v:=.tuple #[.agg #[x4,.bool b,.slice d k j],E]) (by simp[results,Tryz.results144,go_sem,m]) rfl ⟨x4,b,d,k,j,rfl,a6.out,x.out⟩
def aP5:Rg→List (List (List Iv))
 |.nil _ f=>if f then [[]]else []
 |.cons vs rest tail=>(aP5 rest).map (vs :: ·)++aP5 tail
abbrev aF5:=(Option Addr×Nat×Nat)×List iM
def bxc (e:aF5):List Value:=[.slice e.1.1 e.1.2.1 e.1.2.2]
structure BoxE (B:Nat) (W w:World) (e:aF5):Prop where
 own:w.ownsRow B 139 1 (.slice e.1.1 e.1.2.1 e.1.2.2) e.1.2.1 (e.2.flatMap mG)
 len:e.2.length=e.1.2.1
 set:∀ p∈e.2,yC p.1.1 p.1.2.1 p.1.2.2∧p.1.2.1≤1000000∧kH W p.1.1 p.1.2.1 p.2
theorem BoxE.but {B:Nat}{W w a:World}{e:aF5}{S:Nat->Prop}(h:BoxE B W w e)(hb:But S w a)(b:∀k,(Value.slice e.1.1 e.1.2.1 e.1.2.2).ownBlock=some k->¬S k):BoxE B W a e:=⟨fB h.own hb b,h.len,h.set⟩
theorem BoxE.below {B:Nat}{W w a:World}{e:aF5}(h:BoxE B W w e)(hb:Below w w a):BoxE B W a e:=h.but (S:=fun _=>False) (But.of_below hb) (fun _ _ h=>h)
def BoxOut (W w:World) (r:Rg) (e:Ending) (w':World):Prop :=
 ∃(A:Option Addr) (n c:Nat) (es:List aF5),e=.returned (.slice A n c)∧w'.ownsRow w.heap.size 176 1 (.slice A n c) n (es.flatMap bxc)∧es.length=n∧(∀x∈es,BoxE w.heap.size W w' x)∧es.map (fun x=>x.2.map (·.2))=aP5 r∧Below w.heap.size w w'
structure BxS (W w:World) (A:Option Addr) (t c:Nat) (es:List aF5) (wr:World):Prop where
 own:wr.ownsRow (w.heap.size+1) 176 1 (.slice A t c) t (es.flatMap bxc)
 len:es.length=t
 el:∀ x∈es,BoxE (w.heap.size+1) W wr x
 bel:Below w.heap.size w wr
 lo:w.heap.size+1≤wr.heap.size
theorem BxS.below {W w a b:World}{A:Option Addr}{t c:Nat}{es:List aF5}(h:BxS W w A t c es a)(hb:Below a a b):BxS W w A t c es b :=
 ⟨fJ h.own fun g _ d _=>hb.block g d,h.len,fun x e=>(h.el x e).below hb,cC1 h.bel hb,bI h.lo hb.size⟩
theorem aU1 {w:World}{B a:Nat}{e:TypeId}{sz n:Nat}{v:Value}{b:List Value}(h:w.ownsRow B e sz v n b)(m:a<=B):w.ownsRow a e sz v n b:=by
 refine⟨h.1,?_⟩;rcases h.2 with i|⟨g,c,d,j,k,l⟩
 . exact .inl i
 . exact .inr ⟨g,c,d,j,bI m k,l⟩
theorem BxS.more {W w b d:World}{A:Option Addr}{t c:Nat}{es:List aF5}(h:BxS W w A t c es b){x:aF5}(l:BoxE (w.heap.size+1) W b x){A':Option Addr}{c':Nat}(i:d.ownsRow (w.heap.size+1) 176 1 (.slice A' (t+1) c') (t+1) (es.flatMap bxc++bxc x))
 (hb:But (fun q=>(Value.slice A t c).ownBlock=some q) b d):BxS W w A' (t+1) c' (es++[x]) d:=by
 refine⟨by rw[aP];simpa using i,by simp[h.len],fun q a=>?_,hb.below h.bel h.bel.size (fun q a=>by have:=(cN h.own a).1;omega),bI h.lo hb.size⟩;have e:BoxE (w.heap.size+1) W b q:=by
  rcases List.mem_append.1 a with a|a
  . exact h.el q a
  . rw[List.mem_singleton.1 a];exact l
 exact e.but hb fun k g j=>fV e.own h.own (by decide) g j
theorem BxS.out {W w b:World}{A:Option Addr}{t c:Nat}{es:List aF5}{r:Rg}(h:BxS W w A t c es b)(d:es.map (fun x=>x.2.map (·.2))=aP5 r):BoxOut W w r (.returned (.slice A t c)) b :=
 ⟨A,t,c,es,rfl,aU1 h.own (Nat.le_succ _),h.len,fun x a=>⟨aU1 (h.el x a).own (Nat.le_succ _),(h.el x a).len,(h.el x a).set⟩,d,h.bel⟩
end
section
open Go.RowKit
def noSet:iM:=((none,0,0),[])
def pk (ps:List iM) (c:Int):iM:=ps.getD c.toNat noSet
theorem bO9 (n:Nat):(madeCells (Value.slice none 0 0).cells (n*1)).toList=List.replicate n (Value.slice none 0 0):=by
 have a:∀i:Nat,(Value.slice none 0 0).cells[i % (Value.slice none 0 0).cells.size]! = Value.slice none 0 0:=fun i=>by show(#[Value.slice none 0 0]:Array Value)[i % 1]! = _;rw[Nat.mod_one];rfl
 unfold madeCells;rw[Nat.mul_one,Array.toList_map,List.eq_replicate_iff];exact⟨by simp,fun b hb=>by
  obtain⟨i,_,rfl⟩:=List.mem_map.1 hb;exact a i⟩
structure LfS (w:World) (B:Nat) (A:Option Addr) (N c:Nat) (ps qs:List iM):Prop where
 own:w.ownsRow B 139 1 (.slice A N c) N (qs.flatMap mG)
 len:qs.length=N
 el:∀ q∈qs,q∈ps∨rG w q
theorem LfS.sets {w0 w:World}{B:Nat}{A e:Option Addr}{N c k:Nat}{ps d:List iM}(h:LfS w B A N c ps d)(j:SetsS w0 e k ps)(hb:dW w0 w):SetsS w A N d:=by
 refine⟨cC3 mR h.len h.own,fun q i=>?_⟩;rcases h.el q i with a|⟨g,rfl,a⟩
 . have b:=j.ok q a;exact⟨b.1,b.2.1,b.2.2.keep hb⟩
 . exact⟨⟨aD _,fun h=>by cases h⟩,by show 1<=1000000;omega,aQ0 a⟩
theorem bQ3 (a:List iM)(j:Nat)(p:iM):(a.set j p).flatMap mG=(a.flatMap mG).set j (.slice p.1.1 p.1.2.1 p.1.2.2):=by
 induction a generalizing j with
 |nil=>rfl
 |
  cons q a ih =>
  cases j with
  |zero=>rfl
  |
   succ j =>
   rw[List.set_cons_succ,List.flatMap_cons,ih,List.flatMap_cons];rfl
theorem LfS.put {w:World}{B g:Nat}{N c:Nat}{ps e:List iM}(h:LfS w B (some ⟨g,0,none⟩) N c ps e){p:iM}(l:p∈ps)(j:Nat):LfS (w.setCell ⟨g,j,none⟩ (.slice p.1.1 p.1.2.1 p.1.2.2)) B (some ⟨g,0,none⟩) N c ps (e.set j p):=by
 have k:But (fun q=>(Value.slice (some ⟨g,0,none⟩) N c).ownBlock=some q) w (w.setCell ⟨g,j,none⟩ (.slice p.1.1 p.1.2.1 p.1.2.2)):=But.set (S:=fun q=>(Value.slice (some ⟨g,0,none⟩) N c).ownBlock=some q) _ (p:=⟨g,j,none⟩) rfl _;refine⟨?_,by rw[List.length_set];exact h.len,fun q b=>?_⟩
 . have d:=(h.own.stored j (.slice p.1.1 p.1.2.1 p.1.2.2)).1;rw[<- bQ3]at d;exact d
 . rcases List.mem_or_eq_of_mem_set b with i|rfl
   . rcases h.el q i with a|a
     . exact .inl a
     . exact .inr (a.but k (fun q b cs=>lQ h.own b cs))
   . exact .inl l
theorem LfS.below {w b:World}{B:Nat}{A:Option Addr}{N c:Nat}{ps a:List iM}(h:LfS w B A N c ps a)(hb:Below w w b):LfS b B A N c ps a :=
 ⟨fJ h.own (fun q _ d _=>hb.block q d),h.len,fun q e=>(h.el q e).imp id (·.below hb)⟩
theorem setAt (a:List iM)(j:Nat)(p:iM):(a.set j p).map (·.2)=(a.map (·.2)).set j p.2:=by rw[List.map_set]
end
section
open Go.RowKit
open Rg
def wfB (b:List (List Iv)):Prop:=∀s∈b,∀x∈s,pV x.f∧pV x.t
theorem alls_wf (N:Nat):wfB (List.replicate N lE):=fun s b=>by
 rw[(List.mem_replicate.1 b).2];intro x a;simp only[lE,List.mem_singleton]at a;subst a;exact⟨⟨by decide,by decide⟩,⟨by decide,by decide⟩⟩
section
variable {n:Nat} {a b:Rg} (ha:nR a) (hwa:a.w=(n:Int))
include ha hwa
theorem hR:eI n a:=by
 have:=ha.2.2.2.1;rw[hwa,bM]at this;exact this
theorem ok_n12:n<=12:=by have:=ha.2.1;omega
variable (hb:nR b) (hwb:b.w=(n:Int))
include hb hwb
theorem lG (op:Bool->Bool->Bool):dY op a b=(if (comb op n a b).size<=64/\(comb op n a b).fits=true then 0 else 2)/\(dY op a b=0->cX op a b=comb op n a b/\nR (cX op a b)/\(cX op a b).w=(n:Int)):=by
 have d:=op_err (op:=op) ha hb (hwa.trans hwb.symm);rw[hwa,bM]at d;refine⟨d,fun h0=>?_⟩;have e:=op_ok h0;have c:=e.2.1;rw[hwa,bM]at c;refine⟨c,e.1,?_⟩;rw[c];exact(lC _ _ _ _ (hR ha hwa) (hR hb hwb)).width
theorem bI2 (op:Bool->Bool->Bool):dY op a b=0\/dY op a b=2:=by
 rw[(lG ha hwa hb hwb op).1];split
 . exact .inl rfl
 . exact .inr rfl
end
section
variable {n:Nat} {a b c:Rg} (ha:nR a) (hwa:a.w=(n:Int))
include ha hwa
theorem yK:iH a=(if (bF5 n a).size<=64/\(bF5 n a).fits=true then 0 else 2)/\(iH a=0->gC a=bF5 n a/\nR (gC a)/\(gC a).w=(n:Int)):=by
 have b:=fR.2 ha;have e:=ok_n12 ha hwa;have c:a.w.toNat=n:=by rw[hwa,bM]
 have d:=lG (wW e) (aZ8 n) ha hwa aA1;rw[iH,gC,if_pos b,if_pos b,c];exact d
theorem cp_02:iH a=0\/iH a=2:=by
 rw[(yK ha hwa).1];split
 . exact .inl rfl
 . exact .inr rfl
variable (hb:nR b) (hwb:b.w=(n:Int))
include hb hwb
variable (hc:nR c) (hwc:c.w=(n:Int))
include hc hwc
end
theorem cp_wf {a:Rg}(h:kD a):kD (gC a):=by
 unfold gC;split
 . exact bV4 (aP9 _) h
 . trivial
section
variable {n:Nat} {a b r:Rg} (ha:nR a) (hwa:a.w=(n:Int))
include ha hwa
variable (hb:nR b) (hwb:b.w=(n:Int))
include hb hwb
theorem op_is {op:Bool->Bool->Bool}(h:comb op n a b=r)(hr:nR r):dY op a b=0/\cX op a b=r:=by
 obtain⟨c,d⟩:=lG ha hwa hb hwb op;have h0:dY op a b=0:=by rw[c,h,if_pos ⟨hr.2.2.1,hr.2.2.2.2⟩]
 exact⟨h0,(d h0).1.trans h⟩
end
end
section
open Go.RowKit
theorem pJ {w a:World}{g B:Nat}(h:CaseAt w g)(hb:Below B w a)(d:g<B):CaseAt a g :=
 h.far (S:=fun b=>B<=b) ⟨hb.os,hb.tape,hb.output,hb.size,fun k _ c=>hb.block k (by simpa using c)⟩ (fun b hb=>by omega)
theorem qW {S:Nat->Prop}{w0 w a:World}{B:Nat}(h:But S w0 w)(hb:Below B w a)(d:w0.heap.size<=B):But S w0 a :=
 ⟨hb.os.trans h.os,hb.tape.trans h.tape,hb.output.trans h.output,bI h.size hb.size,fun k b c=>(hb.block k (by omega)).trans (h.block k b c)⟩
end
section
open Go.RowKit
open Rg
def lstP:Rg→List Vl
 |.nil _ _=>[]
 |.cons vs rest _=>lo vs::lstP rest
structure LsS (w:World) (r:Rg) (D:Nat) (k:Nat) (A1:Option Addr) (c1:Nat) (x:Int) (f:Bool) (A:Option Addr) (n c:Nat) (wr:World):Prop where
 ex:∃ (l:List Vl) (q:Rg) (d:Nat),l.length=k∧wr.ownsRow (w.heap.size+1) 59 3 (.slice A1 k c1) k (l.flatMap Vl.cs)∧RgS w x f A n c q∧kE d q∧d+k=D∧q.nix=false∧l ++ lstP q=lstP r∧q.size≤64
 bo:aT wr w.heap.size 71 #[.int .i64 x,.bool f,.slice A n c]
 be:Below w.heap.size w wr
theorem bV9 (x y:Bool):uX true true true x y=(x || y):=by cases x<;>cases y<;>rfl
theorem bW1 (x y:Bool):uX true false false x y=(x&&y):=by cases x<;>cases y<;>rfl
def inB (b:List (List Iv)) (u:List Vl):Bool:=(b.zip u).all fun p=>eP p.1 p.2
theorem inB_at {b:List (List Iv)}{u:List Vl}(h:u.length=b.length):inB b u=true↔∀i,i<b.length->eP (b.getD i []) (u.getD i bE)=true:=by
 induction b generalizing u with
 |nil=>simp[inB]
 |
  cons s b ih =>
  cases u with
  |nil=>cases h
  |
   cons v u =>
   have c:u.length=b.length:=(by simpa using h);have e:inB (s::b) (v::u)=(eP s v&&inB b u):=(by simp[inB]);rw[e,aI,ih c];constructor
   . rintro⟨a,d⟩ i hi;cases i with
     |zero=>simpa using a
     |succ i=>simpa using d i (by simpa using hi)
   . intro a;refine⟨by simpa using a 0 (by simp),fun i hi=>?_⟩;simpa using a (i+1) (by simpa using hi)
theorem good_at {n:Nat}{u:List Vl}(h:jB n u){i:Nat}(hi:i<n):bT (u.getD i bE)=true:=by
 have a:i<u.length:=by rw[h.1];exact hi
 rw[bG,aN a];exact h.2 _ (List.getElem_mem a)
theorem cA3 {b:List (List Iv)}{u:List Vl}(h:u.length=b.length):(iE b).den u=inB b u:=aO5 b u h
theorem boxR_ok {n:Nat}{b:List (List Iv)}(g:n<=12)(h:b.length=n)(e:∀s∈b,cM s=true):nR (iE b)/\(iE b).w=(n:Int):=by
 obtain⟨a,c,d⟩:=bG1 b e;have hw:=aD9 b;rw[h]at a d hw;exact⟨⟨by omega,by omega,by omega,by rw[hw,bM];exact a,c⟩,hw⟩
theorem aN2 {n:Nat}(a:n<=12):nR (.nil (n:Int) false)/\(Rg.nil (n:Int) false).w=(n:Int):=by
 refine⟨⟨by simp[Rg.w],by simp[Rg.w];omega,by simp[Rg.size],?_,by simp[fits]⟩,rfl⟩;simp only[Rg.w,bM];exact vF n
theorem rQ (n:Int)(u:List Vl):(Rg.nil n false).den u=false:=by cases u<;>rfl
section
variable {n:Nat} {r:Rg} (hr:nR r) (hw:r.w=(n:Int)) {cs:List Int}
include hr hw
end
section
variable {n:Nat} {a b:Rg} (ha:nR a) (hwa:a.w=(n:Int)) {cs:List Int} (h:dstB (n:Int) cs=true)
include ha hwa h
end
section
variable {n:Nat} {a:Rg} (ha:nR a) (hwa:a.w=(n:Int))
include ha hwa
end
end
section
open Go.RowKit
structure GoodR (l:List Iv) (m:Nat):Prop where
 good:Good l m
 rg:∀ v∈cR l,pV v
theorem bH8 {v:Vl}(h:iR v):pV v:=⟨h.1,by have:=h.2;omega⟩
theorem GoodR.len {l:List Iv}{m:Nat}(h:GoodR l m):2*l.length<=m+1:=h.good.len
theorem GoodR.mono {l:List Iv}{m n:Nat}(h:GoodR l m)(a:m<=n):GoodR l n:=⟨h.good.mono a,h.rg⟩
theorem GoodR.nil (m:Nat):GoodR [] m:=⟨Good.nil m,by simp[cR]⟩
theorem GoodR.comb {op:Bool->Bool->Bool}{a b:List Iv}{m n:Nat}(ha:GoodR a m)(hb:GoodR b n)(i:op false false=false):GoodR (eF op a b) (m+n):=by
 refine⟨ha.good.comb hb.good i,fun v c=>?_⟩;obtain⟨d,g⟩:=xE a b;have e:eF op a b=dS (pN (fun p=>op (eP a p) (eP b p)) false (hH a b)):=by rw[aY8,(aP1 _ _ d).1 [] (fun y h=>by cases h)];rfl
 rw[e,xZ]at c;rcases(g v).1 ((mM _ _ _).1 v c)with h|h
 . exact ha.rg v h
 . exact hb.rg v h
theorem bE0 {v:Vl}(b:bT v=true)(hr:iR v):GoodR (gB v).1 2:=by
 refine⟨rY b,fun u a=>?_⟩;unfold gB at a;rw[if_pos b]at a;simp[cR]at a;rw[a];exact bH8 hr
theorem bP9 {v:Vl}(b:bT v=true)(hr:iR v):GoodR (kF v).1 2:=by
 refine⟨aB4 b hr,fun u a=>?_⟩;obtain⟨c,d⟩:=pF b hr;unfold kF at a;rw[if_pos b]at a;cases hb:(dF v).2
 . rw[hb]at a;simp[cR]at a;rw[a];exact bH8 hr
 . rw[hb]at a;simp[cR]at a;rcases a with rfl|rfl
   . exact bH8 hr
   . exact bH8 (c hb).2.1
theorem GoodR.wf {l:List Iv}{m:Nat}(h:GoodR l m):∀x∈l,pV x.f/\pV x.t:=fun x a=>by
 have d:x.f∈cR l:=oD.2 ⟨x,a,.inl rfl⟩;refine⟨h.rg _ d,?_⟩;cases ho:x.o
 . exact h.rg _ (oD.2 ⟨x,a,.inr ⟨ho,rfl⟩⟩)
 . have:x.t=bE:=by
    have b:=h.good.ord;clear h d;generalize g:(none:Option Iv)=p at b;clear g
    induction l generalizing p with
    |nil=>cases a
    |
     cons y l ih =>
     rw[gD,aI]at b;rcases List.mem_cons.1 a with rfl|a
     . have c:=b.1;unfold okI at c;simp only[aI,ho,if_true]at c;have e:=c.2;simp only[decide_eq_true_eq]at e;exact e.2
     . exact ih a _ b.2
   rw[this];exact⟨by decide,by decide⟩
def nB (w:World) (A:Option Addr) (l:List Iv) (c:Nat):Prop:=∃B,w.ownsRow B 187 7 (.slice A l.length c) l.length (l.flatMap Iv.cs)
theorem nB.nil (w:World):nB w none [] 0:=⟨0,by simp,.inl ⟨rfl,rfl⟩⟩
theorem nB.but {w a:World}{A:Option Addr}{l:List Iv}{c:Nat}{S:Nat->Prop}(h:nB w A l c)(hb:But S w a)(b:∀q,(Value.slice A l.length c).ownBlock=some q->¬S q):nB a A l c:=by
 obtain⟨B,h⟩:=h;exact⟨B,fB h hb b⟩
theorem nB.ne {w:World}{A:Option Addr}{l:List Iv}{c:Nat}(h:nB w A l c){q:Nat}(b:(Value.slice A l.length c).ownBlock=some q){T:TypeId}{cs:Array Value}(hb:aT w q T cs):T=187:=by
 obtain⟨B,h⟩:=h;obtain⟨_,_,d,a⟩:=cN h b;unfold aT at hb;rw[a]at hb;injection hb with hb;injection hb with _ hb;exact hb.symm
theorem nB.case {w a:World}{A:Option Addr}{l:List Iv}{c g:Nat}(h:nB w A l c)(hc:CaseAt w g)(hb:But (· = g) w a):nB a A l c:=h.but hb fun q d e=>by
 obtain⟨A',n',c',i,j,b,_⟩:=hc.ex;subst e;exact absurd (h.ne d b) (by decide)
theorem nB.s {w:World}{A:Option Addr}{l:List Iv}{c:Nat}(h:nB w A l c):kH w A l.length l:=by
 obtain⟨B,h⟩:=h;exact cC3 Iv.cs_len rfl h
theorem nB.ok {w:World}{A:Option Addr}{l:List Iv}{c:Nat}(h:nB w A l c):yC A l.length c:=by
 obtain⟨B,h⟩:=h;exact hP h
end
section
open Go.RowKit
open Rg Pd
def oM (n:Nat) (i j:Int) (s:List Iv):List (List Iv):=(List.range n).map fun(q:Nat)=>if (q:Int)=i∨(q:Int)=j then s else lE
def jI (n:Nat) (i j:Int) (s:List Iv):Rg:=iE (oM n i j s)
def kM (cm:Int):Int:=if cm=3 then 5 else if cm=4 then 6 else if cm=5 then 3 else if cm=6 then 4 else cm
def dL (cols:List Int) (h:Nd):Rg×Rg :=
 if h.l.k=3∧h.r.k=3 then (if gT h.cm h.l.v h.r.v=true then (dO cols.length,dO cols.length)else (.nil (cols.length:Int) false,.nil (cols.length:Int) false))
 else if h.l.k=1∧h.r.k=1 then
  (
   if h.l.ix≠h.r.ix then (.nil (cols.length:Int) false,jI cols.length h.l.ix h.r.ix (eM (cols.getD h.l.ix.toNat 0)).1)
   else if h.cm=1∨h.cm=4∨h.cm=6 then (jI cols.length h.l.ix h.r.ix (eM (cols.getD h.l.ix.toNat 0)).1,jI cols.length h.l.ix h.r.ix (eM (cols.getD h.l.ix.toNat 0)).1)
   else (.nil (cols.length:Int) false,.nil (cols.length:Int) false))
 else if h.l.k=1 then (jI cols.length h.l.ix h.l.ix (eE h.cm h.r.v),jI cols.length h.l.ix h.l.ix (eE h.cm h.r.v))
 else (jI cols.length h.r.ix h.r.ix (eE (kM h.cm) h.l.v),jI cols.length h.r.ix h.r.ix (eE (kM h.cm) h.l.v))
noncomputable def gF (op:Bool→Bool→Bool) (a x:Rg×Rg):Option (Rg×Rg):=if dY op a.1 x.1=0∧dY op a.2 x.2=0 then some (cX op a.1 x.1,cX op a.2 x.2)else none
noncomputable def xQ (a:Rg×Rg):Option (Rg×Rg):=if iH a.2=0∧iH a.1=0 then some (gC a.2,gC a.1)else none
structure NX where
 an:Rg×Rg→Option (Rg×Rg)
 or:Rg×Rg→Option (Rg×Rg)
 fst:Option (Rg×Rg)
noncomputable def qD (cols:List Int) (h:Nd) (x:NX):Option (Rg×Rg) :=
 if h.op=1 then some (dO cols.length,dO cols.length)else if h.op=2 then some (.nil (cols.length:Int) false,.nil (cols.length:Int) false)
 else if h.op=4 then x.an (dO cols.length,dO cols.length)else if h.op=5 then x.or (.nil (cols.length:Int) false,.nil (cols.length:Int) false)
 else if h.op=6 then x.fst.bind xQ else some (dL cols h)
noncomputable def nx (cols:List Int):Pd→NX
 |.nil _=>⟨some,some,none⟩
 |.cons a t=>⟨fun acc=>(qD cols a.h (nx cols a)).bind fun r=>(gF kX acc r).bind (nx cols t).an,fun acc=>(qD cols a.h (nx cols a)).bind fun r=>(gF aF1 acc r).bind (nx cols t).or,qD cols a.h (nx cols a)⟩
noncomputable def cZ (cols:List Int) (p:Pd):Option (Rg×Rg):=qD cols p.h (nx cols p)
noncomputable def xV (cols:List Int) (p:Pd):Int:=if 12<cols.length then 2 else if hK cols [] p=0 then (match cZ cols p with|none=>2|some _=>0)else hK cols [] p
noncomputable def bdR (cols:List Int) (p:Pd):Rg×Rg:=if xV cols p=0 then (cZ cols p).getD (cQ,cQ)else (cQ,cQ)
def crH (h:Nd):Bool:=decide (h.op=3∧h.l.k=1∧h.r.k=1∧h.l.ix≠h.r.ix)
def crA:Pd→Bool
 |.nil _=>false
 |.cons a t=>(crH a.h || crA a) || crA t
def crB (p:Pd):Bool:=crH p.h || crA p
def tM (h:Nd):Prop:=iR h.l.v∧iR h.r.v
def nS:Pd→Prop
 |.nil _=>True
 |.cons a t=>tM a.h∧nS a∧nS t
def nT (p:Pd):Prop:=tM p.h∧nS p
def oW (cols:List Int) (u:List Vl):Prop:=u.length=cols.length∧∀(i:Nat) (v:Vl) (c:Int),u[i]?=some v→cols[i]?=some c→bT v=true∧iR v∧(v.k=c∨v.k=1∨v.k=2)
theorem fX {cols:List Int}{u:List Vl}(h:oW cols u):jB cols.length u:=by
 refine⟨h.1,fun v b=>?_⟩;obtain⟨i,hi⟩:=List.getElem?_of_mem b;have a:i<cols.length:=by rw[<- h.1];exact(List.getElem?_eq_some_iff.1 hi).1
 exact(h.2 i v _ hi (aN a)).1
theorem mQ {cols:List Int}{u:List Vl}(h:oW cols u){i:Nat}(hi:i<cols.length):bT (u.getD i bE)=true/\iR (u.getD i bE)/\((u.getD i bE).k=cols.getD i 0\/(u.getD i bE).k=1\/(u.getD i bE).k=2):=by
 have a:i<u.length:=by rw[h.1];exact hi
 rw[bG,bG,aN a,aN hi];exact h.2 i _ _ (aN a) (aN hi)
structure Pair (n:Nat) (r:Rg×Rg):Prop where
 o1:nR r.1
 w1:r.1.w=(n:Int)
 o2:nR r.2
 w2:r.2.w=(n:Int)
 f1:kD r.1
 f2:kD r.2
theorem pR (n:Nat)(i j:Int)(s:List Iv):(oM n i j s).length=n:=by simp[oM]
theorem aK8 {n:Nat}{i j:Int}{s:List Iv}(a:cM s=true):∀t∈oM n i j s,cM t=true:=fun t b=>by
 obtain⟨q,_,rfl⟩:=List.mem_map.1 b;split
 . exact a
 . exact yW
theorem rB {n:Nat}(a:n<=12){i j:Int}{s:List Iv}(b:cM s=true):nR (jI n i j s)/\(jI n i j s).w=(n:Int):=boxR_ok a (pR _ _ _ _) (aK8 b)
theorem bx2_wf {n:Nat}{i j:Int}{s:List Iv}(a:∀x∈s,pV x.f/\pV x.t):kD (jI n i j s):=bG0 _ fun t b=>by
 obtain⟨q,_,rfl⟩:=List.mem_map.1 b;split
 . exact a
 . exact alls_wf 1 lE (by simp)
theorem bF9 {n:Nat}{i j:Int}{s:List Iv}{q:Nat}(a:q<n):(oM n i j s).getD q []=if (q:Int)=i\/(q:Int)=j then s else lE:=by
 simp[oM,bG,List.getElem?_range a]
theorem aP4 {n:Nat}{i j:Nat}(hi:i<n)(d:j<n)(s:List Iv){u:List Vl}(c:jB n u):(jI n i j s).den u=(eP s (u.getD i bE)&&eP s (u.getD j bE)):=by
 rw[jI,cA3 (by rw[c.1,pR]),bV,inB_at (by rw[c.1,pR]),pR,aI];constructor
 . intro h;have a:=h i hi;have b:=h j d;rw[bF9 hi,if_pos (.inl rfl)]at a;rw[bF9 d,if_pos (.inr rfl)]at b;exact⟨a,b⟩
 . rintro⟨a,b⟩ q e;rw[bF9 e];split
   . rename_i h;rcases h with h|h
     . obtain rfl:q=i:=(by omega);exact a
     . obtain rfl:q=j:=(by omega);exact b
   . exact bX9 (good_at c e)
structure Big (cols:List Int) (p:Pd) (r:Rg×Rg):Prop where
 pr:Pair cols.length r
 sub:∀ u,jB cols.length u→r.1.den u=true→r.2.den u=true
 lo:∀ u,oW cols u→r.1.den u=true→dV u [] p=true
 hi:∀ u,oW cols u→dV u [] p=true→r.2.den u=true
 eq:crB p=false→r.1=r.2
structure BigA (cols:List Int) (H:List Vl→Bool) (c:Bool) (r:Rg×Rg):Prop where
 pr:Pair cols.length r
 sub:∀ u,jB cols.length u→r.1.den u=true→r.2.den u=true
 lo:∀ u,oW cols u→r.1.den u=true→H u=true
 hi:∀ u,oW cols u→H u=true→r.2.den u=true
 eq:c=false→r.1=r.2
theorem nW {n:Nat}{op:Bool->Bool->Bool}{a x r:Rg×Rg}(ha:Pair n a)(b:Pair n x)(h:gF op a x=some r):Pair n r/\r.1=comb op n a.1 x.1/\r.2=comb op n a.2 x.2:=by
 unfold gF at h;split at h
 . rename_i c;injection h with h;subst h;obtain⟨d,e,g⟩:=(lG ha.o1 ha.w1 b.o1 b.w1 op).2 c.1;obtain⟨i,j,v3⟩:=(lG ha.o2 ha.w2 b.o2 b.w2 op).2 c.2;exact⟨⟨e,g,j,v3,bV4 ha.f1 b.f1,bV4 ha.f2 b.f2⟩,d,i⟩
 . cases h
theorem bW4 {n:Nat}{a r:Rg×Rg}(ha:Pair n a)(h:xQ a=some r):Pair n r/\r.1=bF5 n a.2/\r.2=bF5 n a.1:=by
 unfold xQ at h;split at h
 . rename_i b;injection h with h;subst h;obtain⟨c,d,e⟩:=(yK ha.o2 ha.w2).2 b.1;obtain⟨g,i,v3⟩:=(yK ha.o1 ha.w1).2 b.2;exact⟨⟨d,e,i,v3,cp_wf ha.f2,cp_wf ha.f1⟩,c,g⟩
 . cases h
theorem rD {n:Nat}(a:n<=12):Pair n (dO n,dO n):=⟨wW a,aZ8 n,wW a,aZ8 n,aP9 n,aP9 n⟩
theorem sB {n:Nat}(a:n<=12):Pair n (.nil (n:Int) false,.nil (n:Int) false):=⟨(aN2 a).1,rfl,(aN2 a).1,rfl,trivial,trivial⟩
section
variable {cols:List Int}
theorem big_and {H:List Vl->Bool}{c:Bool}{p:Pd}{a x r:Rg×Rg}(ha:BigA cols H c a)(e:Big cols p x)(h:gF kX a x=some r):BigA cols (fun u=>H u&&dV u [] p) (c || crB p) r:=by
 obtain⟨l,j,k⟩:=nW ha.pr e.pr h;have g:∀u,jB cols.length u->r.1.den u=(a.1.den u&&x.1.den u):=fun u b=>by rw[j,aC7 (hR ha.pr.o1 ha.pr.w1) (hR e.pr.o1 e.pr.w1) _ _ _ b,bW1]
 have i:∀u,jB cols.length u->r.2.den u=(a.2.den u&&x.2.den u):=fun u b=>by rw[k,aC7 (hR ha.pr.o2 ha.pr.w2) (hR e.pr.o2 e.pr.w2) _ _ _ b,bW1]
 refine⟨l,fun u b d=>?_,fun u b d=>?_,fun u b d=>?_,fun hc=>?_⟩
 . rw[g u b,aI]at d;rw[i u b,ha.sub u b d.1,e.sub u b d.2];rfl
 . rw[g u (fX b),aI]at d;rw[ha.lo u b d.1,e.lo u b d.2];rfl
 . rw[aI]at d;rw[i u (fX b),ha.hi u b d.1,e.hi u b d.2];rfl
 . rw[Bool.or_eq_false_iff]at hc;rw[j,k,ha.eq hc.1,e.eq hc.2]
theorem big_or {H:List Vl->Bool}{c:Bool}{p:Pd}{a x r:Rg×Rg}(ha:BigA cols H c a)(e:Big cols p x)(h:gF aF1 a x=some r):BigA cols (fun u=>H u || dV u [] p) (c || crB p) r:=by
 obtain⟨l,j,k⟩:=nW ha.pr e.pr h;have g:∀u,jB cols.length u->r.1.den u=(a.1.den u || x.1.den u):=fun u d=>by rw[j,aC7 (hR ha.pr.o1 ha.pr.w1) (hR e.pr.o1 e.pr.w1) _ _ _ d,bV9]
 have i:∀u,jB cols.length u->r.2.den u=(a.2.den u || x.2.den u):=fun u d=>by rw[k,aC7 (hR ha.pr.o2 ha.pr.w2) (hR e.pr.o2 e.pr.w2) _ _ _ d,bV9]
 refine⟨l,fun u d b=>?_,fun u d b=>?_,fun u d b=>?_,fun hc=>?_⟩
 . rw[g u d,Bool.or_eq_true]at b;rw[i u d];rcases b with b|b
   . rw[ha.sub u d b];rfl
   . rw[e.sub u d b,Bool.or_true]
 . rw[g u (fX d),Bool.or_eq_true]at b;rcases b with b|b
   . rw[ha.lo u d b];rfl
   . rw[e.lo u d b,Bool.or_true]
 . rw[Bool.or_eq_true]at b;rw[i u (fX d)];rcases b with b|b
   . rw[ha.hi u d b];rfl
   . rw[e.hi u d b,Bool.or_true]
 . rw[Bool.or_eq_false_iff]at hc;rw[j,k,ha.eq hc.1,e.eq hc.2]
theorem big_all (a:cols.length<=12):BigA cols (fun _=>true) false (dO cols.length,dO cols.length):=⟨rD a,fun _ _ h=>h,fun _ _ _=>rfl,fun u b _=>vW (fX b),fun _=>rfl⟩
theorem big_em (a:cols.length<=12):BigA cols (fun _=>false) false (.nil (cols.length:Int) false,.nil (cols.length:Int) false):=⟨sB a,fun _ _ h=>h,fun u _ h=>(by rw[rQ]at h;cases h),fun _ _ h=>(by cases h),fun _=>rfl⟩
end
theorem hG {v:Vl}:gL v=true↔bT v=true/\3<=v.k:=by simp[gL]
theorem jA {cols:List Int}{o:Od}(h:dJ cols [] o≠0):(o.k=3/\gL o.v=true/\dJ cols [] o=o.v.k)\/(o.k=1/\∃i:Nat,o.ix=(i:Int)/\i<cols.length/\dJ cols [] o=cols.getD i 0):=by
 unfold dJ at h ⊢;split at h
 . rename_i a;rw[if_pos a];split at h
   . rename_i b;rw[if_pos b];exact .inl ⟨a,b.2,rfl⟩
   . exact absurd rfl h
 . rename_i a;rw[if_neg a];split at h
   . rename_i c;rw[if_pos c];split at h
     . rename_i b;rw[if_pos b];refine .inr ⟨c,o.ix.toNat,by omega,by omega,rfl⟩
     . exact absurd rfl h
   . split at h
     . split at h
       . rename_i d;exact absurd d.2.1 (by simp;omega)
       . exact absurd rfl h
     . exact absurd rfl h
theorem aO8 {cols:List Int}(h:iC cols=true){i:Nat}(hi:i<cols.length):3<=cols.getD i 0/\cols.getD i 0<=5:=by
 unfold iC at h;rw[List.all_eq_true]at h;rw[bG,aN hi];simpa using h _ (List.getElem_mem hi)
theorem yI {u:List Vl}{o:Od}(h:o.k=1){i:Nat}(hi:o.ix=(i:Int))(a:i<u.length):oQ u [] o=u.getD i bE:=by
 unfold oQ;rw[if_neg (by omega),if_pos h,if_pos (by omega),hi,bM]
theorem sC {u:List Vl}{o:Od}(h:o.k=3):oQ u [] o=o.v:=by unfold oQ;rw[if_pos h]
theorem bS1 (a c:Int):hA (kM a) (-c)=hA a c:=by
 unfold hA kM;by_cases b:a=1
 . subst b;simp
 by_cases d:a=2
 . subst d;simp
 by_cases e:a=3
 . subst e;simp
 by_cases g:a=4
 . subst g;simp
 by_cases i:a=5
 . subst i;simp
 by_cases j:a=6
 . subst j;simp
 simp[b,d,e,g,i,j]
theorem aA8 {k:Int}(h:3<=k/\k<=5):GoodR (eM k).1 2:=by
 refine⟨oF h,fun u a=>?_⟩;have c:k=3\/k=4\/k=5:=by omega
 have b:gV = -9223372036854775808:=rfl;rcases c with rfl|rfl|rfl
 . rw[bJ3]at a;simp[cR]at a;rcases a with rfl|rfl<;>simp[pV,b]
 . rw[bJ2]at a;simp[cR]at a;rcases a with rfl|rfl<;>simp[pV,b]
 . rw[bJ1]at a;simp[cR]at a;subst a;simp[pV]
theorem vQ {v:Vl}(n:gL v=true)(hr:iR v){a:Int}(hc:1<=a/\a<=6):GoodR (eE a v) 8:=by
 obtain⟨g,p⟩:=hG.1 n;have m:3<=v.k/\v.k<=5:=by have:=hE (k:=v.k) (i:=v.i) (t:=v.t) g;omega
 have b:=aA8 m;have c:=bE0 g hr;have d:=bP9 g hr;have e:mU false false=false:=rfl;have o:vZ false false=false:=rfl;have j:qN false false=false:=rfl;have l:a=1\/a=2\/a=3\/a=4\/a=5\/a=6:=by omega
 rcases l with rfl|rfl|rfl|rfl|rfl|rfl<;>simp only[eE,reduceIte,Int.reduceEq]
 . exact d.mono (by omega)
 . exact(b.comb d e).mono (by omega)
 . exact(b.comb c e).mono (by omega)
 . exact((b.comb c e).comb d o).mono (by omega)
 . exact((b.comb c j).comb d e).mono (by omega)
 . exact(b.comb c j).mono (by omega)
theorem aE0 {n:Nat}(g:n<=12){i j:Int}{s:List Iv}{m:Nat}(d:GoodR s m)(e:m<=127):Pair n (jI n i j s,jI n i j s):=by
 obtain⟨a,b⟩:=rB (i:=i) (j:=j) g (d.good.valid e);have c:kD (jI n i j s):=bx2_wf d.wf;exact⟨a,b,a,b,c,c⟩
theorem kC {n:Nat}{cols:List Int}{p:Pd}{x:Rg}(c:Pair cols.length (x,x))(h:∀u,oW cols u->x.den u=dV u [] p):Big cols p (x,x) :=
 ⟨c,fun _ _ h=>h,fun u b a=>by rw[<- h u b];exact a,fun u b a=>by rw[<- h u b]at a;exact a,fun _=>rfl⟩
theorem big_cmp {cols:List Int}(t:cols.length<=12)(hc:iC cols=true){p:Pd}(H:p.h.op=3)(K:dB cols [] p=true)(hw:tM p.h):Big cols p (dL cols p.h):=by
 have z:∀u,dV u [] p=gT p.h.cm (oQ u [] p.h.l) (oQ u [] p.h.r):=fun u=>by unfold dV mK;rw[if_neg (by omega),if_pos H]
 have a0:(1<=p.h.cm/\p.h.cm<=6)/\dJ cols [] p.h.l≠0/\dJ cols [] p.h.l=dJ cols [] p.h.r:=by unfold dB fK at K;rw[if_pos H,aI,decide_eq_true_eq]at K;exact K.1.2
 have X:crB p=false->crH p.h=false:=fun h=>by unfold crB at h;rw[Bool.or_eq_false_iff]at h;exact h.1
 obtain⟨M,O,A⟩:=a0;have hr:dJ cols [] p.h.r≠0:=by rw[<- A];exact O
 generalize p.h=h at *;rcases jA O with⟨g,l2,c⟩|⟨g,i,l2,c,Q⟩<;>rcases jA hr with⟨q,m,o⟩|⟨q,j,m,o,R⟩
 . -- two values
   have e:dL cols h=if gT h.cm h.l.v h.r.v=true then (dO cols.length,dO cols.length)else (.nil (cols.length:Int) false,.nil (cols.length:Int) false):=by unfold dL;rw[if_pos ⟨g,q⟩]
   rw[e];cases hb:gT h.cm h.l.v h.r.v
   . rw[if_neg (by simp)];refine kC (n:=0) (sB t) fun u b=>?_;rw[rQ,z,sC g,sC q,hb]
   . rw[if_pos rfl];refine kC (n:=0) (rD t) fun u b=>?_;rw[vW (fX b),z,sC g,sC q,hb]
 . -- a value and a column
   have a1:h.l.v.k=cols.getD j 0:=(by rw[<- c,A,R]);have e:dL cols h=(jI cols.length h.r.ix h.r.ix (eE (kM h.cm) h.l.v),jI cols.length h.r.ix h.r.ix (eE (kM h.cm) h.l.v)):=(by unfold dL;rw[if_neg (by omega),if_neg (by omega),if_neg (by omega)]);have P:1<=kM h.cm/\kM h.cm<=6:=(by unfold kM;repeat' split<;>omega);rw[e];refine kC (n:=0) (aE0 t (vQ l2 hw.1 P) (by omega)) fun u b=>?_;obtain⟨s,x,L⟩:=mQ b o;rw[m,aP4 o o _ (fX b),Bool.and_self,aK4 (hG.1 l2).1 hw.1 (hG.1 l2).2 _ P s x,z,sC g,yI q m (by rw[b.1];exact o)];unfold gT;rw[l2,Bool.true_and];have ha:=dD h.l.v (u.getD j bE);rw[ha,bS1];have J:gL (u.getD j bE)=true↔3<=(u.getD j bE).k:=(by rw[hG];exact⟨fun h=>h.2,fun h=>⟨s,h⟩⟩);have V:=(hG.1 l2).2;rw[bV];simp only[aI,decide_eq_true_eq,J];constructor
   . rintro⟨C,y⟩;exact⟨⟨by omega,by omega⟩,y⟩
   . rintro⟨⟨C,y⟩,D⟩;exact⟨by omega,D⟩
 . -- a column and a value
   have a1:h.r.v.k=cols.getD i 0:=(by rw[<- o,<- A,Q]);have e:dL cols h=(jI cols.length h.l.ix h.l.ix (eE h.cm h.r.v),jI cols.length h.l.ix h.l.ix (eE h.cm h.r.v)):=(by unfold dL;rw[if_neg (by omega),if_neg (by omega),if_pos g]);rw[e];refine kC (n:=0) (aE0 t (vQ m hw.2 M) (by omega)) fun u b=>?_;obtain⟨s,x,L⟩:=mQ b c;rw[l2,aP4 c c _ (fX b),Bool.and_self,aK4 (hG.1 m).1 hw.2 (hG.1 m).2 _ M s x,z,sC q,yI g l2 (by rw[b.1];exact c)];unfold gT;rw[m,Bool.and_true];have J:gL (u.getD i bE)=true↔3<=(u.getD i bE).k:=(by rw[hG];exact⟨fun h=>h.2,fun h=>⟨s,h⟩⟩);have V:=(hG.1 m).2;rw[bV];simp only[aI,decide_eq_true_eq,J];constructor
   . rintro⟨C,y⟩;exact⟨⟨by omega,by omega⟩,y⟩
   . rintro⟨⟨C,y⟩,D⟩;exact⟨by omega,D⟩
 . -- two columns
   have a3:cols.getD i 0=cols.getD j 0:=(by rw[<- Q,A,R]);have G:=aO8 hc c;have U:=aA8 G;have a2:(eM (cols.getD h.l.ix.toNat 0)).1=(eM (cols.getD i 0)).1:=(by rw[l2,bM]);have e:dL cols h=if h.l.ix≠h.r.ix then (.nil (cols.length:Int) false,jI cols.length h.l.ix h.r.ix (eM (cols.getD i 0)).1)else if h.cm=1\/h.cm=4\/h.cm=6 then (jI cols.length h.l.ix h.r.ix (eM (cols.getD i 0)).1,jI cols.length h.l.ix h.r.ix (eM (cols.getD i 0)).1)else (.nil (cols.length:Int) false,.nil (cols.length:Int) false):=by unfold dL;rw[if_neg (by omega),if_pos ⟨g,q⟩,a2]
   have B:=aE0 t (i:=h.l.ix) (j:=h.r.ix) U (by omega);have N:∀u,oW cols u->(jI cols.length h.l.ix h.r.ix (eM (cols.getD i 0)).1).den u=(decide ((u.getD i bE).k=cols.getD i 0)&&decide ((u.getD j bE).k=cols.getD i 0)):=fun u b=>(by obtain⟨s,x,_⟩:=mQ b c;obtain⟨s1,s2,_⟩:=mQ b o;rw[l2,m,aP4 c o _ (fX b),aN5 G s x,aN5 G s1 s2]);have E:∀u,oW cols u->dV u [] p=gT h.cm (u.getD i bE) (u.getD j bE):=fun u b=>(by rw[z,yI g l2 (by rw[b.1];exact c),yI q m (by rw[b.1];exact o)]);rw[e];by_cases F:h.l.ix=h.r.ix
   . rw[if_neg (by simp[F])];have Y:j=i:=(by omega);subst Y;by_cases I:h.cm=1\/h.cm=4\/h.cm=6
     . rw[if_pos I];refine kC (n:=0) B fun u b=>?_;obtain⟨s,x,L⟩:=mQ b c;rw[N u b,E u b,Bool.and_self];unfold gT;rw[eH,Bool.and_self,decide_eq_true rfl,Bool.and_true];have hb:hA h.cm 0=true:=(by rcases I with h|h|h<;>rw[h]<;>rfl);rw[hb,Bool.and_true,bV,hG,decide_eq_true_eq];constructor
       . intro h;exact⟨s,by omega⟩
       . intro h;omega
     . rw[if_neg I];refine kC (n:=0) (sB t) fun u b=>?_;rw[rQ,E u b];unfold gT;rw[eH];have hb:hA h.cm 0=false:=(by have:h.cm=2\/h.cm=3\/h.cm=5:=(by omega);rcases this with h|h|h<;>rw[h]<;>rfl);rw[hb,Bool.and_false]
   . rw[if_pos F];refine⟨⟨(aN2 t).1,rfl,B.o2,B.w2,trivial,B.f2⟩,fun u b d=>?_,fun u b d=>?_,fun u b d=>?_,fun W=>?_⟩
     . rw[rQ]at d;cases d
     . rw[rQ]at d;cases d
     . show(jI _ _ _ _).den u=true;rw[E u b]at d;rw[N u b];unfold gT at d;simp only[aI,decide_eq_true_eq]at d;obtain⟨⟨⟨S,T⟩,d3⟩,_⟩:=d;obtain⟨_,_,L⟩:=mQ b c;obtain⟨_,_,s3⟩:=mQ b o;have:=(hG.1 S).2;have:=(hG.1 T).2;rw[aI,decide_eq_true_eq,decide_eq_true_eq];omega
     . have:=X W;unfold crH at this;rw[decide_eq_false_iff_not]at this;exact absurd ⟨H,g,q,F⟩ this
def SayA (cols:List Int) (t:Pd):Prop :=
 (∀H c acc r,BigA cols H c acc→(nx cols t).an acc=some r→BigA cols (fun u=>H u&&(dZ u [] t).1) (c || crA t) r) ∧
 (∀H c acc r,BigA cols H c acc→(nx cols t).or acc=some r→BigA cols (fun u=>H u || (dZ u [] t).2.1) (c || crA t) r) ∧
 (∀r,(nx cols t).fst=some r→t.len=1→∃a,t.args=[a]∧Big cols a r)
theorem bL2 {cols:List Int}(m:cols.length<=12)(hc:iC cols=true){p:Pd}(j:dB cols [] p=true)(hw:nT p)(A:SayA cols p){r:Rg×Rg}(h:cZ cols p=some r):Big cols p r:=by
 unfold cZ qD at h;have z:crB p=false->crA p=false:=fun h=>by unfold crB at h;rw[Bool.or_eq_false_iff]at h;exact h.2
 by_cases s:p.h.op=1
 . rw[if_pos s]at h;injection h with h;subst h;refine kC (n:=0) (rD m) fun u c=>?_;rw[vW (fX c)];unfold dV mK;rw[if_pos s]
 . rw[if_neg s]at h;by_cases E:p.h.op=2
   . rw[if_pos E]at h;injection h with h;subst h;refine kC (n:=0) (sB m) fun u c=>?_;rw[rQ];unfold dV mK;rw[if_neg (by omega),if_neg (by omega),if_neg (by omega),if_neg (by omega),if_neg (by omega)]
   . rw[if_neg E]at h;by_cases v:p.h.op=4
     . rw[if_pos v]at h;have g:=A.1 _ _ _ _ (big_all m) h;have e:∀u,dV u [] p=(true&&(dZ u [] p).1):=fun u=>(by unfold dV mK;rw[if_neg (by omega),if_neg (by omega),if_pos v];rfl);exact⟨g.pr,g.sub,fun u c d=>(e u).trans (g.lo u c d),fun u c d=>g.hi u c ((e u).symm.trans d),fun l=>g.eq (by rw[z l];rfl)⟩
     . rw[if_neg v]at h;by_cases y:p.h.op=5
       . rw[if_pos y]at h;have g:=A.2.1 _ _ _ _ (big_em m) h;have e:∀u,dV u [] p=(false || (dZ u [] p).2.1):=fun u=>(by unfold dV mK;rw[if_neg (by omega),if_neg (by omega),if_neg (by omega),if_pos y];rfl);exact⟨g.pr,g.sub,fun u c d=>(e u).trans (g.lo u c d),fun u c d=>g.hi u c ((e u).symm.trans d),fun l=>g.eq (by rw[z l];rfl)⟩
       . rw[if_neg y]at h;by_cases k:p.h.op=6
         . rw[if_pos k]at h;obtain⟨x,J,K⟩:=Option.bind_eq_some_iff.1 h;have H:p.len=1:=(by unfold dB fK at j;rw[if_neg (by omega),if_neg (by omega),if_pos k]at j;simp only[aI,decide_eq_true_eq]at j;exact j.1.1);obtain⟨a,q,i⟩:=A.2.2 x J H;obtain⟨n1,n2,B⟩:=bW4 i.pr K;have C:=hR i.pr.o1 i.pr.w1;have D:=hR i.pr.o2 i.pr.w2;have e:∀u,dV u [] p = !dV u [] a:=fun u=>(by have F:=bD8 u [] p;rw[q]at F;unfold dV mK;rw[if_neg (by omega),if_neg (by omega),if_neg (by omega),if_neg (by omega),if_pos k];exact F);have G:crA p=crB a:=by
            cases p with
            |nil _=>simp[args]at q
            |
             cons b t =>
             simp only[args,List.cons.injEq]at q;obtain⟨rfl,I⟩:=q;have:crA t=false:=by
              cases t with
              |nil _=>rfl
              |cons _ _=>simp[args]at I
             simp[crA,crB,this]
           refine⟨n1,fun u c d=>?_,fun u c d=>?_,fun u c d=>?_,fun l=>?_⟩
           . rw[n2,yJ D c]at d;rw[B,yJ C c];cases h8:x.1.den u
             . rfl
             . rw[i.sub u c h8]at d;cases d
           . rw[n2,yJ D (fX c)]at d;rw[e u];cases h8:dV u [] a
             . rfl
             . rw[i.hi u c h8]at d;cases d
           . rw[e u]at d;rw[B,yJ C (fX c)];cases h8:x.1.den u
             . rfl
             . rw[i.lo u c h8]at d;cases d
           . rw[n2,B,i.eq (by rw[<- G];exact z l)]
         . rw[if_neg k]at h;injection h with h;subst h;have o:p.h.op=3:=by
            unfold dB fK at j;by_cases o:p.h.op=3
            . exact o
            . rw[if_neg o,if_neg (by omega),if_neg k,if_neg (by omega)]at j;simp at j
           exact big_cmp m hc o j hw.1
theorem aL9 {cols:List Int}(l:cols.length<=12)(hc:iC cols=true):∀t:Pd,fH cols [] t=true->nS t->SayA cols t
 |.nil _,_,_=>⟨fun H c i r hb h=>by
  simp only[nx,Option.some.injEq]at h;subst h;simpa[dZ,crA]using hb,fun H c i r hb h=>by
  simp only[nx,Option.some.injEq]at h;subst h;simpa[dZ,crA]using hb,fun r h=>by simp[nx]at h⟩
 |
  .cons a t,hv,hw=>by
  unfold fH at hv;rw[aI]at hv;have z:dB cols [] a=true:=hv.1;have A:=aL9 l hc a (by have:=hv.1;rw[aI]at this;exact this.2) hw.2.1;have s:=aL9 l hc t hv.2 hw.2.2;have j:∀r,qD cols a.h (nx cols a)=some r->Big cols a r:=fun r h=>bL2 l hc z ⟨hw.1,hw.2.1⟩ A h;refine⟨fun H c i r hb h=>?_,fun H c i r hb h=>?_,fun r h v=>?_⟩
  . simp only[nx]at h;obtain⟨x,m,n⟩:=Option.bind_eq_some_iff.1 h;obtain⟨y,o,p⟩:=Option.bind_eq_some_iff.1 n;have g:=s.1 _ _ _ _ (big_and hb (j x m) o) p;have e:∀u,(H u&&(dZ u [] (.cons a t)).1)=((H u&&dV u [] a)&&(dZ u [] t).1):=fun u=>(by rw[Bool.and_assoc];rfl);have k:(c || crA (.cons a t))=((c || crB a) || crA t):=(by rw[Bool.or_assoc];rfl);rw[k];exact⟨g.pr,g.sub,fun u d b=>(e u).trans (g.lo u d b),fun u d b=>g.hi u d ((e u).symm.trans b),g.eq⟩
  . simp only[nx]at h;obtain⟨x,m,n⟩:=Option.bind_eq_some_iff.1 h;obtain⟨y,o,p⟩:=Option.bind_eq_some_iff.1 n;have g:=s.2.1 _ _ _ _ (big_or hb (j x m) o) p;have e:∀u,(H u || (dZ u [] (.cons a t)).2.1)=((H u || dV u [] a) || (dZ u [] t).2.1):=fun u=>(by rw[Bool.or_assoc];rfl);have k:(c || crA (.cons a t))=((c || crB a) || crA t):=(by rw[Bool.or_assoc];rfl);rw[k];exact⟨g.pr,g.sub,fun u d b=>(e u).trans (g.lo u d b),fun u d b=>g.hi u d ((e u).symm.trans b),g.eq⟩
  . simp only[nx]at h;have h0:t.args=[]:=(by have q:t.len=0:=(by simp only[Pd.len]at v;omega);rw[<- lU]at q;exact aR q);exact⟨a,by simp only[args,h0],j r h⟩
theorem nA {cols:List Int}(b:cols.length<=12)(hc:iC cols=true){p:Pd}(a:dB cols [] p=true)(hw:nT p){r:Rg×Rg}(h:cZ cols p=some r):Big cols p r :=
 bL2 b hc a hw (aL9 b hc p (by unfold dB at a;rw[aI]at a;exact a.2) hw.2) h
theorem sK {cols:List Int}{p:Pd}(h:hK cols [] p=0):iC cols=true/\dB cols [] p=true/\p.nodes<=24/\p.depth<=8:=by
 unfold hK at h;split at h
 . rename_i a;split at h
   . rename_i b;split at h
     . rename_i c;rw[aI]at a;exact⟨a.1,c,b.1,b.2⟩
     . cases h
   . cases h
 . cases h
theorem bd_ok {cols:List Int}{p:Pd}(h:xV cols p=0):cols.length<=12/\hK cols [] p=0/\cZ cols p=some (bdR cols p):=by
 have h0:=h;unfold xV at h;split at h
 . cases h
 . rename_i b;split at h
   . rename_i a;split at h
     . cases h
     . rename_i r hr;refine⟨by omega,a,?_⟩;unfold bdR;rw[if_pos h0,hr];rfl
   . rename_i a;exact absurd h a
theorem bd_big {cols:List Int}{p:Pd}(hw:nT p)(h:xV cols p=0):Big cols p (bdR cols p):=by
 obtain⟨a,b,c⟩:=bd_ok h;obtain⟨c1,c2,_,_⟩:=sK b;exact nA a c1 c2 hw c
def dX (op:Int):Nd:=⟨op,0,wC,wC⟩
section
variable {cols:List Int} {p:Pd} (hw:nT p) (h0:xV cols p=0)
include hw h0
omit hw in
end
theorem and_all {n:Nat}{a:Rg}(d:n<=12)(ha:nR a)(hwa:a.w=(n:Int)):dY kX (dO n) a=0/\cX kX (dO n) a=a:=by
 have b:=hR ha hwa;refine op_is (wW d) (aZ8 n) ha hwa (aW9 n _ _ (lC _ _ _ _ (vV n).1 b) b fun u c=>?_) ha;rw[aC7 (vV n).1 b _ _ _ c,vW c];cases a.den u<;>rfl
def exV:Vl:=⟨4,5,⟨#[]⟩⟩
def exH1:Nd:=⟨3,3,⟨1,0,bE⟩,⟨3,0,exV⟩⟩
def exH2:Nd:=⟨3,1,⟨1,0,bE⟩,⟨1,1,bE⟩⟩
def exP:Pd:=.cons (.nil exH1) (.cons (.nil exH2) (.nil (dX 4)))
def exA:Rg:=jI 2 0 0 (eE 3 exV)
def exB:Rg:=jI 2 0 1 (eM 4).1
def exI:Rg:=comb kX 2 exA (.nil 2 false)
def exO:Rg:=comb kX 2 exA exB
theorem ex_node:cZ [4,4] exP=(gF kX (dO 2,dO 2) (exA,exA)).bind fun r=>(gF kX r (.nil 2 false,exB)).bind some:=rfl
theorem bR0:nR exA/\exA.w=2:=rB (by omega) (by decide +kernel)
theorem ex_B:nR exB/\exB.w=2:=rB (by omega) (by decide +kernel)
theorem ex_s:(exI.size<=64/\exI.fits=true)/\(exO.size<=64/\exO.fits=true):=by decide +kernel
theorem ex_I:exI.w=2/\exI.len=0:=by decide +kernel
theorem ex_O:exO.w=2/\aW7 exO [⟨4,4,⟨#[]⟩⟩,⟨4,0,⟨#[]⟩⟩]=true/\aW7 exO [⟨4,5,⟨#[]⟩⟩,⟨4,0,⟨#[]⟩⟩]=false:=by decide +kernel
theorem bY8:hK [4,4] [] exP=0:=by decide +kernel
theorem bY9:xV [4,4] exP=0/\bdR [4,4] exP=(exI,exO)/\nR exO:=by
 have n1:=and_all (n:=2) (by omega) bR0.1 bR0.2;have k:=(aN2 (n:=2) (by omega)).1;have g:=lG bR0.1 bR0.2 k (show(Rg.nil ((2:Nat):Int) false).w=((2:Nat):Int)from rfl) kX;have b:=lG bR0.1 bR0.2 ex_B.1 ex_B.2 kX;have c:dY kX exA (.nil 2 false)=0:=g.1.trans (if_pos ex_s.1);have a:dY kX exA exB=0:=b.1.trans (if_pos ex_s.2);have i:gF kX (dO 2,dO 2) (exA,exA)=some (exA,exA):=by unfold gF;rw[if_pos ⟨n1.1,n1.1⟩];show some (cX kX (dO 2) exA,cX kX (dO 2) exA)=_;rw[n1.2]
 have j:gF kX (exA,exA) (.nil 2 false,exB)=some (exI,exO):=by unfold gF;rw[if_pos ⟨c,a⟩];show some (cX kX exA (.nil 2 false),cX kX exA exB)=_;rw[(b.2 a).1];congr 2;exact(g.2 c).1
 have e:cZ [4,4] exP=some (exI,exO):=by rw[ex_node,i];show(gF kX (exA,exA) (.nil 2 false,exB)).bind some=_;rw[j];rfl
 have d:xV [4,4] exP=0:=by unfold xV;rw[if_neg (by decide),if_pos bY8,e]
 refine⟨d,?_,?_⟩
 . unfold bdR;rw[if_pos d,e];rfl
 . have:=(b.2 a).2.1;rw[(b.2 a).1]at this;exact this
theorem bY7:aW5 exO [⟨4,4,⟨#[]⟩⟩,⟨4,0,⟨#[]⟩⟩]=true/\aW5 exO [⟨4,5,⟨#[]⟩⟩,⟨4,0,⟨#[]⟩⟩]=false:=by
 unfold aW5;rw[fR.2 bY9.2.2,ex_O.1,ex_O.2.1,ex_O.2.2];exact⟨rfl,rfl⟩
theorem ex_wf:nT exP:=by
 have h:∀x:Int,gV<=x/\x<=9223372036854775807->iR ⟨4,x,⟨#[]⟩⟩:=fun x h=>h;have z:iR bE:=⟨by show gV<=(0:Int);decide,by show(0:Int)<=9223372036854775807;decide⟩;have v:iR exV:=⟨by show gV<=(5:Int);decide,by show(5:Int)<=9223372036854775807;decide⟩;exact⟨⟨z,z⟩,⟨z,v⟩,trivial,⟨z,z⟩,trivial,trivial⟩
end
section
open Go.RowKit
open Rg
def eC:Rg→Prop
 |.nil _ _=>True
 |.cons vs rest tail=>vs≠[]∧eC rest∧eC tail
theorem wI:∀r:Rg,eC r↔∀p∈r.parts,p.1≠[]/\eC p.2
 |.nil _ _=>by simp[eC,parts]
 |
  .cons vs rest tail=>by
  rw[eC,wI tail];simp only[parts,List.mem_cons,forall_eq_or_imp];exact⟨fun h=>⟨⟨h.1,h.2.1⟩,h.2.2⟩,fun h=>⟨h.1.1,h.1.2,h.2⟩⟩
theorem aB7:∀(n:Nat) (r:Rg),eI n r->eC r
 |0,r,h=>(wI r).2 fun p a=>by rw[h.2]at a;cases a
 |n+1,r,h=>(wI r).2 fun p a=>⟨(h.2.2.1 p a).1,aB7 n p.2 (h.2.2.1 p a).2.2.1⟩
theorem iT {r:Rg}(h:nR r):eC r:=aB7 _ r h.2.2.2.1
theorem tZ.gen {w p:World}{B:Nat}(hb:But (· = B) w p)(k:∀(A:Option Addr) (n:Nat) (vs:List Iv),kH w A n vs->0<n->∀b o,A=some ⟨b,o,none⟩->b≠B)
 (l:∀(o:Nat) (A:Option Addr) (n c:Nat) (vs:List Iv) (x:Int),w.cell? ⟨B,o,none⟩=some (.slice A n c)->kH w A n vs->vs≠[]->w.cell? ⟨B,o+1,none⟩=some x->False):∀ {r:Rg} {b o:Nat},eC r->tZ w r b o->tZ p r b o
 |.nil _ _,_,_,_,_=>trivial
 |
  .cons vs rest tail,b,o,d,h=>by
  obtain⟨⟨A1,n1,c1,q,y,i⟩,s,z,⟨A',n',c',C,D,E,F⟩,u⟩:=h;have J:¬b=B:=by intro e;subst e;exact l o A1 n1 c1 vs _ q i d.1 s
  have g:∀j v,w.cell? ⟨b,j,none⟩=some v->p.cell? ⟨b,j,none⟩=some v:=fun j v t=>by have H:=gS (w:=w) (a:=⟨b,j,none⟩) (by rw[t];rfl);rw[World.cell?_of_block (w:=w) (hb.block b H J)];exact t
  refine⟨⟨A1,n1,c1,g _ _ q,y,i.but hb fun d b' m G=>k A1 n1 vs i d b' m G⟩,g _ _ s,g _ _ z,⟨A',n',c',g _ _ C,D,E,fun I=>?_⟩,tZ.gen hb k l d.2.2 u⟩;obtain⟨b',m,e,h⟩:=F I;exact⟨b',m,e,tZ.gen hb k l d.2.1 h⟩
theorem RgS.gen {w a:World}{B:Nat}(hb:But (· = B) w a)(d:∀(A:Option Addr) (n:Nat) (vs:List Iv),kH w A n vs->0<n->∀b o,A=some ⟨b,o,none⟩->b≠B)
 (g:∀(o:Nat) (A:Option Addr) (n c:Nat) (vs:List Iv) (x:Int),w.cell? ⟨B,o,none⟩=some (.slice A n c)->kH w A n vs->vs≠[]->w.cell? ⟨B,o+1,none⟩=some x->False)
 {x:Int}{f:Bool}{A:Option Addr}{n c:Nat}{r:Rg}(hr:eC r)(h:RgS w x f A n c r):RgS a x f A n c r :=
 ⟨h.hw,h.hf,h.ok,h.len,fun i=>by
  obtain⟨b,o,e,j⟩:=h.ex i;exact⟨b,o,e,j.gen hb d g hr⟩⟩
theorem bX7 {w:World}{A:Option Addr}{n:Nat}{vs:List Iv}(h:kH w A n vs)(e:0<n){b o:Nat}(d:A=some ⟨b,o,none⟩):∃y:Iv,w.cell? ⟨b,o,none⟩=some y.f.k/\w.cell? ⟨b,o+1,none⟩=some y.f.i/\w.cell? ⟨b,o+2,none⟩=some y.f.t:=by
 obtain⟨b',g,y,c,_,hc⟩:=h.at e;rw[d]at c;injection c with h1;injection h1 with h1 h2;subst h1 h2;have a:=hc 0 _ rfl;have c1:=hc 1 _ rfl;have c2:=hc 2 _ rfl;simp only[Nat.zero_mul,Nat.add_zero]at a c1 c2;exact⟨y,a,c1,c2⟩
theorem cC8 {w g:World}{B:Nat}{T:TypeId}{k:Int}(d:aT w B T #[k])(hb:But (· = B) w g){x:Int}{f:Bool}{A:Option Addr}{n c:Nat}{r:Rg}(hr:eC r)(h:RgS w x f A n c r):RgS g x f A n c r :=
 RgS.gen hb (fun A n vs hi j b o i e=>by
  subst e;obtain⟨y,l,c1,c2⟩:=bX7 hi j i;rw[d.cell]at c2;rcases o with _|o<;>simp at c2) (fun o A n c vs x a _ _ m=>by
  rw[d.cell]at a;rcases o with _|o<;>simp at a) hr h
def fF (x:Int) (f:Bool) (A:Option Addr) (n c:Nat) (x':Int) (f':Bool) (A':Option Addr) (n' c':Nat):Array Value:=#[.int .i64 x,.bool f,.slice A n c,.int .i64 x',.bool f',.slice A' n' c']
theorem cC4 {w s:World}{B:Nat}{T:TypeId}{t:Int}{l:Bool}{k:Option Addr}{i d:Nat}{F:Int}{v:Bool}{A1:Option Addr}{n1 c1:Nat}{a:Rg}(q:aT w B T (fF t l k i d F v A1 n1 c1))(ha:RgS w t l k i d a)(hb:But (· = B) w s){x:Int}{f:Bool}{A:Option Addr}{n c:Nat}{r:Rg}(hr:eC r)(h:RgS w x f A n c r):RgS s x f A n c r :=
 RgS.gen hb (fun A n vs hi g b o z e=>by
  subst e;obtain⟨y,d,c1,c2⟩:=bX7 hi g z;rw[q.cell]at d c1 c2;rcases o with _|_|_|_|_|_|o<;>simp[fF]at d c1 c2) (fun o A n c vs x j hi E p=>by
  rw[q.cell]at j p;rcases o with _|_|_|_|_|_|o<;>simp[fF]at j p
  obtain⟨rfl,rfl,rfl⟩:=j;have g:0<i:=by
   rcases Nat.eq_zero_or_pos i with h0|h0
   . exact absurd (aR (by rw[hi.len,h0])) E
   . exact h0
  obtain⟨b,o,e,D⟩:=ha.ex g;obtain⟨y,u,_,_⟩:=bX7 hi g e;have C:=ha.len;cases a with
  |nil _ _=>simp[Rg.len]at C;omega
  |
   cons vs' rest tail =>
   obtain⟨⟨A2,n2,c2,m,_⟩,_⟩:=D;rw[u]at m;cases m) hr h
def vX (w:World) (a b:Rg) (er:Int) (e:Ending) (w':World):Prop :=
 ∃(x:Int) (f:Bool) (A:Option Addr) (n c:Nat) (x':Int) (f':Bool) (A':Option Addr) (n' c':Nat),e=.returned (.tuple #[.agg (fF x f A n c x' f' A' n' c'),.int .i64 er])∧RgS w' x f A n c a∧RgS w' x' f' A' n' c' b∧Below w.heap.size w w'
def fY (w:World) (B:Nat) (x:Int) (f:Bool) (A:Option Addr) (n c:Nat) (x':Int) (f':Bool) (A':Option Addr) (n' c':Nat):World:=(((((w.setCell ⟨B,0,none⟩ (.int .i64 x)).setCell ⟨B,1,none⟩ (.bool f)).setCell ⟨B,2,none⟩ (.slice A n c)).setCell ⟨B,3,none⟩ (.int .i64 x')).setCell ⟨B,4,none⟩ (.bool f')).setCell ⟨B,5,none⟩ (.slice A' n' c')
section
variable {w:World} {B:Nat} {x:Int} {f:Bool} {A:Option Addr} {n c:Nat} {x':Int} {f':Bool} {A':Option Addr} {n' c':Nat}
theorem cK:But (· = B) w (fY w B x f A n c x' f' A' n' c') :=
 (((((But.set (S:=fun k=>k=B) w (p:=⟨B,0,none⟩) rfl _).trans (But.set (S:=fun k=>k=B) _ (p:=⟨B,1,none⟩) rfl _)).trans (But.set (S:=fun k=>k=B) _ (p:=⟨B,2,none⟩) rfl _)).trans (But.set (S:=fun k=>k=B) _ (p:=⟨B,3,none⟩) rfl _)).trans (But.set (S:=fun k=>k=B) _ (p:=⟨B,4,none⟩) rfl _)).trans (But.set (S:=fun k=>k=B) _ (p:=⟨B,5,none⟩) rfl _)
theorem dC {base:Nat}{b:World}(h:Below base b w)(a:base<=B):Below base b (fY w B x f A n c x' f' A' n' c') :=
 (((((h.setCell (p:=⟨B,0,none⟩) a _).setCell (p:=⟨B,1,none⟩) a _).setCell (p:=⟨B,2,none⟩) a _).setCell (p:=⟨B,3,none⟩) a _).setCell (p:=⟨B,4,none⟩) a _).setCell (p:=⟨B,5,none⟩) a _
theorem dQ {T:TypeId}{y:Int}{g:Bool}{C:Option Addr}{m d:Nat}{j:Int}{e:Bool}{a:Option Addr}{i b:Nat}(h:aT w B T (fF y g C m d j e a i b)):aT (fY w B x f A n c x' f' A' n' c') B T (fF x f A n c x' f' A' n' c') :=
 (((((h.set_ 0 x).set_ 1 (.bool f)).set_ 2 (.slice A n c)).set_ 3 x').set_ 4 (.bool f')).set_ 5 (.slice A' n' c')
end
def jE (e1 e2:Int):Int:=if e1=0 then e2 else e1
def jR (e1 e2:Int) (a:Rg):Rg:=if e1=0∧e2=0 then a else cQ
def cB9 (w:World) (x:Int) (f:Bool) (A:Option Addr) (n c:Nat) (er:Int) (e:Ending) (w':World):Prop :=
 ∃P Q:Nat,e=.returned (.func (.func 133) #[] #[.pointer (some ⟨P,0,none⟩),.pointer (some ⟨Q,0,none⟩)])∧w.heap.size≤P∧aT w' P 36 #[.int .i64 er]∧aT w' Q 71 #[.int .i64 x,.bool f,.slice A n c]∧Below w.heap.size w w'
theorem hX (x:Int)(f:Bool)(A:Option Addr)(n c:Nat)(a:Int)(w:World):Calls Tryz.prog 85 #[.agg #[x,.bool f,.slice A n c],a] w fun e w'=>cB9 w x f A n c a e w':=by
 have HQ:=Z ((aT.new w 71 #[x,.bool f,.slice A n c]).alloc (.cells #[a] 36));have d:=Z (aT.new (w.alloc (.cells #[x,.bool f,.slice A n c] 71)) 36 #[a]);rw[show(w.alloc (.cells #[x,.bool f,.slice A n c] 71)).heap.size=w.heap.size+1 by simp]at d;have b:=(aB w w).alloc (aD _) (.cells #[x,.bool f,.slice A n c] 71);have HB:=Z (b.alloc b.size (.cells #[a] 36));clear b;go_enter Tryz.func85,Tryz.ntmps85;go_upto_region 1 with fail;generalize hW:(w.alloc (.cells #[x,.bool f,.slice A n c] 71)).alloc (.cells #[a] 36)=g at *;clear hW;go_wp2;go_ret;exact⟨w.heap.size+1,w.heap.size,rfl,by omega,d.out,HQ.out,HB.out⟩
def PairB (w:World) (P:Nat) (a b:Rg) (er:Int) (e:Ending) (w':World):Prop :=
 ∃(x:Int) (f:Bool) (A:Option Addr) (n c:Nat) (x':Int) (f':Bool) (A':Option Addr) (n' c':Nat),e=.returned (.tuple #[.agg (fF x f A n c x' f' A' n' c'),.int .i64 er])∧RgS w' x f A n c a∧RgS w' x' f' A' n' c' b∧But (· = P) w w'
theorem cC2 (w:World):RgS w 0 false none 0 0 cQ:=RgS.nil _ _
theorem aD8 {P R:Nat}{w b:World}(h:But (· = P) w b)(a:w.heap.size<=R){x:Int}{f:Bool}{A:Option Addr}{n c:Nat}{x':Int}{f':Bool}{A':Option Addr}{n' c':Nat}:But (· = P) w (fY b R x f A n c x' f' A' n' c') :=
 (((((h.setNew (p:=⟨R,0,none⟩) a _).setNew (p:=⟨R,1,none⟩) a _).setNew (p:=⟨R,2,none⟩) a _).setNew (p:=⟨R,3,none⟩) a _).setNew (p:=⟨R,4,none⟩) a _).setNew (p:=⟨R,5,none⟩) a _
theorem gR (x:Int)(f:Bool)(A:Option Addr)(n c:Nat)(a:Rg)(g:Int)(x':Int)(f':Bool)(A':Option Addr)(n' c':Nat)(b:Rg)(d:Int)(P Q:Nat)(w:World)(J:aT w P 36 #[g])(X:aT w Q 71 #[x,.bool f,.slice A n c])(ha:RgS w x f A n c a)(hb:RgS w x' f' A' n' c' b)(na:eC a)(nb:eC b) :
 Calls Tryz.prog 133 #[.agg #[x',.bool f',.slice A' n' c'],d,.pointer (some ⟨P,0,none⟩),.pointer (some ⟨Q,0,none⟩)] w fun e w'=>PairB w P (jR g d a) (jR g d b) (jE g d) e w':=by
 obtain⟨ra,E⟩:=zE (jR g d a);obtain⟨rb,F⟩:=zE (jR g d b);obtain⟨a2,G⟩:=zE (jE g d);rw[E.out,F.out,G.out];have b8:=J.lt;have b2:P≠Q:=by intro e;subst e;have h1:=J.cell 0;have h2:=X.cell 1;have h3:=J.cell 1;rw[h3]at h2;simp at h2
 have a3:=Z na;have a4:=Z nb;have l:=Z ((J.alloc (.cells #[x',.bool f',.slice A' n' c'] 71)).alloc (.cells #[zO,zF,zN,zO,zF,zN] 127));have HQ:=Z ((X.alloc (.cells #[x',.bool f',.slice A' n' c'] 71)).alloc (.cells #[zO,zF,zN,zO,zF,zN] 127));have a6:=Z ((ha.keep (aM w (.cells #[x',.bool f',.slice A' n' c'] 71))).keep (aM _ (.cells #[zO,zF,zN,zO,zF,zN] 127)));have a8:=Z ((hb.keep (aM w (.cells #[x',.bool f',.slice A' n' c'] 71))).keep (aM _ (.cells #[zO,zF,zN,zO,zF,zN] 127)));have T:=Z ((aT.new w 71 #[x',.bool f',.slice A' n' c']).alloc (.cells #[zO,zF,zN,zO,zF,zN] 127));have r:Hid (aT _ (w.alloc (.cells #[x',.bool f',.slice A' n' c'] 71)).heap.size 127 (fF 0 false none 0 0 0 false none 0 0)):=Z (aT.new (w.alloc (.cells #[x',.bool f',.slice A' n' c'] 71)) 127 #[zO,zF,zN,zO,zF,zN]);rw[show(w.alloc (.cells #[x',.bool f',.slice A' n' c'] 71)).heap.size=w.heap.size+1 by simp]at r;have b0:But (· = P) w (w.alloc (.cells #[x',.bool f',.slice A' n' c'] 71)):=But.alloc _ _;have I:=Z (b0.allocNew (.cells #[zO,zF,zN,zO,zF,zN] 127));have t:Hid (w.heap.size+1≠P/\w.heap.size≠P/\P≠Q):=Z ⟨by omega,by omega,b2⟩;clear b0 J X ha hb na nb b8 b2;go_enter Tryz.func133,Tryz.ntmps133;go_upto_region 1 with fail;obtain⟨O,U⟩:=zE (w.heap.size);obtain⟨R,M⟩:=zE (w.heap.size+1);have V:Hid (w.heap.size<=R):=Z (by have:=M.out;omega);rw[M.out]at r t;rw[U.out]at T t;rw[M.out,U.out];generalize hW:(w.alloc (.cells #[x',.bool f',.slice A' n' c'] 71)).alloc (.cells #[zO,zF,zN,zO,zF,zN] 127)=j at *;clear hW U M;have N:=l.out.cell;by_cases h1:g=0;rotate_left
 . obtain rfl:cQ=ra:=(by rw[<- E.out,jR,if_neg (fun h=>h1 h.1)]);obtain rfl:cQ=rb:=(by rw[<- F.out,jR,if_neg (fun h=>h1 h.1)]);obtain rfl:g=a2:=(by rw[<- G.out,jE,if_neg h1]);have g1:(g == 0)=false:=(by simpa using h1);have g2:(g != 0)=true:=(by simpa using h1);clear h1 E F G;go_upto_region 4 with fail;obtain⟨S,H⟩:∃S:Nat->Prop,Hid ((fun q=>q=R)=S):=⟨_,rfl⟩;have Y:¬S P:=(by rw[<- H.out];intro h;exact t.out.1 h.symm);refine bQ S (.one [0,1] 2 (.last [3])) ?_;have a1:∀(y:LaterS S j.drew) z,(dG S j.drew y).cell? ⟨P,z,none⟩=(#[g]:Array Value)[z]?:=fun y z=>(l.out.drew.but y.but Y).cell z;have s:Hid (aT j.drew R 127 (fF 0 false none 0 0 0 false none 0 0)):=Z r.out.drew;have W:Hid (But (· = P) w j.drew):=Z I.out.drew;generalize a0:j.drew=C at *;clear a0 N;unfold bB;simp only[cP];repeat(go_big_quiet_step (fail))
   refine aA ?_;clear a1;have L:=s.out.cell;have b3:=s.out.free;unfold fF at L;have K:But S C (fY C R 0 false none 0 0 0 false none 0 0):=(by rw[<- H.out];exact cK);have i:=(dQ (x:=0) (f:=false) (A:=none) (n:=0) (c:=0) (x':=0) (f':=false) (A':=none) (n':=0) (c':=0) s.out).cell;unfold fF at i;have m:Hid (But (· = P) w (fY C R 0 false none 0 0 0 false none 0 0)):=Z (aD8 W.out V.out);unfold fY at K i m;go_wp2_with fail;refine⟨K,?_⟩;unfold bB;simp only[cP];repeat(go_big_quiet_step (fail))
   refine aA ?_;go_wp2;exact aF (v:=.tuple #[.agg #[zO,zF,zN,zO,zF,zN],g]) (by simp[results,Tryz.results133,go_sem,i]) rfl ⟨0,false,none,0,0,0,false,none,0,0,rfl,cC2 _,cC2 _,m.out⟩
 subst h1;have a5:Hid (aT (j.setCell ⟨P,0,none⟩ d) P 36 #[d]):=Z (l.out.set_ 0 d);have u:But (· = P) j (j.setCell ⟨P,0,none⟩ d):=But.set (S:=fun k=>k=P) j (p:=⟨P,0,none⟩) rfl _;have b1:=Z (I.out.trans u);have b5:=Z (HQ.out.but u (fun e=>t.out.2.2 e.symm));have D:=Z (r.out.but u (fun e=>t.out.1 e));have b4:=Z (T.out.but u (fun e=>t.out.2.1 e));have b6:=Z (cC8 l.out u a3.out a6.out);have b7:=Z (cC8 l.out u a4.out a8.out);have b9:=l.out.free;clear u;go_upto_region 3 with fail;generalize hW:j.setCell ⟨P,0,none⟩ d=o at *;clear hW N b9 l I HQ r T a6 a8;have N:=a5.out.cell;by_cases h2:d=0;rotate_left
 . obtain rfl:cQ=ra:=(by rw[<- E.out,jR,if_neg (fun h=>h2 h.2)]);obtain rfl:cQ=rb:=(by rw[<- F.out,jR,if_neg (fun h=>h2 h.2)]);obtain rfl:d=a2:=(by rw[<- G.out,jE,if_pos rfl]);have g2:(d != 0)=true:=(by simpa using h2);clear h2 E F G;have l:=a5;have r:=D;have I:=b1;go_upto_region 4 with fail;obtain⟨S,H⟩:∃S:Nat->Prop,Hid ((fun q=>q=R)=S):=⟨_,rfl⟩;have Y:¬S P:=(by rw[<- H.out];intro h;exact t.out.1 h.symm);refine bQ S (.one [0,1] 2 (.last [3])) ?_;have a1:∀(y:LaterS S o.drew) z,(dG S o.drew y).cell? ⟨P,z,none⟩=(#[d]:Array Value)[z]?:=fun y z=>(l.out.drew.but y.but Y).cell z;have s:Hid (aT o.drew R 127 (fF 0 false none 0 0 0 false none 0 0)):=Z r.out.drew;have W:Hid (But (· = P) w o.drew):=Z I.out.drew;generalize a0:o.drew=C at *;clear a0 N;unfold bB;simp only[cP];repeat(go_big_quiet_step (fail))
   refine aA ?_;clear a1;have L:=s.out.cell;have b3:=s.out.free;unfold fF at L;have K:But S C (fY C R 0 false none 0 0 0 false none 0 0):=(by rw[<- H.out];exact cK);have i:=(dQ (x:=0) (f:=false) (A:=none) (n:=0) (c:=0) (x':=0) (f':=false) (A':=none) (n':=0) (c':=0) s.out).cell;unfold fF at i;have m:Hid (But (· = P) w (fY C R 0 false none 0 0 0 false none 0 0)):=Z (aD8 W.out V.out);unfold fY at K i m;go_wp2_with fail;refine⟨K,?_⟩;unfold bB;simp only[cP];repeat(go_big_quiet_step (fail))
   refine aA ?_;go_wp2;exact aF (v:=.tuple #[.agg #[zO,zF,zN,zO,zF,zN],d]) (by simp[results,Tryz.results133,go_sem,i]) rfl ⟨0,false,none,0,0,0,false,none,0,0,rfl,cC2 _,cC2 _,m.out⟩
 subst h2;obtain rfl:a=ra:=by rw[<- E.out,jR,if_pos ⟨rfl,rfl⟩]
 obtain rfl:b=rb:=by rw[<- F.out,jR,if_pos ⟨rfl,rfl⟩]
 obtain rfl:0=a2:=by rw[<- G.out,jE,if_pos rfl]
 have c1:=b5.out.cell;have c0:=b4.out.cell;have L:=D.out.cell;have b3:=D.out.free;unfold fF at L;have i:=(dQ (x:=x) (f:=f) (A:=A) (n:=n) (c:=c) (x':=x') (f':=f') (A':=A') (n':=n') (c':=c') D.out).cell;unfold fF at i;have m:Hid (But (· = P) w (fY o R x f A n c x' f' A' n' c')):=Z (aD8 b1.out V.out);have a7:=Z (cC4 (a:=cQ) D.out (cC2 _) (cK (w:=o) (B:=R) (x:=x) (f:=f) (A:=A) (n:=n) (c:=c) (x':=x') (f':=f') (A':=A') (n':=n') (c':=c')) a3.out b6.out);have a9:=Z (cC4 (a:=cQ) D.out (cC2 _) (cK (w:=o) (B:=R) (x:=x) (f:=f) (A:=A) (n:=n) (c:=c) (x':=x') (f':=f') (A':=A') (n':=n') (c':=c')) a4.out b7.out);unfold fY at i m a7 a9;go_wp2;exact aF (v:=.tuple #[.agg #[x,.bool f,.slice A n c,x',.bool f',.slice A' n' c'],zO]) (by simp[results,Tryz.results133,go_sem,i]) rfl ⟨x,f,A,n,c,x',f',A',n',c',rfl,a7.out,a9.out,m.out⟩
end
end Go.Proofs.YtnnmlhmffnfjfaaGreat
