/- Texts on which the walk stands. -/
import Derived.Test.YtnnmlhmffnfjfaaGreatC4
open Go renaming wpQuiet_nil → aA, bodyPost_ret → aF
open Go.RowKit.Below renaming refl → aB, setCell → bC, alloc → cG
open Nat renaming le_refl → aD, zero_add → cA
open Bool renaming and_eq_true → aI, eq_iff_iff → bV
open List renaming mem_of_getElem? → aJ, eq_nil_of_length_eq_zero → aR, drop_eq_nil_of_le → aU
open Go.World renaming size_alloc → aX
open Int renaming lt_or_le → cD
set_option maxHeartbeats 8000000
set_option linter.unusedVariables false
set_option maxRecDepth 100000
namespace Go.Proofs.YtnnmlhmffnfjfaaGreat
section
open Go.RowKit
theorem aU5 (A:Option Addr)(n c:Nat)(l:List Iv)(w:World)(hn:n<=1000000)(hs:kH w A n l) :
 Calls Tryz.prog 275 #[.slice A n c] w fun e w'=>e=.returned (.bool (cL none l))/\Below w w w':=by
 have a8:=Z hs;have c7:=hs.len;clear hs;go_enter Tryz.func275,Tryz.ntmps275;go_wp2;go_loopw [7] (fun i wr=>∃k:Nat,k<=n/\i=.int .i64 (k:Int)/\Hid (cL none l=cL (mT l k) (l.drop k))/\Below w w wr) (fun i _=>n-(intOf i).toNat);case atStart=>exact⟨0,by omega,rfl,by simp[Hid,mT],aB _ _⟩
 case round =>
  obtain⟨k,hk,rfl,a0,hb⟩:=hrel;by_cases hlt:k<n
  . have X:=a8.out.keep (aC hb);obtain⟨b,o,x,rfl,hx,hc⟩:=X.at hlt;have hi:=aU6 hx a0.out;obtain⟨⟨r,q,s⟩,⟨E,D,t⟩,a5⟩:=x;obtain⟨c0,c1,c2,c3,c4,c5,c6⟩:=IvAt.of hc;dsimp only at c0 c1 c2 c3 c4 c5 c6;rw[bV8]at hi;obtain⟨b4,Q⟩:=zE (decide (k+1=l.length));rw[Q.out]at hi;obtain⟨G,H⟩:=zE (aM3 (mT l k) ⟨r,q,s⟩);rw[H.out]at hi;have z:=Z hi;have a6:=Z X;clear hi a0 hc hx X;obtain⟨v1,K⟩:=zE (bT ⟨r,q,s⟩);go_wp2_with fail;refine(kV ⟨r,q,s⟩ _).mono ?_;rintro e w1 ⟨rfl,hb1⟩;rw[K.out];have a:=cC1 (hb.alloc hb.size _) hb1;have P:=(aM wr (.cells #[r,q,s,E,D,t,.bool a5] 187)).trans (aC hb1);have F:=(IvAt.new wr 187 ⟨⟨r,q,s⟩,⟨E,D,t⟩,a5⟩).keep (aC hb1);have a7:=Z F;clear c0 c1 c2 c3 c4 c5 c6 hb1 hb;cases v1
    . go_wp2;go_ret;exact⟨bR (by rw[z.out,K.out];simp),a⟩
    . obtain⟨B,e1,e2,e3,g,m,p⟩:=F;dsimp only at B e1 e2 e3 g m p;simp only[cA]at e1 e2 e3 g m p;cases a5
      . obtain⟨v2,O⟩:∃v,Hid (bT ⟨E,D,t⟩=v):=⟨_,rfl⟩;obtain⟨v3,R⟩:=zE (bZ ⟨r,q,s⟩ ⟨E,D,t⟩);go_wp2_with fail;refine(kV ⟨E,D,t⟩ _).mono ?_;rintro e w2 ⟨rfl,hb2⟩;rw[O.out];replace a:=cC1 a hb2;have b2:=bL4 hb2;cases v2
        . go_wp2;go_ret;exact⟨bR (by rw[z.out,O.out];simp),a⟩
        . go_wp2_with fail;refine(eN ⟨r,q,s⟩ ⟨E,D,t⟩ _).mono ?_;rintro e w3 ⟨rfl,Y⟩;rw[R.out];replace a:=cC1 a Y;have W:=(aC hb2).trans (aC Y);replace P:=P.trans W;have F:=a7.out.keep W;clear B e1 e2 e3 g m p b2 hb2 Y W;rcases cD v3 0 with h3|h3
          . have u:Hid (cL none l=(G&&cL (mT l (k+1)) (l.drop (k+1)))):=(by show _=_;rw[z.out,K.out,O.out,R.out];simp[h3]);go_wp2;obtain⟨B,e1,e2,e3,g,m,p⟩:=F;dsimp only at B e1 e2 e3 g m p;simp only[cA]at e1 e2 e3 g m p;rcases Nat.eq_zero_or_pos k with d|d
            . have V:decide (0<k)=false:=(by simp[d]);obtain rfl:G=true:=(by rw[<- H.out,d];rfl);have a9:=Z d;clear d;have C:=@bK w3.drew;refine aZ [([0,1,2,3,4,5,6,7,8,9,10],11)] [12,13] ?_;simp only[bS,cP];unfold bA;repeat(go_big_quiet_step (fail))
              refine aA ?_;clear C;go_wp2;refine⟨aB _ _,?_⟩;unfold bA;repeat(go_big_quiet_step (fail))
              refine aA ?_;go_wp2;go_roundw;case rel=>exact⟨k+1,by omega,by go_num,(by show _=_;rw[u.out];simp),a.drew⟩
              case measure=>simp[intOf];omega
            . have V:decide (0<k)=true:=(by simp[d]);obtain⟨b',o',y,L,hy,hd⟩:=a6.out.at (show k-1<n by omega);obtain⟨rfl,rfl⟩:b=b'/\o=o':=(by injection L with h;injection h with h1 h2;exact⟨h1,h2⟩);obtain⟨⟨pk,b5,b6⟩,⟨a3,a2,a4⟩,b7⟩:=y;obtain⟨S,T,U⟩:=(IvAt.of hd).to_.keep P;dsimp only at S T U;obtain⟨v,J⟩:=zE (bZ ⟨a3,a2,a4⟩ ⟨r,q,s⟩);have I:Hid (G=decide (v<0)):=(by show _=_;rw[<- H.out,<- J.out];have:mT l k=l[k-1]?:=(by obtain⟨j,rfl⟩:∃j,k=j+1:=⟨k-1,by omega⟩;rfl);rw[this,hy];rfl);clear hy hd L;have C:=@bK w3.drew;refine aZ [([0,1,2,3,4,5,6,7,8,9,10],11)] [12,13] ?_;simp only[bS,cP];unfold bA;repeat(go_big_quiet_step (fail))
              refine aA ?_;clear C;go_wp2_with (first|(go_at_call 112;refine(eN ⟨_,_,_⟩ ⟨_,_,_⟩ _).mono ?_;rintro e w9 ⟨rfl,N⟩;rw[J.out]));refine⟨N,?_⟩;unfold bA;repeat(go_big_quiet_step (fail))
              refine aA ?_;have M:=cC1 a.drew N;rcases cD v 0 with hv|hv
              . go_wp2;go_roundw;case rel=>exact⟨k+1,by omega,by go_num,(by show _=_;rw[u.out,I.out];simp[hv]),M⟩
                case measure=>simp[intOf];omega
              . go_wp2;go_ret;exact⟨bR (by rw[u.out,I.out];simp;intros;omega),M⟩
          . go_wp2;go_ret;exact⟨bR (by rw[z.out,K.out,O.out,R.out];simp;omega),a⟩
      . by_cases b9:k+1<n
        . go_wp2;go_ret;exact⟨bR (by rw[z.out,<- Q.out];simp;omega),a⟩
        . obtain rfl:b4=true:=(by rw[<- Q.out];simp;omega);by_cases a1:E=0/\D=0/\t.toList=[]
          . obtain⟨h1,h2,h3⟩:=a1;have u:Hid (cL none l=(G&&cL (mT l (k+1)) (l.drop (k+1)))):=(by show _=_;rw[z.out,K.out];simp[h1,h2,h3]);subst h1 h2;have H3:=Z h3;have b8:(!t.toList.isEmpty)=false:=(by simp[h3]);clear h3;have F:=a7.out;go_wp2;clear B e1 e2 e3 g m p;obtain⟨B,e1,e2,e3,g,m,p⟩:=F;dsimp only at B e1 e2 e3 g m p;simp only[cA]at e1 e2 e3 g m p;rcases Nat.eq_zero_or_pos k with d|d
            . have V:decide (0<k)=false:=(by simp[d]);obtain rfl:G=true:=(by rw[<- H.out,d];rfl);have a9:=Z d;clear d;have C:=@bK w1.drew;refine aZ [([0,1,2,3,4,5,6,7,8,9,10],11)] [12,13] ?_;simp only[bS,cP];unfold bA;repeat(go_big_quiet_step (fail))
              refine aA ?_;clear C;go_wp2;refine⟨aB _ _,?_⟩;unfold bA;repeat(go_big_quiet_step (fail))
              refine aA ?_;go_wp2;go_roundw;case rel=>exact⟨k+1,by omega,by go_num,(by show _=_;rw[u.out];simp),a.drew⟩
              case measure=>simp[intOf];omega
            . have V:decide (0<k)=true:=(by simp[d]);obtain⟨b',o',y,L,hy,hd⟩:=a6.out.at (show k-1<n by omega);obtain⟨rfl,rfl⟩:b=b'/\o=o':=(by injection L with h;injection h with h1 h2;exact⟨h1,h2⟩);obtain⟨⟨pk,b5,b6⟩,⟨a3,a2,a4⟩,b7⟩:=y;obtain⟨S,T,U⟩:=(IvAt.of hd).to_.keep P;dsimp only at S T U;obtain⟨v,J⟩:=zE (bZ ⟨a3,a2,a4⟩ ⟨r,q,s⟩);have I:Hid (G=decide (v<0)):=(by show _=_;rw[<- H.out,<- J.out];have:mT l k=l[k-1]?:=(by obtain⟨j,rfl⟩:∃j,k=j+1:=⟨k-1,by omega⟩;rfl);rw[this,hy];rfl);clear hy hd L;have C:=@bK w1.drew;refine aZ [([0,1,2,3,4,5,6,7,8,9,10],11)] [12,13] ?_;simp only[bS,cP];unfold bA;repeat(go_big_quiet_step (fail))
              refine aA ?_;clear C;go_wp2_with (first|(go_at_call 112;refine(eN ⟨_,_,_⟩ ⟨_,_,_⟩ _).mono ?_;rintro e w9 ⟨rfl,N⟩;rw[J.out]));refine⟨N,?_⟩;unfold bA;repeat(go_big_quiet_step (fail))
              refine aA ?_;have M:=cC1 a.drew N;rcases cD v 0 with hv|hv
              . go_wp2;go_roundw;case rel=>exact⟨k+1,by omega,by go_num,(by show _=_;rw[u.out,I.out];simp[hv]),M⟩
                case measure=>simp[intOf];omega
              . go_wp2;go_ret;exact⟨bR (by rw[u.out,I.out];simp;intros;omega),M⟩
          . have b1:Hid (cL none l=false):=by
             show _=_;rw[z.out];simp
             grind
            have b0:=Z a1;clear a1;go_wp2;all_goals
             first
              |(go_ret;exact⟨bR (b1.out.symm),a⟩)
              |(exfalso;apply b0.out;refine⟨?_,?_,?_⟩<;>first|rfl|assumption)
  . go_wp2;go_ret;exact⟨bR (by rw[a0.out];have b3:k=l.length:=(by have:=a8.out.len;omega);subst b3;simp[cL]),hb⟩
theorem aS7 (x y:Iv)(w:World):(binOp .neq 187 (.agg #[x.f.k,x.f.i,x.f.t,x.t.k,x.t.i,x.t.t,.bool x.o]) (.agg #[y.f.k,y.f.i,y.f.t,y.t.k,y.t.i,y.t.t,.bool y.o])).run Tryz.prog w =
 .ok (.bool (decide (x≠y))) w:=by
 obtain⟨⟨a,b,c⟩,⟨d,e,f⟩,g⟩:=x;obtain⟨⟨a',b',c'⟩,⟨d',j,f'⟩,l⟩:=y;have h:decide ((⟨⟨a,b,c⟩,⟨d,e,f⟩,g⟩:Iv)≠⟨⟨a',b',c'⟩,⟨d',j,f'⟩,l⟩) = !((a == a')&&((b == b')&&((c.toList == c'.toList)&&((d == d')&&((e == j)&&((f.toList == f'.toList)&&(g == l))))))):=by rw[bV];simp only[Iv.mk.injEq,Vl.mk.injEq,nD,decide_eq_true_eq,Bool.not_eq_true',Bool.and_eq_false_imp,beq_iff_eq,ne_eq,not_and,beq_eq_false_iff_ne,and_assoc]
 rw[h];clear h;by_cases h1:(a == a')=true
 . by_cases h2:(b == b')=true
   . by_cases h3:(c.toList == c'.toList)=true
     . by_cases h4:(d == d')=true
       . by_cases h5:(e == j)=true
         . by_cases h6:(f.toList == f'.toList)=true
           . simp[go_sem,h1,h2,h3,h4,h5,h6];split<;>simp_all
           . simp[go_sem,h1,h2,h3,h4,h5,h6]
         . simp[go_sem,h1,h2,h3,h4,h5]
       . simp[go_sem,h1,h2,h3,h4]
     . simp[go_sem,h1,h2,h3]
   . simp[go_sem,h1,h2]
 . simp[go_sem,h1]
theorem aS5 (A:Option Addr)(n c:Nat)(l:List Iv)(w:World)(hs:kH w A n l)(hn:n<=9223372036854775807) :
 Calls Tryz.prog 262 #[.slice A n c] w fun e w'=>e=.returned (.bool (cM l))/\Below w w w':=by
 have a:=Z hs;have hl:=hs.len;clear hs;rcases Nat.lt_or_ge 64 n with h|h
 . have hv:cM l=false:=(by simp[cM];omega);rw[hv];have b:decide ((n:Int)<=64)=false:=(by simp;omega);clear hl;go_enter Tryz.func262,Tryz.ntmps262;go_wp2;go_ret;exact⟨rfl,aB _ _⟩
 . have hv:cM l=cL none l:=(by simp[cM];omega);rw[hv];have b:decide ((n:Int)<=64)=true:=(by simp;omega);clear hl;go_enter Tryz.func262,Tryz.ntmps262;go_wp2_with fail;refine(aU5 A n c l _ (by omega) a.out).mono ?_;rintro e d ⟨rfl,hb1⟩;go_wp2;go_ret;exact⟨rfl,hb1⟩
theorem zQ (k:Int)(w:World):Calls Tryz.prog 225 #[k] w fun e w' =>
 e=.returned (.tuple #[.agg #[.int .i64 (eG k).1.k,.int .i64 (eG k).1.i,.string (eG k).1.t],.bool (eG k).2])/\Below w w w':=by
 generalize hf:eG k=r;have a:=Z hf;clear hf;go_enter Tryz.func225,Tryz.ntmps225;go_wp2;all_goals
  first
   |(refine aF (v:=.tuple #[.agg #[.int .i64 k,.int .i64 0,.string ⟨#[]⟩],.bool true]) ?_ rfl ⟨?_,?_⟩;focus (simp[results,Tryz.results225,go_sem];done))
   |(refine aF (v:=.tuple #[.agg #[.int .i64 k,.int .i64 gV,.string ⟨#[]⟩],.bool true]) ?_ rfl ⟨?_,?_⟩;focus (simp[results,Tryz.results225,go_sem,gV];done))
   |(refine aF (v:=.tuple #[.agg #[.int .i64 0,.int .i64 0,.string ⟨#[]⟩],.bool false]) ?_ rfl ⟨?_,?_⟩;focus (simp[results,Tryz.results225,go_sem];done))
  . rw[<- a.out];simp_all[eG,bE]
  . repeat(first|exact aB _ _|apply Below.drew|refine bC ?_ (by simp) _|refine cG ?_ (by simp) _)
theorem bT7 (A B:Option Addr)(n m ca cb:Nat)(a b:List Iv)(w:World)(d:kH w A n a)(g:kH w B m b)(hn:n<=9223372036854775807)(hm:m<=9223372036854775807) :
 Calls Tryz.prog 88 #[.slice A n ca,.slice B m cb] w fun e w'=>e=.returned (.bool (decide (a=b)))/\Below w w w':=by
 have v:=Z d;have HB:=Z g;have j:=Z d.len;have l:=Z g.len;clear d g;by_cases P:n=m
 . subst P;generalize hr:decide (a=b)=r;have z:Hid (decide (a.drop 0=b.drop 0)=r):=(by show _=_;simpa using hr);clear hr;go_enter Tryz.func88,Tryz.ntmps88;go_wp2;go_loopw [13] (fun i wr=>∃k:Nat,k<=n/\i=.int .i64 (k:Int)/\Hid (decide (a.drop k=b.drop k)=r)/\Below w w wr) (fun i _=>n-(intOf i).toNat);case atStart=>exact⟨0,by omega,rfl,z,aB _ _⟩
   case round =>
    obtain⟨k,hk,rfl,s,hb⟩:=hrel;by_cases hlt:k<n
    . obtain⟨Q,o1,x,rfl,hx,t⟩:=(v.out.keep (aC hb)).at hlt;obtain⟨R,o2,y,rfl,hy,u⟩:=(HB.out.keep (aC hb)).at hlt;have o:Hid (r=(decide (x=y)&&decide (a.drop (k+1)=b.drop (k+1)))):=(by show _=_;rw[<- s.out,eL hx,eL hy];simp);have p:=aS7 x y;obtain⟨q,c⟩:=zE (decide (x≠y));rw[c.out]at p;obtain⟨⟨T,S,U⟩,⟨a1,a0,a2⟩,a6⟩:=x;obtain⟨⟨X,W,Y⟩,⟨a4,a3,a5⟩,a7⟩:=y;dsimp only at p;obtain⟨C,c1,c2,D,E,F,G⟩:=IvAt.of t;obtain⟨H,I,J,K,L,M,N⟩:=IvAt.of u;dsimp only at C c1 c2 D E F G H I J K L M N;clear hx hy t u;go_wp2;have O:=@bK wr.drew;refine aZ [] [0,1,2,3,4,5,6,7,8] ?_;simp only[bS,cP];unfold bA;repeat(go_big_quiet_step (fail))
      refine aA ?_;clear O;cases q
      . go_wp2;go_roundw;case rel=>exact⟨k+1,by omega,by go_num,(by show _=_;rw[o.out];have:=c.out;simp at this;simp[this]),hb.drew⟩
        case measure=>simp[intOf];omega
      . go_wp2;go_ret;exact⟨bR (by rw[o.out];have:=c.out;simp at this;simp;intros;simp_all),hb.drew⟩
    . go_wp2;go_ret;have h1:a.drop k=[]:=aU (by have:=j.out;omega);have h2:b.drop k=[]:=aU (by have:=l.out;omega);exact⟨bR (by rw[<- s.out,h1,h2];simp),hb⟩
 . have hr:decide (a=b)=false:=(by simp only[decide_eq_false_iff_not];rintro rfl;have:=j.out;have:=l.out;omega);rw[hr];have V:((n:Int) != (m:Int))=true:=(by simp;omega);clear hr;go_enter Tryz.func88,Tryz.ntmps88;go_wp2;go_ret;exact⟨rfl,aB _ _⟩
theorem cC7 {w:World}{g:Nat}{T:TypeId}{cs:Array Value}(h:g=w.heap.size):aT (w.alloc (.cells cs T)) g T cs:=by
 subst h;exact aT.new w T cs
def kF (v:Vl):List Iv×Int:=if bT v then ([⟨v,(dF v).1,!(dF v).2⟩],0)else ([],10)
def eM (k:Int):List Iv×Int:=if (eG k).2 then ([⟨(eG k).1,(eG (wrap64 (k+1))).1,!(eG (wrap64 (k+1))).2⟩],0)else ([],1)
structure Good (l:List Iv) (m:Nat):Prop where
 ord:cL none l=true
 pts:(cR l).length≤m
theorem Good.len {l:List Iv}{m:Nat}(h:Good l m):2*l.length<=m+1:=by
 have a:=(kK l none h.ord).1;have b:=aN6 (cR l);rw[a]at b;have:=h.pts;omega
theorem Good.mono {l:List Iv}{m n:Nat}(h:Good l m)(a:m<=n):Good l n:=⟨h.ord,by have:=h.pts;omega⟩
theorem Good.nil (m:Nat):Good [] m:=⟨rfl,by simp[cR]⟩
theorem Good.valid {l:List Iv}{m:Nat}(h:Good l m)(a:m<=127):cM l=true:=by
 have:=h.len;unfold cM;rw[h.ord,Bool.and_true,decide_eq_true_eq];omega
theorem Good.merge {op:Bool->Bool->Bool}{a b:List Iv}{m n:Nat}(c:Good a m)(hb:Good b n)(e:op false false=false):Good (eD op a b) (m+n):=by
 obtain⟨d,g,_⟩:=pG op e c.ord hb.ord;exact⟨d,by have:=c.pts;have:=hb.pts;omega⟩
theorem Good.comb {op:Bool->Bool->Bool}{a b:List Iv}{m n:Nat}(c:Good a m)(hb:Good b n)(d:op false false=false):Good (eF op a b) (m+n):=by
 rw[fL op d c.ord hb.ord];exact c.merge hb d
theorem qV {P:List Vl}(h:hY P)(hv:∀v∈P,bT v=true):Good (dS P) P.length:=⟨uV P none h hv (fun y h=>by cases h),by rw[xZ];exact aD _⟩
theorem rY {v:Vl}(hv:bT v=true):Good (gB v).1 2:=by
 have e:(gB v).1=dS [v]:=by unfold gB;rw[if_pos hv];rfl
 rw[e];exact(qV (List.pairwise_singleton _ _) (fun w a=>by
  have:w=v:=by simpa using a
  rw[this];exact hv)).mono (by simp)
theorem aB4 {v:Vl}(hv:bT v=true)(hr:iR v):Good (kF v).1 2:=by
 obtain⟨d,g⟩:=pF hv hr;have e:(kF v).1=[⟨v,(dF v).1,!(dF v).2⟩]:=by unfold kF;rw[if_pos hv]
 rw[e];cases hb:(dF v).2
 . rw[g hb];have:=rY hv;unfold gB at this;rw[if_pos hv]at this;exact this
 . obtain⟨b,i,c,_⟩:=d hb;exact qV (P:=[v,(dF v).1]) (List.pairwise_cons.2 ⟨fun w a=>by
    have:w=(dF v).1:=(by simpa using a);rw[this];exact c,List.pairwise_singleton _ _⟩) (fun w a=>by
    rcases List.mem_cons.1 a with rfl|a
    . exact hv
    . have:w=(dF v).1:=(by simpa using a);rw[this];exact b)
theorem iv_ne {w:World}{g:Nat}{A:Option Addr}{n:Nat}{l:List Iv}(hc:CaseAt w g)(h:kH w A n l):0<n->∀b o,A=some ⟨b,o,none⟩->¬b=g:=by
 rintro j b o e rfl;obtain⟨A',n',c',m,q,i,_⟩:=hc.ex;obtain⟨b',p,x,c,k,d⟩:=h.at j;rw[e]at c;injection c with h1;injection h1 with h1 h2;subst h1 h2;have a:=d 0 _ rfl;have c1:=d 1 _ rfl;rw[i.cell]at a c1;simp only[Nat.zero_mul,Nat.add_zero]at a c1;rcases o with _|_|o<;>simp at a c1
theorem bF1:(⟨#[]⟩:ByteArray).toList=[]:=by rw[ByteArray.toList_eq]
theorem bJ3:(eM 3).1=[⟨⟨3,0,⟨#[]⟩⟩,⟨4,gV,⟨#[]⟩⟩,false⟩]:=by decide +kernel
theorem bJ2:(eM 4).1=[⟨⟨4,gV,⟨#[]⟩⟩,⟨5,0,⟨#[]⟩⟩,false⟩]:=by decide +kernel
theorem bJ1:(eM 5).1=[⟨⟨5,0,⟨#[]⟩⟩,bE,true⟩]:=by decide +kernel
theorem v3:bT ⟨3,0,⟨#[]⟩⟩=true:=by decide +kernel
theorem v4:bT ⟨4,gV,⟨#[]⟩⟩=true:=by decide +kernel
theorem v5:bT ⟨5,0,⟨#[]⟩⟩=true:=by decide +kernel
theorem oF {k:Int}(h:3<=k/\k<=5):Good (eM k).1 2:=by
 have:k=3\/k=4\/k=5:=by omega
 rcases this with rfl|rfl|rfl
 . rw[bJ3];exact qV (P:=[⟨3,0,⟨#[]⟩⟩,⟨4,gV,⟨#[]⟩⟩]) (List.pairwise_cons.2 ⟨fun w a=>by
    have:w=⟨4,gV,⟨#[]⟩⟩:=(by simpa using a);rw[this];decide +kernel,List.pairwise_singleton _ _⟩) (fun w a=>by
    rcases List.mem_cons.1 a with rfl|a
    . exact v3
    . have:w=⟨4,gV,⟨#[]⟩⟩:=(by simpa using a);rw[this];exact v4)
 . rw[bJ2];exact qV (P:=[⟨4,gV,⟨#[]⟩⟩,⟨5,0,⟨#[]⟩⟩]) (List.pairwise_cons.2 ⟨fun w a=>by
    have:w=⟨5,0,⟨#[]⟩⟩:=(by simpa using a);rw[this];decide +kernel,List.pairwise_singleton _ _⟩) (fun w a=>by
    rcases List.mem_cons.1 a with rfl|a
    . exact v4
    . have:w=⟨5,0,⟨#[]⟩⟩:=(by simpa using a);rw[this];exact v5)
 . rw[bJ1];exact(qV (P:=[⟨5,0,⟨#[]⟩⟩]) (List.pairwise_singleton _ _) (fun w a=>by
    have:w=⟨5,0,⟨#[]⟩⟩:=(by simpa using a);rw[this];exact v5)).mono (by simp)
theorem nK (x:Iv)(w:Vl):eP [x] w=(decide (bZ x.f w<=0)&&(x.o || decide (bZ w x.t<0))):=by simp[eP,xL]
theorem bJ0 {v:Vl}(hv:bT v=true)(hr:iR v):(v.k=3->bZ ⟨3,0,⟨#[]⟩⟩ v<=0)/\(v.k=4->bZ ⟨4,gV,⟨#[]⟩⟩ v<=0)/\(v.k=5->bZ ⟨5,0,⟨#[]⟩⟩ v<=0):=by
 obtain⟨k,i,t⟩:=v;have d:gV = -9223372036854775808:=rfl;have e:gV<=i:=hr.1;have b:=bF1;refine⟨fun h=>?_,fun h=>?_,fun h=>?_⟩<;>simp only at h<;>subst h
 . have a:i=0\/i=1:=(by simp[bT]at hv;exact hv.1);rw[sF,b];have c:t.toList=[]:=(by simp[bT]at hv;exact hv.2);rw[c];rcases a with rfl|rfl<;>decide
 . have c:t.toList=[]:=(by simpa[bT]using hv);rw[sF,b,c,lD];unfold vS dN
   repeat' split
   all_goals omega
 . have a:i=0:=(by simp[bT]at hv;exact hv.1);subst a;rw[sF,b,lD,lD];simp only[ne_eq,not_true_eq_false,if_false];cases t.toList<;>simp[dN]
theorem aN5 {k:Int}(h:3<=k/\k<=5){w:Vl}(hv:bT w=true)(hr:iR w):eP (eM k).1 w=decide (w.k=k):=by
 obtain⟨o,g,j⟩:=bJ0 hv hr;have hk:k=3\/k=4\/k=5:=by omega
 have l:∀ {a:Vl},a.k<w.k->bZ a w<=0/\¬bZ w a<0:=fun {a} h=>by have n:=jF h;have d:=dD a w;omega
 have c:∀ {a:Vl},w.k<a.k->¬bZ a w<=0/\bZ w a<0:=fun {a} h=>by have n:=jF h;have d:=dD a w;omega
 have m:∀ {a:Vl},bZ a w<=0->¬bZ w a<0:=fun {a} h=>by have d:=dD a w;omega
 rcases hk with rfl|rfl|rfl
 . rw[bJ3,nK,bV];simp only[aI,Bool.false_or,decide_eq_true_eq];rcases Int.lt_trichotomy w.k 3 with h|h|h
   . exact⟨fun e=>absurd e.1 (c (a:=⟨3,0,⟨#[]⟩⟩) h).1,fun e=>by omega⟩
   . exact⟨fun _=>h,fun _=>⟨o h,(c (a:=⟨4,gV,⟨#[]⟩⟩) (by simp only;omega)).2⟩⟩
   . refine⟨fun e=>absurd e.2 ?_,fun e=>by omega⟩;rcases Int.lt_or_eq_of_le (show 4<=w.k by omega)with b|b
     . exact(l (a:=⟨4,gV,⟨#[]⟩⟩) b).2
     . exact m (g b.symm)
 . rw[bJ2,nK,bV];simp only[aI,Bool.false_or,decide_eq_true_eq];rcases Int.lt_trichotomy w.k 4 with h|h|h
   . exact⟨fun e=>absurd e.1 (c (a:=⟨4,gV,⟨#[]⟩⟩) h).1,fun e=>by omega⟩
   . exact⟨fun _=>h,fun _=>⟨g h,(c (a:=⟨5,0,⟨#[]⟩⟩) (by simp only;omega)).2⟩⟩
   . refine⟨fun e=>absurd e.2 ?_,fun e=>by omega⟩;rcases Int.lt_or_eq_of_le (show 5<=w.k by omega)with b|b
     . exact(l (a:=⟨5,0,⟨#[]⟩⟩) b).2
     . exact m (j b.symm)
 . rw[bJ1,nK,bV];simp only[Bool.true_or,Bool.and_true,decide_eq_true_eq];rcases Int.lt_trichotomy w.k 5 with h|h|h
   . exact⟨fun e=>absurd e (c (a:=⟨5,0,⟨#[]⟩⟩) h).1,fun e=>by omega⟩
   . exact⟨fun _=>h,fun _=>j h⟩
   . have:w.k<=5:=(by have:=hE (k:=w.k) (i:=w.i) (t:=w.t) hv;omega);omega
theorem bK1 {v w:Vl}(hv:bT v=true):eP (gB v).1 w=decide (bZ v w<=0):=by
 unfold gB;rw[if_pos hv,nK];simp
theorem bV6 {v w:Vl}(hv:bT v=true):eP (kF v).1 w=(decide (bZ v w<=0)&&(!(dF v).2 || decide (bZ w (dF v).1<0))):=by
 unfold kF;rw[if_pos hv,nK]
theorem one_sub {v:Vl}(hv:bT v=true)(hr:iR v)(hk:3<=v.k){w:Vl}(h:eP (kF v).1 w=true):eP (eM v.k).1 w=true/\eP (gB v).1 w=true:=by
 rw[bV6 hv]at h;simp only[aI,Bool.or_eq_true,Bool.not_eq_true',decide_eq_true_eq]at h;obtain⟨b,a⟩:=h;refine⟨?_,by rw[bK1 hv,decide_eq_true b]⟩;obtain⟨g,j,l⟩:=bJ0 hv hr;obtain⟨n1,n2⟩:=pF hv hr;have e:v.k=3\/v.k=4\/v.k=5:=by have:=hE (k:=v.k) (i:=v.i) (t:=v.t) hv;omega
 have c:∀ {q:Vl},bT q=true->iR q->v.k<q.k->(dF v).2=true->bZ w q<0:=fun {q} n o p hb=>by
  obtain⟨_,_,_,m⟩:=n1 hb;have d:=m q n o (by rw[jF p];decide);rcases a with a|a
  . rw[hb]at a;cases a
  . exact fQ a d
 rcases e with h|h|h
 . rw[h,bJ3,nK];have hb:(dF v).2=true:=by
    unfold dF;rw[if_pos hv]
    repeat' split
    all_goals first|rfl|(exfalso;omega)|skip
    rw[h];decide +kernel
   simp only[Bool.false_or,aI,decide_eq_true_eq];exact⟨iD (g h) b,c v4 ⟨Int.le_refl _,by show gV<=9223372036854775807;decide⟩ (by rw[h];decide) hb⟩
 . rw[h,bJ2,nK];have hb:(dF v).2=true:=by
    unfold dF;rw[if_pos hv]
    repeat' split
    all_goals first|rfl|(exfalso;omega)|skip
    rw[h];decide +kernel
   simp only[Bool.false_or,aI,decide_eq_true_eq];exact⟨iD (j h) b,c v5 ⟨by show gV<=0;decide,by show(0:Int)<=9223372036854775807;decide⟩ (by rw[h];decide) hb⟩
 . rw[h,bJ1,nK];simp only[Bool.true_or,Bool.and_true,decide_eq_true_eq];exact iD (l h) b
theorem aF8 (l:List UInt8):∀n,fC l n=0->∀i,i<n->l.getD i 0=255
 |0,_,i,hi=>absurd hi (by omega)
 |
  n+1,h,i,hi=>by
  unfold fC at h;split at h
  . rename_i b;rcases Nat.lt_or_eq_of_le (Nat.le_of_lt_succ hi)with a|a
    . exact aF8 l n h i a
    . rw[a];exact b
  . omega
theorem bS9:∀(l q:List UInt8),(∀x∈l,x=255)->q.length<=l.length->¬dN l q<0
 |[],[],_,_=>by simp[dN]
 |[],_::_,_,h=>by simp at h
 |_::_,[],_,_=>by simp[dN]
 |
  a::l,b::q,ha,h=>by
  obtain rfl:a=255:=ha a List.mem_cons_self;have g:=bS9 l q (fun x e=>ha x (List.mem_cons_of_mem _ e)) (by simpa using h);have c:¬(255:UInt8)<b:=by intro d;have i:=b.toNat_lt;have j:(255:UInt8).toNat<b.toNat:=UInt8.lt_iff_toNat_lt.1 d;have:(255:UInt8).toNat=255:=rfl;omega
  unfold dN;rw[if_neg c];split
  . omega
  . exact g
theorem aH5 {v:Vl}(hv:bT v=true)(hr:iR v)(h:(dF v).2=false){w:Vl}(l:bT w=true)(F:iR w)(m:bZ v w<0):False:=by
 obtain⟨k,i,t⟩:=v;unfold dF at h;rw[if_pos hv]at h;have hk:=hE hv;have H:=hE (k:=w.k) (i:=w.i) (t:=w.t) l;split at h
 . cases h
 . split at h
   . cases h
   . split at h
     . rename_i g;simp only at g;subst g;have hi:i=0:=(by simp[bT]at hv;exact hv.1);have G:=oU hv;subst hi;simp only at h;unfold iG at h;split at h
       . cases h
       . rename_i r;split at h
         . rename_i y;have s:w.k=5/\w.i=0/\w.t.size<=64:=by
            rcases gA m with c|⟨c,d⟩|⟨c,d,_⟩
            . simp only at c;omega
            . simp only at c d;obtain⟨A,o,B⟩:=w;simp only at c d;subst c;have:o=0:=(by simp[bT]at l;exact l.1);omega
            . simp only at c d;obtain⟨A,o,B⟩:=w;simp only at c d;subst c;exact⟨rfl,d.symm,oU l⟩
           obtain⟨z,w0,I⟩:=s;rw[jD (a:=⟨5,0,t⟩) (b:=w) z.symm w0.symm,eW,eW]at m;refine bS9 _ _ (fun x u=>?_) ?_ m
           . obtain⟨j,n,rfl⟩:=List.mem_iff_getElem.1 u;have e:=aF8 _ _ y j (by simpa using n);rw[List.getD_eq_getElem?_getD,List.getElem?_eq_getElem n]at e;exact e
           . have C:w.t.data.toList.length=w.t.size:=(by simp);have D:t.data.toList.length=t.size:=(by simp);have E:¬t.size<64:=r;show w.t.data.toList.length<=t.data.toList.length;omega
         . cases h
     . rename_i e p g;simp only at e p g h;have q:k=1\/k=2\/k=3\/k=4:=(by omega);unfold eG at h;rcases q with rfl|rfl|rfl|rfl<;>simp at h
def eE (cm:Int) (v:Vl):List Iv :=
 let kd:=(eM v.k).1
 let fr:=(gB v).1
 let on:=(kF v).1
 if cm=1 then on else if cm=2 then eF mU kd on else if cm=3 then eF mU kd fr else if cm=4 then eF vZ (eF mU kd fr) on
 else if cm=5 then eF mU (eF qN kd fr) on else eF qN kd fr
def nO (cm:Int) (v:Vl):List Iv :=
 let kd:=(eM v.k).1
 let fr:=(gB v).1
 let on:=(kF v).1
 let less:=(cT mU kd fr).1
 let g1:=(cT mU kd less).1
 let gr:=(cT mU g1 on).1
 if cm=2 then (cT vZ less gr).1 else if cm=3 then less else if cm=4 then (cT vZ less on).1 else if cm=5 then gr else if cm=6 then (cT vZ on gr).1 else on
theorem jC {op:Bool->Bool->Bool}{a b:List Iv}{m n:Nat}(c:Good a m)(hb:Good b n)(g:op false false=false)(h:m+n<=127):(cT op a b).1=eD op a b:=by
 unfold cT;have d:=c.valid (by omega);have e:=hb.valid (by omega);have i:=(c.merge hb g).len;rw[d,e];simp only[Bool.and_self,if_true];rw[if_pos (by omega)]
theorem fZ (op:Bool->Bool->Bool){a b:List Iv}{m n:Nat}(c:Good a m)(hb:Good b n)(d:op false false=false)(v:Vl):eP (eD op a b) v=op (eP a v) (eP b v):=(pG op d c.ord hb.ord).2.2 v
section
variable {v:Vl} (hv:bT v=true) (hr:iR v) (hk:3≤v.k)
include hv hr hk
theorem sG (g:Int)(hc:1<=g/\g<=6):nO g v=eE g v/\Good (eE g v) 8:=by
 have L:3<=v.k/\v.k<=5:=by have:=hE (k:=v.k) (i:=v.i) (t:=v.t) hv;omega
 have e:=oF L;have o:=rY hv;have c:=aB4 hv hr;have d:mU false false=false:=rfl;have l:vZ false false=false:=rfl;have u:qN false false=false:=rfl;have q:=jC e o d (by omega);have j:=e.merge o d;have y:=jC e j d (by omega);have B:=e.merge j d;have z:=jC B c d (by omega);have p:=B.merge c d;have F:∀w,eP (kF v).1 w=true->eP (eM v.k).1 w=true/\eP (gB v).1 w=true:=fun w N=>one_sub hv hr hk N;have c1:=fL mU d e.ord c.ord;have c2:=fL mU d e.ord o.ord;have D:=fL qN u e.ord o.ord;have s:=e.merge o u;have H:=e.merge c d;have I:=s.merge c d;have J:=j.merge c l;have Q:=j.merge p l;have R:=c.merge p l;have K:g=1\/g=2\/g=3\/g=4\/g=5\/g=6:=by omega
 have A:∀ {a b:List Iv} {m n:Nat},Good a m->Good b n->n<=8->(∀w,eP a w=eP b w)->a=b/\Good b 8:=fun G E M h=>⟨aM8 G.ord E.ord fun w _=>h w,E.mono M⟩;have C:∀w,(eP (eD mU (eM v.k).1 (gB v).1) w=(eP (eM v.k).1 w && !eP (gB v).1 w))/\(eP (eD mU (eD mU (eM v.k).1 (eD mU (eM v.k).1 (gB v).1)) (kF v).1) w=(eP (eM v.k).1 w&&eP (gB v).1 w && !eP (kF v).1 w)):=fun w=>by rw[fZ _ B c d,fZ _ e j d,fZ _ e o d];refine⟨rfl,?_⟩;simp only[mU];cases eP (eM v.k).1 w<;>cases eP (gB v).1 w<;>cases eP (kF v).1 w<;>rfl
 rcases K with rfl|rfl|rfl|rfl|rfl|rfl
 . exact⟨rfl,c.mono (by omega)⟩
 . have r:=jC j p l (by omega);simp only[eE,nO,q,y,z,r,c1,reduceIte,Int.reduceEq];refine A Q H (by omega) fun w=>?_;obtain⟨O,P⟩:=C w;rw[fZ _ j p l,O,P,fZ _ e c d];simp only[mU,vZ];have h:=F w;cases ho:eP (kF v).1 w
   . cases eP (eM v.k).1 w<;>cases eP (gB v).1 w<;>rfl
   . rw[(h ho).1,(h ho).2];rfl
 . simp only[eE,nO,q,c2,reduceIte,Int.reduceEq];exact⟨trivial,j.mono (by omega)⟩
 . have r:=jC j c l (by omega);have x:=fL vZ l j.ord c.ord;simp only[eE,nO,q,r,c2,x,reduceIte,Int.reduceEq];exact⟨trivial,J.mono (by omega)⟩
 . have x:=fL mU d s.ord c.ord;simp only[eE,nO,q,y,z,D,x,reduceIte,Int.reduceEq];refine A p I (by omega) fun w=>?_;rw[(C w).2,fZ _ s c d,fZ _ e o u];rfl
 . have r:=jC c p l (by omega);simp only[eE,nO,q,y,z,r,D,reduceIte,Int.reduceEq];refine A R s (by omega) fun w=>?_;rw[fZ _ c p l,(C w).2,fZ _ e o u];simp only[vZ,qN];have h:=F w;cases ho:eP (kF v).1 w
   . cases eP (eM v.k).1 w<;>cases eP (gB v).1 w<;>rfl
   . rw[(h ho).1,(h ho).2];rfl
theorem aK4 (b:Int)(hc:1<=b/\b<=6){w:Vl}(y:bT w=true)(x:iR w):eP (eE b v) w=(decide (w.k=v.k)&&hA b (bZ w v)):=by
 have C:3<=v.k/\v.k<=5:=by have:=hE (k:=v.k) (i:=v.i) (t:=v.t) hv;omega
 have a:=oF C;have c:=rY hv;have j:=aB4 hv hr;have d:mU false false=false:=rfl;have E:vZ false false=false:=rfl;have o:qN false false=false:=rfl;have A:=a.merge c d;have z:=a.merge c o;have n:=aN5 C y x;have s:eP (gB v).1 w=decide (0<=bZ w v):=by rw[bK1 hv,bV];have:=dD v w;simp only[decide_eq_true_eq];omega
 have u:eP (kF v).1 w=decide (bZ w v=0):=by
  rw[bV6 hv,bV];simp only[aI,Bool.or_eq_true,Bool.not_eq_true',decide_eq_true_eq];obtain⟨n1,n2⟩:=pF hv hr;have I:=dD v w;have hb:=dD w v;constructor
  . rintro⟨B,r⟩;rcases r with r|r
    . rcases Int.lt_or_eq_of_le B with l|l
      . exfalso;exact aH5 hv hr r y x l
      . omega
    . rcases Int.lt_or_eq_of_le B with l|l
      . exfalso;cases hb2:(dF v).2
        . exact aH5 hv hr hb2 y x l
        . obtain⟨_,_,_,m⟩:=n1 hb2;have G:=m w y x l;have H:=dD w (dF v).1;omega
      . omega
  . intro h;have e:w=v:=(gI w v).1 h;subst e;refine⟨by omega,?_⟩;cases hb2:(dF w).2
    . exact .inl rfl
    . exact .inr (n1 hb2).2.2.1
 have D:bZ w v=0->w.k=v.k:=fun h=>by rw[(gI w v).1 h]
 have F:b=1\/b=2\/b=3\/b=4\/b=5\/b=6:=by omega
 have g:∀ {p q:Bool},(p=true↔q=true)->p=q:=fun h=>Bool.eq_iff_iff.2 h;rcases F with rfl|rfl|rfl|rfl|rfl|rfl
 . simp only[eE,hA,reduceIte];rw[u];refine g ?_;simp only[aI,decide_eq_true_eq];exact⟨fun h=>⟨D h,h⟩,fun h=>h.2⟩
 . simp only[eE,hA,reduceIte,Int.reduceEq];rw[fL mU d a.ord j.ord,fZ _ a j d,n,u];refine g ?_;simp only[mU,aI,Bool.not_eq_true',decide_eq_true_eq,decide_eq_false_iff_not,ne_eq]
 . simp only[eE,hA,reduceIte,Int.reduceEq];rw[fL mU d a.ord c.ord,fZ _ a c d,n,s];refine g ?_;simp only[mU,aI,Bool.not_eq_true',decide_eq_true_eq,decide_eq_false_iff_not];omega
 . simp only[eE,hA,reduceIte,Int.reduceEq];rw[fL mU d a.ord c.ord,fL vZ E A.ord j.ord,fZ _ A j E,fZ _ a c d,n,s,u];refine g ?_;simp only[mU,vZ,aI,Bool.or_eq_true,Bool.not_eq_true',decide_eq_true_eq,decide_eq_false_iff_not];constructor
   . rintro(h|h)
     . exact⟨h.1,by omega⟩
     . exact⟨D h,by omega⟩
   . intro h;omega
 . simp only[eE,hA,reduceIte,Int.reduceEq];rw[fL qN o a.ord c.ord,fL mU d z.ord j.ord,fZ _ z j d,fZ _ a c o,n,s,u];refine g ?_;simp only[mU,qN,aI,Bool.not_eq_true',decide_eq_true_eq,decide_eq_false_iff_not];omega
 . simp only[eE,hA,reduceIte,Int.reduceEq];rw[fL qN o a.ord c.ord,fZ _ a c o,n,s];refine g ?_;simp only[qN,aI,decide_eq_true_eq]
end
end
section
open Go.RowKit
open Rg
theorem tI (x:Int)(f:Bool)(A:Option Addr)(n c:Nat)(r:Rg)(w:World)(a:RgS w x f A n c r) :
 Calls Tryz.prog 103 #[.agg #[x,.bool f,.slice A n c]] w fun e w'=>e=.returned (.bool r.nix)/\Below w w w':=by
 rw[bI4,<- a.len,a.hf];clear a;cases f
 . go_enter Tryz.func103,Tryz.ntmps103;go_wp2;go_ret;refine⟨bR ?_,(aB _ _).alloc (aD _) _⟩;rw[bV];simp
 . go_enter Tryz.func103,Tryz.ntmps103;go_wp2;go_ret;exact⟨bR (by simp),(aB _ _).alloc (aD _) _⟩
theorem bN5 (r:Rg):∀(x:Int) (f:Bool) (A:Option Addr) (n c:Nat) (w:World),RgS w x f A n c r->r.size<=1000000 ->
 Calls Tryz.prog 244 #[.agg #[x,.bool f,.slice A n c]] w fun e w'=>e=.returned (r.size:Int)/\Below w w w':=by
 induction hsz:r.size using Nat.strongRecOn generalizing r with
 |
  _ s ih =>
  intro x f A n c w d hb;have C:=d.len;have M:n<=s:=by have:=eK r;omega
  have z:=Z hsz;have m:=Z ih;have g:=Z d;have u:Hid (n+eB (r.parts.drop 0)=s+n):=by show _=_;rw[List.drop_zero,<- iQ,hsz];omega
  clear ih d hsz C;go_enter Tryz.func244,Tryz.ntmps244;go_wp2;have B:Below w w (w.alloc (.cells #[x,.bool f,.slice A n c] 71)):=(aB _ _).alloc (aD _) _;go_loopw [3,12] (fun v i wr=>∃(k q:Nat),k<=n/\i=.int .i64 (k:Int)/\v=.int .i64 (q:Int)/\Hid (q+eB (r.parts.drop k)=s+(n-k))/\Below w w wr) (fun _ i _=>n-(intOf i).toNat);case atStart=>exact⟨0,n,by omega,rfl,rfl,u,B⟩
  case round =>
   obtain⟨k,q,hk,rfl,rfl,a,hb1⟩:=hrel;by_cases hlt:k<n
   . obtain⟨b,o,p,A1,n1,c1,H,G,A2,n2,c2,rfl,hp,E⟩:=(g.out.keep (aC hb1)).at hlt;have j:=iX hp;rw[z.out]at j;have Hd:=Z (oZ hp);obtain⟨I,J,K,L,D,F,l⟩:=E;have y:=Z l;clear hp D F l;have t:=Z (m.out p.2.size j p.2 rfl);have N:q<=s+n:=(by have:=a.out;omega);go_wp2_with fail;refine(t.out H G A2 n2 c2 _ (y.out.keep (aM _ _)) (by omega)).mono ?_;rintro e O ⟨rfl,hb2⟩;go_wp2;go_roundw;case rel=>refine⟨k+1,q+p.2.size,by omega,by go_num,by go_num,?_,cC1 (hb1.alloc hb1.size _) hb2⟩;show _=_;have h1:=a.out;have h2:=Hd.out;omega
     case measure=>simp[intOf];omega
   . go_wp2;go_ret;refine⟨hN ?_,hb1⟩;have h1:=a.out;rw[aU (by rw[cI];have:=g.out.len;omega)]at h1;simp only[eB,List.map_nil,List.sum_nil]at h1;omega
theorem few_any (w0:World)(B:Nat)(X:w0.heap.size<=B)(r:Rg):∀(x:Int) (f:Bool) (A:Option Addr) (n c:Nat) (v:Nat) (w:World),RgS w0 x f A n c r->v<=64->Below w0 w0 w->aT w B 3 #[(v:Int)] ->
 Calls Tryz.prog 157 #[.agg #[x,.bool f,.slice A n c],.pointer (some ⟨B,0,none⟩)] w fun e w'=>e=.returned (.bool (decide (r.size<=v)))/\Below w0 w0 w'/\(r.size<=v->aT w' B 3 #[.int .i64 ((v-r.size:Nat):Int)]):=by
 induction hsz:r.size using Nat.strongRecOn generalizing r with
 |
  _ s ih =>
  intro x f A n c v w E hv hb t;have U:=Z hsz;have P:=Z ih;have C:=Z E;have R:Hid (eB (r.parts.drop 0)=s):=by show _=_;rw[List.drop_zero,<- iQ,hsz]
  have a4:w0.heap.size<=w.heap.size:=hb.size;have a6:=t.lt;have G:=Z (t.alloc (.cells #[x,.bool f,.slice A n c] 71));have D:=hb.alloc a4 (.cells #[x,.bool f,.slice A n c] 71);have z:=Z D;clear ih E hsz D t;go_enter Tryz.func157,Tryz.ntmps157;go_wp2;go_loopw [10] (fun i wr=>∃(k q:Nat),k<=n/\k<=64/\i=.int .i64 (k:Int)/\q+k<=v/\Hid (eB (r.parts.drop k)+v=s+q)/\aT wr B 3 #[(q:Int)]/\Below w0 w0 wr) (fun i _=>n-(intOf i).toNat);case atStart=>exact⟨0,v,by omega,by omega,rfl,by omega,(by show _=_;have:=R.out;omega),G.out,z.out⟩
  case round =>
   obtain⟨k,q,hk,b2,rfl,b4,g,j,hb1⟩:=hrel;clear G z;by_cases hlt:k<n
   . obtain⟨b,o,p,A1,n1,c1,d,a,A2,n2,c2,rfl,hp,L,a2⟩:=C.out.at2 (aC hb1) hlt;have K:=iX hp;rw[U.out]at K;have Hd:=Z (oZ hp);have S:=Z L.rg;obtain⟨d0,d1,d2,d3,a1,a5,a3⟩:=a2;clear hp a1 a5 a3 L;have Q:=Z (P.out p.2.size K p.2 rfl);have N:=hb1.size;have a7:=j.lt;have m:=j.alloc (.cells #[.slice A1 n1 c1,d,.bool a,.slice A2 n2 c2] 141);have Y:=hb1.alloc N (.cells #[.slice A1 n1 c1,d,.bool a,.slice A2 n2 c2] 141);have a0:=aT.new wr 141 #[.slice A1 n1 c1,d,.bool a,.slice A2 n2 c2];have a8:=m.cell;have b1:=m.free;have b3:¬wr.heap.size=B:=(by omega);have M:(wr.setCell ⟨B,0,none⟩ (.int .i64 ((q:Int)-1))).heap.size=wr.heap.size:=(by simp[World.setCell]);have I:=Z ((j.set_ 0 (.int .i64 ((q:Int)-1))).alloc (.cells #[.slice A1 n1 c1,d,.bool a,.slice A2 n2 c2] 141));have y:=aT.new (wr.setCell ⟨B,0,none⟩ (.int .i64 ((q:Int)-1))) 141 #[.slice A1 n1 c1,d,.bool a,.slice A2 n2 c2];rw[M]at y;have F:=Z ((hb1.setCell (p:=⟨B,0,none⟩) X (.int .i64 ((q:Int)-1))).alloc (by rw[M];exact N) (.cells #[.slice A1 n1 c1,d,.bool a,.slice A2 n2 c2] 141));have b0:=aV I.out (i:=0) (u:=.int .i64 ((q:Int)-1)) rfl;have a9:=y.cell;clear j m Y a0 y;rcases Nat.eq_zero_or_pos q with l|l
     . have V:decide ((q:Int)-1<0)=true:=(by simp;omega);have O:=Z l;clear l;go_wp2;go_ret;have l:=O.out;refine⟨bR ?_,F.out,fun h=>?_⟩
       . have h1:=g.out;have h2:=Hd.out;simp;omega
       . have h1:=g.out;have h2:=Hd.out;omega
     . have V:decide ((q:Int)-1<0)=false:=(by simp;omega);go_wp2_with fail;refine(Q.out d a A2 n2 c2 (q-1) _ S.out (by omega) F.out (by rw[show((q-1:Nat):Int)=(q:Int)-1 by omega];exact I.out)).mono ?_;rintro e w2 ⟨rfl,hb2,H⟩;have T:=Z H;clear H;by_cases J:p.2.size<=q-1
       . have W:decide (p.2.size<=q-1)=true:=(by simp[J]);go_wp2;go_roundw;case rel=>refine⟨k+1,q-1-p.2.size,by omega,by omega,by go_num,by omega,?_,T.out J,hb2⟩;show _=_;have h1:=g.out;have h2:=Hd.out;omega
         case measure=>simp[intOf];omega
       . have W:decide (p.2.size<=q-1)=false:=(by simp;omega);go_wp2;go_ret;refine⟨bR ?_,hb2,fun h=>?_⟩
         . have h1:=g.out;have h2:=Hd.out;simp;omega
         . have h1:=g.out;have h2:=Hd.out;omega
   . go_wp2;go_ret;have h1:=g.out;rw[aU (by rw[cI];have:=C.out.len;omega)]at h1;simp only[eB,List.map_nil,List.sum_nil]at h1;refine⟨bR ?_,hb1,fun _=>?_⟩
     . simp;omega
     . rw[show v-s=q by omega];exact j
theorem aG5 (a b:Rg):a=b↔a.w=b.w/\a.f=b.f/\a.parts=b.parts:=⟨fun h=>by subst h;exact⟨rfl,rfl,rfl⟩,fun⟨c,h2,h3⟩=>Rg.ext c h2 h3⟩
set_option maxRecDepth 8000 in
theorem bN6 (a:Rg):∀(x:Int) (f:Bool) (A:Option Addr) (n c:Nat) (y:Int) (g:Bool) (B:Option Addr) (m d:Nat) (b:Rg) (w:World),RgS w x f A n c a->RgS w y g B m d b->a.size<=1000->a.fits=true ->
 Calls Tryz.prog 101 #[.agg #[x,.bool f,.slice A n c],.agg #[y,.bool g,.slice B m d]] w fun e w'=>e=.returned (.bool (decide (a=b)))/\Below w w w':=by
 induction hsz:a.size using Nat.strongRecOn generalizing a with
 |
  _ s ih =>
  intro x f A n c y g B m d b w z C hs U;have o:Below w w ((w.alloc (.cells #[x,.bool f,.slice A n c] 71)).alloc (.cells #[y,.bool g,.slice B m d] 71)):=((aB _ _).alloc (aD _) _).alloc (by simp) _;have h0:decide (a=b)=(decide (x=y)&&decide (f=g)&&decide (a.parts=b.parts)):=by rw[bV];simp only[decide_eq_true_eq,aI];rw[aG5,z.hw,C.hw,z.hf,C.hf,and_assoc]
  have hn:=z.len;have hm:=C.len;have i1:n<=s:=by have:=eK a;omega
  rw[h0];clear h0;by_cases I:x=y
  . by_cases T:f=g
    . by_cases D:n=m
      . subst I T D;generalize hr:(decide (x=x)&&decide (f=f)&&decide (a.parts=b.parts))=r;have e3:Hid (decide (a.parts.drop 0=b.parts.drop 0)=r):=(by show _=_;simpa using hr);have e1:=Z ih;have b9:=Z z;have c0:=Z C;have e6:=Z hsz;have e0:=Z U;have l:=Z o;clear ih z C hsz hr U hn hm o;have g1:(x != x)=false:=(by simp);have g2:(f != f)=false:=(by simp);go_enter Tryz.func101,Tryz.ntmps101;go_wp2;obtain⟨W0,a8⟩:∃W:World,Hid ((w.alloc (.cells #[x,.bool f,.slice A n c] 71)).alloc (.cells #[x,.bool f,.slice B n d] 71)=W):=⟨_,rfl⟩;rw[a8.out]at l;have E2:Hid (aT W0 (w.heap.size+1) 71 #[x,.bool f,.slice B n d]):=(by have:=aT.new (w.alloc (.cells #[x,.bool f,.slice A n c] 71)) 71 #[x,.bool f,.slice B n d];rw[a8.out,aX]at this;exact this);go_loopw [34] (fun i wr=>∃k:Nat,k<=n/\i=.int .i64 (k:Int)/\Hid (decide (a.parts.drop k=b.parts.drop k)=r)/\Below W0 W0 wr) (fun i _=>n-(intOf i).toNat);case atStart=>exact⟨0,by omega,rfl,e3,by rw[a8.out];exact aB _ _⟩
        case round =>
         obtain⟨k,hk,rfl,b6,S⟩:=hrel;have hb:=cC1 l.out S;have i2:w.heap.size+1<wr.heap.size:=(by have h1:=E2.out.lt;have h2:=S.size;omega);by_cases hlt:k<n
         . obtain⟨h6,o1,p,A1,n1,c1,x1,Q,A2,n2,c2,rfl,hp,f8,f7⟩:=b9.out.at2 (aC hb) hlt;obtain⟨h7,o2,q,B1,m1,d1,Y,R,N,V,P,rfl,hq,f9,a7⟩:=c0.out.at2 (aC hb) hlt;have h9:=aC hb;have a2:Hid (r=(decide (p.1=q.1)&&decide (p.2=q.2)&&decide (a.parts.drop (k+1)=b.parts.drop (k+1)))):=(by show _=_;rw[<- b6.out,eL hp,eL hq,bV];simp only[List.cons.injEq,decide_eq_true_eq,aI,Prod.ext_iff]);have d4:=iX hp;rw[e6.out]at d4;have d3:=lV e0.out (aJ hp);have e2:=Z (e1.out p.2.size d4 p.2 rfl);have e5:=Z d3.2;obtain⟨p0,p1,p2,p3,g5,b7,d7⟩:=f7;obtain⟨q0,q1,q2,q3,g6,_,_⟩:=a7.keep (aM wr (.cells #[.slice A1 n1 c1,x1,.bool Q,.slice A2 n2 c2] 141));have d9:=a7.vs;have d8:=a7.rg;have i0:n1<=64:=(by have:=b7.len;omega);have b2:=Z b7;have b3:=Z d9;have c4:=Z d7;have c5:=Z d8;have z1:=(E2.out.below S).cell;clear hp hq f8 f9 a7 g5 g6 b7 d9 d7 d8 b6 d3;have c8:Below wr wr ((wr.alloc (.cells #[.slice A1 n1 c1,x1,.bool Q,.slice A2 n2 c2] 141)).alloc (.cells #[.slice B1 m1 d1,Y,.bool R,.slice N V P] 141)):=((aB _ _).alloc (aD _) _).alloc (by simp) _;have O:=Z c8;clear c8;by_cases D:n1=m1
           . subst D;have g3:((n1:Int) != (n1:Int))=false:=(by simp);go_wp2_with fail;refine(e2.out x1 Q A2 n2 c2 Y R N V P q.2 _ (c4.out.keep (aC O.out)) (c5.out.keep (aC O.out)) (by omega) e5.out).mono ?_;rintro e X ⟨rfl,hb2⟩;have a6:=cC1 O.out hb2;have E3:=Z (((aT.new wr 141 #[.slice A1 n1 c1,x1,.bool Q,.slice A2 n2 c2]).alloc (.cells #[.slice B1 n1 d1,Y,.bool R,.slice N V P] 141)).below hb2);have E4:Hid (aT X (wr.heap.size+1) 141 #[.slice B1 n1 d1,Y,.bool R,.slice N V P]):=(by have:=(aT.new (wr.alloc (.cells #[.slice A1 n1 c1,x1,.bool Q,.slice A2 n2 c2] 141)) 141 #[.slice B1 n1 d1,Y,.bool R,.slice N V P]).below hb2;rw[aX]at this;exact this);have z3:=E3.out.cell;clear p0 p1 p2 p3 q0 q1 q2 q3 z1;have e7:=Z (b2.out.keep (aC a6));have e8:=Z (b3.out.keep (aC a6));have b8:=Z (cC1 S a6);clear hb2 a6 hb S O c4 c5;obtain⟨q2,a9⟩:=zE (decide (p.2=q.2));rw[a9.out];cases q2
             . go_wp2;go_ret;exact⟨bR (by rw[a2.out,a9.out];simp),cC1 l.out b8.out⟩
             . go_wp2;obtain⟨r2,b0⟩:=zE (decide (p.1.drop 0=q.1.drop 0));clear z3;go_loopw [62] (fun i wr'=>∃j:Nat,j<=n1/\i=.int .i64 (j:Int)/\Hid (decide (p.1.drop j=q.1.drop j)=r2)/\Below X X wr') (fun i _=>n1-(intOf i).toNat);case atStart=>exact⟨0,by omega,rfl,b0,aB _ _⟩
               case round =>
                obtain⟨j,hj,rfl,d0,H⟩:=hrel;have b4:=cC1 b8.out H;by_cases d2:j<n1
                . obtain⟨h8,o3,u,rfl,hu,d5⟩:=(e7.out.keep (aC H)).at d2;obtain⟨f0,o4,v,rfl,hv,d6⟩:=(e8.out.keep (aC H)).at d2;have c3:Hid (r2=(decide (u=v)&&decide (p.1.drop (j+1)=q.1.drop (j+1)))):=(by show _=_;rw[<- d0.out,eL hu,eL hv];simp);have c9:=aS7 u v;obtain⟨t,b1⟩:=zE (decide (u≠v));rw[b1.out]at c9;obtain⟨⟨F,E,G⟩,⟨K,J,L⟩,M⟩:=u;obtain⟨⟨f2,f1,f3⟩,⟨g8,g7,g9⟩,h5⟩:=v;dsimp only at c9;obtain⟨a0,a1,c6,a3,a4,a5,c7⟩:=IvAt.of d5;obtain⟨v0,v1,v2,v3,v4,v5,v6⟩:=IvAt.of d6;dsimp only at a0 a1 c6 a3 a4 a5 c7 v0 v1 v2 v3 v4 v5 v6;have b5:=E4.out.below H;have i3:=b5.lt;clear hu hv d5 d6;go_wp2;have g0:=(aT.new wr 187 #[F,E,G,K,J,L,.bool M]).drew.cell;have g4:=(b5.alloc (.cells #[F,E,G,K,J,L,.bool M] 187)).drew.cell;obtain⟨s0,s1,s2,s3,s4,s5,s6⟩:=(IvAt.mk (w:=wr) (b:=f0) (p:=o4+j*7) (x:=⟨⟨f2,f1,f3⟩,⟨g8,g7,g9⟩,h5⟩) v0 v1 v2 v3 v4 v5 v6).keep (aM wr (.cells #[F,E,G,K,J,L,.bool M] 187)).drew;dsimp only at s0 s1 s2 s3 s4 s5 s6;have f4:Below w w (wr.alloc (.cells #[F,E,G,K,J,L,.bool M] 187)).drew:=((cC1 l.out b4).alloc (cC1 l.out b4).size _).drew;have f5:Below X X (wr.alloc (.cells #[F,E,G,K,J,L,.bool M] 187)).drew:=(H.alloc H.size _).drew;clear a0 a1 c6 a3 a4 a5 c7 v0 v1 v2 v3 v4 v5 v6 b5;generalize hWn:(wr.alloc (.cells #[F,E,G,K,J,L,.bool M] 187)).drew=e9 at *;have f6:=@bK e9;refine aZ [] [0,1,2,3,4,5,6] ?_;rw[hWn];clear hWn;simp only[bS,cP];unfold bA;repeat(go_big_quiet_step (fail))
                  refine aA ?_;clear f6 g0 g4 s0 s1 s2 s3 s4 s5 s6;cases t
                  . go_wp2;go_roundw;case rel=>exact⟨j+1,by omega,by go_num,(by show _=_;rw[c3.out];have:=b1.out;simp at this;simp[this]),f5⟩
                    case measure=>simp[intOf];omega
                  . go_wp2;go_ret;refine⟨bR ?_,f4⟩;have h1:=b1.out;have h2:=c3.out;have h3:=b0.out;simp only[decide_eq_true_eq]at h1;rw[decide_eq_false h1,Bool.false_and]at h2;rw[h2,List.drop_zero,List.drop_zero]at h3;rw[a2.out,h3];rfl
                . go_wp2;go_roundw;case rel=>refine⟨k+1,by omega,by go_num,?_,b4⟩;have h1:p.1.drop j=[]:=aU (by have:=b2.out.len;omega);have h2:q.1.drop j=[]:=aU (by have:=b3.out.len;omega);have h3:=d0.out;rw[h1,h2]at h3;have h4:=b0.out;rw[<- h3,List.drop_zero,List.drop_zero]at h4;show _=_;rw[a2.out,h4,a9.out];simp
                  case measure=>simp[intOf];omega
           . have g3:((n1:Int) != (m1:Int))=true:=(by simp;omega);have e4:Hid (p.1≠q.1):=Z (fun h=>D (by rw[<- b2.out.len,<- b3.out.len,h]));clear D;go_wp2;go_ret;exact⟨bR (by rw[a2.out];simp[e4.out]),cC1 hb O.out⟩
         . go_wp2;go_ret;have h1:a.parts.drop k=[]:=aU (by rw[cI];have:=b9.out.len;omega);have h2:b.parts.drop k=[]:=aU (by rw[cI];have:=c0.out.len;omega);exact⟨bR (by rw[<- b6.out,h1,h2];simp),hb⟩
      . have hr:(decide (x=y)&&decide (f=g)&&decide (a.parts=b.parts))=false:=(by have:a.parts≠b.parts:=fun h=>D (by rw[hn,hm,<- cI,<- cI,h]);simp[this]);rw[hr];have g3:((n:Int) != (m:Int))=true:=(by simp;omega);subst I T;have g1:(x != x)=false:=(by simp);have g2:(f != f)=false:=(by simp);have l:=Z o;clear ih z C hsz hr U hn hm o D;go_enter Tryz.func101,Tryz.ntmps101;go_wp2;go_ret;exact⟨rfl,l.out⟩
    . have hr:(decide (x=y)&&decide (f=g)&&decide (a.parts=b.parts))=false:=(by simp[T]);rw[hr];subst I;have g1:(x != x)=false:=(by simp);have l:=Z o;clear ih z C hsz hr U hn hm o;cases f<;>cases g<;>first|exact absurd rfl T|skip
      all_goals
       clear T;go_enter Tryz.func101,Tryz.ntmps101;go_wp2;go_ret;exact⟨rfl,l.out⟩
  . have hr:(decide (x=y)&&decide (f=g)&&decide (a.parts=b.parts))=false:=(by simp[I]);rw[hr];have g1:(x != y)=true:=(by simp[I]);have l:=Z o;clear ih z C hsz hr U hn hm o I;go_enter Tryz.func101,Tryz.ntmps101;go_wp2;go_ret;exact⟨rfl,l.out⟩
def qE (n:Nat) (p:List Iv×Rg):Prop:=p.1≠[]∧cM p.1=true∧p.2.nix=false∧eI n p.2∧p.2.fits=true
def RelP (p q:List Iv×Rg):Prop:=bZ (lo p.1) (lo q.1)<0∧wR p.1 q.1∧p.2≠q.2
def kE (n:Nat) (r:Rg):Prop:=eI n r∧r.fits=true
theorem oH:∀r:Rg,r.fits=true↔∀p∈r.parts,p.1.length<=64/\p.2.fits=true
 |.nil _ _=>by simp[Rg.fits,parts]
 |
  .cons vs rest tail=>by
  have a:=oH tail;simp only[Rg.fits,parts,aI,decide_eq_true_eq,List.mem_cons,forall_eq_or_imp,a]
theorem aB8 (r:Rg):kE 0 r↔r.w=0/\r.len=0:=by
 unfold kE eI;rw[<- cI];constructor
 . rintro⟨⟨b,a⟩,_⟩;exact⟨b,by rw[a];rfl⟩
 . rintro⟨b,a⟩;have a:=aR a;exact⟨⟨b,a⟩,(oH r).2 (by rw[a];simp)⟩
theorem iW (n:Nat)(r:Rg):kE (n+1) r↔r.w=((n+1:Nat):Int)/\r.f=false/\(∀p∈r.parts,qE n p)/\r.parts.Pairwise RelP:=by
 unfold kE;rw[oH];constructor
 . rintro⟨⟨c,d,b,e⟩,q⟩;refine⟨c,d,fun p a=>?_,e⟩;obtain⟨i,j,k,l⟩:=b p a;obtain⟨m,o⟩:=q p a;exact⟨i,by simp[cM,m,j],l,k,o⟩
 . rintro⟨c,d,b,e⟩;have g:∀p∈r.parts,p.1.length<=64/\cL none p.1=true:=fun p a=>(by have:=(b p a).2.1;simpa[cM]using this);exact⟨⟨c,d,fun p a=>⟨(b p a).1,(g p a).2,(b p a).2.2.2.1,(b p a).2.2.1⟩,e⟩,fun p a=>⟨(g p a).1,(b p a).2.2.2.2⟩⟩
theorem lR {n:Nat}{r:Rg}{k:Nat}{p:List Iv×Rg}(b:r.parts[k]?=some p)(h:¬qE n p):¬kE (n+1) r:=fun a=>h (((iW n r).1 a).2.2.1 p (aJ b))
theorem tJ {n:Nat}{r:Rg}{j k:Nat}{p q:List Iv×Rg}(e:kE (n+1) r)(g:j<k)(l:r.parts[j]?=some q)(i:r.parts[k]?=some p):RelP q p:=by
 have h:=((iW n r).1 e).2.2.2;rw[List.pairwise_iff_getElem]at h;obtain⟨c,a⟩:=List.getElem?_eq_some_iff.1 l;obtain⟨d,b⟩:=List.getElem?_eq_some_iff.1 i;have:=h j k c d g;rw[a,b]at this;exact this
theorem bX0 {a b:List Iv}(d:cM a=true)(hb:cM b=true):((cT qN a b).2=0/\(cT qN a b).1.length=0)↔wR a b:=by
 have j:cL none a=true:=by simp[cM]at d;exact d.2
 have k:cL none b=true:=by simp[cM]at hb;exact hb.2
 obtain⟨o,_,i⟩:=pG qN rfl j k;have m:eD qN a b=[]↔wR a b:=by
  constructor
  . intro h v _ hv;have:=i v;rw[h,hv]at this;simpa[eP,qN]using this.symm
  . intro h;rcases hm:eD qN a b with _|⟨x,l⟩
    . rfl
    . obtain⟨n,l2⟩:=bX3 o (by rw[hm];simp);have e:=i (lo (eD qN a b));rw[l2]at e;have c:eP a (lo (eD qN a b))=true/\eP b (lo (eD qN a b))=true:=(by simpa[qN]using e.symm);rw[h _ n c.1]at c;cases c.2
 rw[<- m];unfold cT;rw[d,hb];simp only[Bool.and_self,if_true];split
 . simp
 . rename_i g;constructor
   . intro h;cases h.1
   . intro h;rw[h]at g;simp at g
def kR (n:Nat) (L:List (List Iv×Rg)):Prop:=(∀p∈L,qE n p)∧L.Pairwise RelP
theorem kR.snoc {n:Nat}{L:List (List Iv×Rg)}{p:List Iv×Rg}(h:kR n L)(b:qE n p)(hr:∀q∈L,RelP q p):kR n (L++[p]):=by
 refine⟨fun q a=>?_,List.pairwise_append.2 ⟨h.2,List.pairwise_singleton _ _,fun q a s c=>?_⟩⟩
 . rcases List.mem_append.1 a with a|a
   . exact h.1 q a
   . have:q=p:=(by simpa using a);rw[this];exact b
 . have:s=p:=(by simpa using c);rw[this];exact hr q a
theorem bI6 {n:Nat}{l:List (List Iv×Rg)}{k:Nat}{p:List Iv×Rg}(h:kR n (l.take (k+1))){q:List Iv×Rg}(c:l[k]?=some q)(b:bZ (lo q.1) (lo p.1)<0):∀s∈l.take (k+1),bZ (lo s.1) (lo p.1)<0:=by
 rw[cU c]at h ⊢;intro s a;rcases List.mem_append.1 a with a|a
 . exact cV ((List.pairwise_append.1 h.2).2.2 s a q (by simp)).1 b
 . have:s=q:=(by simpa using a);rw[this];exact b
open Classical in
noncomputable def sW (n:Nat) (r:Rg):Bool:=decide (kE n r)
theorem hJ {n:Nat}{r:Rg}:sW n r=true↔kE n r:=by simp[sW]
theorem dK {n:Nat}{r:Rg}(h:¬kE n r):sW n r=false:=by simp[sW,h]
theorem bI7 {w:World}{A:Option Addr}{n:Nat}{l:List Iv}(h:kH w A n l)(c:0<n):∃(b o:Nat) (x:Iv),A=some ⟨b,o,none⟩/\lo l=x.f/\VlAt w b o x.f:=by
 obtain⟨b,o,x,e,a,hc⟩:=h.at c;have:=(IvAt.of hc).from_;rw[Nat.zero_mul,Nat.add_zero]at this;refine⟨b,o,x,e,?_,this⟩;cases l with
 |nil=>simp at a
 |cons y l=>simp only[List.getElem?_cons_zero,Option.some.injEq]at a;subst a;rfl
set_option maxRecDepth 8000 in
theorem bE1:∀(d:Nat) (r:Rg) (x:Int) (f:Bool) (A:Option Addr) (n c:Nat) (w:World),RgS w x f A n c r->r.size<=64->d<=12 ->
 Calls Tryz.prog 158 #[.agg #[x,.bool f,.slice A n c],(d:Int)] w fun e w'=>e=.returned (.bool (sW d r))/\Below w w w':=by
 intro d
 induction d with
 |
  zero =>
  intro r x f A n c w b hs _;have h0:sW 0 r=(decide (x=0)&&decide (n=0)):=by rw[bV,hJ,aB8,b.hw,<- b.len];simp
  rw[h0];have o:Below w w (w.alloc (.cells #[x,.bool f,.slice A n c] 71)):=(aB _ _).alloc (aD _) _;clear h0 b hs;by_cases hx:x=0
  . subst hx;go_enter Tryz.func158,Tryz.ntmps158;go_wp2;go_ret;refine⟨bR ?_,o⟩;rw[bV];simp
  . have g1:(x != 0)=true:=(by simp[hx]);have hr:(decide (x=0)&&decide (n=0))=false:=(by simp[hx]);rw[hr];clear hr hx;go_enter Tryz.func158,Tryz.ntmps158;go_wp2;go_ret;exact⟨rfl,o⟩
 |
  succ d ih =>
  intro r x f A n c w b hs hd;have o:Below w w (w.alloc (.cells #[x,.bool f,.slice A n c] 71)):=(aB _ _).alloc (aD _) _;by_cases hx:x=((d+1:Nat):Int)
  . cases f
    . have f5:Hid (kE (d+1) r↔kR d r.parts):=(by show _↔_;rw[iW,b.hw,b.hf];simp[hx,kR]);have g1:(x != ((d+1:Nat):Int))=false:=(by simp[hx]);have h4:(((d+1:Nat):Int) == 0)=false:=(by simp;omega);generalize e5:((d+1:Nat):Int)=C at *;have k3:n<=64:=(by have:=b.len;have:=eK r;omega);have k6:=b.ok.1;have f6:=Z ih;have O:=Z b;have j5:=Z hx;have j2:=Z e5;have e4:C-1=(d:Int):=(by omega);have k2:1<=C/\C<=12:=(by omega);have f4:=Z e4;clear ih b hx e5 e4;obtain⟨W0,a4⟩:∃W:World,Hid (w.alloc (.cells #[x,zF,.slice A n c] 71)=W):=⟨_,rfl⟩;rw[a4.out]at o;have L:Hid (aT W0 w 71 #[x,zF,.slice A n c]):=(by have:=aT.new w 71 #[x,zF,.slice A n c];rw[a4.out]at this;exact this);go_enter Tryz.func158,Tryz.ntmps158;go_wp2;go_loopw [26] (fun i wr=>∃k:Nat,k<=n/\i=.int .i64 (k:Int)/\Hid (kR d (r.parts.take k))/\Below W0 W0 wr) (fun i _=>n-(intOf i).toNat);case atStart=>exact⟨0,by omega,rfl,⟨by simp,by simp⟩,by rw[a4.out];exact aB _ _⟩
      case round =>
       obtain⟨k,hk,rfl,y,a0⟩:=hrel;have hb:=cC1 o a0;by_cases hlt:k<n
       . obtain⟨d4,o1,p,A1,n1,c1,x1,D,A2,n2,c2,rfl,hp,e8⟩:=(O.out.keep (aC hb)).at hlt;have j4:=Z e8;have g:=Z hp;have k7:=iX hp;obtain⟨p0,p1,p2,p3,i2,c0,f0⟩:=e8;have a8:=Z c0;have a7:=Z f0;have e7:=c0.len;have d1:=Z e7;have z1:=(L.out.below a0).cell;have T:=Z (aT.new wr 141 #[.slice A1 n1 c1,x1,.bool D,.slice A2 n2 c2]);have d9:Below wr wr (wr.alloc (.cells #[.slice A1 n1 c1,x1,.bool D,.slice A2 n2 c2] 141)):=(aB _ _).alloc (aD _) _;have N:=Z d9;clear hp i2 c0 f0 e7 d9;by_cases G:n1=0
         . have h5:((n1:Int) == 0)=true:=(by simp[G]);have a:Hid (¬qE d p):=Z fun h=>h.1 (aR (by rw[d1.out,G]));clear G;go_wp2;go_ret;exact⟨bR (dK (lR g.out a.out)).symm,cC1 hb N.out⟩
         . have h5:((n1:Int) == 0)=false:=(by simp[G]);have i0:0<n1:=(by omega);clear G;go_wp2_with fail;refine(jT A1 n1 c1 p.1 _ (a8.out.keep (aC N.out))).mono ?_;rintro e w1 ⟨rfl,hb1⟩;obtain⟨v1,Q⟩:=zE (cM p.1);rw[Q.out];have V:=cC1 N.out hb1;have y1:=(T.out.below hb1).cell;clear z1 p0 p1 p2 p3;cases v1
           . have a:Hid (¬qE d p):=Z fun h=>(by have h1:=h.2.1;rw[Q.out]at h1;cases h1);go_wp2;go_ret;exact⟨bR (dK (lR g.out a.out)).symm,cC1 hb V⟩
           . go_wp2_with fail;refine(tI x1 D A2 n2 c2 p.2 _ (a7.out.keep (aC V))).mono ?_;rintro e w2 ⟨rfl,hb2⟩;obtain⟨v2,R⟩:=zE (p.2.nix);rw[R.out];have X:=cC1 V hb2;have y2:=((T.out.below hb1).below hb2).cell;clear y1;cases v2
             . go_wp2_with fail;rw[f4.out];refine(f6.out p.2 x1 D A2 n2 c2 _ (a7.out.keep (aC X)) (by omega) (by omega)).mono ?_;rintro e w3 ⟨rfl,b1⟩;obtain⟨v3,S⟩:=zE (sW d p.2);rw[S.out];have Y:=cC1 X b1;have Y3:=Z (((T.out.below hb1).below hb2).below b1);have y3:=Y3.out.cell;clear y2;cases v3
               . have a:Hid (¬qE d p):=Z fun h=>(by have h1:=hJ.2 ⟨h.2.2.2.1,h.2.2.2.2⟩;rw[S.out]at h1;cases h1);go_wp2;go_ret;exact⟨bR (dK (lR g.out a.out)).symm,cC1 hb Y⟩
               . have P:Hid (qE d p):=(by have h1:=hJ.1 S.out;refine⟨fun h=>?_,Q.out,R.out,h1.1,h1.2⟩;have:=d1.out;rw[h]at this;simp at this;omega);have M:=Z Y;have a1:=Z (cC1 a0 Y);clear hb1 hb2 b1 V X Y N T Q R S;go_wp2;have e3:=@bK w3;have k4:k<=c:=(by omega);have z3:=(L.out.below a1.out).cell;refine mA (by kernel_rfl) (by kernel_rfl) ?_;rcases Nat.eq_zero_or_pos k with t|t
                 . have g0:decide (0<k)=false:=(by simp[t]);have c7:=Z t;clear t;repeat(go_big_quiet_step (fail))
                   refine aA ?_;intro I l;have z4:=(L.out.below (cC1 a1.out l)).cell;have m:=Z l;clear e3 z3 y3 l g0;go_wp2;go_loopw [80] (fun i wr'=>i=zO/\Below I I wr') (fun _ _=>0);case atStart=>exact⟨rfl,aB _ _⟩
                   case round =>
                    obtain⟨rfl,E⟩:=hrel;have g5:decide (0<k)=false:=(by have:=c7.out;simp;omega);go_wp2;go_roundw;case rel=>refine⟨k+1,by omega,by go_num,?_,cC1 (cC1 a1.out m.out) E⟩;show kR _ _;rw[cU g.out];refine y.out.snoc P.out fun q hq=>?_;rw[c7.out]at hq;simp at hq
                    case measure=>simp[intOf];omega
                 . have g0:decide (0<k)=true:=(by simp[t]);obtain⟨g7,o6,e9,B1,m1,j9,x2,k1,B2,m2,k0,d5,b6,b8⟩:=(O.out.keep (aC hb)).at (show k-1<n by omega);obtain⟨rfl,rfl⟩:d4=g7/\o1=o6:=(by injection d5 with h;injection h with h1 h2;exact⟨h1,h2⟩);have b7:=b8.keep (aC M.out);have f9:Hid (qE d e9):=y.out.1 e9 (aJ (i:=k-1) (by rw[List.getElem?_take,if_pos (by omega)];exact b6));have h9:0<m1:=by
                    have h1:=b7.vs.len;have h2:=f9.out.1;rcases Nat.eq_zero_or_pos m1 with h|h
                    . exact absurd (aR (by omega)) h2
                    . exact h
                   obtain⟨j7,o7,u,rfl,b4,hu⟩:=bI7 b7.vs h9;obtain⟨g8,o8,v,rfl,b5,hv⟩:=bI7 (a8.out.keep (aC M.out)) i0;obtain⟨q0,_,_,_,_,_,_⟩:=b7;obtain⟨⟨i7,i6,i8⟩,u',k9⟩:=u;obtain⟨⟨j0,i9,j1⟩,l0,l3⟩:=v;obtain⟨u0,u1,u2⟩:=hu;obtain⟨v0,v1,v2⟩:=hv;dsimp only at b4 b5 u0 u1 u2 v0 v1 v2;have c8:=Z b4;have c9:=Z b5;have d0:=Z b6;have j3:=Z b8;clear b4 b5 b6 d5 b8;obtain⟨a9,a5⟩:=zE (bZ ⟨i7,i6,i8⟩ ⟨j0,i9,j1⟩);repeat(go_big_quiet_step (first|(go_at_call 93;exact aA7 (eT ⟨_,_,_⟩ ⟨_,_,_⟩ _))))
                   refine aA ?_;intro I l;rw[a5.out];have z4:=(L.out.below (cC1 a1.out l)).cell;have m:=Z (cC1 M.out l);have Y4:=Z (Y3.out.below l);clear e3 z3 y3 l g0 q0 u0 u1 u2 v0 v1 v2 Y3 M;rcases cD a9 0 with e0|e0
                   . have g5:decide (0<=a9)=false:=(by simp;omega);rw[g5];have g3:=Z (a8.out.keep (aC m.out));have g2:=Z (a7.out.keep (aC m.out));have j6:=Z P.out.2.2.2.2;go_wp2;go_loopw [80] (fun i wr'=>∃j:Nat,j<=k/\i=.int .i64 (j:Int)/\Hid (∀q∈r.parts.take j,wR q.1 p.1/\q.2≠p.2)/\Below I I wr') (fun i _=>k-(intOf i).toNat);case atStart=>exact⟨0,by omega,rfl,(by show ∀q∈_,_;simp),aB _ _⟩
                     case round =>
                      obtain⟨j,hj,rfl,e6,E⟩:=hrel;have d7:=cC1 m.out E;by_cases b3:j<k
                      . obtain⟨g9,o9,q,J,l1,e1,x3,U,K,l2,e2,d6,hq,i1⟩:=(O.out.keep (aC (cC1 hb d7))).at (show j<n by omega);obtain⟨rfl,rfl⟩:d4=g9/\o1=o9:=(by injection d6 with h;injection h with h1 h2;exact⟨h1,h2⟩);have d2:Hid (qE d q):=y.out.1 q (aJ (i:=j) (by rw[List.getElem?_take,if_pos (by omega)];exact hq));have k8:=iX hq;obtain⟨q0,q1,q2,q3,i3,f2,f1⟩:=i1;have g6:=Z f2;have g4:=Z f1;have HQ:=Z hq;have b9:=Y4.out.below E;have k5:=b9.lt;have Y5:=Z (b9.alloc (.cells #[.slice J l1 e1,x3,.bool U,.slice K l2 e2] 141));have y5:=Y5.out.cell;have Q5:=Z (aT.new wr 141 #[.slice J l1 e1,x3,.bool U,.slice K l2 e2]);have b2:Below wr wr (wr.alloc (.cells #[.slice J l1 e1,x3,.bool U,.slice K l2 e2] 141)):=(aB _ _).alloc (aD _) _;have c5:=Z (cC1 E b2);have c6:=Z b2;clear hq i3 f2 f1 d6 b9 b2;go_wp2_with fail;refine(aF2 J (some ⟨g8,o8,none⟩) l1 n1 e1 c1 q.1 p.1 _ (g6.out.keep (aC c6.out)) (g3.out.keep (aC c5.out))).mono ?_;rintro e w6 ⟨A6,j8,rfl,b0,F⟩;have B:=Z (bX0 d2.out.2.1 P.out.2.1);obtain⟨i4,d3⟩:=zE (cT qN q.1 p.1);rw[d3.out]at b0 B;rw[d3.out];obtain⟨c4,c3⟩:=i4;dsimp only at b0;dsimp only at B;have Y6:=(Y5.out.below F).cell;have Q6:=(Q5.out.below F).cell;have f3:=Z F;have a2:=Z (cC1 c5.out F);clear y5 q0 q1 q2 q3 b0 F;have a3:=Z (cC1 hb (cC1 m.out a2.out));by_cases z:c3=0
                        . have h6:(c3 != 0)=false:=(by simp[z]);have f7:=Z z;clear z;by_cases H:c4.length=0
                          . have h7:decide (0<c4.length)=false:=(by simp[aR H]);have f8:Hid (wR q.1 p.1):=B.out.1 ⟨f7.out,H⟩;clear H;go_wp2_with fail;refine(bN6 q.2 x3 U K l2 e2 x1 D A2 n2 c2 p.2 _ (g4.out.keep ((aC c6.out).trans (aC f3.out))) (g2.out.keep (aC a2.out)) (by omega) d2.out.2.2.2.2).mono ?_;rintro e w7 ⟨rfl,d8⟩;obtain⟨i5,a6⟩:=zE (decide (q.2=p.2));rw[a6.out];clear Y6 Q6;cases i5
                            . go_wp2;go_roundw;case rel =>
                               refine⟨j+1,by omega,by go_num,?_,cC1 a2.out d8⟩;show ∀s∈_,_;rw[cU HQ.out];intro s hs;rcases List.mem_append.1 hs with hs|hs
                               . exact e6.out s hs
                               . have:s=q:=(by simpa using hs);rw[this];exact⟨f8.out,by simpa using a6.out⟩
                              case measure=>simp[intOf];omega
                            . have a:Hid (¬kE (d+1) r):=Z fun h=>(tJ h b3 HQ.out g.out).2.2 (by simpa using a6.out);go_wp2;go_ret;exact⟨bR (dK a.out).symm,cC1 a3.out d8⟩
                          . have h7:decide (0<c4.length)=true:=(by simp only[decide_eq_true_eq];omega);have a:Hid (¬kE (d+1) r):=Z fun h=>H (B.out.2 (tJ h b3 HQ.out g.out).2.1).2;clear H;go_wp2;go_ret;exact⟨bR (dK a.out).symm,a3.out⟩
                        . have h6:(c3 != 0)=true:=(by simp[z]);have a:Hid (¬kE (d+1) r):=Z fun h=>z (B.out.2 (tJ h b3 HQ.out g.out).2.1).1;clear z;go_wp2;go_ret;exact⟨bR (dK a.out).symm,a3.out⟩
                      . go_wp2;go_roundw;case rel=>refine⟨k+1,by omega,by go_num,?_,cC1 a0 d7⟩;show kR _ _;have h8:j=k:=(by omega);have h2:=e6.out;rw[h8]at h2;rw[cU g.out];refine y.out.snoc P.out fun q hq=>⟨?_,h2 q hq⟩;have h3:=bI6 (k:=k-1) (p:=p) (by rw[Nat.sub_add_cancel t];exact y.out) d0.out (by rw[c8.out,c9.out,a5.out];exact e0);rw[Nat.sub_add_cancel t]at h3;exact h3 q hq
                        case measure=>simp[intOf];omega
                   . have g5:decide (0<=a9)=true:=(by simp;omega);have a:Hid (¬kE (d+1) r):=Z fun h=>(by have:=(tJ h (show k-1<k by omega) d0.out g.out).1;rw[c8.out,c9.out,a5.out]at this;omega);go_wp2;go_ret;exact⟨bR (dK a.out).symm,cC1 hb m.out⟩
             . have a:Hid (¬qE d p):=Z fun h=>(by have h1:=h.2.2.1;rw[R.out]at h1;cases h1);go_wp2;go_ret;exact⟨bR (dK (lR g.out a.out)).symm,cC1 hb X⟩
       . go_wp2;go_ret;refine⟨bR ?_,hb⟩;have h1:=y.out;rw[List.take_of_length_le (by rw[cI];have:=O.out.len;omega)]at h1;exact(hJ.2 (f5.out.2 h1)).symm
    . rw[dK (fun h=>by have:=((iW d r).1 h).2.1;rw[b.hf]at this;cases this)];have g1:(x != ((d+1:Nat):Int))=false:=(by simp[hx]);have h4:(((d+1:Nat):Int) == 0)=false:=(by simp;omega);generalize ((d+1:Nat):Int)=C at *;clear ih b hx;go_enter Tryz.func158,Tryz.ntmps158;go_wp2;go_ret;exact⟨rfl,o⟩
  . rw[dK (fun h=>hx (by rw[<- b.hw];exact((iW d r).1 h).1))];have g1:(x != ((d+1:Nat):Int))=true:=(by simp only[bne_iff_ne];exact hx);generalize ((d+1:Nat):Int)=C at *;clear ih b hx;go_enter Tryz.func158,Tryz.ntmps158;go_wp2;go_ret;exact⟨rfl,o⟩
def nR (r:Rg):Prop:=0≤r.w∧r.w≤12∧r.size≤64∧kE r.w.toNat r
open Classical in
noncomputable def okB (r:Rg):Bool:=decide (nR r)
theorem fR {r:Rg}:okB r=true↔nR r:=by simp[okB]
theorem mN {r:Rg}(h:¬nR r):okB r=false:=by simp[okB,h]
theorem nF (r:Rg)(x:Int)(f:Bool)(A:Option Addr)(n c:Nat)(w:World)(i:RgS w x f A n c r) :
 Calls Tryz.prog 94 #[.agg #[x,.bool f,.slice A n c]] w fun e w'=>e=.returned (.bool (okB r))/\Below w w w':=by
 have hx:=i.hw;have l:=Z i;have a:=Z hx;clear i hx;have p:=Z (aT.new w 71 #[x,.bool f,.slice A n c]);have m:Below w w (w.alloc (.cells #[x,.bool f,.slice A n c] 71)):=(aB _ _).alloc (aD _) _;have j:=Z m;clear m;have k:=Z ((j.out).alloc (by simp) (.cells #[(64:Int)] 3));rcases cD x 0 with h0|h0
 . rw[mN (fun h=>by have h1:=h.1;rw[a.out]at h1;omega)];have t:decide (0<=x)=false:=(by simp;omega);go_enter Tryz.func94,Tryz.ntmps94;go_wp2;go_ret;exact⟨rfl,k.out⟩
 . have t:decide (0<=x)=true:=(by simp;omega);rcases cD 12 x with h1|h1
   . rw[mN (fun h=>by have h2:=h.2.1;rw[a.out]at h2;omega)];have u:decide (x<=12)=false:=(by simp;omega);go_enter Tryz.func94,Tryz.ntmps94;go_wp2;go_ret;exact⟨rfl,k.out⟩
   . have u:decide (x<=12)=true:=(by simp;omega);have o:=few_any (w.alloc (.cells #[x,.bool f,.slice A n c] 71)) (w.heap.size+1) (by simp) r x f A n c 64 ((w.alloc (.cells #[x,.bool f,.slice A n c] 71)).alloc (.cells #[(64:Int)] 3)) (l.out.keep (aM _ _)) (by omega) ((aB _ _).alloc (aD _) _) (by
      have:=aT.new (w.alloc (.cells #[x,.bool f,.slice A n c] 71)) 3 #[(64:Int)];rw[aX]at this;exact this)
     have q:=Z o;clear o;go_enter Tryz.func94,Tryz.ntmps94;go_wp2_with fail;refine q.out.mono ?_;rintro e y ⟨rfl,hb1,_⟩;have v:=(p.out.below hb1).cell;have g:=cC1 j.out hb1;by_cases hs:r.size<=64
     . have b:decide (r.size<=64)=true:=(by simp[hs]);rw[b];obtain⟨d,rfl⟩:=Int.eq_ofNat_of_zero_le h0;go_wp2_with fail;refine(bE1 d r _ f A n c _ (l.out.keep (aC g)) hs (by omega)).mono ?_;rintro e z ⟨rfl,hb2⟩;go_wp2;go_ret;refine⟨bR ?_,cC1 g hb2⟩;rw[bV,fR,hJ];unfold nR;rw[a.out];constructor
       . intro h;exact⟨h0,h1,hs,h⟩
       . intro h;exact h.2.2.2
     . have b:decide (r.size<=64)=false:=(by simp;omega);rw[b];have s:=Z (mN (fun h=>hs h.2.2.1));go_wp2;go_ret;exact⟨bR s.out.symm,g⟩
def gU (w:World) (r:Rg) (er:Int) (e:Ending) (w':World):Prop :=
 ∃(x:Int) (f:Bool) (A:Option Addr) (n c:Nat),e=.returned (.tuple #[.agg #[.int .i64 x,.bool f,.slice A n c],.int .i64 er])∧RgS w' x f A n c r∧Below w.heap.size w w'
def cQ:Rg:=.nil 0 false
theorem mY (x:Int)(w:World):Calls Tryz.prog 83 #[x] w fun e w'=>gU w (if 0<=x/\x<=12 then .nil x false else cQ) (if 0<=x/\x<=12 then 0 else 1) e w':=by
 have c:∀v:Value,Below w w (w.alloc (.cells #[v,zF,zN] 71)):=fun v=>(aB _ _).alloc (aD _) _;rcases cD x 0 with h0|h0
 . have a:decide (x<0)=true:=(by simp;omega);rw[if_neg (by omega),if_neg (by omega)];go_enter Tryz.func83,Tryz.ntmps83;go_wp2;refine aF (v:=.tuple #[.agg zR,(1:Int)]) (by simp[results,Tryz.results83,go_sem]) rfl ⟨0,false,none,0,0,rfl,RgS.nil _ _,?_⟩;repeat(first|exact aB _ _|refine bC ?_ (by simp) _|refine cG ?_ (by simp) _)
 . have a:decide (x<0)=false:=(by simp;omega);rcases cD 12 x with h1|h1
   . have b:decide (12<x)=true:=(by simp;omega);rw[if_neg (by omega),if_neg (by omega)];go_enter Tryz.func83,Tryz.ntmps83;go_wp2;refine aF (v:=.tuple #[.agg zR,(1:Int)]) (by simp[results,Tryz.results83,go_sem]) rfl ⟨0,false,none,0,0,rfl,RgS.nil _ _,?_⟩;repeat(first|exact aB _ _|refine bC ?_ (by simp) _|refine cG ?_ (by simp) _)
   . have b:decide (12<x)=false:=(by simp;omega);rw[if_pos ⟨h0,h1⟩,if_pos ⟨h0,h1⟩];go_enter Tryz.func83,Tryz.ntmps83;go_wp2;refine aF (v:=.tuple #[.agg #[x,zF,zN],zO]) (by simp[results,Tryz.results83,go_sem]) rfl ⟨x,false,none,0,0,rfl,RgS.nil _ _,?_⟩;repeat(first|exact aB _ _|refine bC ?_ (by simp) _|refine cG ?_ (by simp) _)
end
end Go.Proofs.YtnnmlhmffnfjfaaGreat
