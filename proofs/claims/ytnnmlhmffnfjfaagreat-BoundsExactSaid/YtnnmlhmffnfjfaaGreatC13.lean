/- Texts on which the walk stands. -/
import Derived.Test.YtnnmlhmffnfjfaaGreatC12
open Go.RowKit.Below renaming refl → aB
open Nat renaming le_refl → aD, zero_add → cA, lt_or_ge → cJ
open Go renaming bodyPost_ret → aF
open Bool renaming and_eq_true → aI
open List renaming getElem?_cons_zero → aL, flatMap_append → aP, mem_cons_self → aQ, mem_cons_of_mem → aS, drop_eq_nil_of_le → aU
open Int renaming toNat_natCast → bM
set_option maxHeartbeats 8000000
set_option linter.unusedVariables false
set_option maxRecDepth 100000
namespace Go.Proofs.YtnnmlhmffnfjfaaGreat
section
open Go.RowKit
open Rg
theorem zB (F:Nat)(b4:∀args w,(callFunc F args).run Tryz.prog w=.ok (.enter F args) w)(q1:Nat)(r:Rg)(hr:eC r)(w:World)
 (a7:∀W,Below w w W->Calls Tryz.prog F #[.pointer (some ⟨q1,0,none⟩)] W fun e w'=>gU W r 0 e w') :
 Calls Tryz.prog 79 #[.func (.func F) #[] #[.pointer (some ⟨q1,0,none⟩)]] w fun e w'=>vX w r r 0 e w':=by
 have M:=zH a7;have q:=zH hr;have D:Hid (aT _ w 127 (fF 0 false none 0 0 0 false none 0 0)):=zH (aT.new w 127 #[zO,zF,zN,zO,zF,zN]);have HB:=zH ((aB w w).alloc (aD _) (.cells #[zO,zF,zN,zO,zF,zN] 127));clear a7 hr;go_enter Tryz.func79,Tryz.ntmps79;go_upto_region 1 with fail;obtain⟨R,s⟩:=zE (w.heap.size);have b1:Hid (w.heap.size<=R):=zH (by have:=s.out;omega);rw[s.out]at D;rw[s.out];generalize hW:w.alloc (.cells #[zO,zF,zN,zO,zF,zN] 127)=w0 at *;clear hW s;go_wp2_with fail;refine(M.out _ HB.out).mono ?_;rintro e w1 ⟨x,f,A,n,c,rfl,a5,hb1⟩;have t:=zH (cC1 HB.out hb1);have E:=zH (D.out.below hb1);have Y:=zH a5;clear a5 hb1 HB D;go_wp2_with fail;refine(hX x f A n c 0 _).mono ?_;rintro e w2 ⟨P,Q,rfl,b2,a3,a4,hb2⟩;have u:=zH (cC1 t.out hb2);have V:=zH (E.out.below hb2);have a0:=zH (Y.out.keep (aC hb2));have N:=zH a3;have T:=zH a4;have S:Hid (w.heap.size<=P/\R≠P):=zH ⟨by have:=t.out.size;omega,by have:=E.out.lt;omega⟩;clear b2 a3 a4 hb2 t E Y;go_wp2_with fail;refine(M.out _ u.out).mono ?_;rintro e w3 ⟨x',f',A',n',c',rfl,a6,j⟩;have z:=zH (cC1 u.out j);have X:=zH (V.out.below j);have a1:=zH (a0.out.keep (aC j));have O:=zH (N.out.below j);have U:=zH (T.out.below j);have a2:=zH a6;clear a6 j u V a0 N T;go_wp2_with fail;refine(gR x f A n c r 0 x' f' A' n' c' r 0 P Q _ O.out U.out a1.out a2.out q.out q.out).mono ?_;rintro e w4 ⟨y,g,C,m,d,o,i,b,l,d',rfl,G,H,hu⟩;have b0:=zH (hu.below z.out z.out.size (fun k hk=>by subst hk;exact S.out.1));have p:=zH (X.out.but hu (fun e=>S.out.2 e));have e1:jR 0 0 r=r:=by rw[jR,if_pos ⟨rfl,rfl⟩]
 rw[e1]at G H;have a8:=zH G;have a9:=zH H;clear G H hu e1 z X a1 O U a2;rw[show jE 0 0=0 from rfl];have b3:=p.out.cell;have b5:=p.out.free;unfold fF at b3;have I:=(dQ (x:=y) (f:=g) (A:=C) (n:=m) (c:=d) (x':=o) (f':=i) (A':=b) (n':=l) (c':=d') p.out).cell;unfold fF at I;have L:=zH (dC (x:=y) (f:=g) (A:=C) (n:=m) (c:=d) (x':=o) (f':=i) (A':=b) (n':=l) (c':=d') b0.out b1.out);have J:=zH (cC4 (a:=cQ) p.out (cC2 _) (cK (w:=w4) (B:=R) (x:=y) (f:=g) (A:=C) (n:=m) (c:=d) (x':=o) (f':=i) (A':=b) (n':=l) (c':=d')) q.out a8.out);have K:=zH (cC4 (a:=cQ) p.out (cC2 _) (cK (w:=w4) (B:=R) (x:=y) (f:=g) (A:=C) (n:=m) (c:=d) (x':=o) (f':=i) (A':=b) (n':=l) (c':=d')) q.out a9.out);unfold fY at I L J K;unfold fF;go_wp2;exact aF (v:=.tuple #[.agg #[y,.bool g,.slice C m d,o,.bool i,.slice b l d'],zO]) (by simp[results,Tryz.results79,go_sem,I]) rfl ⟨y,g,C,m,d,o,i,b,l,d',rfl,J.out,K.out,L.out⟩
theorem bB2 (F:Nat)(b4:∀args w,(callFunc F args).run Tryz.prog w=.ok (.enter F args) w)(q1 q2:Nat)(r:Rg)(hr:eC r)(w:World)
 (a7:∀W,Below w w W->Calls Tryz.prog F #[.pointer (some ⟨q1,0,none⟩),.pointer (some ⟨q2,0,none⟩)] W fun e w'=>gU W r 0 e w') :
 Calls Tryz.prog 79 #[.func (.func F) #[] #[.pointer (some ⟨q1,0,none⟩),.pointer (some ⟨q2,0,none⟩)]] w fun e w'=>vX w r r 0 e w':=by
 have M:=zH a7;have q:=zH hr;have D:Hid (aT _ w 127 (fF 0 false none 0 0 0 false none 0 0)):=zH (aT.new w 127 #[zO,zF,zN,zO,zF,zN]);have HB:=zH ((aB w w).alloc (aD _) (.cells #[zO,zF,zN,zO,zF,zN] 127));clear a7 hr;go_enter Tryz.func79,Tryz.ntmps79;go_upto_region 1 with fail;obtain⟨R,s⟩:=zE (w.heap.size);have b1:Hid (w.heap.size<=R):=zH (by have:=s.out;omega);rw[s.out]at D;rw[s.out];generalize hW:w.alloc (.cells #[zO,zF,zN,zO,zF,zN] 127)=w0 at *;clear hW s;go_wp2_with fail;refine(M.out _ HB.out).mono ?_;rintro e w1 ⟨x,f,A,n,c,rfl,a5,hb1⟩;have t:=zH (cC1 HB.out hb1);have E:=zH (D.out.below hb1);have Y:=zH a5;clear a5 hb1 HB D;go_wp2_with fail;refine(hX x f A n c 0 _).mono ?_;rintro e w2 ⟨P,Q,rfl,b2,a3,a4,hb2⟩;have u:=zH (cC1 t.out hb2);have V:=zH (E.out.below hb2);have a0:=zH (Y.out.keep (aC hb2));have N:=zH a3;have T:=zH a4;have S:Hid (w.heap.size<=P/\R≠P):=zH ⟨by have:=t.out.size;omega,by have:=E.out.lt;omega⟩;clear b2 a3 a4 hb2 t E Y;go_wp2_with fail;refine(M.out _ u.out).mono ?_;rintro e w3 ⟨x',f',A',n',c',rfl,a6,j⟩;have z:=zH (cC1 u.out j);have X:=zH (V.out.below j);have a1:=zH (a0.out.keep (aC j));have O:=zH (N.out.below j);have U:=zH (T.out.below j);have a2:=zH a6;clear a6 j u V a0 N T;go_wp2_with fail;refine(gR x f A n c r 0 x' f' A' n' c' r 0 P Q _ O.out U.out a1.out a2.out q.out q.out).mono ?_;rintro e w4 ⟨y,g,C,m,d,o,i,b,l,d',rfl,G,H,hu⟩;have b0:=zH (hu.below z.out z.out.size (fun k hk=>by subst hk;exact S.out.1));have p:=zH (X.out.but hu (fun e=>S.out.2 e));have e1:jR 0 0 r=r:=by rw[jR,if_pos ⟨rfl,rfl⟩]
 rw[e1]at G H;have a8:=zH G;have a9:=zH H;clear G H hu e1 z X a1 O U a2;rw[show jE 0 0=0 from rfl];have b3:=p.out.cell;have b5:=p.out.free;unfold fF at b3;have I:=(dQ (x:=y) (f:=g) (A:=C) (n:=m) (c:=d) (x':=o) (f':=i) (A':=b) (n':=l) (c':=d') p.out).cell;unfold fF at I;have L:=zH (dC (x:=y) (f:=g) (A:=C) (n:=m) (c:=d) (x':=o) (f':=i) (A':=b) (n':=l) (c':=d') b0.out b1.out);have J:=zH (cC4 (a:=cQ) p.out (cC2 _) (cK (w:=w4) (B:=R) (x:=y) (f:=g) (A:=C) (n:=m) (c:=d) (x':=o) (f':=i) (A':=b) (n':=l) (c':=d')) q.out a8.out);have K:=zH (cC4 (a:=cQ) p.out (cC2 _) (cK (w:=w4) (B:=R) (x:=y) (f:=g) (A:=C) (n:=m) (c:=d) (x':=o) (f':=i) (A':=b) (n':=l) (c':=d')) q.out a9.out);unfold fY at I L J K;unfold fF;go_wp2;exact aF (v:=.tuple #[.agg #[y,.bool g,.slice C m d,o,.bool i,.slice b l d'],zO]) (by simp[results,Tryz.results79,go_sem,I]) rfl ⟨y,g,C,m,d,o,i,b,l,d',rfl,J.out,K.out,L.out⟩
theorem oX (F:Nat)(b4:∀args w,(callFunc F args).run Tryz.prog w=.ok (.enter F args) w)(q1 q2 q3:Nat)(r:Rg)(hr:eC r)(w:World)
 (a7:∀W,Below w w W->Calls Tryz.prog F #[.pointer (some ⟨q1,0,none⟩),.pointer (some ⟨q2,0,none⟩),.pointer (some ⟨q3,0,none⟩)] W fun e w'=>gU W r 0 e w') :
 Calls Tryz.prog 79 #[.func (.func F) #[] #[.pointer (some ⟨q1,0,none⟩),.pointer (some ⟨q2,0,none⟩),.pointer (some ⟨q3,0,none⟩)]] w fun e w'=>vX w r r 0 e w':=by
 have M:=zH a7;have q:=zH hr;have D:Hid (aT _ w 127 (fF 0 false none 0 0 0 false none 0 0)):=zH (aT.new w 127 #[zO,zF,zN,zO,zF,zN]);have HB:=zH ((aB w w).alloc (aD _) (.cells #[zO,zF,zN,zO,zF,zN] 127));clear a7 hr;go_enter Tryz.func79,Tryz.ntmps79;go_upto_region 1 with fail;obtain⟨R,s⟩:=zE (w.heap.size);have b1:Hid (w.heap.size<=R):=zH (by have:=s.out;omega);rw[s.out]at D;rw[s.out];generalize hW:w.alloc (.cells #[zO,zF,zN,zO,zF,zN] 127)=w0 at *;clear hW s;go_wp2_with fail;refine(M.out _ HB.out).mono ?_;rintro e w1 ⟨x,f,A,n,c,rfl,a5,hb1⟩;have t:=zH (cC1 HB.out hb1);have E:=zH (D.out.below hb1);have Y:=zH a5;clear a5 hb1 HB D;go_wp2_with fail;refine(hX x f A n c 0 _).mono ?_;rintro e w2 ⟨P,Q,rfl,b2,a3,a4,hb2⟩;have u:=zH (cC1 t.out hb2);have V:=zH (E.out.below hb2);have a0:=zH (Y.out.keep (aC hb2));have N:=zH a3;have T:=zH a4;have S:Hid (w.heap.size<=P/\R≠P):=zH ⟨by have:=t.out.size;omega,by have:=E.out.lt;omega⟩;clear b2 a3 a4 hb2 t E Y;go_wp2_with fail;refine(M.out _ u.out).mono ?_;rintro e w3 ⟨x',f',A',n',c',rfl,a6,j⟩;have z:=zH (cC1 u.out j);have X:=zH (V.out.below j);have a1:=zH (a0.out.keep (aC j));have O:=zH (N.out.below j);have U:=zH (T.out.below j);have a2:=zH a6;clear a6 j u V a0 N T;go_wp2_with fail;refine(gR x f A n c r 0 x' f' A' n' c' r 0 P Q _ O.out U.out a1.out a2.out q.out q.out).mono ?_;rintro e w4 ⟨y,g,C,m,d,o,i,b,l,d',rfl,G,H,hu⟩;have b0:=zH (hu.below z.out z.out.size (fun k hk=>by subst hk;exact S.out.1));have p:=zH (X.out.but hu (fun e=>S.out.2 e));have e1:jR 0 0 r=r:=by rw[jR,if_pos ⟨rfl,rfl⟩]
 rw[e1]at G H;have a8:=zH G;have a9:=zH H;clear G H hu e1 z X a1 O U a2;rw[show jE 0 0=0 from rfl];have b3:=p.out.cell;have b5:=p.out.free;unfold fF at b3;have I:=(dQ (x:=y) (f:=g) (A:=C) (n:=m) (c:=d) (x':=o) (f':=i) (A':=b) (n':=l) (c':=d') p.out).cell;unfold fF at I;have L:=zH (dC (x:=y) (f:=g) (A:=C) (n:=m) (c:=d) (x':=o) (f':=i) (A':=b) (n':=l) (c':=d') b0.out b1.out);have J:=zH (cC4 (a:=cQ) p.out (cC2 _) (cK (w:=w4) (B:=R) (x:=y) (f:=g) (A:=C) (n:=m) (c:=d) (x':=o) (f':=i) (A':=b) (n':=l) (c':=d')) q.out a8.out);have K:=zH (cC4 (a:=cQ) p.out (cC2 _) (cK (w:=w4) (B:=R) (x:=y) (f:=g) (A:=C) (n:=m) (c:=d) (x':=o) (f':=i) (A':=b) (n':=l) (c':=d')) q.out a9.out);unfold fY at I L J K;unfold fF;go_wp2;exact aF (v:=.tuple #[.agg #[y,.bool g,.slice C m d,o,.bool i,.slice b l d'],zO]) (by simp[results,Tryz.results79,go_sem,I]) rfl ⟨y,g,C,m,d,o,i,b,l,d',rfl,J.out,K.out,L.out⟩
def aR8 (N:Nat) (cs:List Int) (s:List Iv) (k:Nat):List (List Iv):=(cs.take k).foldl (fun acc c=>acc.set c.toNat s) (List.replicate N lE)
theorem bN4 {N:Nat}{cs:List Int}{s:List Iv}{k:Nat}{c:Int}(h:cs[k]?=some c):aR8 N cs s (k+1)=(aR8 N cs s k).set c.toNat s:=by
 unfold aR8;rw[List.take_add_one,h,List.foldl_append];rfl
theorem aI5 (s:List Iv):∀(cs:List Int) (a:List (List Iv)),(∀c∈cs,0<=c/\c<(a.length:Int))->∀q,q<a.length->(cs.foldl (fun g c=>g.set c.toNat s) a)[q]?=if (q:Int)∈cs then some s else a[q]?
 |[],a,_,q,hq=>by simp
 |
  c::cs,a,h,q,hq=>by
  have hc:=h c aQ;rw[List.foldl_cons,aI5 s cs (a.set c.toNat s) (fun x j=>by rw[List.length_set];exact h x (aS _ j)) q (by rw[List.length_set];exact hq)];by_cases b:(q:Int)∈cs
  . rw[if_pos b,if_pos (aS _ b)]
  . rw[if_neg b];by_cases d:(q:Int)=c
    . rw[if_pos (by rw[d];exact aQ)];subst d;rw[bM,List.getElem?_set_self hq]
    . rw[if_neg (by
       intro i;rcases List.mem_cons.1 i with e|e
       . exact d e
       . exact b e),List.getElem?_set_ne (by omega)]
theorem aI6 (s:List Iv):∀(cs:List Int) (a:List (List Iv)),(cs.foldl (fun b c=>b.set c.toNat s) a).length=a.length
 |[],a=>rfl
 |c::cs,a=>by rw[List.foldl_cons,aI6 s cs];simp
theorem bT6 {N:Nat}{cs:List Int}{s:List Iv}{i j:Int}(h:∀c∈cs,0<=c/\c<(N:Int))(d:∀q:Int,q∈cs↔q=i\/q=j){k:Nat}(g:cs.length<=k):aR8 N cs s k=oM N i j s:=by
 unfold aR8;rw[List.take_of_length_le g];apply List.ext_getElem?;intro q;rcases cJ q N with a|a
 . rw[aI5 s cs _ (by simpa using h) q (by simpa using a)];simp only[oM,List.getElem?_map,List.getElem?_range a,Option.map_some,List.getElem?_replicate,a,if_true];by_cases b:(q:Int)∈cs
   . rw[if_pos b,if_pos ((d _).1 b)]
   . rw[if_neg b,if_neg (fun e=>b ((d _).2 e))]
 . rw[List.getElem?_eq_none (by rw[aI6];simpa using a),List.getElem?_eq_none (by simpa[oM]using a)]
theorem bL0 {N:Nat}(c:N<=12){i j:Int}{s:List Iv}(b:cM s=true):kQ (oM N i j s)=0/\mE (oM N i j s)=jI N i j s:=by
 have a:kQ (oM N i j s)=0:=by unfold kQ;rw[pR,if_neg (by omega),if_pos ?_];rw[List.all_eq_true];exact aK8 b
 refine⟨a,?_⟩;unfold mE;rw[if_pos a];rfl
theorem aE2 (N:Nat)(A:Option Addr)(n c:Nat)(s:List Iv)(P:Option Addr)(m c0:Nat)(cs:List Int)(t y:Int)(w:World)(hs:kH w A n s)(a6:yC A n c)(hn:n<=1000000)(hv:cM s=true)(hc:wX w P m cs)(L:∀x∈cs,0<=x/\x<(N:Int))(a5:∀q:Int,q∈cs↔q=t\/q=y)(hm:m<=12)(c1:N<=12) :
 Calls Tryz.prog 136 #[(N:Int),.slice A n c,.slice P m c0] w fun e w'=>gU w (jI N t y s) 0 e w':=by
 obtain⟨c9,c4,c6,c7,c8⟩:=info_parts qT;have a1:Hid (∀p∈[(((A,n,c):Option Addr×Nat×Nat),s)],yC p.1.1 p.1.2.1 p.1.2.2/\p.1.2.1<=1000000/\kH (w.alloc (.cells zR 71)) p.1.1 p.1.2.1 p.2):=zH (fun p hp=>by
  rw[List.mem_singleton.1 hp];exact⟨a6,hn,hs.keep (aM _ _)⟩)
 have W:=zH (hc.keep (aM w (.cells zR 71)));have X:=zH L;have d1:=zH hc.len;have Y:Hid (aR8 N cs s m=oM N t y s):=zH (bT6 L a5 (by rw[hc.len];exact aD _));have a0:=zH (bL0 (i:=t) (j:=y) c1 hv);have B:=zH (aT.new w 71 zR);have V:=zH ((aB w w).alloc (aD _) (.cells zR 71));clear hs a6 hc L a5;go_enter Tryz.func136,Tryz.ntmps136;go_upto_region 1 with fail;obtain⟨R,F⟩:=zE (w.heap.size);have b7:Hid (w.heap.size<=R):=zH (by rw[F.out];exact aD _);rw[F.out]at B;rw[F.out];generalize hW:w.alloc (.cells zR 71)=w0 at *;clear hW F;have d6:Hid (R<w0.heap.size):=zH B.out.lt;go_wp2_with (at_make;refine wpList_make_full _ rfl _ _ 176 rfl w0 139 c9 zN 1 Tryz.underlying176 c4 c6 c7 .i64 .i64 _ _ N rfl rfl rfl rfl (by rw[c8];omega) (by unfold maxLen;omega) (by omega) ?_;intro w1 a7 a4;have a3:Below w0 w0 w1:=mW a4;have r:=zH a3;have G:=zH a7;rw[bO9]at G;clear a7 a4 a3);go_loopw [16] (fun i wr=>∃(k:Nat) (qs:List iM),k<=N/\i=.int .i64 (k:Int)/\Hid (wr.ownsRow w0 139 1 (.slice (some ⟨w0,0,none⟩) N N) N (qs.flatMap mG++List.replicate (N-k) (Value.slice none 0 0)))/\Hid (qs.length=k/\∀p∈qs,rG wr p)/\Hid (Below w0 w0 wr)) (fun i _=>N-(intOf i).toNat);case atStart=>exact⟨0,[],by omega,rfl,zH (by simpa using G.out),zH ⟨rfl,by simp⟩,r⟩
 case round =>
  clear G r;obtain⟨k,qs,hk,rfl,D,HQ,HB⟩:=hrel;by_cases hlt:k<N
  . go_wp2_with fail;refine(aI2 _).mono ?_;rintro e O ⟨g,rfl,a2,hb2⟩;have E:=zH (fJ D.out (fun q _ hl _=>hb2.block q hl));have b1:=zH (cC1 HB.out hb2);have b5:Hid (∀p∈qs++[((some ⟨g,0,none⟩,1,1),lE)],rG O p):=zH fun p hp=>by
     rcases List.mem_append.1 hp with hp|hp
     . exact(HQ.out.2 p hp).below hb2
     . exact⟨g,List.mem_singleton.1 hp,a2⟩
    have M:(qs.flatMap mG).length=k:=(by rw[hV mR,HQ.out.1,Nat.mul_one]);have K:=E.out.cells (g:=w0.heap.size) rfl k zN (by rw[List.getElem?_append_right (by omega),M,Nat.sub_self,show N-k=(N-k-1)+1 by omega,List.replicate_succ];rfl);rw[lF,cA]at K;have c3:=fun z=>E.out.frozenAt z;have b4:=zH M;clear a2 hb2 D HB M;go_wp2;go_roundw;case rel=>have c2:But (fun q=>(Value.slice (some ⟨w0,0,none⟩) N N).ownBlock=some q) O (O.setCell ⟨w0,k,none⟩ (.slice (some ⟨g,0,none⟩) 1 1)):=But.set (S:=fun q=>(Value.slice (some ⟨w0,0,none⟩) N N).ownBlock=some q) _ (p:=⟨w0,k,none⟩) rfl _;refine⟨k+1,qs++[((some ⟨g,0,none⟩,1,1),lE)],by omega,by go_num,zH ?_,zH ⟨by simp[HQ.out.1],fun p hp=>(b5.out p hp).but c2 (fun q hq cs=>lQ E.out hq cs)⟩,zH (b1.out.setCell (p:=⟨w0,k,none⟩) (aD _) _)⟩;have h1:=(E.out.stored k (.slice (some ⟨g,0,none⟩) 1 1)).1;rw[bH3 b4.out hlt]at h1;rw[aP];exact h1
    case measure=>simp[intOf];omega
  . obtain rfl:k=N:=(by omega);have a:Hid (LfS wr w0 (some ⟨w0,0,none⟩) k k [((A,n,c),s)] qs/\qs.map (·.2)=aR8 k cs s 0):=by
     refine zH ⟨⟨?_,HQ.out.1,fun q hq=>.inr (HQ.out.2 q hq)⟩,?_⟩
     . have h1:=D.out
       rwa [Nat.sub_self,List.replicate_zero,List.append_nil]at h1
     . show _=List.replicate k lE;rw[List.eq_replicate_iff];refine⟨by simp[HQ.out.1],fun l hl=>?_⟩;obtain⟨p,h,rfl⟩:=List.mem_map.1 hl;obtain⟨g,rfl,_⟩:=HQ.out.2 p h;rfl
    clear D HQ hlt hk;go_wp2_with fail;go_loopw [26] (fun i b0=>∃(j:Nat) (qs:List iM),j<=m/\i=.int .i64 (j:Int)/\Hid (LfS b0 w0 (some ⟨w0,0,none⟩) k k [((A,n,c),s)] qs/\qs.map (·.2)=aR8 k cs s j)/\Hid (Below w0 w0 b0)) (fun i _=>m-(intOf i).toNat);case atStart=>exact⟨0,qs,by omega,rfl,a,HB⟩
    case round =>
     clear a HB;obtain⟨j,qs,hj,rfl,a,HB⟩:=hrel;by_cases c5:j<m
     . obtain⟨d2,d9,x,rfl,hx,a8⟩:=(W.out.keep (aC HB.out)).at c5;have d0:=a8 0 _ rfl;simp only[Nat.mul_one,Nat.add_zero]at d0;have a9:=X.out x (List.mem_of_getElem? hx);have b9:=zH hx;clear hx a8;obtain⟨z,rfl⟩:=Int.eq_ofNat_of_zero_le a9.1;have d8:z<k:=(by omega);clear a9;obtain⟨u,hu⟩:∃u,(qs.flatMap mG)[z]?=some u:=⟨_,List.getElem?_eq_getElem (by rw[hV mR,a.out.1.len];omega)⟩;have K:=a.out.1.own.cells (g:=w0.heap.size) rfl z u hu;rw[lF,cA]at K;have c3:=fun z=>a.out.1.own.frozenAt z;clear hu;go_wp2;go_roundw;case rel=>refine⟨j+1,qs.set z ((A,n,c),s),by omega,by go_num,zH ⟨a.out.1.put (p:=((A,n,c),s)) (List.mem_singleton.2 rfl) z,?_⟩,zH (HB.out.setCell (p:=⟨w0,z,none⟩) (aD _) _)⟩;rw[setAt,a.out.2,bN4 b9.out,bM]
       case measure=>simp[intOf];omega
     . obtain rfl:m=j:=(by omega);have H:Hid (SetsS wr (some ⟨w0,0,none⟩) k qs/\qs.map (·.2)=oM k t y s):=zH ⟨⟨cC3 mR a.out.1.len a.out.1.own,fun q hq=>by
        rcases a.out.1.el q hq with h1|⟨g,rfl,h1⟩
        . have h2:=a1.out q h1;exact⟨h2.1,h2.2.1,h2.2.2.keep (aC HB.out)⟩
        . exact⟨⟨aD _,fun h=>by cases h⟩,by show 1<=1000000;omega,aQ0 h1⟩⟩,by rw[a.out.2];exact Y.out⟩
       have Q:=zH (B.out.below HB.out);have r:=zH (cC1 V.out HB.out);clear a HB B V Y X W a1;go_wp2_with fail;refine(Box_any _ _ _ qs _ H.out.1).mono ?_;rintro e w5 ⟨x,f,b,o,d,rfl,I,J⟩;rw[H.out.2,a0.out.2]at I;rw[H.out.2,a0.out.1];have C:=zH (Q.out.below J);have b2:=zH (cC1 r.out J);have b6:=zH I;clear J I Q r;have d7:=C.out.cell;obtain⟨d3,d4,d5⟩:=bF C.out x (.bool f);have T:Hid (aT _ _ _ #[x,zF,zN]):=zH (C.out.set_ 0 x);have U:Hid (aT _ _ _ #[x,.bool f,zN]):=zH (T.out.set_ 1 (.bool f));have F3:Hid (aT _ _ _ #[x,.bool f,.slice b o d]):=zH (U.out.set_ 2 (.slice b o d));have y1:=T.out.cell;have y2:=U.out.cell;have y3:=F3.out.cell;have b3:=zH (bD b2.out b7.out x (.bool f) (.slice b o d));have b8:=zH (RgS.off C.out (bJ w5 R x (.bool f) (.slice b o d)) b6.out);go_wp2;refine aF (v:=.tuple #[.agg #[x,.bool f,.slice b o d],zO]) (by simp[results,Tryz.results136,go_sem,y3]) rfl ⟨x,f,b,o,d,rfl,b8.out,b3.out⟩
theorem sN {n:Nat}(b:n<=12):jK (n:Int)=0/\jJ (n:Int)=dO n:=by
 have a:jK (n:Int)=0:=by unfold jK;rw[if_pos (by omega)]
 refine⟨a,?_⟩;unfold jJ;first
 |(rw[if_pos (by omega)];simp)
 |(rw[if_pos a];simp)
theorem cA1 {w:World}{g:Nat}{T:TypeId}{c:Int}(h:aT w g T #[c]):wX w (some ⟨g,0,none⟩) 1 [c]:=by
 refine⟨rfl,fun _=>⟨g,0,rfl,fun k x a j u b=>?_⟩⟩
 match k,a with
 |
  0,a =>
  simp only[aL,Option.some.injEq]at a;subst a
  match j,b with
  |
   0,b =>
   rw[h.cell];exact b
  |j+1,b=>simp[xS]at b
 |k+1,a=>simp at a
theorem cl_two {w:World}{g:Nat}{T:TypeId}{c d:Int}(h:aT w g T #[c,d]):wX w (some ⟨g,0,none⟩) 2 [c,d]:=by
 refine⟨rfl,fun _=>⟨g,0,rfl,fun k x b j u a=>?_⟩⟩
 match k,b with
 |
  0,b =>
  simp only[aL,Option.some.injEq]at b;subst b
  match j,a with
  |
   0,a =>
   rw[h.cell];exact a
  |j+1,a=>simp[xS]at a
 |
  1,b =>
  simp only[List.getElem?_cons_succ,aL,Option.some.injEq]at b;subst b
  match j,a with
  |
   0,a =>
   rw[h.cell];exact a
  |j+1,a=>simp[xS]at a
 |k+2,b=>simp at b
theorem bR5:∀args w,(callFunc 80 args).run Tryz.prog w=.ok (.enter 80 args) w:=Go.Proofs.enters_of Tryz.func80 (by kernel_rfl) rfl
theorem bR4:∀args w,(callFunc 82 args).run Tryz.prog w=.ok (.enter 82 args) w:=Go.Proofs.enters_of Tryz.func82 (by kernel_rfl) rfl
theorem bF0:∀args w,(callFunc 134 args).run Tryz.prog w=.ok (.enter 134 args) w:=Go.Proofs.enters_of Tryz.func134 (by kernel_rfl) rfl
theorem aJ2:∀args w,(callFunc 137 args).run Tryz.prog w=.ok (.enter 137 args) w:=Go.Proofs.enters_of Tryz.func137 (by kernel_rfl) rfl
theorem aJ3:∀args w,(callFunc 140 args).run Tryz.prog w=.ok (.enter 140 args) w:=Go.Proofs.enters_of Tryz.func140 (by kernel_rfl) rfl
theorem bQ2 (q1:Nat)(p:Option Addr)(d B:Nat)(w:World)(h1:aT w q1 65 #[.slice p d B])(hn:d<=12):Calls Tryz.prog 80 #[.pointer (some ⟨q1,0,none⟩)] w fun e w'=>gU w (dO d) 0 e w':=by
 have g:=zH (aT.new w 71 zR);have m:=zH ((aB w w).alloc (aD _) (.cells zR 71));have r:=zH (h1.alloc (.cells zR 71));clear h1;go_enter Tryz.func80,Tryz.ntmps80;go_upto_region 1 with fail;obtain⟨R,b⟩:=zE (w.heap.size);have y:Hid (w.heap.size<=R):=zH (by rw[b.out];exact aD _);rw[b.out]at g;rw[b.out];generalize hW:w.alloc (.cells zR 71)=J at *;clear hW b;have E:=r.out.cell;go_wp2_with fail;refine(vE (d:Int) _).mono ?_;rintro e C ⟨x,f,A,n,c,rfl,i,hb1⟩;rw[(sN hn).2]at i;rw[(sN hn).1];clear E;have j:=g;have o:=m;clear g m;have a:=zH (j.out.below hb1);have s:=zH (cC1 o.out hb1);have u:=zH i;clear hb1 i j o;have I:=a.out.cell;obtain⟨F,G,H⟩:=bF a.out x (.bool f);have k:Hid (aT _ _ _ #[x,zF,zN]):=zH (a.out.set_ 0 x);have l:Hid (aT _ _ _ #[x,.bool f,zN]):=zH (k.out.set_ 1 (.bool f));have q:Hid (aT _ _ _ #[x,.bool f,.slice A n c]):=zH (l.out.set_ 2 (.slice A n c));have K:=k.out.cell;have L:=l.out.cell;have D:=q.out.cell;have t:=zH (bD s.out y.out x (.bool f) (.slice A n c));have z:=zH (RgS.off a.out (bJ C R x (.bool f) (.slice A n c)) u.out);go_wp2;exact aF (v:=.tuple #[.agg #[x,.bool f,.slice A n c],zO]) (by simp[results,Tryz.results80,go_sem,D]) rfl ⟨x,f,A,n,c,rfl,z.out,t.out⟩
theorem bQ1 (q1:Nat)(p:Option Addr)(d B:Nat)(w:World)(h1:aT w q1 65 #[.slice p d B])(hn:d<=12):Calls Tryz.prog 82 #[.pointer (some ⟨q1,0,none⟩)] w fun e w'=>gU w (.nil (d:Int) false) 0 e w':=by
 have g:=zH (aT.new w 71 zR);have m:=zH ((aB w w).alloc (aD _) (.cells zR 71));have r:=zH (h1.alloc (.cells zR 71));clear h1;go_enter Tryz.func82,Tryz.ntmps82;go_upto_region 1 with fail;obtain⟨R,b⟩:=zE (w.heap.size);have y:Hid (w.heap.size<=R):=zH (by rw[b.out];exact aD _);rw[b.out]at g;rw[b.out];generalize hW:w.alloc (.cells zR 71)=J at *;clear hW b;have E:=r.out.cell;go_wp2_with fail;refine(mY (d:Int) _).mono ?_;rintro e C ⟨x,f,A,n,c,rfl,i,hb1⟩;rw[if_pos (by omega)]at i;rw[if_pos (by omega)];clear E;have j:=g;have o:=m;clear g m;have a:=zH (j.out.below hb1);have s:=zH (cC1 o.out hb1);have u:=zH i;clear hb1 i j o;have I:=a.out.cell;obtain⟨F,G,H⟩:=bF a.out x (.bool f);have k:Hid (aT _ _ _ #[x,zF,zN]):=zH (a.out.set_ 0 x);have l:Hid (aT _ _ _ #[x,.bool f,zN]):=zH (k.out.set_ 1 (.bool f));have q:Hid (aT _ _ _ #[x,.bool f,.slice A n c]):=zH (l.out.set_ 2 (.slice A n c));have K:=k.out.cell;have L:=l.out.cell;have D:=q.out.cell;have t:=zH (bD s.out y.out x (.bool f) (.slice A n c));have z:=zH (RgS.off a.out (bJ C R x (.bool f) (.slice A n c)) u.out);go_wp2;exact aF (v:=.tuple #[.agg #[x,.bool f,.slice A n c],zO]) (by simp[results,Tryz.results82,go_sem,D]) rfl ⟨x,f,A,n,c,rfl,z.out,t.out⟩
theorem bE3 (q1 q2:Nat)(ho:Bool)(a:Nat)(w:World)(h1:aT w q1 4 #[.bool ho])(h2:aT w q2 3 #[(a:Int)])(hn:a<=12):Calls Tryz.prog 134 #[.pointer (some ⟨q1,0,none⟩),.pointer (some ⟨q2,0,none⟩)] w fun e w'=>gU w (if ho=true then dO a else .nil (a:Int) false) 0 e w':=by
 have g:=zH (aT.new w 71 zR);have o:=zH ((aB w w).alloc (aD _) (.cells zR 71));have F:=zH (h1.alloc (.cells zR 71));have G:=zH (h2.alloc (.cells zR 71));clear h1 h2;obtain⟨C,m⟩:=zE ((if ho=true then dO a else .nil (a:Int) false));rw[m.out];go_enter Tryz.func134,Tryz.ntmps134;go_upto_region 1 with fail;obtain⟨R,p⟩:=zE (w.heap.size);have B:Hid (w.heap.size<=R):=zH (by rw[p.out];exact aD _);rw[p.out]at g;rw[p.out];generalize hW:w.alloc (.cells zR 71)=N at *;clear hW p;have D:=F.out.cell;have E:=G.out.cell;cases ho
 . obtain rfl:Rg.nil (a:Int) false=C:=m.out;clear m;go_wp2_with fail;refine(mY (a:Int) _).mono ?_;rintro e y ⟨x,f,A,n,c,rfl,d,hb1⟩;rw[if_pos (by omega)]at d;rw[if_pos (by omega)];clear D E;have i:=g;have l:=o;clear g o;have b:=zH (i.out.below hb1);have r:=zH (cC1 l.out hb1);have t:=zH d;clear hb1 d i l;have K:=b.out.cell;obtain⟨H,I,J⟩:=bF b.out x (.bool f);have j:Hid (aT _ _ _ #[x,zF,zN]):=zH (b.out.set_ 0 x);have k:Hid (aT _ _ _ #[x,.bool f,zN]):=zH (j.out.set_ 1 (.bool f));have q:Hid (aT _ _ _ #[x,.bool f,.slice A n c]):=zH (k.out.set_ 2 (.slice A n c));have L:=j.out.cell;have M:=k.out.cell;have z:=q.out.cell;have s:=zH (bD r.out B.out x (.bool f) (.slice A n c));have u:=zH (RgS.off b.out (bJ y R x (.bool f) (.slice A n c)) t.out);go_wp2;exact aF (v:=.tuple #[.agg #[x,.bool f,.slice A n c],zO]) (by simp[results,Tryz.results134,go_sem,z]) rfl ⟨x,f,A,n,c,rfl,u.out,s.out⟩
 . obtain rfl:dO a=C:=m.out;clear m;go_wp2_with fail;refine(vE (a:Int) _).mono ?_;rintro e y ⟨x,f,A,n,c,rfl,d,hb1⟩;rw[(sN hn).2]at d;rw[(sN hn).1];clear D E;have i:=g;have l:=o;clear g o;have b:=zH (i.out.below hb1);have r:=zH (cC1 l.out hb1);have t:=zH d;clear hb1 d i l;have K:=b.out.cell;obtain⟨H,I,J⟩:=bF b.out x (.bool f);have j:Hid (aT _ _ _ #[x,zF,zN]):=zH (b.out.set_ 0 x);have k:Hid (aT _ _ _ #[x,.bool f,zN]):=zH (j.out.set_ 1 (.bool f));have q:Hid (aT _ _ _ #[x,.bool f,.slice A n c]):=zH (k.out.set_ 2 (.slice A n c));have L:=j.out.cell;have M:=k.out.cell;have z:=q.out.cell;have s:=zH (bD r.out B.out x (.bool f) (.slice A n c));have u:=zH (RgS.off b.out (bJ y R x (.bool f) (.slice A n c)) t.out);go_wp2;exact aF (v:=.tuple #[.agg #[x,.bool f,.slice A n c],zO]) (by simp[results,Tryz.results134,go_sem,z]) rfl ⟨x,f,A,n,c,rfl,u.out,s.out⟩
theorem aI7 (q1 q2 q3:Nat)(o:Od)(b:Option Addr)(a cs:Nat)(s:List Iv)(d:Nat)(w:World)(h1:aT w q1 3 #[(d:Int)])(h2:aT w q2 139 #[.slice b a cs])(h3:aT w q3 61 #[o.k,o.ix,o.v.k,o.v.i,o.v.t])(hs:kH w b a s)(F:yC b a cs)(E:a<=1000000)(hv:cM s=true)(hi:0<=o.ix/\o.ix<(d:Int))(hn:d<=12):Calls Tryz.prog 137 #[.pointer (some ⟨q1,0,none⟩),.pointer (some ⟨q2,0,none⟩),.pointer (some ⟨q3,0,none⟩)] w fun e w'=>gU w (jI d o.ix o.ix s) 0 e w':=by
 have l:=zH (aT.new w 71 zR);have m:=zH ((aB w w).alloc (aD _) (.cells zR 71));have I:=zH (h1.alloc (.cells zR 71));have J:=zH (h2.alloc (.cells zR 71));have K:=zH (h3.alloc (.cells zR 71));have S:=zH (hs.keep (aM w (.cells zR 71)));have p:Hid (yC b a cs/\a<=1000000/\cM s=true):=zH ⟨F,E,hv⟩;have N:=zH hi;clear h1 h2 h3 hs F E hv hi;go_enter Tryz.func137,Tryz.ntmps137;go_upto_region 1 with fail;obtain⟨R,j⟩:=zE (w.heap.size);have P:Hid (w.heap.size<=R):=zH (by rw[j.out];exact aD _);rw[j.out]at l;rw[j.out];generalize hW:w.alloc (.cells zR 71)=G at *;clear hW j;have V:=I.out.cell;have W:=J.out.cell;have z3:=K.out.cell;have B:=zH (aT.new G 3 #[o.ix]);have C:=zH (S.out.keep (aM G (.cells #[o.ix] 3)));have r:=zH (l.out.alloc (.cells #[o.ix] 3));have z:=zH (m.out.alloc m.out.size (.cells #[o.ix] 3));go_wp2_with fail;refine(aE2 d b a cs s _ 1 1 [o.ix] o.ix o.ix _ C.out p.out.1 p.out.2.1 p.out.2.2 (cA1 B.out) (fun q hq=>by rw[List.mem_singleton.1 hq];exact N.out) (fun q=>by simp) (by omega) hn).mono ?_;rintro e T ⟨x,f,A,n,c,rfl,D,hb1⟩;clear V W z3 l m B C;have g:=zH (r.out.below hb1);have L:=zH (cC1 z.out hb1);have O:=zH D;clear hb1 D r z;have a1:=g.out.cell;obtain⟨X,Y,a0⟩:=bF g.out x (.bool f);have u:Hid (aT _ _ _ #[x,zF,zN]):=zH (g.out.set_ 0 x);have y:Hid (aT _ _ _ #[x,.bool f,zN]):=zH (u.out.set_ 1 (.bool f));have H:Hid (aT _ _ _ #[x,.bool f,.slice A n c]):=zH (y.out.set_ 2 (.slice A n c));have y1:=u.out.cell;have y2:=y.out.cell;have U:=H.out.cell;have M:=zH (bD L.out P.out x (.bool f) (.slice A n c));have Q:=zH (RgS.off g.out (bJ T R x (.bool f) (.slice A n c)) O.out);go_wp2;exact aF (v:=.tuple #[.agg #[x,.bool f,.slice A n c],zO]) (by simp[results,Tryz.results137,go_sem,U]) rfl ⟨x,f,A,n,c,rfl,Q.out,M.out⟩
theorem aI8 (q1 q2 q3:Nat)(i:Int)(b:Option Addr)(a cs:Nat)(s:List Iv)(d:Nat)(w:World)(h1:aT w q1 3 #[(d:Int)])(h2:aT w q2 139 #[.slice b a cs])(h3:aT w q3 3 #[i])(hs:kH w b a s)(C:yC b a cs)(B:a<=1000000)(hv:cM s=true)(hi:0<=i/\i<(d:Int))(hn:d<=12):Calls Tryz.prog 140 #[.pointer (some ⟨q1,0,none⟩),.pointer (some ⟨q2,0,none⟩),.pointer (some ⟨q3,0,none⟩)] w fun e w'=>gU w (jI d i i s) 0 e w':=by
 have k:=zH (aT.new w 71 zR);have l:=zH ((aB w w).alloc (aD _) (.cells zR 71));have F:=zH (h1.alloc (.cells zR 71));have G:=zH (h2.alloc (.cells zR 71));have H:=zH (h3.alloc (.cells zR 71));have O:=zH (hs.keep (aM w (.cells zR 71)));have m:Hid (yC b a cs/\a<=1000000/\cM s=true):=zH ⟨C,B,hv⟩;have K:=zH hi;clear h1 h2 h3 hs C B hv hi;go_enter Tryz.func140,Tryz.ntmps140;go_upto_region 1 with fail;obtain⟨R,j⟩:=zE (w.heap.size);have M:Hid (w.heap.size<=R):=zH (by rw[j.out];exact aD _);rw[j.out]at k;rw[j.out];generalize hW:w.alloc (.cells zR 71)=D at *;clear hW j;have S:=F.out.cell;have T:=G.out.cell;have z3:=H.out.cell;have u:=zH (aT.new D 3 #[i]);have y:=zH (O.out.keep (aM D (.cells #[i] 3)));have o:=zH (k.out.alloc (.cells #[i] 3));have t:=zH (l.out.alloc l.out.size (.cells #[i] 3));go_wp2_with fail;refine(aE2 d b a cs s _ 1 1 [i] i i _ y.out m.out.1 m.out.2.1 m.out.2.2 (cA1 u.out) (fun q hq=>by rw[List.mem_singleton.1 hq];exact K.out) (fun q=>by simp) (by omega) hn).mono ?_;rintro e P ⟨x,f,A,n,c,rfl,z,hb1⟩;clear S T z3 k l u y;have g:=zH (o.out.below hb1);have I:=zH (cC1 t.out hb1);have L:=zH z;clear hb1 z o t;have X:=g.out.cell;obtain⟨U,V,W⟩:=bF g.out x (.bool f);have p:Hid (aT _ _ _ #[x,zF,zN]):=zH (g.out.set_ 0 x);have r:Hid (aT _ _ _ #[x,.bool f,zN]):=zH (p.out.set_ 1 (.bool f));have E:Hid (aT _ _ _ #[x,.bool f,.slice A n c]):=zH (r.out.set_ 2 (.slice A n c));have Y:=p.out.cell;have y2:=r.out.cell;have Q:=E.out.cell;have J:=zH (bD I.out M.out x (.bool f) (.slice A n c));have N:=zH (RgS.off g.out (bJ P R x (.bool f) (.slice A n c)) L.out);go_wp2;exact aF (v:=.tuple #[.agg #[x,.bool f,.slice A n c],zO]) (by simp[results,Tryz.results140,go_sem,Q]) rfl ⟨x,f,A,n,c,rfl,N.out,J.out⟩
end
section
open Go.RowKit
theorem bD2 (F:Nat)(op:Bool->Bool->Bool)(f6:∀args w,(callFunc F args).run Tryz.prog w=.ok (.enter F args) w)
 (d1:∀x y W,Calls Tryz.prog F #[.bool x,.bool y] W fun e w'=>e=.returned (.bool (op x y))/\W=w')
 (A B:Option Addr)(n m ca cb:Nat)(r s:List Iv)(w:World)(hn:n<=64)(hm:m<=64)(V:kH w A n r)(X:kH w B m s) :
 Calls Tryz.prog 261 #[.slice A n ca,.slice B m cb,.func (.func F) #[] #[]] w fun e w' =>
  ∃(A':Option Addr) (c':Nat),e=.returned (.slice A' (eD op r s).length c')/\kH w' A' (eD op r s).length (eD op r s)/\yC A' (eD op r s).length c'/\Below w w w':=by
 have e1:=zH d1;have d3:=zH V;have HB:=zH X;have g6:(cR r).length<=128:=by have:=oA r;have:=V.len;omega
 have g7:(cR s).length<=128:=by have:=oA s;have:=X.len;omega
 clear d1 V X;generalize b6:eD op r s=R;have d7:=zH b6;clear b6;obtain⟨i0,hi,f0,f1,f2⟩:=info_parts nJ;go_enter Tryz.func261,Tryz.ntmps261;go_wp2_with fail;refine(pD A n ca r _ hn d3.out).mono ?_;rintro e w1 ⟨A1,c1,rfl,b8,hb1⟩;go_wp2_with fail;refine(pD B m cb s _ hm (HB.out.keep (aC hb1))).mono ?_;rintro e l ⟨A2,c2,rfl,b9,hb2⟩;have a6:=zH (b8.keep (aC hb2));have a7:=zH b9;clear b8 b9;go_wp2_with fail;have M:∀a b c d:Obj,((((l.alloc a).alloc b).alloc c).alloc d).heap.size=l.heap.size+4:=by simp
 have b4:MCap ((((l.alloc (.cells #[.slice A1 (cR r).length c1] 52)).alloc (.cells #[.slice A2 (cR s).length c2] 52)).alloc (.cells #[zO] 3)).alloc (.cells #[zO] 3))
  (l.heap.size+1+1) (l.heap.size+1+1+1) l (l.heap.size+1) 0 0 A1 A2 (cR r).length (cR s).length c1 c2:=by
  refine⟨?_,?_,?_,?_⟩
  . have:=(aT.new ((l.alloc (.cells #[.slice A1 (cR r).length c1] 52)).alloc (.cells #[.slice A2 (cR s).length c2] 52)) 3 #[zO]).alloc (.cells #[zO] 3);simpa using this
  . have:=aT.new (((l.alloc (.cells #[.slice A1 (cR r).length c1] 52)).alloc (.cells #[.slice A2 (cR s).length c2] 52)).alloc (.cells #[zO] 3)) 3 #[zO];simpa using this
  . exact(((aT.new l _ _).alloc _).alloc _).alloc _
  . have:=((aT.new (l.alloc (.cells #[.slice A1 (cR r).length c1] 52)) 52 #[.slice A2 (cR s).length c2]).alloc (.cells #[zO] 3)).alloc (.cells #[zO] 3);simpa using this
 have e4:Below l l ((((l.alloc (.cells #[.slice A1 (cR r).length c1] 52)).alloc (.cells #[.slice A2 (cR s).length c2] 52)).alloc (.cells #[zO] 3)).alloc (.cells #[zO] 3)) :=
  ((((aB _ _).alloc (aD _) _).alloc (by simp) _).alloc (by simp<;>omega) _).alloc (by simp<;>omega) _
 have b7:=M (.cells #[.slice A1 (cR r).length c1] 52) (.cells #[.slice A2 (cR s).length c2] 52) (.cells #[zO] 3) (.cells #[zO] 3);have d4:=zH b4;have d9:=zH b7;clear M b4 b7;have d8:=zH (show ∃f,(cR r).length-0+((cR s).length-0)<=f/\jV op f ((cR r).drop 0) ((cR s).drop 0) (0 % 2 == 1) (0 % 2 == 1) false []=R from⟨_,aD _,by have:=d7.out;unfold eD at this;simpa using this⟩);generalize cR r=t at *;generalize cR s=u at *;generalize M:l.heap.size=z at *;go_loopw [13,14] (fun v x wr=>MRel op t u R l (z+1+1) (z+1+1+1) z (z+1) A1 A2 c1 c2 v x wr) (fun _ _ wr=>t.length+u.length-cnt wr (z+1+1)-cnt wr (z+1+1+1));case atStart=>exact⟨0,0,0,false,[],none,0,rfl,rfl,⟨by omega,by omega,d4.out,⟨by simp,.inl ⟨rfl,rfl⟩⟩,rfl,by omega,by simp,d8.out,by rw[M];exact e4,by rw[M,d9.out];omega⟩⟩
 case round =>
  obtain⟨i,j,k,f3,I,A',c',rfl,rfl,hM⟩:=hrel;have H:=hM.cap;have a1:=aV H.hi (i:=0) rfl;have e2:=aV H.hj (i:=0) rfl;have a3:=aV H.ha (i:=0) rfl;have a4:=aV H.hb (i:=0) rfl;have c9:=hM.hi;have d0:=hM.hj;by_cases c7:i<t.length\/j<u.length
  . have a0:=aC hM.bel;have c0:=a6.out.keep a0;have c3:=a7.out.keep a0;have c5:0<t.length->∀b o,A1=some ⟨b,o,none⟩->b≠z+1+1/\b≠z+1+1+1:=fun h b o e=>(by have:=a6.out.lt Vl.cs_len (by omega) h b o e;omega);have c6:0<u.length->∀b o,A2=some ⟨b,o,none⟩->b≠z+1+1/\b≠z+1+1+1:=fun h b o e=>(by have:=a7.out.lt Vl.cs_len (by omega) h b o e;omega);have a5:=zH (And.intro c5 c6);have a8:=zH c0;have a9:=zH c3;clear c5 c6 c0 c3 a0;have e7:decide (i<t.length)=true\/(decide (i<t.length)=false/\decide (j<u.length)=true):=by
     rcases cJ i t.length with h|h
     . exact .inl (by simp[h])
     . exact .inr ⟨by simp;omega,by simp;omega⟩
    rcases e7 with g1|⟨g1,g2⟩
    all_goals
     go_wp2_with fail;refine(aH7 wr (z+1+1) (z+1+1+1) z (z+1) i j A1 A2 t.length u.length c1 c2 t u H a8.out a9.out c9 d0 c7 (by omega) (by omega)).mono ?_;rintro e w3 ⟨rfl,K⟩;obtain⟨p,b1⟩:=zE (cW (t.drop i) (u.drop j));rw[b1.out];obtain⟨pk,C,D⟩:=p;dsimp only;go_wp2_with fail;have b5:=(H.below K).alloc (.cells #[pk,C,D] 59);have Y:dW wr (w3.alloc (.cells #[pk,C,D] 59)):=(aC K).alloc _;refine(vM _ (z+1+1) (z+1+1+1) z (z+1) i j A1 A2 t.length u.length c1 c2 t u ⟨pk,C,D⟩ b5 (a8.out.keep Y) (a9.out.keep Y) c9 d0 (by omega) (by omega) (by omega) a5.out.1 a5.out.2 ⟨by omega,by omega⟩ ⟨by omega,by omega⟩).mono ?_;rintro e w4 ⟨rfl,J,O⟩;obtain⟨Q,T⟩:∃Q,Hid (Q=oN i (dH (t.drop i) ⟨pk,C,D⟩)):=⟨_,rfl⟩;obtain⟨S,U⟩:∃S,Hid (S=oN j (dH (u.drop j) ⟨pk,C,D⟩)):=⟨_,rfl⟩;rw[<- T.out,<- U.out]at J;rw[<- T.out,<- U.out];have g9:wr.heap.size<=w3.heap.size:=K.size;have f9:=H.lt;have f4:=((aT.new w3 59 #[pk,C,D]).but O (by simp;omega)).cell;have P:Below l l w4:=O.below ((cC1 hM.bel K).alloc (by have:=hM.bel.size;omega) _) (by have:=hM.bel.size;simp;omega) (by rintro k (rfl|rfl)<;>omega);have G:w4.ownsRow (l.heap.size+4) 187 7 (.slice A' k c') k (I.flatMap Iv.cs):=fJ hM.own (fun g f8 e6 _=>by
      rw[O.block g (by simp;omega) (by rintro(rfl|rfl)<;>omega),Below.heap_alloc _ _ _ (by omega),K.block g e6])
     clear a1 e2 a3 a4 b5 Y;go_wp2_with fail;refine(e1.out _ _ _).mono ?_;rintro e w5 ⟨rfl,rfl⟩;obtain⟨now,b0⟩:∃now,Hid (now=op (Q % 2 == 1) (S % 2 == 1)):=⟨_,rfl⟩;rw[<- b0.out];have N:=zH (hM.step c7 ⟨pk,C,D⟩ b1.out Q S T.out U.out now b0.out);have g4:k<=256:=(by have:=hM.kle;omega);have L:=O.size;cases f3<;>cases now
     . go_wp2;exact qR hM N.out J k I A' c' rfl G hM.len (by omega) (by simp) P (by simp at L;omega)
     . go_wp2_with (at_builtin;refine bH (by rfl) (.tmp 48) (.tmp 51) _ (by rfl) (l.heap.size+4) 187 i0 _ 7 72 Tryz.underlying139 hi f0 f1 f2 (by rfl) (by omega) (.slice A' k c') k _ (by rfl) _ _ G w4 (by rfl) (by rfl) (by rfl) (iL ⟨⟨pk,C,D⟩,bE,true⟩) (by simp only[maxLen];omega) (by omega) (by have:=hM.siz;simp at L;omega) ?_;intro g b2 w6 e9 c8 e5 f5 g8);have E:∀q,q<l.heap.size+4->some q≠(Value.slice A' k c').ownBlock:=fun q hq e=>(by have:=jN G q e.symm;omega);exact qR hM N.out (J.grown c8 ⟨E _ (by omega),E _ (by omega),E _ (by omega),E _ (by omega)⟩) (k+1) (I++[⟨⟨pk,C,D⟩,bE,true⟩]) _ _ rfl (by rw[aP];simpa[Iv.cs,bE]using e9) (by simp[hM.len]) (by omega) (by omega)
        (P.trans (e5.mono (by omega))) (by have:=c8.size;simp at L;omega)
     . have e8:0<k:=hM.ins_ rfl;obtain⟨g,b2,hv,g0,g3⟩:=G.form e8;obtain⟨rfl,rfl⟩:A'=some ⟨g,0,none⟩/\c'=b2:=(by injection hv with h1 h2 h3;exact⟨h1,h3⟩);obtain⟨e3,o6,x,b3,a2,c4⟩:=(cC3 Iv.cs_len hM.len G).at (show k-1<k by omega);obtain⟨rfl,rfl⟩:g=e3/\0=o6:=(by injection b3 with h;injection h with h1 h2;exact⟨h1,h2⟩);obtain⟨y0,y1,y2,y3,y4,y5,y6⟩:=IvAt.of c4;simp only[cA]at y0 y1 y2 y3 y4 y5 y6;have f7:=fun q=>G.frozenAt q;have d6:=zH (qK ⟨pk,C,D⟩ G hM.len a2);have g5:(1:Int)<=(k:Int):=(by omega);clear hv b3 c4;have e0:=zH a2;clear a2;go_wp2;have E:∀q:Nat,z+1+1≠g/\z+1+1+1≠g/\z≠g/\z+1≠g:=fun _=>⟨by omega,by omega,by omega,by omega⟩;exact qR hM N.out ((((J.far (p:=⟨g,(k-1)*7+3,none⟩) (E 0) _).far (p:=⟨g,(k-1)*7+3+1,none⟩) (E 0) _).far (p:=⟨g,(k-1)*7+3+2,none⟩) (E 0) _).far (p:=⟨g,(k-1)*7+6,none⟩) (E 0) _) k (fA I ⟨pk,C,D⟩) _ _ rfl d6.out
        (by unfold fA;rw[List.getLast?_eq_getElem?,hM.len,e0.out];simp[hM.len];omega) (by omega) (by simp)
        ((((P.setCell (p:=⟨g,(k-1)*7+3,none⟩) (by simp;omega) _).setCell (p:=⟨g,(k-1)*7+3+1,none⟩) (by simp;omega) _).setCell (p:=⟨g,(k-1)*7+3+2,none⟩) (by simp;omega) _).setCell (p:=⟨g,(k-1)*7+6,none⟩) (by simp;omega) _)
        (by simp[World.setCell];simp at L;omega)
     . go_wp2;exact qR hM N.out J k I A' c' rfl G hM.len (by omega) (fun _=>hM.ins_ rfl) P (by simp at L;omega)
  . have g1:decide (i<t.length)=false:=(by simp;omega);have g2:decide (j<u.length)=false:=(by simp;omega);have d5:=zH hM;clear hM;go_wp2;go_ret;have hM:=d5.out;obtain⟨f,hf,d2⟩:=hM.run;have ho:I=R:=(by rw[aU (by omega),aU (by omega)]at d2;rw[<- d2];cases f<;>simp[jV]);subst ho;obtain rfl:I.length=k:=hM.len;exact⟨A',c',rfl,cC3 Iv.cs_len rfl hM.own,hP hM.own,cC1 (cC1 hb1 hb2) hM.bel⟩
def IvO (w:World) (r:List Iv×Int) (e:Ending) (w':World):Prop :=
 ∃(A':Option Addr) (c':Nat),e=.returned (.tuple #[.slice A' r.1.length c',.int .i64 r.2])∧kH w' A' r.1.length r.1∧yC A' r.1.length c'∧Below w.heap.size w w'
theorem mJ {w w':World}{r:List Iv×Int}{x:Int}(h:r=([],x))(hb:Below w w w'):IvO w r (.returned (.tuple #[zN,x])) w':=by
 subst h;exact⟨none,0,rfl,Sl.nil,⟨aD _,fun _=>⟨rfl,rfl⟩⟩,hb⟩
theorem vO (F:Nat)(op:Bool->Bool->Bool)(J:∀args w,(callFunc F args).run Tryz.prog w=.ok (.enter F args) w)
 (t:∀x y W,Calls Tryz.prog F #[.bool x,.bool y] W fun e w'=>e=.returned (.bool (op x y))/\W=w')
 (A B:Option Addr)(n m ca cb:Nat)(a b:List Iv)(w:World)(g:kH w A n a)(i:kH w B m b) :
 Calls Tryz.prog 220 #[.slice A n ca,.slice B m cb,.func (.func F) #[] #[]] w fun e w'=>IvO w (cT op a b) e w':=by
 have E:=zH t;have l:=zH g;have HB:=zH i;have r:=g.len;have q:=i.len;have D:=zH r;have C:=zH q;clear t g i r q;obtain⟨K,c⟩:=zE (cM a);obtain⟨L,d⟩:=zE (cM b);go_enter Tryz.func220,Tryz.ntmps220;go_wp2_with fail;refine(jT A n ca a _ l.out).mono ?_;rintro e M ⟨rfl,hb1⟩;rw[c.out];cases K
 . go_wp2;go_ret2;exact mJ (by simp[cT,c.out]) hb1
 . go_wp2_with fail;refine(jT B m cb b _ (HB.out.keep (aC hb1))).mono ?_;rintro e N ⟨rfl,hb2⟩;rw[d.out];have k:=cC1 hb1 hb2;cases L
   . go_wp2;go_ret2;exact mJ (by simp[cT,c.out,d.out]) k
   . have hn:n<=64:=(by have h:=c.out;have:=D.out;simp[cM]at h;omega);have hm:m<=64:=(by have h:=d.out;have:=C.out;simp[cM]at h;omega);have j:=aC k;go_wp2_with fail;refine(bD2 F op J E.out A B n m ca cb a b _ hn hm (l.out.keep j) (HB.out.keep j)).mono ?_;rintro e O ⟨u,G,rfl,o,s,I⟩;have v:=zH s;clear s;have p:=cC1 k I;have z:=zH o;clear o j;rcases cJ 64 (eD op a b).length with H|H
     . go_wp2;go_ret2;exact mJ (by simp[cT,c.out,d.out];omega) p
     . go_wp2;go_ret2;have hr:cT op a b=(eD op a b,0):=(by simp[cT,c.out,d.out];omega);rw[hr];exact⟨u,G,rfl,z.out,v.out,p⟩
theorem tC (A B:Option Addr)(n m ca cb:Nat)(a b:List Iv)(w:World)(c:kH w A n a)(d:kH w B m b) :
 Calls Tryz.prog 189 #[.slice A n ca,.slice B m cb] w fun e w'=>IvO w (cT vZ a b) e w':=by
 have j:=zH c;have HB:=zH d;clear c d;go_enter Tryz.func189,Tryz.ntmps189;go_wp2_with fail;refine(vO 222 vZ entU opU_any A B n m ca cb a b _ j.out HB.out).mono ?_;rintro e o ⟨A1,c1,rfl,g,i,hb1⟩;have k:=zH i;clear i;have l:=zH g;clear g;go_wp2;go_ret2;exact⟨A1,c1,rfl,l.out,k.out,hb1⟩
theorem tO (A B:Option Addr)(n m ca cb:Nat)(a b:List Iv)(w:World)(c:kH w A n a)(d:kH w B m b) :
 Calls Tryz.prog 188 #[.slice A n ca,.slice B m cb] w fun e w'=>IvO w (cT mU a b) e w':=by
 have j:=zH c;have HB:=zH d;clear c d;go_enter Tryz.func188,Tryz.ntmps188;go_wp2_with fail;refine(vO 221 mU entM opM_any A B n m ca cb a b _ j.out HB.out).mono ?_;rintro e o ⟨A1,c1,rfl,g,i,hb1⟩;have k:=zH i;clear i;have l:=zH g;clear g;go_wp2;go_ret2;exact⟨A1,c1,rfl,l.out,k.out,hb1⟩
theorem xI (k:Int)(w:World):Calls Tryz.prog 135 #[k] w fun e w'=>IvO w (eM k) e w':=by
 obtain⟨⟨⟨c,b,a⟩,a1⟩,d⟩:=zE (eG k);obtain⟨⟨⟨nk,j,l⟩,nb⟩,i⟩:=zE (eG (wrap64 (k+1)));go_enter Tryz.func135,Tryz.ntmps135;go_wp2_with fail;refine(lB k _).mono ?_;rintro e o ⟨rfl,hb1⟩;rw[d.out];cases a1
 . go_wp2;go_ret2;exact mJ (by simp[eM,d.out]) (hb1.alloc hb1.size _)
 . go_wp2_with fail;have n:=hb1.alloc hb1.size (.cells #[c,b,a] 59);refine(lB (wrap64 (k+1)) _).mono ?_;rintro e q ⟨rfl,hb2⟩;rw[i.out];have m:=(aT.new o 59 #[c,b,a]).below hb2;have r:=m.cell;have p:=m.lt;have g:=cC1 n hb2;go_wp2;go_ret2;have hr:eM k=([⟨⟨c,b,a⟩,⟨nk,j,l⟩,!nb⟩],0):=(by simp[eM,d.out,i.out]);rw[hr];exact⟨_,_,rfl,tT (T:=187) (x:=⟨⟨c,b,a⟩,⟨nk,j,l⟩,!nb⟩) (cC7 (by simp)),⟨aD _,fun h=>(by cases h)⟩,(g.alloc g.size _).alloc (by have:=g.size;simp;omega) _⟩
theorem uQ (k:Int)(w:World):Calls Tryz.prog 192 #[k] w fun e w'=>IvO w (eM k) e w':=by
 obtain⟨⟨⟨c,b,a⟩,a1⟩,d⟩:=zE (eG k);obtain⟨⟨⟨nk,j,l⟩,nb⟩,i⟩:=zE (eG (wrap64 (k+1)));go_enter Tryz.func192,Tryz.ntmps192;go_wp2_with fail;refine(zQ k _).mono ?_;rintro e o ⟨rfl,hb1⟩;rw[d.out];cases a1
 . go_wp2;go_ret2;exact mJ (by simp[eM,d.out]) (hb1.alloc hb1.size _)
 . go_wp2_with fail;have n:=hb1.alloc hb1.size (.cells #[c,b,a] 59);refine(zQ (wrap64 (k+1)) _).mono ?_;rintro e q ⟨rfl,hb2⟩;rw[i.out];have m:=(aT.new o 59 #[c,b,a]).below hb2;have r:=m.cell;have p:=m.lt;have g:=cC1 n hb2;go_wp2;go_ret2;have hr:eM k=([⟨⟨c,b,a⟩,⟨nk,j,l⟩,!nb⟩],0):=(by simp[eM,d.out,i.out]);rw[hr];exact⟨_,_,rfl,tT (T:=187) (x:=⟨⟨c,b,a⟩,⟨nk,j,l⟩,!nb⟩) (cC7 (by simp)),⟨aD _,fun h=>(by cases h)⟩,(g.alloc g.size _).alloc (by have:=g.size;simp;omega) _⟩
theorem bQ0 (f:Vl)(w:World):Calls Tryz.prog 187 #[.agg #[f.k,f.i,f.t]] w fun e w'=>IvO w (gB f) e w':=by
 obtain⟨b,a,c⟩:=f;obtain⟨v1,d⟩:=zE (bT ⟨b,a,c⟩);go_enter Tryz.func187,Tryz.ntmps187;go_wp2_with fail;refine(jY ⟨b,a,c⟩ _).mono ?_;rintro e j ⟨rfl,hb1⟩;rw[d.out];have l:=((aT.new w 59 #[b,a,c]).below hb1).cell;have g:Below w w j:=cC1 ((aB _ _).alloc (aD _) _) hb1;cases v1
 . go_wp2;go_ret2;exact mJ (by simp[gB,d.out]) g
 . go_wp2;go_ret2;have hr:gB ⟨b,a,c⟩=([⟨⟨b,a,c⟩,bE,true⟩],0):=(by simp[gB,d.out]);rw[hr];exact⟨_,_,rfl,tT (T:=187) (x:=⟨⟨b,a,c⟩,bE,true⟩) (aT.new _ _ _),⟨aD _,fun h=>(by cases h)⟩,g.alloc g.size _⟩
theorem bV7 (v:Vl)(w:World):Calls Tryz.prog 186 #[.agg #[v.k,v.i,v.t]] w fun e w'=>IvO w (kF v) e w':=by
 obtain⟨b,a,c⟩:=v;obtain⟨v1,d⟩:=zE (bT ⟨b,a,c⟩);obtain⟨⟨⟨nk,n,o⟩,nb⟩,l⟩:=zE (dF ⟨b,a,c⟩);go_enter Tryz.func186,Tryz.ntmps186;go_wp2_with fail;refine(jY ⟨b,a,c⟩ _).mono ?_;rintro e q ⟨rfl,hb1⟩;rw[d.out];have j:=((aT.new w 59 #[b,a,c]).below hb1);have r:=j.cell;have m:Below w w q:=cC1 ((aB _ _).alloc (aD _) _) hb1;have s:=j.lt;cases v1
 . go_wp2;go_ret2;exact mJ (by simp[kF,d.out]) m
 . go_wp2_with fail;refine(bW8 ⟨b,a,c⟩ _).mono ?_;rintro e y ⟨rfl,hb2⟩;rw[l.out];have p:=j.below hb2;have z:=p.cell;have g:=cC1 m hb2;have u:=p.lt;clear r;go_wp2;go_ret2;have hr:kF ⟨b,a,c⟩=([⟨⟨b,a,c⟩,⟨nk,n,o⟩,!nb⟩],0):=(by simp[kF,d.out,l.out]);rw[hr];exact⟨_,_,rfl,tT (T:=187) (x:=⟨⟨b,a,c⟩,⟨nk,n,o⟩,!nb⟩) (cC7 (by simp)),⟨aD _,fun h=>(by cases h)⟩,(g.alloc g.size _).alloc (by have:=g.size;simp;omega) _⟩
theorem bN7 (v:Vl)(w:World):Calls Tryz.prog 228 #[.agg #[v.k,v.i,v.t]] w fun e w'=>IvO w (kF v) e w':=by
 obtain⟨b,a,c⟩:=v;obtain⟨v1,d⟩:=zE (bT ⟨b,a,c⟩);obtain⟨⟨⟨nk,n,o⟩,nb⟩,l⟩:=zE (dF ⟨b,a,c⟩);go_enter Tryz.func228,Tryz.ntmps228;go_wp2_with fail;refine(kV ⟨b,a,c⟩ _).mono ?_;rintro e q ⟨rfl,hb1⟩;rw[d.out];have j:=((aT.new w 59 #[b,a,c]).below hb1);have r:=j.cell;have m:Below w w q:=cC1 ((aB _ _).alloc (aD _) _) hb1;have s:=j.lt;cases v1
 . go_wp2;go_ret2;exact mJ (by simp[kF,d.out]) m
 . go_wp2_with fail;refine(bN9 ⟨b,a,c⟩ _).mono ?_;rintro e y ⟨rfl,hb2⟩;rw[l.out];have p:=j.below hb2;have z:=p.cell;have g:=cC1 m hb2;have u:=p.lt;clear r;go_wp2;go_ret2;have hr:kF ⟨b,a,c⟩=([⟨⟨b,a,c⟩,⟨nk,n,o⟩,!nb⟩],0):=(by simp[kF,d.out,l.out]);rw[hr];exact⟨_,_,rfl,tT (T:=187) (x:=⟨⟨b,a,c⟩,⟨nk,n,o⟩,!nb⟩) (cC7 (by simp)),⟨aD _,fun h=>(by cases h)⟩,(g.alloc g.size _).alloc (by have:=g.size;simp;omega) _⟩
theorem bC1 (f:Vl)(w:World):Calls Tryz.prog 227 #[.agg #[f.k,f.i,f.t]] w fun e w'=>IvO w (gB f) e w':=by
 obtain⟨b,a,c⟩:=f;obtain⟨v1,d⟩:=zE (bT ⟨b,a,c⟩);go_enter Tryz.func227,Tryz.ntmps227;go_wp2_with fail;refine(kV ⟨b,a,c⟩ _).mono ?_;rintro e j ⟨rfl,hb1⟩;rw[d.out];have l:=((aT.new w 59 #[b,a,c]).below hb1).cell;have g:Below w w j:=cC1 ((aB _ _).alloc (aD _) _) hb1;cases v1
 . go_wp2;go_ret2;exact mJ (by simp[gB,d.out]) g
 . go_wp2;go_ret2;have hr:gB ⟨b,a,c⟩=([⟨⟨b,a,c⟩,bE,true⟩],0):=(by simp[gB,d.out]);rw[hr];exact⟨_,_,rfl,tT (T:=187) (x:=⟨⟨b,a,c⟩,bE,true⟩) (aT.new _ _ _),⟨aD _,fun h=>(by cases h)⟩,g.alloc g.size _⟩
theorem bD0 (a:Int)(w:World):Calls Tryz.prog 138 #[a] w fun e w'=>e=.returned (.int .i64 (kM a))/\w=w':=by
 by_cases h:3<=a/\a<=6
 . have h:a=3\/a=4\/a=5\/a=6:=(by omega);rcases h with rfl|rfl|rfl|rfl
   all_goals
    go_enter Tryz.func138,Tryz.ntmps138;go_wp2;go_ret;exact⟨rfl,rfl⟩
 . have hm:kM a=a:=(by unfold kM;repeat rw[if_neg (by omega)]);rw[hm];have b:(a == 3)=false:=(by simp;omega);have c:(a == 4)=false:=(by simp;omega);have d:(a == 5)=false:=(by simp;omega);have g:(a == 6)=false:=(by simp;omega);clear h hm;go_enter Tryz.func138,Tryz.ntmps138;go_wp2;go_ret;exact⟨rfl,rfl⟩
theorem aT1 (a:Int)(w:World):Calls Tryz.prog 195 #[a] w fun e w'=>e=.returned (.int .i64 (kM a))/\w=w':=by
 by_cases h:3<=a/\a<=6
 . have h:a=3\/a=4\/a=5\/a=6:=(by omega);rcases h with rfl|rfl|rfl|rfl
   all_goals
    go_enter Tryz.func195,Tryz.ntmps195;go_wp2;go_ret;exact⟨rfl,rfl⟩
 . have hm:kM a=a:=(by unfold kM;repeat rw[if_neg (by omega)]);rw[hm];have b:(a == 3)=false:=(by simp;omega);have c:(a == 4)=false:=(by simp;omega);have d:(a == 5)=false:=(by simp;omega);have g:(a == 6)=false:=(by simp;omega);clear h hm;go_enter Tryz.func195,Tryz.ntmps195;go_wp2;go_ret;exact⟨rfl,rfl⟩
def IvL (w:World) (l:List Iv) (e:Ending) (w':World):Prop :=
 ∃(A':Option Addr) (c':Nat),e=.returned (.slice A' l.length c')∧kH w' A' l.length l∧yC A' l.length c'∧Below w.heap.size w w'
theorem aK2 (op:Bool->Bool->Bool)(a b:List Iv):(eF op a b).length<=2*a.length+2*b.length:=Nat.le_trans (tW op a b (hH a b) _) (tK a b)
theorem opR1:iA 1=vZ:=by funext x y;rfl
theorem opR2:iA 2=qN:=by funext x y;rfl
theorem opR3:iA 3=mU:=by funext x y;rfl
theorem vN (c:Int)(v:Vl)(w:World):Calls Tryz.prog 139 #[c,.agg #[v.k,v.i,v.t]] w fun e w'=>IvL w (nO c v) e w':=by
 obtain⟨r,x,y⟩:=v;obtain⟨q,O⟩:=zE (nO c ⟨r,x,y⟩);rw[O.out];have d:=zH (aT.new w 59 #[r,x,y]);have HB:=zH ((aB w w).alloc (aD _) (.cells #[r,x,y] 59));obtain⟨J,T⟩:=zE (eM r);obtain⟨W,Q⟩:=zE (gB ⟨r,x,y⟩);obtain⟨n,V⟩:=zE (kF ⟨r,x,y⟩);obtain⟨m,U⟩:=zE (cT mU J.1 W.1);obtain⟨Y,R⟩:=zE (cT mU J.1 m.1);obtain⟨p,S⟩:=zE (cT mU Y.1 n.1);have l:Hid ((if c=2 then (cT vZ m.1 p.1).1 else if c=3 then m.1 else if c=4 then (cT vZ m.1 n.1).1 else if c=5 then p.1 else if c=6 then (cT vZ n.1 p.1).1 else n.1)=q):=zH (by rw[<- S.out,<- R.out,<- U.out,<- T.out,<- Q.out,<- V.out];exact O.out);clear O;go_enter Tryz.func139,Tryz.ntmps139;go_upto_region 1 with fail;obtain⟨X,N⟩:=zE (w.heap.size);rw[N.out]at d;rw[N.out];generalize hW:w.alloc (.cells #[r,x,y] 59)=w0 at *;clear hW N;have F:=d.out.cell;go_wp2_with fail;refine(xI r _).mono ?_;rintro e w1 ⟨Ak,ck,rfl,a,b,hb⟩;rw[T.out]at a b ⊢;clear F;replace HB:=zH (cC1 HB.out hb);replace d:=zH (d.out.below hb);have g:=zH a;have a9:=zH b;clear a b hb;have F:=d.out.cell;go_wp2_with fail;refine(bV7 ⟨r,x,y⟩ _).mono ?_;rintro e w2 ⟨G,I,rfl,a,b,hb⟩;rw[V.out]at a b ⊢;clear F;replace HB:=zH (cC1 HB.out hb);replace d:=zH (d.out.below hb);replace g:=zH (g.out.keep (aC hb));have j:=zH a;have a4:=zH b;clear a b hb;have F:=d.out.cell;go_wp2_with fail;refine(bQ0 ⟨r,x,y⟩ _).mono ?_;rintro e w3 ⟨a0,a5,rfl,a,b,hb⟩;rw[Q.out]at a b ⊢;clear F;replace HB:=zH (cC1 HB.out hb);replace d:=zH (d.out.below hb);replace g:=zH (g.out.keep (aC hb));replace j:=zH (j.out.keep (aC hb));have z:=zH a;have a7:=zH b;clear a b hb;go_wp2_with fail;refine(tO Ak a0 _ _ ck a5 J.1 W.1 _ g.out z.out).mono ?_;rintro e w4 ⟨Al,H,rfl,a,b,hb⟩;rw[U.out]at a b ⊢;replace HB:=zH (cC1 HB.out hb);replace d:=zH (d.out.below hb);replace g:=zH (g.out.keep (aC hb));replace j:=zH (j.out.keep (aC hb));replace z:=zH (z.out.keep (aC hb));have s:=zH a;have a3:=zH b;clear a b hb;go_wp2_with fail;refine(tO Ak Al _ _ ck H J.1 m.1 _ g.out s.out).mono ?_;rintro e w5 ⟨a1,a6,rfl,a,b,hb⟩;rw[R.out]at a b ⊢;replace HB:=zH (cC1 HB.out hb);replace d:=zH (d.out.below hb);replace g:=zH (g.out.keep (aC hb));replace j:=zH (j.out.keep (aC hb));replace z:=zH (z.out.keep (aC hb));replace s:=zH (s.out.keep (aC hb));have L:=zH a;have a8:=zH b;clear a b hb;go_wp2_with fail;refine(tO a1 G _ _ a6 I Y.1 n.1 _ L.out j.out).mono ?_;rintro e w6 ⟨K,P,rfl,a,b,hb⟩;rw[S.out]at a b ⊢;replace HB:=zH (cC1 HB.out hb);replace d:=zH (d.out.below hb);replace g:=zH (g.out.keep (aC hb));replace j:=zH (j.out.keep (aC hb));replace z:=zH (z.out.keep (aC hb));replace s:=zH (s.out.keep (aC hb));replace L:=zH (L.out.keep (aC hb));have M:=zH a;have a2:=zH b;clear a b hb;by_cases h2:c=2
 . subst h2;have o:Hid ((cT vZ m.1 p.1).1=q):=zH l.out;clear l;obtain⟨E,u⟩:=zE (cT vZ m.1 p.1);rw[u.out]at o;obtain rfl:E.1=q:=o.out;go_wp2_with fail;refine(tC Al K _ _ H P m.1 p.1 _ s.out M.out).mono ?_;rintro e w9 ⟨A,D,rfl,a,b,hb⟩;rw[u.out]at a b ⊢;replace HB:=zH (cC1 HB.out hb);have C:=zH a;have B:=zH b;clear a b hb o;go_wp2;go_ret;exact⟨A,D,rfl,C.out,B.out,HB.out⟩
 by_cases h3:c=3
 . subst h3;obtain rfl:m.1=q:=l.out;clear l;go_wp2;go_ret;exact⟨Al,H,rfl,s.out,a3.out,HB.out⟩
 by_cases h4:c=4
 . subst h4;have o:Hid ((cT vZ m.1 n.1).1=q):=zH l.out;clear l;obtain⟨E,u⟩:=zE (cT vZ m.1 n.1);rw[u.out]at o;obtain rfl:E.1=q:=o.out;go_wp2_with fail;refine(tC Al G _ _ H I m.1 n.1 _ s.out j.out).mono ?_;rintro e w9 ⟨A,D,rfl,a,b,hb⟩;rw[u.out]at a b ⊢;replace HB:=zH (cC1 HB.out hb);have C:=zH a;have B:=zH b;clear a b hb o;go_wp2;go_ret;exact⟨A,D,rfl,C.out,B.out,HB.out⟩
 by_cases h5:c=5
 . subst h5;obtain rfl:p.1=q:=l.out;clear l;go_wp2;go_ret;exact⟨K,P,rfl,M.out,a2.out,HB.out⟩
 by_cases h6:c=6
 . subst h6;have o:Hid ((cT vZ n.1 p.1).1=q):=zH l.out;clear l;obtain⟨E,u⟩:=zE (cT vZ n.1 p.1);rw[u.out]at o;obtain rfl:E.1=q:=o.out;go_wp2_with fail;refine(tC G K _ _ I P n.1 p.1 _ j.out M.out).mono ?_;rintro e w9 ⟨A,D,rfl,a,b,hb⟩;rw[u.out]at a b ⊢;replace HB:=zH (cC1 HB.out hb);have C:=zH a;have B:=zH b;clear a b hb o;go_wp2;go_ret;exact⟨A,D,rfl,C.out,B.out,HB.out⟩
 have g2:(c == 2)=false:=by simpa using h2
 have g3:(c == 3)=false:=by simpa using h3
 have g4:(c == 4)=false:=by simpa using h4
 have g5:(c == 5)=false:=by simpa using h5
 have g6:(c == 6)=false:=by simpa using h6
 obtain rfl:n.1=q:=by rw[<- l.out,if_neg h2,if_neg h3,if_neg h4,if_neg h5,if_neg h6]
 clear h2 h3 h4 h5 h6 l;go_wp2;go_ret;exact⟨G,I,rfl,j.out,a4.out,HB.out⟩
theorem yS (g:Int)(v:Vl)(w:World)(hl:(eM v.k).1.length<=1/\(gB v).1.length<=1/\(kF v).1.length<=1):Calls Tryz.prog 194 #[g,.agg #[v.k,v.i,v.t]] w fun e w'=>IvL w (eE g v) e w':=by
 obtain⟨q,y,z⟩:=v;obtain⟨x,T⟩:=zE (eE g ⟨q,y,z⟩);rw[T.out];have p:=zH (aT.new w 59 #[q,y,z]);have HB:=zH ((aB w w).alloc (aD _) (.cells #[q,y,z] 59));obtain⟨b,Q⟩:=zE (eM q);obtain⟨c,P⟩:=zE (gB ⟨q,y,z⟩);obtain⟨j,R⟩:=zE (kF ⟨q,y,z⟩);have l:Hid ((if g=1 then j.1 else if g=2 then eF mU b.1 j.1 else if g=3 then eF mU b.1 c.1 else if g=4 then eF vZ (eF mU b.1 c.1) j.1 else if g=5 then eF mU (eF qN b.1 c.1) j.1 else eF qN b.1 c.1)=x):=zH (by rw[<- Q.out,<- P.out,<- R.out];exact T.out);have A:Hid (b.1.length<=1):=zH (by rw[<- Q.out];exact hl.1);have C:Hid (c.1.length<=1):=zH (by rw[<- P.out];exact hl.2.1);have L:Hid (j.1.length<=1):=zH (by rw[<- R.out];exact hl.2.2);clear T hl;go_enter Tryz.func194,Tryz.ntmps194;go_upto_region 1 with fail;obtain⟨X,O⟩:=zE (w.heap.size);rw[O.out]at p;rw[O.out];generalize hW:w.alloc (.cells #[q,y,z] 59)=w0 at *;clear hW O;have F:=p.out.cell;go_wp2_with fail;refine(uQ q _).mono ?_;rintro e a0 ⟨Ak,ck,rfl,n,o,hb⟩;rw[Q.out]at n o ⊢;clear F;replace HB:=zH (cC1 HB.out hb);replace p:=zH (p.out.below hb);have s:=zH n;have W:=zH o;clear n o hb;have F:=p.out.cell;go_wp2_with fail;refine(bC1 ⟨q,y,z⟩ _).mono ?_;rintro e a1 ⟨G,I,rfl,n,o,hb⟩;rw[P.out]at n o ⊢;clear F;replace HB:=zH (cC1 HB.out hb);replace p:=zH (p.out.below hb);replace s:=zH (s.out.keep (aC hb));have D:=zH n;have V:=zH o;clear n o hb;have F:=p.out.cell;go_wp2_with fail;refine(bN7 ⟨q,y,z⟩ _).mono ?_;rintro e a2 ⟨H,J,rfl,n,o,hb⟩;rw[R.out]at n o ⊢;clear F;replace HB:=zH (cC1 HB.out hb);replace p:=zH (p.out.below hb);replace s:=zH (s.out.keep (aC hb));replace D:=zH (D.out.keep (aC hb));have d:=zH n;have U:=zH o;clear n o hb;by_cases h1:g=1
 . subst h1;obtain rfl:j.1=x:=l.out;clear l;go_wp2;go_ret;exact⟨H,J,rfl,d.out,U.out,HB.out⟩
 by_cases h2:g=2
 . subst h2;obtain rfl:eF mU b.1 j.1=x:=l.out;clear l;go_wp2_with fail;refine(gW 3 Ak H _ _ ck J b.1 j.1 _ s.out d.out (by have:=A.out;omega) (by have:=L.out;omega)).mono ?_;rintro e a3 ⟨r,u,rfl,a,hb⟩;rw[opR3]at a ⊢;replace HB:=zH (cC1 HB.out hb);replace d:=zH (d.out.keep (aC hb));have m:=zH (cC3 Iv.cs_len rfl a);have HOr:=zH (hP a);clear a hb;go_wp2;go_ret;exact⟨r,u,rfl,m.out,HOr.out,HB.out⟩
 by_cases h3:g=3
 . subst h3;obtain rfl:eF mU b.1 c.1=x:=l.out;clear l;go_wp2_with fail;refine(gW 3 Ak G _ _ ck I b.1 c.1 _ s.out D.out (by have:=A.out;omega) (by have:=C.out;omega)).mono ?_;rintro e a4 ⟨r,u,rfl,a,hb⟩;rw[opR3]at a ⊢;replace HB:=zH (cC1 HB.out hb);replace d:=zH (d.out.keep (aC hb));have m:=zH (cC3 Iv.cs_len rfl a);have HOr:=zH (hP a);clear a hb;go_wp2;go_ret;exact⟨r,u,rfl,m.out,HOr.out,HB.out⟩
 by_cases h4:g=4
 . subst h4;have B:Hid (eF vZ (eF mU b.1 c.1) j.1=x):=zH l.out;clear l;go_wp2_with fail;refine(gW 3 Ak G _ _ ck I b.1 c.1 _ s.out D.out (by have:=A.out;omega) (by have:=C.out;omega)).mono ?_;rintro e a5 ⟨r,u,rfl,a,hb⟩;rw[opR3]at a ⊢;replace HB:=zH (cC1 HB.out hb);replace d:=zH (d.out.keep (aC hb));have m:=zH (cC3 Iv.cs_len rfl a);have HOr:=zH (hP a);clear a hb;have E:Hid ((eF mU b.1 c.1).length<=64):=zH (by have h1:=aK2 mU b.1 c.1;have h2:=A.out;have h3:=C.out;omega);obtain⟨ra,S⟩:=zE (eF mU b.1 c.1);rw[S.out]at B E m HOr ⊢;obtain rfl:eF vZ ra j.1=x:=B.out;clear B;go_wp2_with fail;refine(gW 1 r H _ _ u J ra j.1 _ m.out d.out (E.out) (by have:=L.out;omega)).mono ?_;rintro e a6 ⟨K,cs,rfl,a,hb⟩;rw[opR1]at a ⊢;replace HB:=zH (cC1 HB.out hb);replace d:=zH (d.out.keep (aC hb));have N:=zH (cC3 Iv.cs_len rfl a);have M:=zH (hP a);clear a hb;go_wp2;go_ret;exact⟨K,cs,rfl,N.out,M.out,HB.out⟩
 by_cases h5:g=5
 . subst h5;have B:Hid (eF mU (eF qN b.1 c.1) j.1=x):=zH l.out;clear l;go_wp2_with fail;refine(gW 2 Ak G _ _ ck I b.1 c.1 _ s.out D.out (by have:=A.out;omega) (by have:=C.out;omega)).mono ?_;rintro e a7 ⟨r,u,rfl,a,hb⟩;rw[opR2]at a ⊢;replace HB:=zH (cC1 HB.out hb);replace d:=zH (d.out.keep (aC hb));have m:=zH (cC3 Iv.cs_len rfl a);have HOr:=zH (hP a);clear a hb;have E:Hid ((eF qN b.1 c.1).length<=64):=zH (by have h1:=aK2 qN b.1 c.1;have h2:=A.out;have h3:=C.out;omega);obtain⟨ra,S⟩:=zE (eF qN b.1 c.1);rw[S.out]at B E m HOr ⊢;obtain rfl:eF mU ra j.1=x:=B.out;clear B;go_wp2_with fail;refine(gW 3 r H _ _ u J ra j.1 _ m.out d.out (E.out) (by have:=L.out;omega)).mono ?_;rintro e a8 ⟨K,cs,rfl,a,hb⟩;rw[opR3]at a ⊢;replace HB:=zH (cC1 HB.out hb);replace d:=zH (d.out.keep (aC hb));have N:=zH (cC3 Iv.cs_len rfl a);have M:=zH (hP a);clear a hb;go_wp2;go_ret;exact⟨K,cs,rfl,N.out,M.out,HB.out⟩
 have Y:(g == 1)=false:=by simpa using h1
 have g2:(g == 2)=false:=by simpa using h2
 have g3:(g == 3)=false:=by simpa using h3
 have g4:(g == 4)=false:=by simpa using h4
 have g5:(g == 5)=false:=by simpa using h5
 obtain rfl:eF qN b.1 c.1=x:=by rw[<- l.out,if_neg h1,if_neg h2,if_neg h3,if_neg h4,if_neg h5]
 clear h1 h2 h3 h4 h5 l;go_wp2_with fail;refine(gW 2 Ak G _ _ ck I b.1 c.1 _ s.out D.out (by have:=A.out;omega) (by have:=C.out;omega)).mono ?_;rintro e a9 ⟨r,u,rfl,a,hb⟩;rw[opR2]at a ⊢;replace HB:=zH (cC1 HB.out hb);replace d:=zH (d.out.keep (aC hb));have m:=zH (cC3 Iv.cs_len rfl a);have HOr:=zH (hP a);clear a hb;go_wp2;go_ret;exact⟨r,u,rfl,m.out,HOr.out,HB.out⟩
theorem bV2 {P:Program}{o:Oper}{a:Act}{w:World}{K g:Act->World->Prop}{Q Q':Exit->Act->World->Prop}(h:∀a w,K a w->g a w)(d:∀e a w,Q e a w->e=.normal)
 (b:o.wp P a w K Q):o.wp P a w g Q':=by
 unfold Oper.wp at *;generalize (execOp a.eval o).run P w=r at *;cases r with
 |
  ok n w' =>
  cases n<;>simp only[Oper.upon]at b ⊢ <;>
   first
    |exact h _ _ b
    |exact Calls.mono b (fun e j c=>by
     cases e<;>first
      |exact h _ _ c
      |cases d _ _ _ c
      |(obtain⟨_,_,i⟩:=c;cases d _ _ _ i))
    |exact Rows.mono b (fun _ _ c=>h _ _ c)
 |halt x w'=>cases x<;>simp only[Oper.upon]at b ⊢ <;> first|cases d _ _ _ b|exact b
theorem qG {P:Program}{ops:Array Oper}{Q c:Exit->Act->World->Prop}(b:∀e a w,c e a w->e=.normal){l2:List Oper}(d:∀a w,c .normal a w->wpList P ops Q l2 a w) :
 ∀ {i:List Oper} {a:Act} {w:World},wpList P ops c i a w->wpList P ops Q (i++l2) a w
 |[],a,w,h=>d a w h
 |
  o::i,a,w,h=>by
  simp only[List.cons_append,wpList]at h ⊢;split
  . rename_i g;simp only[g,if_true]at h;rcases h with h|⟨_,_,_,k⟩
    . exact .inl (bV2 (fun a w j=>qG b d j) b h)
    . cases b _ _ _ k
  . rename_i g;simp only[g]at h;exact qG b d h
def dM (a:Act) (D:List Nat) (us:Nat→Value):Act:=D.foldl (fun b d=>b.put (some d) (us d)) a
def bL9 (a0:Act) (D:List Nat) (rel:(Nat→Value)→World→Prop):Exit→Act→World→Prop :=
 fun e a w=>e=.normal∧rel (fun d=>a.tmps.getD d undef) w∧a=dM a0 D (fun d=>a.tmps.getD d undef)
theorem bL9.intro {b a:Act}{D:List Nat}{rel:(Nat->Value)->World->Prop}{w:World}(c:rel (fun d=>a.tmps.getD d undef) w)(e:a=dM b D (fun d=>a.tmps.getD d undef)):bL9 b D rel .normal a w:=⟨rfl,c,e⟩
theorem bM0 {P:Program}{ops:Array Oper}{Q:Exit->Act->World->Prop}{l:List Oper}{a:Act}{w:World}(n:Nat)(D:List Nat)(rel:(Nat->Value)->World->Prop)
 (b:wpList P ops (bL9 a D rel) (l.take n) a w)(c:∀us w',rel us w'->wpList P ops Q (l.drop n) (dM a D us) w'):wpList P ops Q l a w:=by
 have h:=qG (Q:=Q) (l2:=l.drop n) (fun _ _ _ h=>h.1) (fun a' w' h=>by
  obtain⟨_,e,d⟩:=h;rw[d];exact c _ _ e) b
 rwa [List.take_append_drop]at h
def tmI (a:Act):Nat→Value:=fun d=>a.tmps.getD d undef
def qB (d:Nat→Bool) (e:Nat):Nat→Bool:=fun j=>if j=e then true else d j
theorem jZ (d:Nat->Bool)(e:Nat):qB d e e=true:=by simp[qB]
theorem dR {d:Nat->Bool}{e j:Nat}(h:j≠e):qB d e j=d j:=by simp[qB,h]
section
variable {P:Program} {ops:Array Oper} {Q:Exit→Act→World→Prop} {R:World→World→Prop} {D:List Nat} {I:(Nat→Bool)→(Nat→Value)→World→Prop} {a1:Act}
def zK (R:World→World→Prop) (P:Program) (ops:Array Oper) (Q:Exit→Act→World→Prop) (a1:Act) (D:List Nat) (I:(Nat→Bool)→(Nat→Value)→World→Prop) (es:List Nat):List Nat→Prop
 |[]=>True
 |e
  :: r=>(∀d us w,d e=false→(∀j,j∈es→sT ops ops.size e j=true→d j=true)→I d us w →
  wpList P ops (Exit.then (fun a' w'=>(R w w'∧I (qB d e) (tmI a') w')∧a'=dM a1 D (tmI a')) Q) [eS ops e] (dM a1 D us) w)∧zK R P ops Q a1 D I es r
theorem aF9 {es:List Nat}:∀ {r:List Nat},zK R P ops Q a1 D I es r->∀e∈r,∀d us w,d e=false->(∀j,j∈es->sT ops ops.size e j=true->d j=true)->I d us w ->
 wpList P ops (Exit.then (fun a' w'=>(R w w'/\I (qB d e) (tmI a') w')/\a'=dM a1 D (tmI a')) Q) [eS ops e] (dM a1 D us) w
 |[],_,e,a=>by cases a
 |
  x::r,h,e,a=>by
  rcases List.mem_cons.1 a with rfl|a
  . exact h.1
  . exact aF9 h.2 e a
def cA4 (ops:Array Oper):Bool:=(List.range ops.size).all fun i=>(eS ops i).after.all fun x => !Region.binds .any x || decide (x.on<i)
theorem aT4 (hb:cA4 ops=true){a:Array Bool}(l:Region.ready .any ops a=[])(m:a.size=ops.size):∀n i,i<n->i<ops.size->a.getD i false=true:=by
 intro n
 induction n with
 |zero=>intro i hi;omega
 |
  succ n ih =>
  intro i hi d;by_cases h:a.getD i false=true
  . exact h
  . exfalso;have g:i∈Region.ready .any ops a:=by
     refine mem_ready.2 ⟨?_,eS ops i,jP d,fun e k j=>?_⟩
     . have b:i<a.size:=(by omega);rw[Array.getD_eq_getD_getElem?,Array.getElem?_eq_getElem b]at h ⊢;simpa using h
     . have b:=List.all_eq_true.1 hb i (List.mem_range.2 d);have c:=Array.all_eq_true_iff_forall_mem.1 b e k;rw[j]at c;simp only[Bool.not_true,Bool.false_or,decide_eq_true_eq]at c;exact ih e.on (by omega) (by omega)
    rw[l]at g;cases g
theorem bT4 {a:Array Bool}{i:Nat}(h:a.size=ops.size):(a.setIfInBounds i true).size=ops.size:=by simp[h]
def hF (d:Nat→Bool) (es:List Nat):Nat:=(es.filter fun e => !d e).length
theorem yY {d:Nat->Bool}{e:Nat}:∀ {es:List Nat},es.Nodup->e∈es->d e=false->hF (qB d e) es+1=hF d es
 |[],_,h,_=>by cases h
 |
  x::r,hn,h,hd=>by
  have b:=List.nodup_cons.1 hn;by_cases a:x=e
  . subst a;have l:hF (qB d x) r=hF d r:=(by unfold hF;congr 1;refine List.filter_congr fun y k=>?_;rw[dR (fun i=>b.1 (by rw[<- i];exact k))]);have c:hF (qB d x) (x::r)=hF (qB d x) r:=(by unfold hF;simp[jZ]);have g:hF d (x::r)=hF d r+1:=(by unfold hF;simp[hd]);omega
  . have j:e∈r:=by
     rcases List.mem_cons.1 h with h|h
     . exact absurd h.symm a
     . exact h
    have m:=yY b.2 j hd;have c:hF (qB d e) (x::r)=hF (qB d e) r+(if d x=false then 1 else 0):=(by unfold hF;rw[List.filter_cons,dR a];cases d x<;>simp);have g:hF d (x::r)=hF d r+(if d x=false then 1 else 0):=(by unfold hF;rw[List.filter_cons];cases d x<;>simp);omega
theorem aQ8 {d:Nat->Bool}{es:List Nat}(h:hF d es=0):∀e∈es,d e=true:=fun e a=>by
 unfold hF at h;cases hd:d e
 . have:e∈es.filter fun e => !d e:=List.mem_filter.2 ⟨a,by simp[hd]⟩;rw[List.eq_nil_of_length_eq_zero h]at this;cases this
 . rfl
def Goes (ops:Array Oper) (l0:Array Bool) (es:List Nat) (d:Nat→Bool) (listed:Array Bool):Prop:=listed.size=ops.size∧∀i,i<ops.size→(listed.getD i false=true↔l0.getD i false=true∨(i∈es∧d i=true))
theorem bJ5 (hb:cA4 ops=true){l0:Array Bool}{es:List Nat}(x:es.Nodup)(g:∀e∈es,e<ops.size/\l0.getD e false=false)(p:∀i,i<ops.size->l0.getD i false=true\/i∈es)
 (z:zK R P ops Q a1 D I es es)(s:∀d us w,(∀e∈es,d e=true)->I d us w->Q .normal (dM a1 D us) w) :
 ∀(fuel:Nat) (d:Nat->Bool) (a:Array Bool) (us:Nat->Value) (w:World),Goes ops l0 es d a->jM ops a->hF d es=fuel->I d us w->oS [] R R P .any ops Q fuel a (dM a1 D us) w
 |
  0,d,a,us,w,hg,hcl,hu,hI=>by
  have k:=aQ8 hu;refine⟨?_,s d us w k hI⟩;unfold Region.ready;rw[List.filter_eq_nil_iff];intro i hi;have hi:=List.mem_range.1 hi;have b:a.getD i true=true:=bK0 ((hg.2 i hi).2 (by
   rcases p i hi with h|h
   . exact .inl h
   . exact .inr ⟨h,k i h⟩))
  simp[b]
 |
  fuel+1,d,a,us,w,hg,hcl,hu,hI=>by
  refine⟨fun C=>?_,fun i hi=>?_⟩
  . have b:=aT4 hb C hg.1;refine s d us w (fun e r=>?_) hI;have c:=b (e+1) e (by omega) (g e r).1;rcases(hg.2 e (g e r).1).1 c with h|h
    . rw[(g e r).2]at h;cases h
    . exact h.2
  . obtain⟨F,G,t,k⟩:=mem_ready.1 hi;have m:i<ops.size:=(Array.getElem?_eq_some_iff.1 t).1;have n:a.getD i false=false:=aO2 F;have l:i∈es:=by
     rcases p i m with h|h
     . rw[(hg.2 i m).2 (.inl h)]at n;cases n
     . exact h
    have v:d i=false:=by
     cases hd:d i
     . rfl
     . rw[(hg.2 i m).2 (.inr ⟨l,hd⟩)]at n;cases n
    have A:∀j,j∈es->sT ops ops.size i j=true->d j=true:=fun j y E=>by
     have b:=pC hcl ops.size i j E G t k;rcases(hg.2 j (g j y).1).1 b with h|h
     . rw[(g j y).2]at h;cases h
     . exact h.2
    have b:=gN (jP m) (aF9 z i l d us w v A hI);refine wpOp_mono (fun a' w' c=>⟨⟨fun _=>.inr c.1.1,.inr c.1.1⟩,?_⟩) b;rw[c.2];refine bJ5 hb x g p z s fuel (qB d i) _ _ _ ⟨bT4 hg.1,fun q B=>?_⟩ (hcl.more t k) (by have:=yY x l v;omega) c.1.2;by_cases u:q=i
    . subst u;have o:(a.setIfInBounds q true).getD q false=true:=(by rw[Array.getD_eq_getD_getElem?,Array.getElem?_setIfInBounds];have:q<a.size:=(by have:=hg.1;omega);simp[this]);rw[o,jZ];simp[l]
    . have o:(a.setIfInBounds i true).getD q false=a.getD q false:=(by rw[Array.getD_eq_getD_getElem?,Array.getD_eq_getD_getElem?,Array.getElem?_setIfInBounds_ne (Ne.symm u)]);rw[o,dR u];exact hg.2 q B
def cA2 (ops:Array Oper) (qs es:List Nat):Bool:=match mD [] ops qs (Array.replicate ops.size false)with
 |some l0=>decide (l0.size=ops.size)&&(cA4 ops&&(decide es.Nodup&&(es.all (fun e=>decide (e<ops.size) && !l0.getD e false)&&((List.range ops.size).all (fun i=>l0.getD i false || es.contains i)&&decide (qs.length+es.length=ops.size)))))
 |none=>false
theorem hD {id:Nat}{a:Act}{w:World}{l:List Oper}(R:World->World->Prop)(q:∀a b c,R a b->R b c->R a c)(D m es:List Nat)(I:(Nat->Bool)->(Nat->Value)->World->Prop)
 (h:wpQuiet P l.toArray (fun W=>∃x:LaterR R w.drew,W=cS R w.drew x) (fun a1=>a1=dM a1 D (tmI a1)/\I (fun _=>false) (tmI a1) w.drew/\zK R P l.toArray Q a1 D I es es/\(∀d us w',(∀e∈es,d e=true)->I d us w'->Q .normal (dM a1 D us) w')) (dE l.toArray m) a)
 (z:P.follows .mixedOrders=true:=by kernel_rfl)
 (hc:(Region.noSelect l.toArray&&cA2 l.toArray m es)=true:=by kernel_rfl)
 (p:∀c a d v w,Q (.panic c) (Act.put a d v) w->Q (.panic c) a w:=by intro _ _ d _ _ h;cases d<;>exact h) :
 (Code.region id l.toArray true).wp P Q a w:=by
 rw[aI]at hc;obtain⟨B,g⟩:=hc;unfold cA2 at g;split at g
 . rename_i l0 t;simp only[aI,decide_eq_true_eq]at g;obtain⟨C,hb,A,y,s,u⟩:=g;refine wp_region_any z ?_;have n:=fO (late:=[]) (R1:=R) (R2:=R) (Q:=Q) q [] (fun j w w' _ k=>k.2) B p (w:=w.drew) (fuel:=es.length) (l':=l0)
    (K:=fun a1=>a1=dM a1 D (tmI a1)/\I (fun _=>false) (tmI a1) w.drew/\zK R P l.toArray Q a1 D I es es/\(∀d us w',(∀e∈es,d e=true)->I d us w'->Q .normal (dM a1 D us) w'))
    (fun a1 r ⟨o,h1,h2,h3⟩=>by
     rw[o];refine bJ5 (l0:=l0) (es:=es) hb A (fun e k=>?_) (fun i hi=>?_) h2 h3 es.length (fun _=>false) l0 (tmI a1) w.drew ⟨C,fun i hi=>⟨fun h=>.inl h,fun h=>by
      rcases h with h|⟨_,h⟩
      . exact h
      . cases h⟩⟩ r (by unfold hF;simp) h1
     . have:=List.all_eq_true.1 y e k;simpa using this
     . have:=List.all_eq_true.1 s i (List.mem_range.2 hi);simpa using this) m (Array.replicate l.toArray.size false) a (jM.start _) t h
   rw[u]at n;exact oR _ _ _ _ n
 . cases g
end
structure BlkSp where
 e:Nat
 t:Nat
 s:Nat
 T:TypeId
 Z:Array Value
 F:Array Value
abbrev jG (B:Nat):Value:=.pointer (some ⟨B,0,none⟩)
structure BlksI (W0:World) (bs:List BlkSp) (gs:List (Nat×Nat×Value)) (d:Nat→Bool) (us:Nat→Value) (w:World):Prop where
 be:Below W0.heap.size W0 w
 st:∀ b∈bs,d b.t=true→d b.e=true
 at_:∀ b∈bs,d b.e=true→∃ B,us b.s=jG B∧W0.heap.size≤B∧aT w B b.T (if d b.t=true then b.F else b.Z)
 ne:∀ b∈bs,∀ b'∈bs,b.s≠b'.s→d b.e=true→d b'.e=true→∀ B C,us b.s=jG B→us b'.s=jG C→B≠C
 gs:∀ q∈gs,d q.1=true→us q.2.1=q.2.2
section
variable {W0:World} {bs:List BlkSp} {gs:List (Nat×Nat×Value)} {d:Nat→Bool} {us us':Nat→Value} {w w':World}
theorem uT {B C:Nat}(h:jG B=jG C):B=C:=by
 injection h with h;injection h with h;injection h with h
theorem sO {d:Nat->Bool}{e j:Nat}(a:j≠e)(h:qB d e j=true):d j=true:=by rwa [dR a]at h
theorem BlksI.start (W0:World)(bs:List BlkSp)(gs:List (Nat×Nat×Value))(us:Nat->Value):BlksI W0 bs gs (fun _=>false) us W0 :=
 ⟨aB _ _,fun _ _ h=>(by cases h),fun _ _ h=>(by cases h),fun _ _ _ _ _ h=>(by cases h),fun _ _ h=>(by cases h)⟩
theorem BlksI.alloc (h:BlksI W0 bs gs d us w){b:BlkSp}(hb:b∈bs)(G:d b.e=false)(a:∀b'∈bs,(b'.s=b.s->b'=b)/\(b'.e=b.e->b'.s=b.s)/\b'.t≠b.e)(L:∀q∈gs,q.1≠b.e)
 (v:us' b.s=jG w)(o:∀b'∈bs,b'.s≠b.s->us' b'.s=us b'.s)(F:∀q∈gs,us' q.2.1=us q.2.1):BlksI W0 bs gs (qB d b.e) us' (w.alloc (.cells b.Z b.T)):=by
 refine⟨h.be.alloc h.be.size _,fun b' g M=>?_,fun b' g I=>?_,fun i hb1 c j k J D B C m n=>?_,fun q y H=>?_⟩
 . have x:=h.st b' g (sO (a b' g).2.2 M);by_cases z:b'.e=b.e
   . rw[z,jZ]
   . rw[dR z];exact x
 . by_cases k:b'.s=b.s
   . obtain rfl:=(a b' g).1 k;refine⟨w.heap.size,v,h.be.size,?_⟩;rw[dR (a b' g).2.2,if_neg (fun x=>by have:=h.st b' hb x;rw[G]at this;cases this)];exact aT.new w b'.T b'.Z
   . obtain⟨B,m,n,u⟩:=h.at_ b' g (sO (fun e=>k ((a b' g).2.1 e)) I);exact⟨B,(o b' g k).trans m,n,by rw[dR (a b' g).2.2];exact u.alloc _⟩
 . by_cases p:i.s=b.s
   . have l:c.s≠b.s:=fun e=>k (p.trans e.symm);obtain⟨O,c1,c2,r⟩:=h.at_ c j (sO (fun e=>l ((a c j).2.1 e)) D);have K:=r.lt;obtain rfl:=(a i hb1).1 p;have u:=uT (v.symm.trans m);have E:=uT (c1.symm.trans ((o c j l).symm.trans n));omega
   . have A:=sO (fun e=>p ((a i hb1).2.1 e)) J;by_cases l:c.s=b.s
     . obtain⟨N,c1,c2,r⟩:=h.at_ i hb1 A;have K:=r.lt;obtain rfl:=(a c j).1 l;have u:=uT (v.symm.trans n);have E:=uT (c1.symm.trans ((o i hb1 p).symm.trans m));omega
     . exact h.ne i hb1 c j k A (sO (fun e=>l ((a c j).2.1 e)) D) B C ((o i hb1 p).symm.trans m) ((o c j l).symm.trans n)
 . rw[F q y];exact h.gs q y (sO (L q y) H)
theorem BlksI.store (h:BlksI W0 bs gs d us w){b:BlkSp}(hb:b∈bs)(K:d b.t=false)(r:d b.e=true)(c:∀b'∈bs,(b'.s=b.s->b'=b)/\b'.e≠b.t/\(b'.t=b.t->b'.s=b.s))(H:∀q∈gs,q.1≠b.t)
 (i:∀b'∈bs,us' b'.s=us b'.s)(y:∀q∈gs,us' q.2.1=us q.2.1){B:Nat}(p:us b.s=jG B)(J:But (· = B) w w')(A:Below W0 W0 w')(z:aT w' B b.T b.F):BlksI W0 bs gs (qB d b.t) us' w':=by
 refine⟨A,fun b' a I=>?_,fun b' a E=>?_,fun k hb1 l m g G j B C v x=>?_,fun q n D=>?_⟩
 . rw[dR (c b' a).2.1];by_cases o:b'.t=b.t
   . obtain rfl:=(c b' a).1 ((c b' a).2.2 o);exact r
   . exact h.st b' a (sO o I)
 . have j:=sO (c b' a).2.1 E;obtain⟨C,c1,c2,u⟩:=h.at_ b' a j;by_cases g:b'.s=b.s
   . obtain rfl:=(c b' a).1 g;obtain rfl:=uT (c1.symm.trans p);exact⟨C,(i b' a).trans c1,c2,by rw[jZ,if_pos rfl];exact z⟩
   . refine⟨C,(i b' a).trans c1,c2,?_⟩;rw[dR (fun e=>g ((c b' a).2.2 e))];exact u.but J (h.ne b' a b hb g j r C B c1 p)
 . exact h.ne k hb1 l m g (sO (c k hb1).2.1 G) (sO (c l m).2.1 j) B C ((i k hb1).symm.trans v) ((i l m).symm.trans x)
 . rw[y q n];exact h.gs q n (sO (H q n) D)
theorem BlksI.assign (h:BlksI W0 bs gs d us w){q:Nat×Nat×Value}(F:q∈gs)(E:d q.1=false)(c:∀b∈bs,b.e≠q.1/\b.t≠q.1)(z:∀a∈gs,a.1=q.1->a=q)
 (p:us' q.2.1=q.2.2)(j:∀b∈bs,us' b.s=us b.s)(r:∀a∈gs,a.1≠q.1->us' a.2.1=us a.2.1):BlksI W0 bs gs (qB d q.1) us' w:=by
 refine⟨h.be,fun b hb D=>?_,fun b hb v=>?_,fun g hb1 i l A x y B C n o=>?_,fun a m u=>?_⟩
 . rw[dR (c b hb).1];exact h.st b hb (sO (c b hb).2 D)
 . rw[j b hb,dR (c b hb).2];exact h.at_ b hb (sO (c b hb).1 v)
 . exact h.ne g hb1 i l A (sO (c g hb1).1 x) (sO (c i l).1 y) B C ((j g hb1).symm.trans n) ((j i l).symm.trans o)
 . by_cases k:a.1=q.1
   . obtain rfl:=z a m k;exact p
   . rw[r a m k];exact h.gs a m (sO k u)
end
end
end Go.Proofs.YtnnmlhmffnfjfaaGreat
