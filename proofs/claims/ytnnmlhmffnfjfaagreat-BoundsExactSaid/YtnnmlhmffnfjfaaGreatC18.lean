/- Texts on which the walk stands. -/
import Derived.Test.YtnnmlhmffnfjfaaGreatC17
open Go.RowKit.Below renaming refl → aB
open Nat renaming le_refl → aD, add_zero → bX, zero_add → cA
open Go renaming bodyPost_ret → aF
open List renaming mem_of_getElem? → aJ, flatMap_append → aP, length_append → cF
open Go.World renaming size_alloc → aX
open Int renaming eq_ofNat_of_zero_le → bO
set_option maxHeartbeats 16000000
set_option linter.unusedVariables false
set_option maxRecDepth 100000
namespace Go.Proofs.YtnnmlhmffnfjfaaGreat
section
open Go.RowKit
open Rg
open Pd
def cA7 (w:World) (a b:Rg) (er:Int) (e:Ending) (w':World):Prop :=
 ∃(x:Int) (f:Bool) (A:Option Addr) (n c:Nat) (x':Int) (f':Bool) (A':Option Addr) (n' c':Nat),e=.returned (.tuple #[.agg #[.int .i64 x,.bool f,.slice A n c],.agg #[.int .i64 x',.bool f',.slice A' n' c'],.int .i64 er])∧RgS w' x f A n c a∧RgS w' x' f' A' n' c' b∧Below w.heap.size w w'
theorem bL3 {cols:List Int}{p:Pd}(b:cols.length<=12)(a:hK cols [] p=0):xV cols p=oE (cZ cols p)/\bdR cols p=oP (cZ cols p):=by
 have e:xV cols p=oE (cZ cols p):=by unfold xV oE;rw[if_neg (by omega),if_pos a];cases cZ cols p<;>rfl
 refine⟨e,?_⟩;unfold bdR;rw[e];cases cZ cols p with
 |none=>rfl
 |some r=>rfl
theorem yO {cols:List Int}{p:Pd}(h:xV cols p≠0):bdR cols p=(cQ,cQ):=by unfold bdR;rw[if_neg h]
theorem o_noEmp {cols:List Int}{p:Pd}(a:cols.length<=12)(b:hK cols [] p=0)(c:nT p):eC (oP (cZ cols p)).1/\eC (oP (cZ cols p)).2:=by
 cases hx:cZ cols p with
 |none=>exact⟨trivial,trivial⟩
 |
  some r =>
  obtain⟨c1,c2,_,_⟩:=sK b;exact gM (nA a c1 c2 c hx).pr
theorem vU (cols:List Int)(p:Pd)(A:Option Addr)(n c:Nat)(u:Option Addr)(b x:Nat)(w:World)(hs:PrdS w A n c p)(hc:wX w u b cols)(h7:b<=9223372036854775807)(g7:nT p) :
 Calls Tryz.prog 32 #[.slice u b x,.agg (iK p.h A n c)] w fun e w'=>cA7 w (bdR cols p).1 (bdR cols p).2 (xV cols p) e w':=by
 have b5:=Z hc.len;have f8:=Z g7;obtain⟨c9,a3⟩:=zE (xV cols p);obtain⟨⟨ra,rb⟩,a4⟩:=zE (bdR cols p);rw[a3.out,a4.out];unfold iK;have a2:=Z ((((hs.keep (aM w (.cells #[.slice u b x] 65))).keep (aM _ (.cells #[p.h.op,p.h.cm,p.h.l.k,p.h.l.ix,p.h.l.v.k,p.h.l.v.i,p.h.l.v.t,p.h.r.k,p.h.r.ix,p.h.r.v.k,p.h.r.v.i,p.h.r.v.t,.slice A n c] 64))).keep (aM _ (.cells zR 71))).keep (aM _ (.cells zR 71)));have a0:=Z ((((hc.keep (aM w (.cells #[.slice u b x] 65))).keep (aM _ (.cells #[p.h.op,p.h.cm,p.h.l.k,p.h.l.ix,p.h.l.v.k,p.h.l.v.i,p.h.l.v.t,p.h.r.k,p.h.r.ix,p.h.r.v.k,p.h.r.v.i,p.h.r.v.t,.slice A n c] 64))).keep (aM _ (.cells zR 71))).keep (aM _ (.cells zR 71)));have M:=Z ((((aT.new w 65 #[.slice u b x]).alloc (.cells #[p.h.op,p.h.cm,p.h.l.k,p.h.l.ix,p.h.l.v.k,p.h.l.v.i,p.h.l.v.t,p.h.r.k,p.h.r.ix,p.h.r.v.k,p.h.r.v.i,p.h.r.v.t,.slice A n c] 64)).alloc (.cells zR 71)).alloc (.cells zR 71));have J:=Z (((aT.new (w.alloc (.cells #[.slice u b x] 65)) 64 #[p.h.op,p.h.cm,p.h.l.k,p.h.l.ix,p.h.l.v.k,p.h.l.v.i,p.h.l.v.t,p.h.r.k,p.h.r.ix,p.h.r.v.k,p.h.r.v.i,p.h.r.v.t,.slice A n c]).alloc (.cells zR 71)).alloc (.cells zR 71));have a:=Z ((aT.new ((w.alloc (.cells #[.slice u b x] 65)).alloc (.cells #[p.h.op,p.h.cm,p.h.l.k,p.h.l.ix,p.h.l.v.k,p.h.l.v.i,p.h.l.v.t,p.h.r.k,p.h.r.ix,p.h.r.v.k,p.h.r.v.i,p.h.r.v.t,.slice A n c] 64)) 71 zR).alloc (.cells zR 71));have HQ:=Z (aT.new (((w.alloc (.cells #[.slice u b x] 65)).alloc (.cells #[p.h.op,p.h.cm,p.h.l.k,p.h.l.ix,p.h.l.v.k,p.h.l.v.i,p.h.l.v.t,p.h.r.k,p.h.r.ix,p.h.r.v.k,p.h.r.v.i,p.h.r.v.t,.slice A n c] 64)).alloc (.cells zR 71)) 71 zR);rw[show(w.alloc (.cells #[.slice u b x] 65)).heap.size=w.heap.size+1 by simp]at J;rw[show((w.alloc (.cells #[.slice u b x] 65)).alloc (.cells #[p.h.op,p.h.cm,p.h.l.k,p.h.l.ix,p.h.l.v.k,p.h.l.v.i,p.h.l.v.t,p.h.r.k,p.h.r.ix,p.h.r.v.k,p.h.r.v.i,p.h.r.v.t,.slice A n c] 64)).heap.size=w.heap.size+1+1 by simp]at a;rw[show(((w.alloc (.cells #[.slice u b x] 65)).alloc (.cells #[p.h.op,p.h.cm,p.h.l.k,p.h.l.ix,p.h.l.v.k,p.h.l.v.i,p.h.l.v.t,p.h.r.k,p.h.r.ix,p.h.r.v.k,p.h.r.v.i,p.h.r.v.t,.slice A n c] 64)).alloc (.cells zR 71)).heap.size=w.heap.size+1+1+1 by simp]at HQ;have d2:=(aB w w).alloc (aD _) (.cells #[.slice u b x] 65);have Y:=d2.alloc d2.size (.cells #[p.h.op,p.h.cm,p.h.l.k,p.h.l.ix,p.h.l.v.k,p.h.l.v.i,p.h.l.v.t,p.h.r.k,p.h.r.ix,p.h.r.v.k,p.h.r.v.i,p.h.r.v.t,.slice A n c] 64);have L:=Y.alloc Y.size (.cells zR 71);have HB:=Z (L.alloc L.size (.cells zR 71));clear d2 Y L hs hc g7;go_enter Tryz.func32,Tryz.ntmps32;go_upto_region 1 with fail;obtain⟨Q,c5⟩:=zE (w.heap.size+1+1+1);obtain⟨R,c6⟩:=zE (w.heap.size+1+1);obtain⟨X,d9⟩:=zE (w.heap.size+1);obtain⟨B,d3⟩:=zE (w.heap.size);have F:Hid (w.heap.size<=R/\w.heap.size<=Q/\R≠Q):=Z (by have h1:=c6.out;have h2:=c5.out;omega);rw[c5.out]at HQ;rw[c6.out]at a;rw[d9.out]at J;rw[d3.out]at M;rw[c5.out,c6.out,d9.out,d3.out];generalize hW:(((w.alloc (.cells #[.slice u b x] 65)).alloc (.cells #[p.h.op,p.h.cm,p.h.l.k,p.h.l.ix,p.h.l.v.k,p.h.l.v.i,p.h.l.v.t,p.h.r.k,p.h.r.ix,p.h.r.v.k,p.h.r.v.i,p.h.r.v.t,.slice A n c] 64)).alloc (.cells zR 71)).alloc (.cells zR 71)=w1 at *;clear hW c5 c6 d9 d3;have h9:=M.out.cell;by_cases e0:12<b
 . have a5:xV cols p=2:=(by unfold xV;rw[if_pos (by rw[b5.out];exact e0)]);obtain rfl:2=c9:=(by rw[<- a3.out,a5]);have c0:=yO (cols:=cols) (p:=p) (by rw[a5];decide);obtain⟨rfl,rfl⟩:cQ=ra/\cQ=rb:=(by have h:=a4.out;rw[c0]at h;injection h with h1 h2;exact⟨h1,h2⟩);have g1:decide ((12:Int)<(b:Int))=true:=(by simp;omega);have g3:decide (12<b)=true:=(by simp;omega);clear a5 c0 e0 a3 a4;have e6:=a.out.cell;have g8:=HQ.out.cell;have e7:=a.out.free;have g9:=HQ.out.free;have E:Hid (aT (cO _ R zO zF zN) R 71 zR):=Z (bY a.out);have o:=Z (HQ.out.but (bJ _ R zO zF zN) (fun e=>F.out.2.2 e.symm));have b4:=Z (E.out.but (bJ _ Q zO zF zN) (fun e=>F.out.2.2 e));have b3:Hid (aT (cO _ Q zO zF zN) Q 71 zR):=Z (bY o.out);have b2:=Z (bD (bD HB.out F.out.1 zO zF zN) F.out.2.1 zO zF zN);have W:=b4.out.cell;have T:=b3.out.cell;have e5:=o.out.free;have e4:=o.out.cell;unfold cO at W T b2 e5 e4;clear E o b4 b3;go_wp2;exact aF (v:=.tuple #[.agg zR,.agg zR,(2:Int)]) (by simp[results,Tryz.results32,go_sem,W,T]) rfl ⟨0,false,none,0,0,0,false,none,0,0,rfl,cC2 _,cC2 _,b2.out⟩
 have hn:b<=12:=by omega
 have g1:decide ((12:Int)<(b:Int))=false:=by simp;omega
 have g3:decide (12<b)=false:=by simp;omega
 have e9:=J.out.cell;clear e0;go_wp2_with fail;refine(bC3 cols [] p A n c u b x none 0 0 _ a2.out a0.out Sl.nil h7 (by omega)).mono ?_;rintro e s ⟨rfl,hb⟩;replace a2:=Z (a2.out.keep (aC hb));replace a0:=Z (a0.out.keep (aC hb));replace M:=Z (M.out.below hb);replace J:=Z (J.out.below hb);replace a:=Z (a.out.below hb);replace HQ:=Z (HQ.out.below hb);replace HB:=Z (cC1 HB.out hb);clear e9 h9 hb g1 g3;obtain⟨b6,P⟩:=zE (hK cols [] p);rw[P.out];by_cases c3:b6=0;rotate_left
 . have a5:xV cols p=b6:=(by unfold xV;rw[if_neg (by rw[b5.out];omega),if_neg (by rw[P.out];exact c3)];exact P.out);obtain rfl:b6=c9:=(by rw[<- a3.out,a5]);have c0:=yO (cols:=cols) (p:=p) (by rw[a5];exact c3);obtain⟨rfl,rfl⟩:cQ=ra/\cQ=rb:=(by have h:=a4.out;rw[c0]at h;injection h with h1 h2;exact⟨h1,h2⟩);have g1:(b6 != 0)=true:=(by simpa using c3);clear a5 c0 c3 a3 a4 P;have e6:=a.out.cell;have g8:=HQ.out.cell;have e7:=a.out.free;have g9:=HQ.out.free;have E:Hid (aT (cO _ R zO zF zN) R 71 zR):=Z (bY a.out);have o:=Z (HQ.out.but (bJ _ R zO zF zN) (fun e=>F.out.2.2 e.symm));have b4:=Z (E.out.but (bJ _ Q zO zF zN) (fun e=>F.out.2.2 e));have b3:Hid (aT (cO _ Q zO zF zN) Q 71 zR):=Z (bY o.out);have b2:=Z (bD (bD HB.out F.out.1 zO zF zN) F.out.2.1 zO zF zN);have W:=b4.out.cell;have T:=b3.out.cell;have e5:=o.out.free;have e4:=o.out.cell;unfold cO at W T b2 e5 e4;clear E o b4 b3;go_wp2;exact aF (v:=.tuple #[.agg zR,.agg zR,b6]) (by simp[results,Tryz.results32,go_sem,W,T]) rfl ⟨0,false,none,0,0,0,false,none,0,0,rfl,cC2 _,cC2 _,b2.out⟩
 subst c3;have e2:=bL3 (cols:=cols) (p:=p) (by rw[b5.out];exact hn) P.out;have e3:=o_noEmp (cols:=cols) (p:=p) (by rw[b5.out];exact hn) P.out f8.out;have h0:Hid (oE (cZ cols p)=c9):=Z (by rw[<- e2.1];exact a3.out);have g0:Hid (oP (cZ cols p)=(ra,rb)):=Z (by rw[<- e2.2];exact a4.out);have i1:Hid (eC ra/\eC rb):=Z (by rw[g0.out]at e3;exact e3);obtain⟨c1,c2,g2,_⟩:=sK P.out;have d4:Hid (iC cols=true/\dB cols [] p=true/\p.nodes<=24):=Z ⟨c1,c2,g2⟩;clear e2 e3 a3 a4 P c1 c2 g2;have hb:Below s s (s.alloc (.cells #[Value.nilFunc] 125)):=(aB _ _).alloc (aD _) _;have a6:=Z (aT.new s 125 #[Value.nilFunc]);have a7:Hid (B≠s.heap.size/\X≠s.heap.size/\R≠s.heap.size/\Q≠s.heap.size/\w.heap.size<=s.heap.size):=Z (by have h1:=M.out.lt;have h2:=J.out.lt;have h3:=a.out.lt;have h4:=HQ.out.lt;have h5:=HB.out.size;omega);replace a2:=Z (a2.out.keep (aC hb));have f5:=a0;replace a0:=Z (a0.out.keep (aC hb));replace M:=Z (M.out.below hb);replace J:=Z (J.out.below hb);replace a:=Z (a.out.below hb);replace HQ:=Z (HQ.out.below hb);replace HB:=Z (cC1 HB.out hb);obtain⟨V,c8⟩:=zE (s.heap.size);rw[c8.out]at a6 a7;go_upto_region 7 with fail;rw[c8.out];have f6:=Z ((a2.out.blk a6.out (by simp) (But.set (S:=fun k=>k=V) _ (p:=⟨V,0,none⟩) rfl (.func (.func 78) #[] #[.pointer (some ⟨B,0,none⟩),.pointer (some ⟨V,0,none⟩)]))));have b9:But (· = V) (s.alloc (.cells #[Value.nilFunc] 125)) ((s.alloc (.cells #[Value.nilFunc] 125)).setCell ⟨V,0,none⟩ (.func (.func 78) #[] #[.pointer (some ⟨B,0,none⟩),.pointer (some ⟨V,0,none⟩)])):=But.set (S:=fun k=>k=V) _ (p:=⟨V,0,none⟩) rfl _;have g6:Below s s ((s.alloc (.cells #[Value.nilFunc] 125)).setCell ⟨V,0,none⟩ (.func (.func 78) #[] #[.pointer (some ⟨B,0,none⟩),.pointer (some ⟨V,0,none⟩)])):=hb.setCell (p:=⟨V,0,none⟩) (by rw[c8.out];exact aD _) _;have f4:=Z (f5.out.keep (aC g6));have f3:=Z (M.out.but b9 (fun e=>a7.out.1 e));have f9:=Z (J.out.but b9 (fun e=>a7.out.2.1 e));have E:=Z (a.out.but b9 (fun e=>a7.out.2.2.1 e));have o:=Z (HQ.out.but b9 (fun e=>a7.out.2.2.2.1 e));have d8:Hid (aT _ V 125 #[.func (.func 78) #[] #[.pointer (some ⟨B,0,none⟩),.pointer (some ⟨V,0,none⟩)]]):=Z (a6.out.set_ 0 (.func (.func 78) #[] #[.pointer (some ⟨B,0,none⟩),.pointer (some ⟨V,0,none⟩)]));have L:=Z (HB.out.setCell (p:=⟨V,0,none⟩) a7.out.2.2.2.2 (.func (.func 78) #[] #[.pointer (some ⟨B,0,none⟩),.pointer (some ⟨V,0,none⟩)]));have e8:=a6.out.cell;have i0:=a6.out.free;clear b9 g6 hb a2 a0 f5 M J a HQ a6 HB;go_upto_region 8 with fail;generalize hW:(s.alloc (.cells #[Value.nilFunc] 125)).setCell ⟨V,0,none⟩ (.func (.func 78) #[] #[.pointer (some ⟨B,0,none⟩),.pointer (some ⟨V,0,none⟩)])=w3 at *;clear hW c8 e8 i0;have e8:=d8.out.cell;have e9:=f9.out.cell;go_wp2_with fail;refine(bS6 cols b u x B V hn b5.out d4.out.1 p.nodes p A n c _ (aD _) (by have:=d4.out.2.2;omega) f6.out f3.out f4.out d8.out d4.out.2.1 f8.out).mono ?_;rintro e K ⟨y,g,C,m,d,I,G,D,H,d',rfl,b7,b8,hb⟩;rw[g0.out]at b7 b8;rw[h0.out];replace b7:RgS K y g C m d ra:=b7;replace b8:RgS K I G D H d' rb:=b8;have hb2:Below K K (K.alloc (.cells (fF y g C m d I G D H d') 127)):=(aB _ _).alloc (aD _) _;have c7:=Z (aT.new K 127 (fF y g C m d I G D H d'));have f7:Hid (R≠K.heap.size/\Q≠K.heap.size):=Z (by have h1:=(E.out.below hb).lt;have h2:=(o.out.below hb).lt;omega);have b0:=Z (b7.keep (aC hb2));have b1:=Z (b8.keep (aC hb2));have a:=Z ((E.out.below hb).below hb2);have HQ:=Z ((o.out.below hb).below hb2);have f2:=Z (cC1 L.out hb);have HB:=Z (cC1 f2.out hb2);clear b7 b8 hb hb2 e8 e9 d8 f9 E o L f2 f6 f3 f4;obtain⟨U,d7⟩:=zE (K.heap.size);rw[d7.out]at c7 f7;unfold fF at c7 b0 b1 a HQ HB ⊢;go_upto_region 9 with fail;rw[d7.out];generalize hW:K.alloc (.cells #[y,.bool g,.slice C m d,I,.bool G,.slice D H d'] 127)=w5 at *;clear hW d7;obtain⟨S,d6⟩:∃S:Nat->Prop,Hid ((fun q=>q=R\/q=Q)=S):=⟨_,rfl⟩;have g4:¬S U:=by rw[<- d6.out];have h:=f7.out;intro h2;rcases h2 with h2|h2<;>omega
 refine bQ S (.one [0,1,2,3,4] 5 (.one [] 6 (.last [7]))) ?_;have h8:∀(z:LaterS S w5.drew) j,(dG S w5.drew z).cell? ⟨U,j,none⟩=(#[y,.bool g,.slice C m d,I,.bool G,.slice D H d']:Array Value)[j]?:=fun z j=>(c7.out.drew.but z.but g4).cell j;have a8:Below w5 w5 w5.drew:=(aB _ _).drew;replace b0:=Z (b0.out.keep (aC a8));replace b1:=Z (b1.out.keep (aC a8));replace a:=Z (a.out.below a8);replace HQ:=Z (HQ.out.below a8);replace HB:=Z (cC1 HB.out a8);clear a8 g4 c7;generalize h6:w5.drew=a9 at *;clear h6;unfold bB;simp only[cP];repeat(go_big_quiet_step (fail))
 refine wpQuiet_nil ?_;clear h8;have e6:=a.out.cell;have e7:=a.out.free;have d5:Hid (aT (cO a9 R y (.bool g) (.slice C m d)) R 71 #[y,.bool g,.slice C m d]):=Z (bY a.out);have N:But (· = R) a9 (cO a9 R y (.bool g) (.slice C m d)):=bJ _ _ _ _ _;have e1:But S a9 (cO a9 R y (.bool g) (.slice C m d)):=⟨N.os,N.tape,N.output,N.size,fun k hk hs=>N.block k hk (fun e=>hs (by rw[<- d6.out];exact .inl e))⟩;have a1:=Z (HQ.out.but N (fun e=>F.out.2.2 e.symm));have d0:=Z (RgS.off a.out N b0.out);have d1:=Z (RgS.off a.out N b1.out);have Y:=Z (bD HB.out F.out.1 y (.bool g) (.slice C m d));clear N a HQ b0 b1 HB;unfold cO at e1 d5 a1 d0 d1 Y;go_wp2_with fail;refine⟨e1,?_⟩;generalize hW1:((a9.setCell ⟨R,0,none⟩ y).setCell ⟨R,1,none⟩ (.bool g)).setCell ⟨R,2,none⟩ (.slice C m d)=c4 at *;clear hW1 e6 e7 e1;unfold bB;simp only[cP];refine wpQuiet_nil ?_;have g8:=a1.out.cell;have g9:=a1.out.free;have o:Hid (aT (cO c4 Q I (.bool G) (.slice D H d')) Q 71 #[I,.bool G,.slice D H d']):=Z (bY a1.out);have O:But (· = Q) c4 (cO c4 Q I (.bool G) (.slice D H d')):=bJ _ _ _ _ _;have g5:But S c4 (cO c4 Q I (.bool G) (.slice D H d')):=⟨O.os,O.tape,O.output,O.size,fun k hk hs=>O.block k hk (fun e=>hs (by rw[<- d6.out];exact .inr e))⟩;have E:=Z (d5.out.but O (fun e=>F.out.2.2 e));have f0:=Z (RgS.off a1.out O d0.out);have f1:=Z (RgS.off a1.out O d1.out);have L:=Z (bD Y.out F.out.2.1 I (.bool G) (.slice D H d'));have W:=E.out.cell;have T:=o.out.cell;unfold cO at g5 W T f0 f1 L;clear O d5 a1 d0 d1 Y E o;go_wp2_with fail;refine⟨g5,?_⟩;unfold bB;simp only[cP];go_simp;repeat(go_big_quiet_step (fail))
 refine wpQuiet_nil ?_;go_wp2;exact aF (v:=.tuple #[.agg #[y,.bool g,.slice C m d],.agg #[I,.bool G,.slice D H d'],c9]) (by simp[results,Tryz.results32,go_sem,W,T]) rfl ⟨y,g,C,m,d,I,G,D,H,d',rfl,f0.out,f1.out,L.out⟩
end
section
open Go.RowKit
open Pd
def pU (L:Nat→Prop) (w:World):Pd→Nat→Nat→Prop
 |.nil _,_,_=>True
 |
  .cons a t,b,o=>L b∧(∀(j:Nat) (u:Value),a.h.cs[j]?=some u→w.cell? ⟨b,o+j,none⟩=some u) ∧
  (∃A n c,w.cell? ⟨b,o+12,none⟩=some (.slice A n c)∧yC A n c∧n=a.len∧(0<n→∃b' o',A=some ⟨b',o',none⟩∧pU L w a b' o'))∧pU L w t b (o+13)
structure PrdL (L:Nat→Prop) (w:World) (A:Option Addr) (n c:Nat) (p:Pd):Prop where
 ok:yC A n c
 len:n=p.len
 ex:0<n→∃ b o,A=some ⟨b,o,none⟩∧pU L w p b o
theorem pU.s {L:Nat->Prop}{w:World}:∀ {p:Pd} {b o:Nat},pU L w p b o->PdP w p b o
 |.nil _,_,_,_=>trivial
 |
  .cons a t,b,o,⟨_,h1,⟨A,n,c,h2,h3,h4,h5⟩,h6⟩=>⟨h1,⟨A,n,c,h2,h3,h4,fun d=>by
  obtain⟨b',g,e,h⟩:=h5 d;exact⟨b',g,e,h.s⟩⟩,h6.s⟩
theorem pU.imp {L L':Nat->Prop}{w w':World}(d:∀(b j:Nat) (v:Value),L b->w.cell? ⟨b,j,none⟩=some v->L' b/\w'.cell? ⟨b,j,none⟩=some v):∀ {p:Pd} {b o:Nat},pU L w p b o->pU L' w' p b o
 |.nil _,_,_,_=>trivial
 |
  .cons a t,b,o,⟨h0,h1,⟨A,n,c,h2,h3,h4,h5⟩,h6⟩=>by
  refine⟨(d b _ _ h0 h2).1,fun j u i=>(d b _ _ h0 (h1 j u i)).2,⟨A,n,c,(d b _ _ h0 h2).2,h3,h4,fun g=>?_⟩,pU.imp d h6⟩;obtain⟨b',k,e,h⟩:=h5 g;exact⟨b',k,e,pU.imp d h⟩
theorem pU.mk {L:Nat->Prop}{w:World}:∀ {p:Pd} {b o:Nat},L b->(∀k q,p.args[k]?=some q->∃A n c,ArgAt w b (o+k*13) q A n c/\PrdL L w A n c q)->pU L w p b o
 |.nil _,_,_,_,_=>trivial
 |
  .cons a t,b,o,hb,h=>by
  obtain⟨A,n,c,e,g⟩:=h 0 a rfl;simp only[Nat.zero_mul,bX]at e;have i:PdP w (.cons a (.nil a.h)) b o:=PdP.of fun k q d=>by
   cases k with
   |
    zero =>
    simp only[args,List.getElem?_cons_zero,Option.some.injEq]at d;subst d;rw[Nat.zero_mul,bX];exact⟨A,n,c,e⟩
   |succ k=>simp[args]at d
  refine⟨hb,i.1,⟨A,n,c,e.c12,g.ok,g.len,g.ex⟩,pU.mk hb fun k q d=>?_⟩;have:=h (k+1) q (by simpa[args]using d);rw[show o+13+k*13=o+(k+1)*13 by omega];exact this
section
variable {L L':Nat→Prop} {w w':World} {A:Option Addr} {n c:Nat} {p:Pd}
theorem PrdL.s (h:PrdL L w A n c p):PrdS w A n c p:=⟨h.ok,h.len,fun a=>by
 obtain⟨b,o,e,h⟩:=h.ex a;exact⟨b,o,e,h.s⟩⟩
theorem PrdL.imp (h:PrdL L w A n c p)(a:∀(b j:Nat) (v:Value),L b->w.cell? ⟨b,j,none⟩=some v->L' b/\w'.cell? ⟨b,j,none⟩=some v):PrdL L' w' A n c p:=⟨h.ok,h.len,fun d=>by
 obtain⟨b,o,e,h⟩:=h.ex d;exact⟨b,o,e,h.imp a⟩⟩
theorem PrdL.but {S:Nat->Prop}(h:PrdL L w A n c p)(hb:But S w w')(i:∀b,L b->b<w.heap.size->¬S b):PrdL L w' A n c p:=h.imp fun b j v d g=>by
 have e:=gS (w:=w) (a:=⟨b,j,none⟩) (by rw[g];rfl);exact⟨d,(World.cell?_of_block (a:=⟨b,j,none⟩) (hb.block b e (i b d e))).trans g⟩
theorem PrdL.below (h:PrdL L w A n c p)(hb:Below w w w'):PrdL L w' A n c p:=h.but (S:=fun _=>False) (But.of_below hb) fun _ _ _ h=>h
theorem PrdL.mono (h:PrdL L w A n c p)(e:∀b,L b->b<w.heap.size->L' b):PrdL L' w A n c p:=h.imp fun b j v g d=>by
 have i:=gS (w:=w) (a:=⟨b,j,none⟩) (by rw[d];rfl);exact⟨e b g i,d⟩
theorem PrdL.nil (L:Nat->Prop)(w:World)(h:Nd):PrdL L w none 0 0 (.nil h):=⟨⟨aD _,fun _=>⟨rfl,rfl⟩⟩,rfl,fun h=>absurd h (by omega)⟩
theorem PdP.any:∀ {p:Pd} {b o:Nat},PdP w p b o->pU (fun _=>True) w p b o
 |.nil _,_,_,_=>trivial
 |
  .cons a t,b,o,⟨h1,⟨A,n,c,h2,h3,h4,h5⟩,h6⟩=>⟨trivial,h1,⟨A,n,c,h2,h3,h4,fun d=>by
  obtain⟨b',g,e,h⟩:=h5 d;exact⟨b',g,e,PdP.any h⟩⟩,PdP.any h6⟩
theorem PrdS.any (h:PrdS w A n c p):PrdL (fun b=>b<w.heap.size) w A n c p:=by
 refine PrdL.mono (L:=fun _=>True) ⟨h.ok,h.len,fun a=>?_⟩ fun _ _ h=>h;obtain⟨b,o,e,h⟩:=h.ex a;exact⟨b,o,e,h.any⟩
end
theorem bU3 {L:Nat->Prop}{w:World}{A:Option Addr}{n c:Nat}{es:List PdE}(r:Nd)(h:Sl 13 PdE.cs w A n es)(v:yC A n c)(m:0<n->∀b o,A=some ⟨b,o,none⟩->L b)(t:∀e∈es,PrdL L w e.A e.n e.c e.p):PrdL L w A n c (uA r (es.map PdE.p)):=by
 refine⟨v,by rw[Pd.len_mk,List.length_map,h.1],fun i=>?_⟩;obtain⟨b,o,e,hc⟩:=h.2 i;refine⟨b,o,e,pU.mk (m i b o e) fun k q l=>?_⟩;rw[sM,List.getElem?_map]at l;obtain⟨d,g,rfl⟩:=Option.map_eq_some_iff.1 l;have at_:∀(j:Nat) (u:Value),(PdE.cs d)[j]?=some u->w.cell? ⟨b,o+k*13+j,none⟩=some u:=fun j u x=>hc k d g j u x;have a:=t d (aJ g);exact⟨d.A,d.n,d.c,⟨at_ 0 _ rfl,at_ 1 _ rfl,at_ 2 _ rfl,at_ 3 _ rfl,at_ 4 _ rfl,at_ 5 _ rfl,at_ 6 _ rfl,at_ 7 _ rfl,at_ 8 _ rfl,at_ 9 _ rfl,at_ 10 _ rfl,at_ 11 _ rfl,at_ 12 _ rfl,a.s⟩,a⟩
theorem yA {L:Nat->Prop}{w:World}{base:Nat}{A:Option Addr}{n c:Nat}{es:List PdE}(a:Nd)(h:w.ownsRow base 64 13 (.slice A n c) n (es.flatMap PdE.cs))(j:es.length=n)(g:∀b,(Value.slice A n c).ownBlock=some b->L b)(i:∀e∈es,PrdL L w e.A e.n e.c e.p):PrdL L w A n c (uA a (es.map PdE.p)) :=
 bU3 a (cC3 PdE.cs_len j h) (hP h) (fun _ b o d=>g b (by rw[d];rfl)) i
theorem aM5 {L:Nat->Prop}{w:World}{H:Nat}{d:Array Value}{es:List PdE}(g:Nd)(h:aT w H 64 d)(hc:d.toList=es.flatMap PdE.cs){n:Nat}(m:es.length=n)(i:L H)(l:∀e∈es,PrdL L w e.A e.n e.c e.p):PrdL L w (some ⟨H,0,none⟩) n n (uA g (es.map PdE.p)):=by
 refine bU3 g ⟨m,fun _=>⟨H,0,rfl,fun k x r j u q=>?_⟩⟩ ⟨aD _,fun h=>by cases h⟩ (fun _ b o a=>?_) l
 . rw[h.cell,<- Array.getElem?_toList,hc,cA];exact pK PdE.cs_len es k x j u r q
 . injection a with a;injection a with a;subst a;exact i
def mB (w:World) (U:Nat):Nat→List Value→World
 |_,[]=>w
 |o,v::vs=>mB (w.setCell ⟨U,o,none⟩ v) U (o+1) vs
def putA (cs:Array Value):Nat→List Value→Array Value
 |_,[]=>cs
 |o,v::vs=>putA (cs.setIfInBounds o v) (o+1) vs
theorem fE (U:Nat):∀(vs:List Value) (w:World) (o:Nat),But (· = U) w (mB w U o vs)
 |[],_,_=>But.refl _ _
 |v::vs,w,o=>(But.set (S:=fun k=>k=U) w (p:=⟨U,o,none⟩) rfl v).trans (fE U vs _ _)
theorem hQ {U:Nat}{T:TypeId}:∀(vs:List Value) {w:World} {cs:Array Value} (o:Nat),aT w U T cs->aT (mB w U o vs) U T (putA cs o vs)
 |[],_,_,_,h=>h
 |v::vs,_,_,o,h=>hQ vs (o+1) (h.set_ o v)
end
section
open Go.RowKit
open Rg Pd
theorem bB7 {α:Type}{sz:Nat}{cs:α->List Value}{w:World}{H:Nat}{T:TypeId}{a:Array Value}{l:List α}(h:aT w H T a)(b:∀x,(cs x).length=sz)(hc:a.toList=l.flatMap cs):Sl sz cs w (some ⟨H,0,none⟩) l.length l :=
 ⟨rfl,fun _=>⟨H,0,rfl,fun k x d j u c=>by
  rw[h.cell,<- Array.getElem?_toList,hc,cA];exact pK b l k x j u d c⟩⟩
set_option maxRecDepth 100000 in
theorem bG2 (w:World):Calls Tryz.prog 34 #[] w fun e w'=>e=.returned zT/\Below w w w':=by
 have g:Hid (PrdL (fun _=>True) ((w.alloc (.cells #[(3:Int),zO,(4:Int),(5:Int),zS] 61)).alloc (.cells #[(3:Int),(3:Int),(1:Int),zO,zO,zO,zS,(3:Int),zO,(4:Int),(5:Int),zS,zN,(3:Int),(1:Int),(1:Int),zO,zO,zO,zS,(1:Int),(1:Int),zO,zO,zS,zN] 64)) (some ⟨(w.alloc (.cells #[(3:Int),zO,(4:Int),(5:Int),zS] 61)).heap.size,0,none⟩) 2 2 exP):=Z (aM5 (es:=[⟨.nil exH1,none,0,0⟩,⟨.nil exH2,none,0,0⟩]) (dX 4) (aT.new _ _ _) rfl rfl trivial (fun e he=>by
  rcases List.mem_cons.1 he with rfl|he
  . exact PrdL.nil _ _ _
  . rw[List.mem_singleton]at he;subst he;exact PrdL.nil _ _ _))
 obtain⟨X,o⟩:=zE (w.heap.size+1);rw[aX,o.out]at g;have HB:Hid (Below w w (((w.alloc (.cells #[(3:Int),zO,(4:Int),(5:Int),zS] 61)).alloc (.cells #[(3:Int),(3:Int),(1:Int),zO,zO,zO,zS,(3:Int),zO,(4:Int),(5:Int),zS,zN,(3:Int),(1:Int),(1:Int),zO,zO,zO,zS,(1:Int),(1:Int),zO,zO,zS,zN] 64)).alloc (.cells #[(4:Int),zO,zO,zO,zO,zO,zS,zO,zO,zO,zO,zS,.slice (some ⟨X,0,none⟩) 2 2] 64))):=Z ((((aB w w).alloc (aD _) _).alloc (by simp) _).alloc (by simp;omega) _);have u:=Z (aT.new ((w.alloc (.cells #[(3:Int),zO,(4:Int),(5:Int),zS] 61)).alloc (.cells #[(3:Int),(3:Int),(1:Int),zO,zO,zO,zS,(3:Int),zO,(4:Int),(5:Int),zS,zN,(3:Int),(1:Int),(1:Int),zO,zO,zO,zS,(1:Int),(1:Int),zO,zO,zS,zN] 64)) 64 #[(4:Int),zO,zO,zO,zO,zO,zS,zO,zO,zO,zO,zS,.slice (some ⟨X,0,none⟩) 2 2]);replace g:=Z (g.out.below ((aB _ _).alloc (aD _) (.cells #[(4:Int),zO,zO,zO,zO,zO,zS,zO,zO,zO,zO,zS,.slice (some ⟨X,0,none⟩) 2 2] 64)));obtain⟨Y,x⟩:=zE (X+1);rw[aX,aX,o.out,x.out]at u;go_enter Tryz.func34,Tryz.ntmps34;go_upto_region 1 with fail;go_upto_region 2 with fail;go_upto_region 3 with fail;rw[o.out,x.out];generalize hWW:((w.alloc (.cells #[(3:Int),zO,(4:Int),(5:Int),zS] 61)).alloc (.cells #[(3:Int),(3:Int),(1:Int),zO,zO,zO,zS,(3:Int),zO,(4:Int),(5:Int),zS,zN,(3:Int),(1:Int),(1:Int),zO,zO,zO,zS,(1:Int),(1:Int),zO,zO,zS,zN] 64)).alloc (.cells #[(4:Int),zO,zO,zO,zO,zO,zS,zO,zO,zO,zO,zS,.slice (some ⟨X,0,none⟩) 2 2] 64)=k at *;clear hWW o x;have a:Below k k (k.alloc (.cells #[(4:Int),(4:Int)] 3)):=(aB _ _).alloc (aD _) _;have C:=(u.out.below a).cell;go_wp2_with fail;refine(vU [4,4] exP (some ⟨X,0,none⟩) 2 2 (some ⟨k,0,none⟩) 2 2 _ (g.out.below a).s (bB7 (sz:=1) (cs:=xS) (l:=[4,4]) (aT.new k 3 #[(4:Int),(4:Int)]) (fun _=>rfl) rfl) (by omega) ex_wf).mono ?_;rintro e c ⟨xa,fa,Aa,na,ca,xb,fb,Ab,nb,cb,rfl,q,y,hb2⟩;rw[bY9.1];rw[bY9.2.1]at q y;obtain rfl:2=xa:=by rw[<- q.hw];exact ex_I.1.symm
 obtain rfl:0=na:=by rw[q.len];exact ex_I.2.symm
 have b:=Z y;replace HB:=Z (cC1 (cC1 HB.out a) hb2);clear g u C a hb2 q y;have a:Below c c (c.alloc (.cells #[(2:Int),.bool fa,.slice Aa 0 ca] 71)):=(aB _ _).alloc (aD _) _;have n:=Z (aT.new c 71 #[(2:Int),.bool fa,.slice Aa 0 ca]);obtain⟨Va,p⟩:=zE (c.heap.size);rw[p.out]at n;replace b:=Z (b.out.keep (aC a));replace HB:=Z (cC1 HB.out a);clear a;have a:Below (c.alloc (.cells #[(2:Int),.bool fa,.slice Aa 0 ca] 71)).heap.size (c.alloc (.cells #[(2:Int),.bool fa,.slice Aa 0 ca] 71)) ((c.alloc (.cells #[(2:Int),.bool fa,.slice Aa 0 ca] 71)).alloc (.cells #[xb,.bool fb,.slice Ab nb cb] 71)):=(aB _ _).alloc (aD _) _;have d:=Z (aT.new (c.alloc (.cells #[(2:Int),.bool fa,.slice Aa 0 ca] 71)) 71 #[xb,.bool fb,.slice Ab nb cb]);obtain⟨Vb,v⟩:=zE (Va+1);rw[aX,p.out,v.out]at d;replace b:=Z (b.out.keep (aC a));replace n:=Z (n.out.below a);replace HB:=Z (cC1 HB.out a);clear a;go_upto_region 4 with fail;rw[p.out,v.out];generalize hWW:(c.alloc (.cells #[(2:Int),.bool fa,.slice Aa 0 ca] 71)).alloc (.cells #[xb,.bool fb,.slice Ab nb cb] 71)=m at *;clear hWW p v;have z:=n.out.cell;have A:=d.out.cell;go_wp2_with fail;have i:Below m m (m.alloc (.cells #[(4:Int),(4:Int),zS,(4:Int),zO,zS] 59)):=(aB _ _).alloc (aD _) _;refine(aW8 exO xb fb Ab nb cb [⟨4,4,⟨#[]⟩⟩,⟨4,0,⟨#[]⟩⟩] (some ⟨m,0,none⟩) 2 2 _ (b.out.keep (aC i)) (bB7 (sz:=3) (cs:=Vl.cs) (l:=[⟨4,4,⟨#[]⟩⟩,⟨4,0,⟨#[]⟩⟩]) (aT.new m 59 #[(4:Int),(4:Int),zS,(4:Int),zO,zS]) (fun _=>rfl) rfl)).mono ?_;rintro e v1 ⟨rfl,r⟩;rw[bY7.1];replace HB:=Z (cC1 (cC1 HB.out i) r);replace b:=Z ((b.out.keep (aC i)).keep (aC r));replace d:=Z ((d.out.below i).below r);clear A i r;clear z;have B:=d.out.cell;go_wp2_with fail;have j:Below v1 v1 (v1.alloc (.cells #[(4:Int),(5:Int),zS,(4:Int),zO,zS] 59)):=(aB _ _).alloc (aD _) _;refine(aW8 exO xb fb Ab nb cb [⟨4,5,⟨#[]⟩⟩,⟨4,0,⟨#[]⟩⟩] (some ⟨v1,0,none⟩) 2 2 _ (b.out.keep (aC j)) (bB7 (sz:=3) (cs:=Vl.cs) (l:=[⟨4,5,⟨#[]⟩⟩,⟨4,0,⟨#[]⟩⟩]) (aT.new v1 59 #[(4:Int),(5:Int),zS,(4:Int),zO,zS]) (fun _=>rfl) rfl)).mono ?_;rintro e v2 ⟨rfl,t⟩;rw[bY7.2];replace HB:=Z (cC1 (cC1 HB.out j) t);replace b:=Z ((b.out.keep (aC j)).keep (aC t));replace d:=Z ((d.out.below j).below t);clear B j t;go_wp2;go_ret;exact⟨rfl,HB.out⟩
end
section
open Go.RowKit
open Rg
structure BxJ (w:World) (V:Nat) (x:Int) (f:Bool) (A:Option Addr) (n c:Nat) (r:Rg):Prop where
 b:aT w V 71 #[.int .i64 x,.bool f,.slice A n c]
 s:RgS w x f A n c r
 wf:kD r
section
variable {w w':World} {V:Nat} {x:Int} {f:Bool} {A:Option Addr} {n c:Nat} {r:Rg}
theorem BxJ.case {g:Nat}(h:BxJ w V x f A n c r)(hc:CaseAt w g)(hb:But (· = g) w w'):BxJ w' V x f A n c r:=⟨h.b.but hb (hc.ne h.b (by decide)),h.s.case hc hb,h.wf⟩
theorem BxJ.below (h:BxJ w V x f A n c r)(hb:Below w w w'):BxJ w' V x f A n c r:=⟨h.b.below hb,h.s.keep (aC hb),h.wf⟩
theorem BxJ.alloc (h:BxJ w V x f A n c r)(o:Obj):BxJ (w.alloc o) V x f A n c r:=⟨h.b.alloc o,h.s.keep (aM w o),h.wf⟩
theorem BxJ.off (h:BxJ w V x f A n c r){B:Nat}{x':Int}{f':Bool}{A':Option Addr}{n' c':Nat}(a:aT w B 71 #[x',.bool f',.slice A' n' c'])(hb:But (· = B) w w')(d:V≠B):BxJ w' V x f A n c r:=⟨h.b.but hb d,h.s.off a hb,h.wf⟩
theorem BxJ.put {x':Int}{f':Bool}{A':Option Addr}{n' c':Nat}{a:Rg}(h:BxJ w V x f A n c r)(d:RgS w x' f' A' n' c' a)(e:kD a):BxJ (cO w V x' (.bool f') (.slice A' n' c')) V x' f' A' n' c' a :=
 ⟨bY h.b,d.off h.b (bJ _ _ _ _ _),e⟩
end
structure ClJ (B g:Nat) (w:World) (A:Option Addr) (n:Nat) (cs:List Int):Prop where
 sl:wX w A n cs
 ne:0<n→∀ b o,A=some ⟨b,o,none⟩→b≠g∧(b<B∨∃ cells,w.heap[b]? = some (.cells cells 3 (0,0)))
section
variable {B g:Nat} {w w':World} {A:Option Addr} {n:Nat} {cs:List Int}
theorem ClJ.but {S:Nat->Prop}(h:ClJ B g w A n cs)(hb:But S w w')(i:∀b o,0<n->A=some ⟨b,o,none⟩->¬S b):ClJ B g w' A n cs :=
 ⟨h.sl.but hb (fun d b o c=>i b o d c),fun d b o c=>⟨(h.ne d b o c).1,by
  rcases(h.ne d b o c).2 with a|⟨j,a⟩
  . exact .inl a
  . refine .inr ⟨j,?_⟩;have k:b<w.heap.size:=by
     rcases Nat.lt_or_ge b w.heap.size with e|e
     . exact e
     . rw[Array.getElem?_eq_none e]at a;cases a
    rw[hb.block b k (i b o d c)];exact a⟩⟩
theorem ClJ.case (h:ClJ B g w A n cs)(hb:But (· = g) w w'):ClJ B g w' A n cs:=h.but hb fun b o c a=>(h.ne c b o a).1
theorem ClJ.below (h:ClJ B g w A n cs)(hb:Below w w w'):ClJ B g w' A n cs:=h.but (S:=fun _=>False) (But.of_below hb) fun _ _ _ _ h=>h
theorem ClJ.off (h:ClJ B g w A n cs){V:Nat}{x:Int}{f:Bool}{v:Value}(c:aT w V 71 #[x,.bool f,v])(k:B<=V)(hb:But (· = V) w w'):ClJ B g w' A n cs:=h.but hb fun b o i d e=>by
 rcases(h.ne i b o d).2 with a|⟨j,a⟩
 . omega
 . subst e;unfold aT at c;rw[c]at a;injection a with a;injection a with _ a;exact absurd a (by decide)
end
structure PjS (w:World) (g Va Vw:Nat) (xa:Int) (fa:Bool) (Aa:Option Addr) (na ca:Nat) (ra:Rg) (xw:Int) (fw:Bool) (Aw:Option Addr) (nw cw:Nat) (rw_:Rg) (Al:Option Addr) (nl:Nat) (cs:List Int) (wr:World):Prop where
 a:BxJ wr Va xa fa Aa na ca ra
 r:BxJ wr Vw xw fw Aw nw cw rw_
 kk:CaseAt wr g
 cl:ClJ w.heap.size g wr Al nl cs
 bel:Below w.heap.size w wr
 hg:w.heap.size≤g
 hVa:w.heap.size≤Va
 hra:Va≠Vw
section
variable {w wr w':World} {g Va Vw:Nat} {xa:Int} {fa:Bool} {Aa:Option Addr} {na ca:Nat} {ra:Rg} {xw:Int} {fw:Bool} {Aw:Option Addr} {nw cw:Nat} {rw_:Rg} {Al:Option Addr} {nl:Nat} {cs:List Int}
theorem PjS.case (h:PjS w g Va Vw xa fa Aa na ca ra xw fw Aw nw cw rw_ Al nl cs wr)(hc:CaseAt w' g)(hb:But (· = g) wr w'):PjS w g Va Vw xa fa Aa na ca ra xw fw Aw nw cw rw_ Al nl cs w' :=
 ⟨h.a.case h.kk hb,h.r.case h.kk hb,hc,h.cl.case hb,hb.below h.bel h.bel.size (fun k b=>by subst b;exact h.hg),h.hg,h.hVa,h.hra⟩
end
structure PjT (w:World) (g:Nat) (Al:Option Addr) (nl:Nat) (cs:List Int) (wr:World):Prop where
 kk:CaseAt wr g
 cl:ClJ w.heap.size g wr Al nl cs
 bel:Below w.heap.size w wr
 hg:w.heap.size≤g
end
section
open Go.RowKit
def SomeK (k:Int) (w:World) (g:Nat) (e:Ending) (w':World):Prop:=(∃v:Vl,bT v=true∧iR v∧v.k=k∧e=.returned (.agg #[.int .i64 v.k,.int .i64 v.i,.string v.t]))∧CaseAt w' g∧But (· = g) w w'
theorem yT (g:Nat)(k:Int)(w:World)(hc:CaseAt w g)(hk:k=3\/k=4\/k=5) :
 Calls Tryz.prog 89 #[.pointer (some ⟨g,0,none⟩),k] w fun e w'=>SomeK k w g e w':=by
 have hlt:=hc.lt;have j:=hc.below ((aB _ _).alloc (aD _) (.cells zV 59));have i:=aT.new w 59 zV;have d:But (· = g) w (w.alloc (.cells zV 59)):=But.alloc _ _;rcases hk with rfl|rfl|rfl
 . go_enter Tryz.func89,Tryz.ntmps89;go_wp2_with fail;refine(gE g 2 _ j (by omega) (by omega)).mono ?_;rintro e n ⟨⟨x,q,r,rfl⟩,c,hb1⟩;have a:=i.but hb1 (by omega);have b:=a.cell;have l:=a.free;go_wp2;refine aF (v:=.agg #[(3:Int),x,zS]) (by simp[results,Tryz.results89,go_sem,b]) rfl ⟨⟨⟨3,x,⟨#[]⟩⟩,?_,⟨by unfold gV;simp;omega,by simp;omega⟩,rfl,rfl⟩,?_,?_⟩
   . have:x=0\/x=1:=(by omega);rcases this with rfl|rfl<;>decide +kernel
   . exact lY c a (by omega) _ _ _
   . exact(((d.trans hb1).setNew (p:=⟨w,0,none⟩) (by simp) _).setNew (p:=⟨w,1,none⟩) (by simp) _).setNew (p:=⟨w,2,none⟩) (by simp) _
 . go_enter Tryz.func89,Tryz.ntmps89;go_wp2_with fail;refine(xJ g _ j).mono ?_;rintro e n ⟨⟨x,m,rfl⟩,c,hb1⟩;have o:=Z m;clear m;have a:=i.but hb1 (by omega);have b:=a.cell;have l:=a.free;go_wp2;refine aF (v:=.agg #[(4:Int),x,zS]) (by simp[results,Tryz.results89,go_sem,b]) rfl ⟨⟨⟨4,x,⟨#[]⟩⟩,?_,o.out,rfl,rfl⟩,?_,?_⟩
   . simp[bT,ByteArray.toList_eq]
   . exact lY c a (by omega) _ _ _
   . exact(((d.trans hb1).setNew (p:=⟨w,0,none⟩) (by simp) _).setNew (p:=⟨w,1,none⟩) (by simp) _).setNew (p:=⟨w,2,none⟩) (by simp) _
 . go_enter Tryz.func89,Tryz.ntmps89;go_wp2_with fail;refine(aR0 g _ j).mono ?_;rintro e n ⟨⟨x,hx,rfl⟩,c,hb1⟩;have a:=i.but hb1 (by omega);have b:=a.cell;have l:=a.free;go_wp2;refine aF (v:=.agg #[(5:Int),zO,x]) (by simp[results,Tryz.results89,go_sem,b]) rfl ⟨⟨⟨5,0,x⟩,?_,⟨by unfold gV;simp,by simp⟩,rfl,rfl⟩,?_,?_⟩
   . simp[bT];omega
   . exact lY c a (by omega) _ _ _
   . exact(((d.trans hb1).setNew (p:=⟨w,0,none⟩) (by simp) _).setNew (p:=⟨w,1,none⟩) (by simp) _).setNew (p:=⟨w,2,none⟩) (by simp) _
def cB4 (B most:Nat) (w:World) (g:Nat) (e:Ending) (w':World):Prop:=∃(A:Option Addr) (n c:Nat) (cs:List Int),e=.returned (.slice A n c)∧n=cs.length∧ClJ B g w' A n cs∧iC cs=true∧n≤most∧CaseAt w' g∧But (· = g) w w'
theorem bZ6 {cs:List Int}{y:Int}(h:iC cs=true)(a:3<=y/\y<=5):iC (cs++[y])=true:=by
 unfold iC at h ⊢;rw[List.all_append,h];simp[a]
set_option maxRecDepth 100000 in
theorem bD4 (B:Nat)(g:Nat)(W:Nat)(hW:W<=12)(w:World)(hc:CaseAt w g):Calls Tryz.prog 29 #[.pointer (some ⟨g,0,none⟩),(W:Int)] w fun e w'=>cB4 B W w g e w':=by
 obtain⟨N,hi,K,L,M⟩:=info_parts bX8;have I:=hc.lt;go_enter Tryz.func29,Tryz.ntmps29;go_wp2_with fail;refine(gE g ((W:Int)+1) _ hc (by omega) (by omega)).mono ?_;rintro e S ⟨⟨y,j,u,rfl⟩,r,hb1⟩;obtain⟨x,rfl⟩:=bO j;have t:x<=W:=by omega
 clear j u;go_wp2_with fail;go_loopw [5,6] (fun v i wr=>∃(k:Nat) (cs:List Int) (A:Option Addr) (c:Nat),k<=W/\cs.length+k<=W/\i=.int .i64 (k:Int)/\v=.slice A cs.length c/\Hid (wr.ownsRow w 3 1 (.slice A cs.length c) cs.length (cs.flatMap xS))/\Hid (iC cs=true)/\Hid (CaseAt wr g)/\Hid (But (· = g) w wr)) (fun _ i _=>(intOf i).toNat);case atStart=>exact⟨x,[],none,0,t,by simpa using t,rfl,rfl,Z ⟨by simp,.inl ⟨rfl,rfl⟩⟩,Z rfl,Z r,Z hb1⟩
 case round =>
  clear r hb1;obtain⟨k,cs,A,c,hk,Q,rfl,rfl,a,n,d,HB⟩:=hrel;by_cases hlt:0<k
  . go_wp2_with fail;refine(gE g 3 _ d.out (by omega) (by omega)).mono ?_;rintro e l ⟨⟨y,j,u,rfl⟩,s,hb2⟩;have E:Hid (3<=3+y/\3+y<=5):=Z (by omega);have D:=Z (fB a.out hb2 (fun q hq=>by have:=(cN a.out hq).1;omega));have z:=Z s;have m:=Z (HB.out.trans hb2);have hsz:w.heap.size<=l.heap.size:=m.out.size;clear s hb2 a d HB;go_wp2_with (at_builtin;refine cB (by rfl) (.tmp 15) (.tmp 19) _ (by rfl) w 3 N _ 1 8 Tryz.underlying65 hi K L M (by rfl) (by omega) (.slice A cs.length c) cs.length _ (by rfl) l #[.int .i64 (3+y)] D.out l (by rfl) (by rfl) (by rfl) (one_i64 (3+y)) (by simp only[maxLen];omega) (by omega) hsz ?_;intro G F T J P p O R);go_roundw;case rel=>refine⟨k-1,cs++[3+y],some ⟨G,0,none⟩,F,by omega,by simp;omega,congrArg (Value.int .i64) (by omega),by simp,Z ?_,Z (bZ6 n.out E.out),Z (pJ z.out p I),Z (qW m.out p (aD _))⟩;rw[aP,cF];exact J
    case measure=>simp[intOf];omega
  . have C:Hid (cB4 B W w g (.returned (.slice A cs.length c)) wr):=Z ⟨A,cs.length,c,cs,rfl,rfl,⟨cC3 bY0 rfl a.out,fun hn b o H=>by
     have h1:=cN a.out (k:=b) (by rw[H];rfl);exact⟨by omega,.inr h1.2.2⟩⟩,n.out,by omega,d.out,HB.out⟩
    go_wp2;go_ret;exact C.out
theorem info_od:(Tryz.prog.info? 61).map (fun i=>(i.zero,i.size,i.bytes))=some (some (.agg #[.int .i64 0,.int .i64 0,.int .i64 0,.int .i64 0,.string ⟨#[]⟩]),5,48):=by kernel_rfl
structure OdOk (cols:List Int) (k:Int) (o:Od):Prop where
 rg:iR o.v
 kd:dJ cols [] o=k
def OpdR (cols:List Int) (k:Int) (w:World) (g:Nat) (e:Ending) (w':World):Prop:=∃o:Od,e=.returned (.agg #[.int .i64 o.k,.int .i64 o.ix,.int .i64 o.v.k,.int .i64 o.v.i,.string o.v.t])∧OdOk cols k o∧CaseAt w' g∧But (· = g) w w'
def opC (i:Nat):List Value:=[.int .i64 1,.int .i64 (i:Int),.int .i64 0,.int .i64 0,.string ⟨#[]⟩]
theorem opC_len (i:Nat):(opC i).length=5:=rfl
theorem one_op (i:Nat):∀u∈opC i,u.oneCell'=true:=by simp[opC,Value.oneCell']
theorem od_col {cols:List Int}{k:Int}{i:Nat}(h:cols[i]?=some k):OdOk cols k ⟨1,(i:Int),bE⟩:=by
 have a:=(List.getElem?_eq_some_iff.1 h).1;refine⟨⟨by show gV<=(0:Int);decide,by show(0:Int)<=9223372036854775807;decide⟩,?_⟩;unfold dJ;rw[if_neg (by show ¬(1:Int)=3;decide),if_pos rfl,if_pos ⟨by show(0:Int)<=(i:Int);omega,by show(i:Int)<_;omega,rfl⟩];show cols.getD ((i:Int).toNat) 0=k;rw[Int.toNat_natCast,List.getD_eq_getElem?_getD,h];rfl
theorem bW2 {cols:List Int}{k:Int}{v:Vl}(c:bT v=true)(b:iR v)(a:v.k=k)(d:k=3\/k=4\/k=5):OdOk cols k ⟨3,0,v⟩:=by
 refine⟨b,?_⟩;unfold dJ;rw[if_pos rfl,if_pos ⟨rfl,hG.2 ⟨c,by show 3<=v.k;omega⟩⟩];exact a
theorem lX {w w':World}{g U:Nat}(h:CaseAt w g)(hb:But (· = U) w w')(a:g<U):CaseAt w' g:=h.far hb fun b e=>by omega
theorem sL {w0 w w':World}{g U:Nat}(h:But (· = g) w0 w)(hb:But (· = U) w w')(a:w0.heap.size<=U):But (· = g) w0 w':=h.then hb fun q e=>by omega
set_option maxRecDepth 100000 in
theorem xG (B:Nat)(g:Nat)(cols:List Int)(a9:Option Addr)(s c4:Nat)(d:Int)(w:World)(hc:CaseAt w g)(hl:ClJ B g w a9 s cols)(hn:s<=12)(hk:d=3\/d=4\/d=5):Calls Tryz.prog 127 #[.pointer (some ⟨g,0,none⟩),.slice a9 s c4,zN,d] w fun e w'=>OpdR cols d w g e w':=by
 obtain⟨i1,hi,b9,c0,c1⟩:=info_parts info_od;have d7:=hc.lt;obtain⟨W0,E⟩:∃W:World,Hid (w.alloc (.cells #[zO,zO,zO,zO,zS] 61)=W):=⟨_,rfl⟩;have a:Hid (aT W0 w 61 #[zO,zO,zO,zO,zS]):=by rw[<- E.out];exact Z (aT.new _ _ _)
 have b0:Hid (But (· = g) w W0):=by rw[<- E.out];exact Z (But.alloc _ _)
 have b1:Hid (CaseAt W0 g):=by rw[<- E.out];exact Z (hc.below ((aB _ _).alloc (aD _) _))
 have r:Hid (W0.heap.size=w.heap.size+1):=by rw[<- E.out];exact Z (by simp)
 have b2:=Z hl;have O:=Z hk;clear hc hl hk;obtain⟨T,n⟩:=zE (w.heap.size);rw[n.out]at a r;go_enter Tryz.func127,Tryz.ntmps127;go_wp2_with fail;rw[E.out,n.out];go_loopw [9,17] (fun x i wr=>∃(k:Nat) (l:List Nat) (A:Option Addr) (c:Nat),k<=s/\i=.int .i64 (k:Int)/\x=.slice A l.length c/\Hid (l.length<=k)/\Hid (wr.ownsRow W0 61 5 (.slice A l.length c) l.length (l.flatMap opC))/\Hid (∀i∈l,cols[i]?=some d)/\Hid (CaseAt wr g)/\Hid (aT wr T 61 #[zO,zO,zO,zO,zS])/\Hid (But (· = g) w wr)) (fun _ i _=>s-(intOf i).toNat);case atStart=>exact⟨0,[],none,0,by omega,rfl,rfl,Z (aD _),Z ⟨by simp,.inl ⟨rfl,rfl⟩⟩,Z (fun i h=>by cases h),b1,a,b0⟩
 case round =>
  clear b1 a b0;obtain⟨k,l,A,c,d8,rfl,rfl,L,p,K,j,a,HB⟩:=hrel;by_cases hlt:k<s
  . obtain⟨d0,e1,x,rfl,hx,m⟩:=(b2.out.case HB.out).sl.at hlt;have S:=m 0 _ rfl;simp only[Nat.mul_one,bX]at S;have c2:=Z hx;clear hx m;by_cases X:x=d
    . subst X;have hsz:W0.heap.size<=wr.heap.size:=(by rw[r.out];have:=a.out.lt;omega);have c5:=L.out;go_wp2_with (at_builtin;refine cB (by rfl) (.tmp 25) (.tmp 28) _ (by rfl) W0 61 i1 _ 5 48 Tryz.underlying210 hi b9 c0 c1 (by rfl) (by omega) (.slice A l.length c) l.length _ (by rfl) wr _ p.out wr (by rfl) (by rfl) (by rfl) (one_op k) (by simp only[maxLen];omega) (by omega) hsz ?_;intro g6 c3 w6 c7 d6 U d5 d9);go_roundw;case rel =>
       refine⟨k+1,l++[k],some ⟨g6,0,none⟩,c3,by omega,by go_num,by simp,Z (by simp;omega),Z ?_,Z (fun i hi=>?_),Z (pJ j.out U (by have:=r.out;have:=n.out;omega)),Z ?_,Z (qW HB.out U (by have:=r.out;have:=n.out;omega))⟩
       . rw[aP,cF];exact c7
       . rcases List.mem_append.1 hi with hi|hi
         . exact K.out i hi
         . rw[List.mem_singleton.1 hi];exact c2.out
       . exact(U.block T (by have:=r.out;omega)).trans a.out
      case measure=>simp[intOf];omega
    . have g1:(x == d)=false:=(by simp[X]);clear X;go_wp2;go_roundw;case rel=>exact⟨k+1,l,A,c,by omega,by go_num,rfl,Z (by have:=L.out;omega),p,K,j,a,HB⟩
      case measure=>simp[intOf];omega
  . obtain rfl:k=s:=(by omega);have c5:=L.out;go_wp2_with fail;go_loopw [9,33] (fun x i c9=>x=.slice A l.length c/\i=zO/\c9=wr) (fun _ _ _=>0);case atStart=>exact⟨rfl,rfl,rfl⟩
    case round =>
     obtain⟨rfl,rfl,rfl⟩:=hrel;go_wp2_with fail;refine(gE g ((l.length:Int)+1) _ j.out (by omega) (by omega)).mono ?_;rintro e w2 ⟨⟨y,b8,c8,rfl⟩,b3,hb2⟩;obtain⟨n0,rfl⟩:=bO b8;have e0:n0<=l.length:=(by omega);clear b8 c8;have P:Hid (T≠g):=Z (j.out.ne a.out (by decide));replace p:=Z (fB p.out hb2 (fun q hq=>by have:=(cN p.out hq).1;have:=r.out;have:=n.out;omega));replace a:=Z (a.out.but hb2 P.out);replace HB:=Z (HB.out.trans hb2);replace j:=Z b3;clear b3 hb2;have Q:Hid (g<T):=Z (by have:=n.out;omega);have R:Hid (w.heap.size<=T):=Z (by have:=n.out;omega);by_cases c6:n0<l.length
     . obtain⟨b,o,x,rfl,hx,m⟩:=(cC3 opC_len rfl p.out).at c6;have S:=m 0 _ rfl;have d1:=m 1 _ rfl;have d2:=m 2 _ rfl;have d3:=m 3 _ rfl;have d4:=m 4 _ rfl;simp only[bX]at S;have M:=Z (od_col (K.out x (aJ hx)));have G:Hid (OpdR cols d w g (.returned (.agg #[(1:Int),(x:Int),zO,zO,zS])) (mB w2 T 0 [(1:Int),(x:Int),zO,zO,zS])):=Z ⟨_,rfl,M.out,lX j.out (fE _ _ _ _) Q.out,sL HB.out (fE _ _ _ _) R.out⟩;have t:=hQ [] 0 a.out;have Y:=t.cell;have a4:=t.free;have u:=hQ [(1:Int)] 0 a.out;have a0:=u.cell;have a5:=u.free;have z:=hQ [(1:Int),(x:Int)] 0 a.out;have a1:=z.cell;have a6:=z.free;have C:=hQ [(1:Int),(x:Int),zO] 0 a.out;have a2:=C.cell;have a7:=C.free;have D:=hQ [(1:Int),(x:Int),zO,zO] 0 a.out;have a3:=D.cell;have a8:=D.free;have I:=hQ [(1:Int),(x:Int),zO,zO,zS] 0 a.out;have J:=I.cell;simp only[mB,putA,cA,Nat.reduceAdd]at Y a0 a1 a2 a3 J a4 a5 a6 a7 a8;clear t u z C D I;simp only[mB,cA,Nat.reduceAdd]at G;clear hx m b2 p K L j HB n R Q r E hi b9 c0 c1 P M O;go_wp2;exact aF (v:=.agg #[(1:Int),(x:Int),zO,zO,zS]) (by simp[results,Tryz.results127,go_sem,J]) rfl G.out
     . go_wp2_with fail;refine(yT g d _ j.out O.out).mono ?_;rintro e w4 ⟨⟨⟨F,H,N⟩,b5,b6,b7,rfl⟩,b4,V⟩;have M:=Z (bW2 (cols:=cols) b5 b6 b7 O.out);replace a:=Z (a.out.but V P.out);replace HB:=Z (HB.out.trans V);replace j:=Z b4;clear b4 V b5 b6 b7;have G:Hid (OpdR cols d w g (.returned (.agg #[(3:Int),zO,F,H,N])) (mB w4 T 0 [(3:Int),zO,F,H,N])):=Z ⟨_,rfl,M.out,lX j.out (fE _ _ _ _) Q.out,sL HB.out (fE _ _ _ _) R.out⟩;have t:=hQ [] 0 a.out;have Y:=t.cell;have a4:=t.free;have u:=hQ [(3:Int)] 0 a.out;have a0:=u.cell;have a5:=u.free;have z:=hQ [(3:Int),zO] 0 a.out;have a1:=z.cell;have a6:=z.free;have C:=hQ [(3:Int),zO,F] 0 a.out;have a2:=C.cell;have a7:=C.free;have D:=hQ [(3:Int),zO,F,H] 0 a.out;have a3:=D.cell;have a8:=D.free;have I:=hQ [(3:Int),zO,F,H,N] 0 a.out;have J:=I.cell;simp only[mB,putA,cA,Nat.reduceAdd]at Y a0 a1 a2 a3 J a4 a5 a6 a7 a8;clear t u z C D I;simp only[mB,cA,Nat.reduceAdd]at G;go_wp2;exact aF (v:=.agg #[(3:Int),zO,F,H,N]) (by simp[results,Tryz.results127,go_sem,J]) rfl G.out
theorem qJ {w:World}{U:Nat}{T:TypeId}{N z y x u t r q p n m k j:Value}(h:aT w U T #[N,z,y,x,u,t,r,q,p,n,m,k,j])(a b c v3 v4 v5 d e g l o s v:Value) :
 (∀i,(w).cell? ⟨U,i,none⟩=(#[N,z,y,x,u,t,r,q,p,n,m,k,j]:Array Value)[i]?) /\
 (∀i,(w).frozen? ⟨U,i,none⟩=false) /\
 (∀i,((w).setCell ⟨U,0,none⟩ a).cell? ⟨U,i,none⟩=(#[a,z,y,x,u,t,r,q,p,n,m,k,j]:Array Value)[i]?) /\
 (∀i,((w).setCell ⟨U,0,none⟩ a).frozen? ⟨U,i,none⟩=false) /\
 (∀i,(((w).setCell ⟨U,0,none⟩ a).setCell ⟨U,1,none⟩ b).cell? ⟨U,i,none⟩=(#[a,b,y,x,u,t,r,q,p,n,m,k,j]:Array Value)[i]?) /\
 (∀i,(((w).setCell ⟨U,0,none⟩ a).setCell ⟨U,1,none⟩ b).frozen? ⟨U,i,none⟩=false) /\
 (∀i,((((w).setCell ⟨U,0,none⟩ a).setCell ⟨U,1,none⟩ b).setCell ⟨U,2,none⟩ c).cell? ⟨U,i,none⟩=(#[a,b,c,x,u,t,r,q,p,n,m,k,j]:Array Value)[i]?) /\
 (∀i,((((w).setCell ⟨U,0,none⟩ a).setCell ⟨U,1,none⟩ b).setCell ⟨U,2,none⟩ c).frozen? ⟨U,i,none⟩=false) /\
 (∀i,(((((w).setCell ⟨U,0,none⟩ a).setCell ⟨U,1,none⟩ b).setCell ⟨U,2,none⟩ c).setCell ⟨U,3,none⟩ v3).cell? ⟨U,i,none⟩=(#[a,b,c,v3,u,t,r,q,p,n,m,k,j]:Array Value)[i]?) /\
 (∀i,(((((w).setCell ⟨U,0,none⟩ a).setCell ⟨U,1,none⟩ b).setCell ⟨U,2,none⟩ c).setCell ⟨U,3,none⟩ v3).frozen? ⟨U,i,none⟩=false) /\
 (∀i,((((((w).setCell ⟨U,0,none⟩ a).setCell ⟨U,1,none⟩ b).setCell ⟨U,2,none⟩ c).setCell ⟨U,3,none⟩ v3).setCell ⟨U,4,none⟩ v4).cell? ⟨U,i,none⟩=(#[a,b,c,v3,v4,t,r,q,p,n,m,k,j]:Array Value)[i]?) /\
 (∀i,((((((w).setCell ⟨U,0,none⟩ a).setCell ⟨U,1,none⟩ b).setCell ⟨U,2,none⟩ c).setCell ⟨U,3,none⟩ v3).setCell ⟨U,4,none⟩ v4).frozen? ⟨U,i,none⟩=false) /\
 (∀i,(((((((w).setCell ⟨U,0,none⟩ a).setCell ⟨U,1,none⟩ b).setCell ⟨U,2,none⟩ c).setCell ⟨U,3,none⟩ v3).setCell ⟨U,4,none⟩ v4).setCell ⟨U,5,none⟩ v5).cell? ⟨U,i,none⟩=(#[a,b,c,v3,v4,v5,r,q,p,n,m,k,j]:Array Value)[i]?) /\
 (∀i,(((((((w).setCell ⟨U,0,none⟩ a).setCell ⟨U,1,none⟩ b).setCell ⟨U,2,none⟩ c).setCell ⟨U,3,none⟩ v3).setCell ⟨U,4,none⟩ v4).setCell ⟨U,5,none⟩ v5).frozen? ⟨U,i,none⟩=false) /\
 (∀i,((((((((w).setCell ⟨U,0,none⟩ a).setCell ⟨U,1,none⟩ b).setCell ⟨U,2,none⟩ c).setCell ⟨U,3,none⟩ v3).setCell ⟨U,4,none⟩ v4).setCell ⟨U,5,none⟩ v5).setCell ⟨U,6,none⟩ d).cell? ⟨U,i,none⟩=(#[a,b,c,v3,v4,v5,d,q,p,n,m,k,j]:Array Value)[i]?) /\
 (∀i,((((((((w).setCell ⟨U,0,none⟩ a).setCell ⟨U,1,none⟩ b).setCell ⟨U,2,none⟩ c).setCell ⟨U,3,none⟩ v3).setCell ⟨U,4,none⟩ v4).setCell ⟨U,5,none⟩ v5).setCell ⟨U,6,none⟩ d).frozen? ⟨U,i,none⟩=false) /\
 (∀i,(((((((((w).setCell ⟨U,0,none⟩ a).setCell ⟨U,1,none⟩ b).setCell ⟨U,2,none⟩ c).setCell ⟨U,3,none⟩ v3).setCell ⟨U,4,none⟩ v4).setCell ⟨U,5,none⟩ v5).setCell ⟨U,6,none⟩ d).setCell ⟨U,7,none⟩ e).cell? ⟨U,i,none⟩=(#[a,b,c,v3,v4,v5,d,e,p,n,m,k,j]:Array Value)[i]?) /\
 (∀i,(((((((((w).setCell ⟨U,0,none⟩ a).setCell ⟨U,1,none⟩ b).setCell ⟨U,2,none⟩ c).setCell ⟨U,3,none⟩ v3).setCell ⟨U,4,none⟩ v4).setCell ⟨U,5,none⟩ v5).setCell ⟨U,6,none⟩ d).setCell ⟨U,7,none⟩ e).frozen? ⟨U,i,none⟩=false) /\
 (∀i,((((((((((w).setCell ⟨U,0,none⟩ a).setCell ⟨U,1,none⟩ b).setCell ⟨U,2,none⟩ c).setCell ⟨U,3,none⟩ v3).setCell ⟨U,4,none⟩ v4).setCell ⟨U,5,none⟩ v5).setCell ⟨U,6,none⟩ d).setCell ⟨U,7,none⟩ e).setCell ⟨U,8,none⟩ g).cell? ⟨U,i,none⟩=(#[a,b,c,v3,v4,v5,d,e,g,n,m,k,j]:Array Value)[i]?) /\
 (∀i,((((((((((w).setCell ⟨U,0,none⟩ a).setCell ⟨U,1,none⟩ b).setCell ⟨U,2,none⟩ c).setCell ⟨U,3,none⟩ v3).setCell ⟨U,4,none⟩ v4).setCell ⟨U,5,none⟩ v5).setCell ⟨U,6,none⟩ d).setCell ⟨U,7,none⟩ e).setCell ⟨U,8,none⟩ g).frozen? ⟨U,i,none⟩=false) /\
 (∀i,(((((((((((w).setCell ⟨U,0,none⟩ a).setCell ⟨U,1,none⟩ b).setCell ⟨U,2,none⟩ c).setCell ⟨U,3,none⟩ v3).setCell ⟨U,4,none⟩ v4).setCell ⟨U,5,none⟩ v5).setCell ⟨U,6,none⟩ d).setCell ⟨U,7,none⟩ e).setCell ⟨U,8,none⟩ g).setCell ⟨U,9,none⟩ l).cell? ⟨U,i,none⟩=(#[a,b,c,v3,v4,v5,d,e,g,l,m,k,j]:Array Value)[i]?) /\
 (∀i,(((((((((((w).setCell ⟨U,0,none⟩ a).setCell ⟨U,1,none⟩ b).setCell ⟨U,2,none⟩ c).setCell ⟨U,3,none⟩ v3).setCell ⟨U,4,none⟩ v4).setCell ⟨U,5,none⟩ v5).setCell ⟨U,6,none⟩ d).setCell ⟨U,7,none⟩ e).setCell ⟨U,8,none⟩ g).setCell ⟨U,9,none⟩ l).frozen? ⟨U,i,none⟩=false) /\
 (∀i,((((((((((((w).setCell ⟨U,0,none⟩ a).setCell ⟨U,1,none⟩ b).setCell ⟨U,2,none⟩ c).setCell ⟨U,3,none⟩ v3).setCell ⟨U,4,none⟩ v4).setCell ⟨U,5,none⟩ v5).setCell ⟨U,6,none⟩ d).setCell ⟨U,7,none⟩ e).setCell ⟨U,8,none⟩ g).setCell ⟨U,9,none⟩ l).setCell ⟨U,10,none⟩ o).cell? ⟨U,i,none⟩=(#[a,b,c,v3,v4,v5,d,e,g,l,o,k,j]:Array Value)[i]?) /\
 (∀i,((((((((((((w).setCell ⟨U,0,none⟩ a).setCell ⟨U,1,none⟩ b).setCell ⟨U,2,none⟩ c).setCell ⟨U,3,none⟩ v3).setCell ⟨U,4,none⟩ v4).setCell ⟨U,5,none⟩ v5).setCell ⟨U,6,none⟩ d).setCell ⟨U,7,none⟩ e).setCell ⟨U,8,none⟩ g).setCell ⟨U,9,none⟩ l).setCell ⟨U,10,none⟩ o).frozen? ⟨U,i,none⟩=false) /\
 (∀i,(((((((((((((w).setCell ⟨U,0,none⟩ a).setCell ⟨U,1,none⟩ b).setCell ⟨U,2,none⟩ c).setCell ⟨U,3,none⟩ v3).setCell ⟨U,4,none⟩ v4).setCell ⟨U,5,none⟩ v5).setCell ⟨U,6,none⟩ d).setCell ⟨U,7,none⟩ e).setCell ⟨U,8,none⟩ g).setCell ⟨U,9,none⟩ l).setCell ⟨U,10,none⟩ o).setCell ⟨U,11,none⟩ s).cell? ⟨U,i,none⟩=(#[a,b,c,v3,v4,v5,d,e,g,l,o,s,j]:Array Value)[i]?) /\
 (∀i,(((((((((((((w).setCell ⟨U,0,none⟩ a).setCell ⟨U,1,none⟩ b).setCell ⟨U,2,none⟩ c).setCell ⟨U,3,none⟩ v3).setCell ⟨U,4,none⟩ v4).setCell ⟨U,5,none⟩ v5).setCell ⟨U,6,none⟩ d).setCell ⟨U,7,none⟩ e).setCell ⟨U,8,none⟩ g).setCell ⟨U,9,none⟩ l).setCell ⟨U,10,none⟩ o).setCell ⟨U,11,none⟩ s).frozen? ⟨U,i,none⟩=false) /\
 (∀i,((((((((((((((w).setCell ⟨U,0,none⟩ a).setCell ⟨U,1,none⟩ b).setCell ⟨U,2,none⟩ c).setCell ⟨U,3,none⟩ v3).setCell ⟨U,4,none⟩ v4).setCell ⟨U,5,none⟩ v5).setCell ⟨U,6,none⟩ d).setCell ⟨U,7,none⟩ e).setCell ⟨U,8,none⟩ g).setCell ⟨U,9,none⟩ l).setCell ⟨U,10,none⟩ o).setCell ⟨U,11,none⟩ s).setCell ⟨U,12,none⟩ v).cell? ⟨U,i,none⟩=(#[a,b,c,v3,v4,v5,d,e,g,l,o,s,v]:Array Value)[i]?) /\
 aT ((((((((((((((w).setCell ⟨U,0,none⟩ a).setCell ⟨U,1,none⟩ b).setCell ⟨U,2,none⟩ c).setCell ⟨U,3,none⟩ v3).setCell ⟨U,4,none⟩ v4).setCell ⟨U,5,none⟩ v5).setCell ⟨U,6,none⟩ d).setCell ⟨U,7,none⟩ e).setCell ⟨U,8,none⟩ g).setCell ⟨U,9,none⟩ l).setCell ⟨U,10,none⟩ o).setCell ⟨U,11,none⟩ s).setCell ⟨U,12,none⟩ v) U T #[a,b,c,v3,v4,v5,d,e,g,l,o,s,v] /\
 mB w U 0 [a,b,c,v3,v4,v5,d,e,g,l,o,s,v]=(((((((((((((w).setCell ⟨U,0,none⟩ a).setCell ⟨U,1,none⟩ b).setCell ⟨U,2,none⟩ c).setCell ⟨U,3,none⟩ v3).setCell ⟨U,4,none⟩ v4).setCell ⟨U,5,none⟩ v5).setCell ⟨U,6,none⟩ d).setCell ⟨U,7,none⟩ e).setCell ⟨U,8,none⟩ g).setCell ⟨U,9,none⟩ l).setCell ⟨U,10,none⟩ o).setCell ⟨U,11,none⟩ s).setCell ⟨U,12,none⟩ v:=by
 have A:=h;have B:aT ((w).setCell ⟨U,0,none⟩ a) U T #[a,z,y,x,u,t,r,q,p,n,m,k,j]:=A.set_ 0 a;have F:aT (((w).setCell ⟨U,0,none⟩ a).setCell ⟨U,1,none⟩ b) U T #[a,b,y,x,u,t,r,q,p,n,m,k,j]:=B.set_ 1 b;have G:aT ((((w).setCell ⟨U,0,none⟩ a).setCell ⟨U,1,none⟩ b).setCell ⟨U,2,none⟩ c) U T #[a,b,c,x,u,t,r,q,p,n,m,k,j]:=F.set_ 2 c;have H:aT (((((w).setCell ⟨U,0,none⟩ a).setCell ⟨U,1,none⟩ b).setCell ⟨U,2,none⟩ c).setCell ⟨U,3,none⟩ v3) U T #[a,b,c,v3,u,t,r,q,p,n,m,k,j]:=G.set_ 3 v3;have I:aT ((((((w).setCell ⟨U,0,none⟩ a).setCell ⟨U,1,none⟩ b).setCell ⟨U,2,none⟩ c).setCell ⟨U,3,none⟩ v3).setCell ⟨U,4,none⟩ v4) U T #[a,b,c,v3,v4,t,r,q,p,n,m,k,j]:=H.set_ 4 v4;have J:aT (((((((w).setCell ⟨U,0,none⟩ a).setCell ⟨U,1,none⟩ b).setCell ⟨U,2,none⟩ c).setCell ⟨U,3,none⟩ v3).setCell ⟨U,4,none⟩ v4).setCell ⟨U,5,none⟩ v5) U T #[a,b,c,v3,v4,v5,r,q,p,n,m,k,j]:=I.set_ 5 v5;have K:aT ((((((((w).setCell ⟨U,0,none⟩ a).setCell ⟨U,1,none⟩ b).setCell ⟨U,2,none⟩ c).setCell ⟨U,3,none⟩ v3).setCell ⟨U,4,none⟩ v4).setCell ⟨U,5,none⟩ v5).setCell ⟨U,6,none⟩ d) U T #[a,b,c,v3,v4,v5,d,q,p,n,m,k,j]:=J.set_ 6 d;have L:aT (((((((((w).setCell ⟨U,0,none⟩ a).setCell ⟨U,1,none⟩ b).setCell ⟨U,2,none⟩ c).setCell ⟨U,3,none⟩ v3).setCell ⟨U,4,none⟩ v4).setCell ⟨U,5,none⟩ v5).setCell ⟨U,6,none⟩ d).setCell ⟨U,7,none⟩ e) U T #[a,b,c,v3,v4,v5,d,e,p,n,m,k,j]:=K.set_ 7 e;have M:aT ((((((((((w).setCell ⟨U,0,none⟩ a).setCell ⟨U,1,none⟩ b).setCell ⟨U,2,none⟩ c).setCell ⟨U,3,none⟩ v3).setCell ⟨U,4,none⟩ v4).setCell ⟨U,5,none⟩ v5).setCell ⟨U,6,none⟩ d).setCell ⟨U,7,none⟩ e).setCell ⟨U,8,none⟩ g) U T #[a,b,c,v3,v4,v5,d,e,g,n,m,k,j]:=L.set_ 8 g;have C:aT (((((((((((w).setCell ⟨U,0,none⟩ a).setCell ⟨U,1,none⟩ b).setCell ⟨U,2,none⟩ c).setCell ⟨U,3,none⟩ v3).setCell ⟨U,4,none⟩ v4).setCell ⟨U,5,none⟩ v5).setCell ⟨U,6,none⟩ d).setCell ⟨U,7,none⟩ e).setCell ⟨U,8,none⟩ g).setCell ⟨U,9,none⟩ l) U T #[a,b,c,v3,v4,v5,d,e,g,l,m,k,j]:=M.set_ 9 l;have D:aT ((((((((((((w).setCell ⟨U,0,none⟩ a).setCell ⟨U,1,none⟩ b).setCell ⟨U,2,none⟩ c).setCell ⟨U,3,none⟩ v3).setCell ⟨U,4,none⟩ v4).setCell ⟨U,5,none⟩ v5).setCell ⟨U,6,none⟩ d).setCell ⟨U,7,none⟩ e).setCell ⟨U,8,none⟩ g).setCell ⟨U,9,none⟩ l).setCell ⟨U,10,none⟩ o) U T #[a,b,c,v3,v4,v5,d,e,g,l,o,k,j]:=C.set_ 10 o;have E:aT (((((((((((((w).setCell ⟨U,0,none⟩ a).setCell ⟨U,1,none⟩ b).setCell ⟨U,2,none⟩ c).setCell ⟨U,3,none⟩ v3).setCell ⟨U,4,none⟩ v4).setCell ⟨U,5,none⟩ v5).setCell ⟨U,6,none⟩ d).setCell ⟨U,7,none⟩ e).setCell ⟨U,8,none⟩ g).setCell ⟨U,9,none⟩ l).setCell ⟨U,10,none⟩ o).setCell ⟨U,11,none⟩ s) U T #[a,b,c,v3,v4,v5,d,e,g,l,o,s,j]:=D.set_ 11 s;have O:aT ((((((((((((((w).setCell ⟨U,0,none⟩ a).setCell ⟨U,1,none⟩ b).setCell ⟨U,2,none⟩ c).setCell ⟨U,3,none⟩ v3).setCell ⟨U,4,none⟩ v4).setCell ⟨U,5,none⟩ v5).setCell ⟨U,6,none⟩ d).setCell ⟨U,7,none⟩ e).setCell ⟨U,8,none⟩ g).setCell ⟨U,9,none⟩ l).setCell ⟨U,10,none⟩ o).setCell ⟨U,11,none⟩ s).setCell ⟨U,12,none⟩ v) U T #[a,b,c,v3,v4,v5,d,e,g,l,o,s,v]:=E.set_ 12 v;exact⟨A.cell,A.free,B.cell,B.free,F.cell,F.free,G.cell,G.free,H.cell,H.free,I.cell,I.free,J.cell,J.free,K.cell,K.free,L.cell,L.free,M.cell,M.free,C.cell,C.free,D.cell,D.free,E.cell,E.free,O.cell,O,rfl⟩
theorem put5 {w:World}{U:Nat}{T:TypeId}{d e j k l m n y r q p o g:Value}(h:aT w U T #[d,e,j,k,l,m,n,y,r,q,p,o,g])(a b c v3 v4:Value) :
 (∀i,(w).cell? ⟨U,i,none⟩=(#[d,e,j,k,l,m,n,y,r,q,p,o,g]:Array Value)[i]?) /\
 (∀i,(w).frozen? ⟨U,i,none⟩=false) /\
 (∀i,((w).setCell ⟨U,7,none⟩ a).cell? ⟨U,i,none⟩=(#[d,e,j,k,l,m,n,a,r,q,p,o,g]:Array Value)[i]?) /\
 (∀i,((w).setCell ⟨U,7,none⟩ a).frozen? ⟨U,i,none⟩=false) /\
 (∀i,(((w).setCell ⟨U,7,none⟩ a).setCell ⟨U,8,none⟩ b).cell? ⟨U,i,none⟩=(#[d,e,j,k,l,m,n,a,b,q,p,o,g]:Array Value)[i]?) /\
 (∀i,(((w).setCell ⟨U,7,none⟩ a).setCell ⟨U,8,none⟩ b).frozen? ⟨U,i,none⟩=false) /\
 (∀i,((((w).setCell ⟨U,7,none⟩ a).setCell ⟨U,8,none⟩ b).setCell ⟨U,9,none⟩ c).cell? ⟨U,i,none⟩=(#[d,e,j,k,l,m,n,a,b,c,p,o,g]:Array Value)[i]?) /\
 (∀i,((((w).setCell ⟨U,7,none⟩ a).setCell ⟨U,8,none⟩ b).setCell ⟨U,9,none⟩ c).frozen? ⟨U,i,none⟩=false) /\
 (∀i,(((((w).setCell ⟨U,7,none⟩ a).setCell ⟨U,8,none⟩ b).setCell ⟨U,9,none⟩ c).setCell ⟨U,10,none⟩ v3).cell? ⟨U,i,none⟩=(#[d,e,j,k,l,m,n,a,b,c,v3,o,g]:Array Value)[i]?) /\
 (∀i,(((((w).setCell ⟨U,7,none⟩ a).setCell ⟨U,8,none⟩ b).setCell ⟨U,9,none⟩ c).setCell ⟨U,10,none⟩ v3).frozen? ⟨U,i,none⟩=false) /\
 (∀i,((((((w).setCell ⟨U,7,none⟩ a).setCell ⟨U,8,none⟩ b).setCell ⟨U,9,none⟩ c).setCell ⟨U,10,none⟩ v3).setCell ⟨U,11,none⟩ v4).cell? ⟨U,i,none⟩=(#[d,e,j,k,l,m,n,a,b,c,v3,v4,g]:Array Value)[i]?) /\
 aT ((((((w).setCell ⟨U,7,none⟩ a).setCell ⟨U,8,none⟩ b).setCell ⟨U,9,none⟩ c).setCell ⟨U,10,none⟩ v3).setCell ⟨U,11,none⟩ v4) U T #[d,e,j,k,l,m,n,a,b,c,v3,v4,g] /\
 mB w U 7 [a,b,c,v3,v4]=(((((w).setCell ⟨U,7,none⟩ a).setCell ⟨U,8,none⟩ b).setCell ⟨U,9,none⟩ c).setCell ⟨U,10,none⟩ v3).setCell ⟨U,11,none⟩ v4:=by
 have s:=h;have t:aT ((w).setCell ⟨U,7,none⟩ a) U T #[d,e,j,k,l,m,n,a,r,q,p,o,g]:=s.set_ 7 a;have u:aT (((w).setCell ⟨U,7,none⟩ a).setCell ⟨U,8,none⟩ b) U T #[d,e,j,k,l,m,n,a,b,q,p,o,g]:=t.set_ 8 b;have v:aT ((((w).setCell ⟨U,7,none⟩ a).setCell ⟨U,8,none⟩ b).setCell ⟨U,9,none⟩ c) U T #[d,e,j,k,l,m,n,a,b,c,p,o,g]:=u.set_ 9 c;have x:aT (((((w).setCell ⟨U,7,none⟩ a).setCell ⟨U,8,none⟩ b).setCell ⟨U,9,none⟩ c).setCell ⟨U,10,none⟩ v3) U T #[d,e,j,k,l,m,n,a,b,c,v3,o,g]:=v.set_ 10 v3;have z:aT ((((((w).setCell ⟨U,7,none⟩ a).setCell ⟨U,8,none⟩ b).setCell ⟨U,9,none⟩ c).setCell ⟨U,10,none⟩ v3).setCell ⟨U,11,none⟩ v4) U T #[d,e,j,k,l,m,n,a,b,c,v3,v4,g]:=x.set_ 11 v4;exact⟨s.cell,s.free,t.cell,t.free,u.cell,u.free,v.cell,v.free,x.cell,x.free,z.cell,z,rfl⟩
theorem put10 {w:World}{U:Nat}{T:TypeId}{e g H v u t r q o n m k j:Value}(h:aT w U T #[e,g,H,v,u,t,r,q,o,n,m,k,j])(a b c v3 v4 v5 d l p s:Value) :
 (∀i,(w).cell? ⟨U,i,none⟩=(#[e,g,H,v,u,t,r,q,o,n,m,k,j]:Array Value)[i]?) /\
 (∀i,(w).frozen? ⟨U,i,none⟩=false) /\
 (∀i,((w).setCell ⟨U,2,none⟩ a).cell? ⟨U,i,none⟩=(#[e,g,a,v,u,t,r,q,o,n,m,k,j]:Array Value)[i]?) /\
 (∀i,((w).setCell ⟨U,2,none⟩ a).frozen? ⟨U,i,none⟩=false) /\
 (∀i,(((w).setCell ⟨U,2,none⟩ a).setCell ⟨U,3,none⟩ b).cell? ⟨U,i,none⟩=(#[e,g,a,b,u,t,r,q,o,n,m,k,j]:Array Value)[i]?) /\
 (∀i,(((w).setCell ⟨U,2,none⟩ a).setCell ⟨U,3,none⟩ b).frozen? ⟨U,i,none⟩=false) /\
 (∀i,((((w).setCell ⟨U,2,none⟩ a).setCell ⟨U,3,none⟩ b).setCell ⟨U,4,none⟩ c).cell? ⟨U,i,none⟩=(#[e,g,a,b,c,t,r,q,o,n,m,k,j]:Array Value)[i]?) /\
 (∀i,((((w).setCell ⟨U,2,none⟩ a).setCell ⟨U,3,none⟩ b).setCell ⟨U,4,none⟩ c).frozen? ⟨U,i,none⟩=false) /\
 (∀i,(((((w).setCell ⟨U,2,none⟩ a).setCell ⟨U,3,none⟩ b).setCell ⟨U,4,none⟩ c).setCell ⟨U,5,none⟩ v3).cell? ⟨U,i,none⟩=(#[e,g,a,b,c,v3,r,q,o,n,m,k,j]:Array Value)[i]?) /\
 (∀i,(((((w).setCell ⟨U,2,none⟩ a).setCell ⟨U,3,none⟩ b).setCell ⟨U,4,none⟩ c).setCell ⟨U,5,none⟩ v3).frozen? ⟨U,i,none⟩=false) /\
 (∀i,((((((w).setCell ⟨U,2,none⟩ a).setCell ⟨U,3,none⟩ b).setCell ⟨U,4,none⟩ c).setCell ⟨U,5,none⟩ v3).setCell ⟨U,6,none⟩ v4).cell? ⟨U,i,none⟩=(#[e,g,a,b,c,v3,v4,q,o,n,m,k,j]:Array Value)[i]?) /\
 (∀i,((((((w).setCell ⟨U,2,none⟩ a).setCell ⟨U,3,none⟩ b).setCell ⟨U,4,none⟩ c).setCell ⟨U,5,none⟩ v3).setCell ⟨U,6,none⟩ v4).frozen? ⟨U,i,none⟩=false) /\
 (∀i,(((((((w).setCell ⟨U,2,none⟩ a).setCell ⟨U,3,none⟩ b).setCell ⟨U,4,none⟩ c).setCell ⟨U,5,none⟩ v3).setCell ⟨U,6,none⟩ v4).setCell ⟨U,7,none⟩ v5).cell? ⟨U,i,none⟩=(#[e,g,a,b,c,v3,v4,v5,o,n,m,k,j]:Array Value)[i]?) /\
 (∀i,(((((((w).setCell ⟨U,2,none⟩ a).setCell ⟨U,3,none⟩ b).setCell ⟨U,4,none⟩ c).setCell ⟨U,5,none⟩ v3).setCell ⟨U,6,none⟩ v4).setCell ⟨U,7,none⟩ v5).frozen? ⟨U,i,none⟩=false) /\
 (∀i,((((((((w).setCell ⟨U,2,none⟩ a).setCell ⟨U,3,none⟩ b).setCell ⟨U,4,none⟩ c).setCell ⟨U,5,none⟩ v3).setCell ⟨U,6,none⟩ v4).setCell ⟨U,7,none⟩ v5).setCell ⟨U,8,none⟩ d).cell? ⟨U,i,none⟩=(#[e,g,a,b,c,v3,v4,v5,d,n,m,k,j]:Array Value)[i]?) /\
 (∀i,((((((((w).setCell ⟨U,2,none⟩ a).setCell ⟨U,3,none⟩ b).setCell ⟨U,4,none⟩ c).setCell ⟨U,5,none⟩ v3).setCell ⟨U,6,none⟩ v4).setCell ⟨U,7,none⟩ v5).setCell ⟨U,8,none⟩ d).frozen? ⟨U,i,none⟩=false) /\
 (∀i,(((((((((w).setCell ⟨U,2,none⟩ a).setCell ⟨U,3,none⟩ b).setCell ⟨U,4,none⟩ c).setCell ⟨U,5,none⟩ v3).setCell ⟨U,6,none⟩ v4).setCell ⟨U,7,none⟩ v5).setCell ⟨U,8,none⟩ d).setCell ⟨U,9,none⟩ l).cell? ⟨U,i,none⟩=(#[e,g,a,b,c,v3,v4,v5,d,l,m,k,j]:Array Value)[i]?) /\
 (∀i,(((((((((w).setCell ⟨U,2,none⟩ a).setCell ⟨U,3,none⟩ b).setCell ⟨U,4,none⟩ c).setCell ⟨U,5,none⟩ v3).setCell ⟨U,6,none⟩ v4).setCell ⟨U,7,none⟩ v5).setCell ⟨U,8,none⟩ d).setCell ⟨U,9,none⟩ l).frozen? ⟨U,i,none⟩=false) /\
 (∀i,((((((((((w).setCell ⟨U,2,none⟩ a).setCell ⟨U,3,none⟩ b).setCell ⟨U,4,none⟩ c).setCell ⟨U,5,none⟩ v3).setCell ⟨U,6,none⟩ v4).setCell ⟨U,7,none⟩ v5).setCell ⟨U,8,none⟩ d).setCell ⟨U,9,none⟩ l).setCell ⟨U,10,none⟩ p).cell? ⟨U,i,none⟩=(#[e,g,a,b,c,v3,v4,v5,d,l,p,k,j]:Array Value)[i]?) /\
 (∀i,((((((((((w).setCell ⟨U,2,none⟩ a).setCell ⟨U,3,none⟩ b).setCell ⟨U,4,none⟩ c).setCell ⟨U,5,none⟩ v3).setCell ⟨U,6,none⟩ v4).setCell ⟨U,7,none⟩ v5).setCell ⟨U,8,none⟩ d).setCell ⟨U,9,none⟩ l).setCell ⟨U,10,none⟩ p).frozen? ⟨U,i,none⟩=false) /\
 (∀i,(((((((((((w).setCell ⟨U,2,none⟩ a).setCell ⟨U,3,none⟩ b).setCell ⟨U,4,none⟩ c).setCell ⟨U,5,none⟩ v3).setCell ⟨U,6,none⟩ v4).setCell ⟨U,7,none⟩ v5).setCell ⟨U,8,none⟩ d).setCell ⟨U,9,none⟩ l).setCell ⟨U,10,none⟩ p).setCell ⟨U,11,none⟩ s).cell? ⟨U,i,none⟩=(#[e,g,a,b,c,v3,v4,v5,d,l,p,s,j]:Array Value)[i]?) /\
 aT (((((((((((w).setCell ⟨U,2,none⟩ a).setCell ⟨U,3,none⟩ b).setCell ⟨U,4,none⟩ c).setCell ⟨U,5,none⟩ v3).setCell ⟨U,6,none⟩ v4).setCell ⟨U,7,none⟩ v5).setCell ⟨U,8,none⟩ d).setCell ⟨U,9,none⟩ l).setCell ⟨U,10,none⟩ p).setCell ⟨U,11,none⟩ s) U T #[e,g,a,b,c,v3,v4,v5,d,l,p,s,j] /\
 mB w U 2 [a,b,c,v3,v4,v5,d,l,p,s]=((((((((((w).setCell ⟨U,2,none⟩ a).setCell ⟨U,3,none⟩ b).setCell ⟨U,4,none⟩ c).setCell ⟨U,5,none⟩ v3).setCell ⟨U,6,none⟩ v4).setCell ⟨U,7,none⟩ v5).setCell ⟨U,8,none⟩ d).setCell ⟨U,9,none⟩ l).setCell ⟨U,10,none⟩ p).setCell ⟨U,11,none⟩ s:=by
 have x:=h;have y:aT ((w).setCell ⟨U,2,none⟩ a) U T #[e,g,a,v,u,t,r,q,o,n,m,k,j]:=x.set_ 2 a;have z:aT (((w).setCell ⟨U,2,none⟩ a).setCell ⟨U,3,none⟩ b) U T #[e,g,a,b,u,t,r,q,o,n,m,k,j]:=y.set_ 3 b;have A:aT ((((w).setCell ⟨U,2,none⟩ a).setCell ⟨U,3,none⟩ b).setCell ⟨U,4,none⟩ c) U T #[e,g,a,b,c,t,r,q,o,n,m,k,j]:=z.set_ 4 c;have B:aT (((((w).setCell ⟨U,2,none⟩ a).setCell ⟨U,3,none⟩ b).setCell ⟨U,4,none⟩ c).setCell ⟨U,5,none⟩ v3) U T #[e,g,a,b,c,v3,r,q,o,n,m,k,j]:=A.set_ 5 v3;have C:aT ((((((w).setCell ⟨U,2,none⟩ a).setCell ⟨U,3,none⟩ b).setCell ⟨U,4,none⟩ c).setCell ⟨U,5,none⟩ v3).setCell ⟨U,6,none⟩ v4) U T #[e,g,a,b,c,v3,v4,q,o,n,m,k,j]:=B.set_ 6 v4;have D:aT (((((((w).setCell ⟨U,2,none⟩ a).setCell ⟨U,3,none⟩ b).setCell ⟨U,4,none⟩ c).setCell ⟨U,5,none⟩ v3).setCell ⟨U,6,none⟩ v4).setCell ⟨U,7,none⟩ v5) U T #[e,g,a,b,c,v3,v4,v5,o,n,m,k,j]:=C.set_ 7 v5;have E:aT ((((((((w).setCell ⟨U,2,none⟩ a).setCell ⟨U,3,none⟩ b).setCell ⟨U,4,none⟩ c).setCell ⟨U,5,none⟩ v3).setCell ⟨U,6,none⟩ v4).setCell ⟨U,7,none⟩ v5).setCell ⟨U,8,none⟩ d) U T #[e,g,a,b,c,v3,v4,v5,d,n,m,k,j]:=D.set_ 8 d;have F:aT (((((((((w).setCell ⟨U,2,none⟩ a).setCell ⟨U,3,none⟩ b).setCell ⟨U,4,none⟩ c).setCell ⟨U,5,none⟩ v3).setCell ⟨U,6,none⟩ v4).setCell ⟨U,7,none⟩ v5).setCell ⟨U,8,none⟩ d).setCell ⟨U,9,none⟩ l) U T #[e,g,a,b,c,v3,v4,v5,d,l,m,k,j]:=E.set_ 9 l;have G:aT ((((((((((w).setCell ⟨U,2,none⟩ a).setCell ⟨U,3,none⟩ b).setCell ⟨U,4,none⟩ c).setCell ⟨U,5,none⟩ v3).setCell ⟨U,6,none⟩ v4).setCell ⟨U,7,none⟩ v5).setCell ⟨U,8,none⟩ d).setCell ⟨U,9,none⟩ l).setCell ⟨U,10,none⟩ p) U T #[e,g,a,b,c,v3,v4,v5,d,l,p,k,j]:=F.set_ 10 p;have I:aT (((((((((((w).setCell ⟨U,2,none⟩ a).setCell ⟨U,3,none⟩ b).setCell ⟨U,4,none⟩ c).setCell ⟨U,5,none⟩ v3).setCell ⟨U,6,none⟩ v4).setCell ⟨U,7,none⟩ v5).setCell ⟨U,8,none⟩ d).setCell ⟨U,9,none⟩ l).setCell ⟨U,10,none⟩ p).setCell ⟨U,11,none⟩ s) U T #[e,g,a,b,c,v3,v4,v5,d,l,p,s,j]:=G.set_ 11 s;exact⟨x.cell,x.free,y.cell,y.free,z.cell,z.free,A.cell,A.free,B.cell,B.free,C.cell,C.free,D.cell,D.free,E.cell,E.free,F.cell,F.free,G.cell,G.free,I.cell,I,rfl⟩
end
end Go.Proofs.YtnnmlhmffnfjfaaGreat
