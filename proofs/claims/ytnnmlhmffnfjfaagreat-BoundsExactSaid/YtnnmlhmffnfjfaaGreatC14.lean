/- Texts on which the walk stands. -/
import Derived.Laws.EntriesVeiled
import Derived.Test.YtnnmlhmffnfjfaaGreatC13
open Go.RowKit.Below renaming refl → aB, setCell → bC
open Nat renaming le_refl → aD, add_zero → bX, lt_of_lt_of_le → cC
open Go renaming bodyPost_ret → aF
open Bool renaming and_eq_true → aI, eq_iff_iff → bV
open List renaming getElem?_cons_zero → aL, getElem?_cons_succ → aO, getElem?_toArray → aY, getD_eq_getElem?_getD → bG
open Int renaming toNat_natCast → bM, eq_ofNat_of_zero_le → bO
open Option renaming getD_some → bN
set_option maxHeartbeats 8000000
set_option linter.unusedVariables false
set_option maxRecDepth 100000
namespace Go.Proofs.YtnnmlhmffnfjfaaGreat
section
open Go.RowKit
theorem oI {a ps:List Vl}{o:Od}(h:o.k=3):oQ a ps o=o.v:=by unfold oQ;rw[if_pos h]
theorem bK6 {a ps:List Vl}{o:Od}(h:o.k=1):oQ a ps o=if 0<=o.ix/\o.ix<(a.length:Int)then a.getD o.ix.toNat bE else bE:=by unfold oQ;rw[if_neg (by omega),if_pos h]
theorem bK7 {a ps:List Vl}{o:Od}(h:o.k=2):oQ a ps o=if 0<=o.ix/\o.ix<(ps.length:Int)then ps.getD o.ix.toNat bE else bE:=by unfold oQ;rw[if_neg (by omega),if_neg (by omega),if_pos h]
theorem aX9 {d ps:List Vl}{o:Od}(a:o.k≠1)(b:o.k≠2)(c:o.k≠3):oQ d ps o=bE:=by unfold oQ;rw[if_neg c,if_neg a,if_neg b]
def rdB (row ps:List Vl) (o:Od):Bool:=decide (o.k=3∨(o.k=1∧0≤o.ix∧o.ix<(row.length:Int))∨(o.k=2∧0≤o.ix∧o.ix<(ps.length:Int)))
theorem aT6 {d ps:List Vl}{o:Od}(h:rdB d ps o=false):oQ d ps o=bE:=by
 unfold rdB at h;have h:=of_decide_eq_false h;unfold oQ;by_cases c:o.k=3
 . exact absurd (.inl c) h
 rw[if_neg c];by_cases a:o.k=1
 . rw[if_pos a,if_neg (fun e=>h (.inr (.inl ⟨a,e⟩)))]
 rw[if_neg a];by_cases b:o.k=2
 . rw[if_pos b,if_neg (fun e=>h (.inr (.inr ⟨b,e⟩)))]
 rw[if_neg b]
theorem xN (z ps:List Vl)(o:Od)(G:Option Addr)(u O:Nat)(H:Option Addr)(x P:Nat)(w:World)(hc:qA w G u z)(hp:qA w H x ps) :
 Calls Tryz.prog 90 #[.agg #[o.k,o.ix,o.v.k,o.v.i,o.v.t],.slice G u O,.slice H x P] w fun e w'=>e=.returned (.agg #[.int .i64 (oQ z ps o).k,.int .i64 (oQ z ps o).i,.string (oQ z ps o).t])/\Below w w w':=by
 obtain⟨k,a,⟨m,l,n⟩⟩:=o;obtain⟨g,c⟩:=zE (oQ z ps ⟨k,a,⟨m,l,n⟩⟩);rw[c.out];have I:=Z hc.len;have J:=Z hp.len;have K:=Z ((hc.keep (aM w (.cells #[k,a,m,l,n] 61))).keep (aM _ (.cells zV 59)));have L:=Z ((hp.keep (aM w (.cells #[k,a,m,l,n] 61))).keep (aM _ (.cells zV 59)));have M:=Z ((aT.new w 61 #[k,a,m,l,n]).alloc (.cells zV 59));have F:=Z (aT.new (w.alloc (.cells #[k,a,m,l,n] 61)) 59 zV);rw[show(w.alloc (.cells #[k,a,m,l,n] 61)).heap.size=w.heap.size+1 by simp]at F;have E:=(aB w w).alloc (aD _) (.cells #[k,a,m,l,n] 61);have HB:=Z (E.alloc E.size (.cells zV 59));clear E hc hp;go_enter Tryz.func90,Tryz.ntmps90;go_upto_region 1 with fail;generalize hW:(w.alloc (.cells #[k,a,m,l,n] 61)).alloc (.cells zV 59)=B at *;clear hW;have T:=M.out.cell;have y:=F.out.cell;have S:=F.out.free;by_cases h3:k=3
 . obtain rfl:⟨m,l,n⟩=g:=(by rw[<- c.out,oI h3]);subst h3;clear c;go_wp2;refine aF (v:=.agg #[m,l,n]) (by simp[results,Tryz.results90,go_sem,y]) rfl ⟨rfl,?_⟩;repeat(first|exact HB.out|refine bC ?_ (by simp) _)
 by_cases h1:k=1
 . have d:Hid ((if 0<=a/\a<(z.length:Int)then z.getD a.toNat bE else bE)=g):=Z (by rw[<- c.out,bK6 h1]);by_cases h0:a<0
   . obtain rfl:bE=g:=(by rw[<- d.out,if_neg (fun h=>by omega)]);have A:decide (a<0)=true:=decide_eq_true h0;have C:decide (0<=a)=false:=decide_eq_false (by omega);clear d h0 c h3;subst h1;go_wp2;refine aF (v:=.agg zV) (by simp[results,Tryz.results90,go_sem,y]) rfl ⟨rfl,?_⟩;repeat(first|exact HB.out|refine bC ?_ (by simp) _)
   . have A:decide (a<0)=false:=decide_eq_false h0;by_cases hn:a<(u:Int)
     . obtain⟨j,rfl⟩:=bO (Int.not_lt.1 h0);obtain⟨b,o,⟨r,q,s⟩,rfl,hx,p⟩:=K.out.at (show j<u by omega);have N:B.cell? ⟨b,o+j*3,none⟩=some r:=p 0 r rfl;have c1:B.cell? ⟨b,o+j*3+1,none⟩=some q:=p 1 q rfl;have c2:B.cell? ⟨b,o+j*3+2,none⟩=some s:=p 2 s rfl;obtain rfl:⟨r,q,s⟩=g:=(by rw[<- d.out,if_pos ⟨by omega,by rw[I.out];omega⟩,bM,bG,hx];rfl);have R:j<u:=(by omega);have D:decide (u<=j)=false:=(by simp;omega);clear hx p d h0 hn c h3 A;subst h1;go_wp2;refine aF (v:=.agg #[r,q,s]) (by simp[results,Tryz.results90,go_sem,y]) rfl ⟨rfl,?_⟩;repeat(first|exact HB.out|refine bC ?_ (by simp) _)
     . have C:decide ((u:Int)<=a)=true:=decide_eq_true (by omega);have D:decide (0<=a)=true:=decide_eq_true (by omega);have Q:decide (a<(u:Int))=false:=decide_eq_false hn;obtain rfl:bE=g:=(by rw[<- d.out,if_neg (fun h=>by have:=I.out;omega)]);clear d h0 hn c h3;subst h1;go_wp2;refine aF (v:=.agg zV) (by simp[results,Tryz.results90,go_sem,y]) rfl ⟨rfl,?_⟩;repeat(first|exact HB.out|refine bC ?_ (by simp) _)
 by_cases h2:k=2
 . have d:Hid ((if 0<=a/\a<(ps.length:Int)then ps.getD a.toNat bE else bE)=g):=Z (by rw[<- c.out,bK7 h2]);by_cases h0:a<0
   . obtain rfl:bE=g:=(by rw[<- d.out,if_neg (fun h=>by omega)]);have A:decide (a<0)=true:=decide_eq_true h0;have C:decide (0<=a)=false:=decide_eq_false (by omega);clear d h0 c h3 h1;subst h2;go_wp2;refine aF (v:=.agg zV) (by simp[results,Tryz.results90,go_sem,y]) rfl ⟨rfl,?_⟩;repeat(first|exact HB.out|refine bC ?_ (by simp) _)
   . have A:decide (a<0)=false:=decide_eq_false h0;by_cases hn:a<(x:Int)
     . obtain⟨j,rfl⟩:=bO (Int.not_lt.1 h0);obtain⟨b,o,⟨r,q,s⟩,rfl,hx,p⟩:=L.out.at (show j<x by omega);have N:B.cell? ⟨b,o+j*3,none⟩=some r:=p 0 r rfl;have c1:B.cell? ⟨b,o+j*3+1,none⟩=some q:=p 1 q rfl;have c2:B.cell? ⟨b,o+j*3+2,none⟩=some s:=p 2 s rfl;obtain rfl:⟨r,q,s⟩=g:=(by rw[<- d.out,if_pos ⟨by omega,by rw[J.out];omega⟩,bM,bG,hx];rfl);have R:j<x:=(by omega);have D:decide (x<=j)=false:=(by simp;omega);clear hx p d h0 hn c h3 h1 A;subst h2;go_wp2;refine aF (v:=.agg #[r,q,s]) (by simp[results,Tryz.results90,go_sem,y]) rfl ⟨rfl,?_⟩;repeat(first|exact HB.out|refine bC ?_ (by simp) _)
     . have C:decide ((x:Int)<=a)=true:=decide_eq_true (by omega);have D:decide (0<=a)=true:=decide_eq_true (by omega);have Q:decide (a<(x:Int))=false:=decide_eq_false hn;obtain rfl:bE=g:=(by rw[<- d.out,if_neg (fun h=>by have:=J.out;omega)]);clear d h0 hn c h3 h1;subst h2;go_wp2;refine aF (v:=.agg zV) (by simp[results,Tryz.results90,go_sem,y]) rfl ⟨rfl,?_⟩;repeat(first|exact HB.out|refine bC ?_ (by simp) _)
 obtain rfl:bE=g:=by rw[<- c.out,aX9 h1 h2 h3]
 have A:(k == 1)=false:=by simpa using h1
 have C:(k == 2)=false:=by simpa using h2
 have D:(k == 3)=false:=by simpa using h3
 clear h1 h2 h3 c;go_wp2;refine aF (v:=.agg zV) (by simp[results,Tryz.results90,go_sem,y]) rfl ⟨rfl,?_⟩;repeat(first|exact HB.out|refine bC ?_ (by simp) _)
theorem uS (r ps:List Vl)(o:Od)(K:Option Addr)(z Q:Nat)(L:Option Addr)(A R:Nat)(w:World)(hc:qA w K z r)(hp:qA w L A ps) :
 Calls Tryz.prog 176 #[.agg #[o.k,o.ix,o.v.k,o.v.i,o.v.t],.slice K z Q,.slice L A R] w fun e w'=>e=.returned (.tuple #[.agg #[.int .i64 (oQ r ps o).k,.int .i64 (oQ r ps o).i,.string (oQ r ps o).t],.bool (rdB r ps o)])/\Below w w w':=by
 obtain⟨k,a,⟨m,l,n⟩⟩:=o;obtain⟨p,d⟩:=zE (oQ r ps ⟨k,a,⟨m,l,n⟩⟩);rw[d.out];obtain⟨y,c⟩:=zE (rdB r ps ⟨k,a,⟨m,l,n⟩⟩);rw[c.out];have E:=Z hc.len;have F:=Z hp.len;have M:=Z ((hc.keep (aM w (.cells #[k,a,m,l,n] 61))).keep (aM _ (.cells zV 59)));have N:=Z ((hp.keep (aM w (.cells #[k,a,m,l,n] 61))).keep (aM _ (.cells zV 59)));have O:=Z ((aT.new w 61 #[k,a,m,l,n]).alloc (.cells zV 59));have J:=Z (aT.new (w.alloc (.cells #[k,a,m,l,n] 61)) 59 zV);rw[show(w.alloc (.cells #[k,a,m,l,n] 61)).heap.size=w.heap.size+1 by simp]at J;have I:=(aB w w).alloc (aD _) (.cells #[k,a,m,l,n] 61);have HB:=Z (I.alloc I.size (.cells zV 59));clear I hc hp;go_enter Tryz.func176,Tryz.ntmps176;go_upto_region 1 with fail;generalize hW:(w.alloc (.cells #[k,a,m,l,n] 61)).alloc (.cells zV 59)=D at *;clear hW;have V:=O.out.cell;have B:=J.out.cell;have U:=J.out.free;by_cases h3:k=3
 . obtain rfl:⟨m,l,n⟩=p:=(by rw[<- d.out,oI h3]);obtain rfl:true=y:=(by rw[<- c.out];exact(decide_eq_true (.inl h3)).symm);subst h3;clear d c;go_wp2;refine aF (v:=.tuple #[.agg #[m,l,n],zT]) (by simp[results,Tryz.results176,go_sem,B]) rfl ⟨rfl,?_⟩;repeat(first|exact HB.out|refine bC ?_ (by simp) _)
 by_cases h1:k=1
 . have g:Hid ((if 0<=a/\a<(r.length:Int)then r.getD a.toNat bE else bE)=p):=Z (by rw[<- d.out,bK6 h1]);by_cases h0:a<0
   . obtain rfl:bE=p:=(by rw[<- g.out,if_neg (fun h=>by omega)]);obtain rfl:false=y:=(by rw[<- c.out];exact(decide_eq_false (fun h=>by have:=E.out;simp only at h;omega)).symm);have C:decide (a<0)=true:=decide_eq_true h0;have G:decide (0<=a)=false:=decide_eq_false (by omega);clear g h0 d c h3;subst h1;go_wp2;refine aF (v:=.tuple #[.agg zV,zF]) (by simp[results,Tryz.results176,go_sem,B]) rfl ⟨rfl,?_⟩;repeat(first|exact HB.out|refine bC ?_ (by simp) _)
   . have C:decide (a<0)=false:=decide_eq_false h0;by_cases hn:a<(z:Int)
     . obtain⟨j,rfl⟩:=bO (Int.not_lt.1 h0);obtain⟨b,o,⟨u,s,x⟩,rfl,hx,q⟩:=M.out.at (show j<z by omega);have P:D.cell? ⟨b,o+j*3,none⟩=some u:=q 0 u rfl;have c1:D.cell? ⟨b,o+j*3+1,none⟩=some s:=q 1 s rfl;have c2:D.cell? ⟨b,o+j*3+2,none⟩=some x:=q 2 x rfl;obtain rfl:⟨u,s,x⟩=p:=(by rw[<- g.out,if_pos ⟨by omega,by rw[E.out];omega⟩,bM,bG,hx];rfl);obtain rfl:true=y:=(by rw[<- c.out];exact(decide_eq_true (.inr (.inl ⟨h1,by simp only;omega,by have:=E.out;simp only;omega⟩))).symm);have T:j<z:=(by omega);have H:decide (z<=j)=false:=(by simp;omega);clear hx q g h0 hn d c h3 C;subst h1;go_wp2;refine aF (v:=.tuple #[.agg #[u,s,x],zT]) (by simp[results,Tryz.results176,go_sem,B]) rfl ⟨rfl,?_⟩;repeat(first|exact HB.out|refine bC ?_ (by simp) _)
     . have G:decide ((z:Int)<=a)=true:=decide_eq_true (by omega);have H:decide (0<=a)=true:=decide_eq_true (by omega);have S:decide (a<(z:Int))=false:=decide_eq_false hn;obtain rfl:bE=p:=(by rw[<- g.out,if_neg (fun h=>by have:=E.out;omega)]);obtain rfl:false=y:=(by rw[<- c.out];exact(decide_eq_false (fun h=>by have:=E.out;simp only at h;omega)).symm);clear g h0 hn d c h3;subst h1;go_wp2;refine aF (v:=.tuple #[.agg zV,zF]) (by simp[results,Tryz.results176,go_sem,B]) rfl ⟨rfl,?_⟩;repeat(first|exact HB.out|refine bC ?_ (by simp) _)
 by_cases h2:k=2
 . have g:Hid ((if 0<=a/\a<(ps.length:Int)then ps.getD a.toNat bE else bE)=p):=Z (by rw[<- d.out,bK7 h2]);by_cases h0:a<0
   . obtain rfl:bE=p:=(by rw[<- g.out,if_neg (fun h=>by omega)]);obtain rfl:false=y:=(by rw[<- c.out];exact(decide_eq_false (fun h=>by have:=F.out;simp only at h;omega)).symm);have C:decide (a<0)=true:=decide_eq_true h0;have G:decide (0<=a)=false:=decide_eq_false (by omega);clear g h0 d c h3 h1;subst h2;go_wp2;refine aF (v:=.tuple #[.agg zV,zF]) (by simp[results,Tryz.results176,go_sem,B]) rfl ⟨rfl,?_⟩;repeat(first|exact HB.out|refine bC ?_ (by simp) _)
   . have C:decide (a<0)=false:=decide_eq_false h0;by_cases hn:a<(A:Int)
     . obtain⟨j,rfl⟩:=bO (Int.not_lt.1 h0);obtain⟨b,o,⟨u,s,x⟩,rfl,hx,q⟩:=N.out.at (show j<A by omega);have P:D.cell? ⟨b,o+j*3,none⟩=some u:=q 0 u rfl;have c1:D.cell? ⟨b,o+j*3+1,none⟩=some s:=q 1 s rfl;have c2:D.cell? ⟨b,o+j*3+2,none⟩=some x:=q 2 x rfl;obtain rfl:⟨u,s,x⟩=p:=(by rw[<- g.out,if_pos ⟨by omega,by rw[F.out];omega⟩,bM,bG,hx];rfl);obtain rfl:true=y:=(by rw[<- c.out];exact(decide_eq_true (.inr (.inr ⟨h2,by simp only;omega,by have:=F.out;simp only;omega⟩))).symm);have T:j<A:=(by omega);have H:decide (A<=j)=false:=(by simp;omega);clear hx q g h0 hn d c h3 h1 C;subst h2;go_wp2;refine aF (v:=.tuple #[.agg #[u,s,x],zT]) (by simp[results,Tryz.results176,go_sem,B]) rfl ⟨rfl,?_⟩;repeat(first|exact HB.out|refine bC ?_ (by simp) _)
     . have G:decide ((A:Int)<=a)=true:=decide_eq_true (by omega);have H:decide (0<=a)=true:=decide_eq_true (by omega);have S:decide (a<(A:Int))=false:=decide_eq_false hn;obtain rfl:bE=p:=(by rw[<- g.out,if_neg (fun h=>by have:=F.out;omega)]);obtain rfl:false=y:=(by rw[<- c.out];exact(decide_eq_false (fun h=>by have:=F.out;simp only at h;omega)).symm);clear g h0 hn d c h3 h1;subst h2;go_wp2;refine aF (v:=.tuple #[.agg zV,zF]) (by simp[results,Tryz.results176,go_sem,B]) rfl ⟨rfl,?_⟩;repeat(first|exact HB.out|refine bC ?_ (by simp) _)
 obtain rfl:bE=p:=by rw[<- d.out,aX9 h1 h2 h3]
 obtain rfl:false=y:=by rw[<- c.out];exact(decide_eq_false (fun h=>by simp only at h;omega)).symm
 have C:(k == 1)=false:=by simpa using h1
 have G:(k == 2)=false:=by simpa using h2
 have H:(k == 3)=false:=by simpa using h3
 clear h1 h2 h3 d c;go_wp2;refine aF (v:=.tuple #[.agg zV,zF]) (by simp[results,Tryz.results176,go_sem,B]) rfl ⟨rfl,?_⟩;repeat(first|exact HB.out|refine bC ?_ (by simp) _)
theorem bO4 (o:Int)(w:World):Calls Tryz.prog 148 #[o] w fun e w'=>e=.returned (.bool (hA 1 o))/\w=w':=by
 have h:hA 1 o=decide (o=0):=rfl;rw[h];by_cases h0:o=0
 . rw[decide_eq_true h0];have a:(o == 0)=true:=(by simpa using h0);clear h0 h;go_enter Tryz.func148,Tryz.ntmps148;go_wp2;go_ret;exact⟨rfl,rfl⟩
 . rw[decide_eq_false h0];have a:(o == 0)=false:=(by simpa using h0);clear h0 h;go_enter Tryz.func148,Tryz.ntmps148;go_wp2;go_ret;exact⟨rfl,rfl⟩
theorem aF0 (o:Int)(w:World):Calls Tryz.prog 149 #[o] w fun e w'=>e=.returned (.bool (hA 2 o))/\w=w':=by
 have h:hA 2 o=decide (o≠0):=rfl;rw[h];by_cases h0:o≠0
 . rw[decide_eq_true h0];have a:(o != 0)=true:=(by simpa using h0);clear h0 h;go_enter Tryz.func149,Tryz.ntmps149;go_wp2;go_ret;exact⟨rfl,rfl⟩
 . rw[decide_eq_false h0];have a:(o != 0)=false:=(by simpa using h0);clear h0 h;go_enter Tryz.func149,Tryz.ntmps149;go_wp2;go_ret;exact⟨rfl,rfl⟩
theorem bV0 (o:Int)(w:World):Calls Tryz.prog 150 #[o] w fun e w'=>e=.returned (.bool (hA 3 o))/\w=w':=by
 have h:hA 3 o=decide (o<0):=rfl;rw[h];by_cases h0:o<0
 . rw[decide_eq_true h0];have a:decide (o<0)=true:=(by simpa using h0);clear h0 h;go_enter Tryz.func150,Tryz.ntmps150;go_wp2;go_ret;exact⟨rfl,rfl⟩
 . rw[decide_eq_false h0];have a:decide (o<0)=false:=(by simpa using h0);clear h0 h;go_enter Tryz.func150,Tryz.ntmps150;go_wp2;go_ret;exact⟨rfl,rfl⟩
theorem bC4 (o:Int)(w:World):Calls Tryz.prog 151 #[o] w fun e w'=>e=.returned (.bool (hA 4 o))/\w=w':=by
 have h:hA 4 o=decide (o<=0):=rfl;rw[h];by_cases h0:o<=0
 . rw[decide_eq_true h0];have a:decide (o<=0)=true:=(by simpa using h0);clear h0 h;go_enter Tryz.func151,Tryz.ntmps151;go_wp2;go_ret;exact⟨rfl,rfl⟩
 . rw[decide_eq_false h0];have a:decide (o<=0)=false:=(by simpa using h0);clear h0 h;go_enter Tryz.func151,Tryz.ntmps151;go_wp2;go_ret;exact⟨rfl,rfl⟩
theorem aU8 (o:Int)(w:World):Calls Tryz.prog 152 #[o] w fun e w'=>e=.returned (.bool (hA 5 o))/\w=w':=by
 have h:hA 5 o=decide (0<o):=rfl;rw[h];by_cases h0:0<o
 . rw[decide_eq_true h0];have a:decide (0<o)=true:=(by simpa using h0);clear h0 h;go_enter Tryz.func152,Tryz.ntmps152;go_wp2;go_ret;exact⟨rfl,rfl⟩
 . rw[decide_eq_false h0];have a:decide (0<o)=false:=(by simpa using h0);clear h0 h;go_enter Tryz.func152,Tryz.ntmps152;go_wp2;go_ret;exact⟨rfl,rfl⟩
theorem aU9 (o:Int)(w:World):Calls Tryz.prog 153 #[o] w fun e w'=>e=.returned (.bool (hA 6 o))/\w=w':=by
 have h:hA 6 o=decide (0<=o):=rfl;rw[h];by_cases h0:0<=o
 . rw[decide_eq_true h0];have a:decide (0<=o)=true:=(by simpa using h0);clear h0 h;go_enter Tryz.func153,Tryz.ntmps153;go_wp2;go_ret;exact⟨rfl,rfl⟩
 . rw[decide_eq_false h0];have a:decide (0<=o)=false:=(by simpa using h0);clear h0 h;go_enter Tryz.func153,Tryz.ntmps153;go_wp2;go_ret;exact⟨rfl,rfl⟩
def aA0 (cm:Int):Value:=if cm=1 then .func (.func 148) #[] #[]else if cm=2 then .func (.func 149) #[] #[]else if cm=3 then .func (.func 150) #[] #[]else if cm=4 then .func (.func 151) #[] #[]else if cm=5 then .func (.func 152) #[] #[]else if cm=6 then .func (.func 153) #[] #[]else Value.nilFunc
theorem aC9 (a:Int)(w:World):Calls Tryz.prog 92 #[a] w fun e w'=>e=.returned (aA0 a)/\Below w w w':=by
 have HB:=Z ((aB w w).alloc (aD _) (.cells #[Value.nilFunc,(.func (.func 148) #[] #[]),(.func (.func 149) #[] #[]),(.func (.func 150) #[] #[]),(.func (.func 151) #[] #[]),(.func (.func 152) #[] #[]),(.func (.func 153) #[] #[])] 190));have b:=Z (aT.new w 190 #[Value.nilFunc,(.func (.func 148) #[] #[]),(.func (.func 149) #[] #[]),(.func (.func 150) #[] #[]),(.func (.func 151) #[] #[]),(.func (.func 152) #[] #[]),(.func (.func 153) #[] #[])]);by_cases h:1<=a/\a<=6
 . have h:a=1\/a=2\/a=3\/a=4\/a=5\/a=6:=(by omega);rcases h with rfl|rfl|rfl|rfl|rfl|rfl
   all_goals
    go_enter Tryz.func92,Tryz.ntmps92;go_upto_region 2 with fail;generalize hW:w.alloc (.cells #[Value.nilFunc,(.func (.func 148) #[] #[]),(.func (.func 149) #[] #[]),(.func (.func 150) #[] #[]),(.func (.func 151) #[] #[]),(.func (.func 152) #[] #[]),(.func (.func 153) #[] #[])] 190)=c at *;clear hW;have d:=b.out.cell;go_wp2;go_ret;exact⟨rfl,HB.out⟩
 . have hf:aA0 a=Value.nilFunc:=(by unfold aA0;repeat rw[if_neg (by omega)]);rw[hf];clear hf;by_cases h0:a=0
   . subst h0;clear h;go_enter Tryz.func92,Tryz.ntmps92;go_upto_region 2 with fail;generalize hW:w.alloc (.cells #[Value.nilFunc,(.func (.func 148) #[] #[]),(.func (.func 149) #[] #[]),(.func (.func 150) #[] #[]),(.func (.func 151) #[] #[]),(.func (.func 152) #[] #[]),(.func (.func 153) #[] #[])] 190)=c at *;clear hW;have d:=b.out.cell;go_wp2;go_ret;exact⟨rfl,HB.out⟩
   . by_cases h1:a<0
     . have g:decide (a<0)=true:=decide_eq_true h1;clear h h0 h1;go_enter Tryz.func92,Tryz.ntmps92;go_upto_region 2 with fail;generalize hW:w.alloc (.cells #[Value.nilFunc,(.func (.func 148) #[] #[]),(.func (.func 149) #[] #[]),(.func (.func 150) #[] #[]),(.func (.func 151) #[] #[]),(.func (.func 152) #[] #[]),(.func (.func 153) #[] #[])] 190)=c at *;clear hW;have d:=b.out.cell;go_wp2;go_ret;exact⟨rfl,HB.out⟩
     . have g:decide (a<0)=false:=decide_eq_false h1;have i:decide (7<=a)=true:=decide_eq_true (by omega);clear h h0 h1;go_enter Tryz.func92,Tryz.ntmps92;go_upto_region 2 with fail;generalize hW:w.alloc (.cells #[Value.nilFunc,(.func (.func 148) #[] #[]),(.func (.func 149) #[] #[]),(.func (.func 150) #[] #[]),(.func (.func 151) #[] #[]),(.func (.func 152) #[] #[]),(.func (.func 153) #[] #[])] 190)=c at *;clear hW;have d:=b.out.cell;go_wp2;go_ret;exact⟨rfl,HB.out⟩
theorem nY (f:Fn)(w:World):(binOp .neq 145 (.func f #[] #[]) .nilFunc).run Tryz.prog w=.ok zT w:=by
 first
 |rfl
 |(simp[go_sem];done)
 |(simp only[binOp];simp[go_sem];done)
 |skip
theorem bT8 (w:World):(binOp .neq 145 .nilFunc .nilFunc).run Tryz.prog w=.ok zF w:=by
 first
 |rfl
 |(simp[go_sem];done)
 |(simp only[binOp];simp[go_sem];done)
 |skip
end
section
open Go.RowKit
set_option maxRecDepth 100000
open Pd
namespace Pd
def rest (p:Pd) (k:Nat):Pd:=uA p.h (p.args.drop k)
theorem fI (p:Pd):p.rest 0=p:=by rw[rest,List.drop_zero,yD]
theorem rest_at {p q:Pd}{k:Nat}(h:p.args[k]?=some q):p.rest k=.cons q (p.rest (k+1)):=by
 have b:k<p.args.length:=(List.getElem?_eq_some_iff.1 h).1;have a:p.args[k]=q:=(List.getElem?_eq_some_iff.1 h).2;rw[rest,rest,List.drop_eq_getElem_cons b,a];rfl
theorem fD {p:Pd}{k:Nat}(h:p.len<=k):p.rest k=.nil p.h:=by
 rw[rest,List.drop_eq_nil_of_le (by rw[lU];exact h)];rfl
theorem pH:∀p:Pd,p.len<p.nodes
 |nil _=>Nat.lt_succ_self 0
 |cons a t=>by have:=pH t;have:=eA a;simp only[len,nodes];omega
theorem rC {p q:Pd}{k:Nat}(h:p.args[k]?=some q):q∈p.args:=List.mem_of_getElem? h
theorem eX {p q:Pd}{k:Nat}(h:p.args[k]?=some q):q.nodes<p.nodes:=oB (rC h)
end Pd
section
variable {p q:Pd} {k:Nat}
theorem sm_rest (h:p.args[k]?=some q)(l:Nat)(b:Int):smA l b (p.rest k)=match smB l b q with
 |none=>none
 |some b'=>smA l b' (p.rest (k+1)):=by
 rw[Pd.rest_at h];rfl
theorem nU (h:p.args[k]?=some q)(cols ps:List Int):fH cols ps (p.rest k)=(dB cols ps q&&fH cols ps (p.rest (k+1))):=by
 rw[Pd.rest_at h];rfl
theorem mO (h:p.args[k]?=some q)(a ps:List Vl):dZ a ps (p.rest k)=(dV a ps q&&(dZ a ps (p.rest (k+1))).1,dV a ps q || (dZ a ps (p.rest (k+1))).2.1,!dV a ps q):=by
 rw[Pd.rest_at h];rfl
theorem bC6 (h:p.args[k]?=some q):(p.rest k).nodes=q.nodes+(p.rest (k+1)).nodes:=by
 rw[Pd.rest_at h];rfl
theorem bF2 (h:p.args[k]?=some q):(p.rest k).depth=max (q.depth+1) (p.rest (k+1)).depth:=by
 rw[Pd.rest_at h];rfl
end
end
section
open Go.RowKit
inductive PlanB where
 | last (qs:List Nat)
 | one (qs:List Nat) (e:Nat) (t:PlanB)
 | two (qs:List Nat) (e:Nat) (t:PlanB) (f:Nat) (s:PlanB)
def PlanB.len:PlanB→Nat
 |.last qs=>qs.length
 |.one qs _ t=>qs.length+(t.len+1)
 |.two qs _ t _ _=>qs.length+(t.len+1)
section
variable {P:Program} {ops:Array Oper} {Q:Exit→Act→World→Prop} {R:World→World→Prop}
def rA (ops:Array Oper):PlanB→Array Bool→Bool
 |
  .last qs,listed=>match mD [] ops qs listed with
  |some l=>(Region.ready .any ops l).isEmpty
  |none=>false
 |
  .one qs e t,listed=>match mD [] ops qs listed with
  |some l=>(Region.ready .any ops l == [e])&&(decide (e<ops.size)&&rA ops t (l.setIfInBounds e true))
  |none=>false
 |
  .two qs e t f s,listed=>match mD [] ops qs listed with
  |some l=>(Region.ready .any ops l == [e,f])&&(decide (e<ops.size)&&(decide (f<ops.size)&&(decide (t.len=s.len)&&(rA ops t (l.setIfInBounds e true)&&rA ops s (l.setIfInBounds f true)))))
  |none=>false
def dA (R:World→World→Prop) (P:Program) (ops:Array Oper) (Q:Exit→Act→World→Prop):PlanB→Act→World→Prop
 |.last qs,a,w=>wpQuiet P ops (fun W=>∃x:LaterR R w,W=cS R w x) (fun a'=>Q .normal a' w) (dE ops qs) a
 |.one qs e t,a,w=>wpQuiet P ops (fun W=>∃x:LaterR R w,W=cS R w x) (fun a'=>wpList P ops (Exit.then (fun a'' w'=>R w w'∧dA R P ops Q t a'' w') Q) [eS ops e] a' w) (dE ops qs) a
 |.two qs e t f s,a,w=>wpQuiet P ops (fun W=>∃x:LaterR R w,W=cS R w x) (fun a' =>
  wpList P ops (Exit.then (fun a'' w'=>R w w'∧dA R P ops Q t a'' w') Q) [eS ops e] a' w ∧
  wpList P ops (Exit.then (fun a'' w'=>R w w'∧dA R P ops Q s a'' w') Q) [eS ops f] a' w) (dE ops qs) a
theorem rM (o:∀a b c,R a b->R b c->R a c)(p:Region.noSelect ops=true)(n:∀c a d v w,Q (.panic c) (Act.put a d v) w->Q (.panic c) a w) :
 ∀(t:PlanB) (g:Array Bool) (a:Act) (w:World),jM ops g->rA ops t g=true->dA R P ops Q t a w->oS [] R R P .any ops Q t.len g a w
 |
  .last qs,g,a,w,hcl,hc,h=>by
  unfold rA at hc;split at hc
  . rename_i l u;exact fO o [] (fun j w w' _ k=>k.2) p n (fuel:=0) (fun a' _ m=>⟨by simpa using hc,m⟩) qs g a hcl u h
  . cases hc
 |
  .one qs e t,g,a,w,hcl,hc,h=>by
  unfold rA at hc;split at hc
  . rename_i l u;simp only[aI,beq_iff_eq,decide_eq_true_eq]at hc;refine fO o [] (fun j w w' _ k=>k.2) p n (fuel:=t.len+1) (fun a' y m=>?_) qs g a hcl u h;refine⟨fun r=>(by rw[hc.1]at r;cases r),fun i hi=>?_⟩;have B:=hi;rw[hc.1]at hi;have A:i=e:=(by simpa using hi);subst A;obtain⟨_,H,z,x⟩:=mem_ready.1 B;exact wpOp_mono (fun q w' ⟨hb,h''⟩=>⟨⟨fun _=>.inr hb,.inr hb⟩,rM o p n t _ q w' (y.more z x) hc.2.2 h''⟩) (gN (jP hc.2.1) m)
  . cases hc
 |
  .two qs e t f s,g,a,w,hcl,hc,h=>by
  unfold rA at hc;split at hc
  . rename_i l u;simp only[aI,beq_iff_eq,decide_eq_true_eq]at hc;obtain⟨C,k,D,E,G,F⟩:=hc;refine fO o [] (fun j w w' _ k=>k.2) p n (fuel:=t.len+1) (fun a' y m=>?_) qs g a hcl u h;refine⟨fun r=>(by rw[C]at r;cases r),fun i hi=>?_⟩;have B:=hi;rw[C]at hi;obtain⟨_,H,z,x⟩:=mem_ready.1 B;have A:i=e\/i=f:=(by simpa using hi);rcases A with rfl|rfl
    . exact wpOp_mono (fun q w' ⟨hb,h''⟩=>⟨⟨fun _=>.inr hb,.inr hb⟩,rM o p n t _ q w' (y.more z x) G h''⟩) (gN (jP k) m.1)
    . rw[E];exact wpOp_mono (fun q w' ⟨hb,h''⟩=>⟨⟨fun _=>.inr hb,.inr hb⟩,rM o p n s _ q w' (y.more z x) F h''⟩) (gN (jP D) m.2)
  . cases hc
theorem lZ {id:Nat}{a:Act}{w:World}{l:List Oper}(R:World->World->Prop)(i:∀a b c,R a b->R b c->R a c)(t:PlanB)
 (h:dA R P l.toArray Q t a w.drew)
 (j:P.follows .mixedOrders=true:=by kernel_rfl)
 (hc:(Region.noSelect l.toArray&&(rA l.toArray t (Array.replicate l.toArray.size false)&&decide (t.len=l.toArray.size)))=true:=by kernel_rfl)
 (g:∀c a d v w,Q (.panic c) (Act.put a d v) w->Q (.panic c) a w:=by intro _ _ d _ _ h;cases d<;>exact h) :
 (Code.region id l.toArray true).wp P Q a w:=by
 simp only[aI,decide_eq_true_eq]at hc;refine wp_region_any j ?_;have e:=rM i hc.1 g t _ a _ (jM.start _) hc.2.1 h;rw[hc.2.2]at e;exact oR _ _ _ _ e
end
end
section
open Go.RowKit
open Rg
theorem tZ.case {w w':World}{g:Nat}(hc:CaseAt w g)(hb:But (· = g) w w'):∀ {r:Rg} {b o:Nat},tZ w r b o->tZ w' r b o
 |.nil _ _,_,_,_=>trivial
 |
  .cons vs rest tail,b,o,h=>by
  obtain⟨⟨A1,n1,c1,d,n,k⟩,p,i,⟨A',n',c',q,s,t,u⟩,m⟩:=h;have A:¬b=g:=by intro e;subst e;obtain⟨A2,n2,c2,C,D,x,_⟩:=hc.ex;rw[x.cell]at d i;rcases o with _|_|o<;>simp at d i
  have c:∀j v,w.cell? ⟨b,j,none⟩=some v->w'.cell? ⟨b,j,none⟩=some v:=fun j v l=>by have y:=gS (w:=w) (a:=⟨b,j,none⟩) (by rw[l];rfl);rw[World.cell?_of_block (w:=w) (hb.block b y A)];exact l
  refine⟨⟨A1,n1,c1,c _ _ d,n,k.but hb (iv_ne hc k)⟩,c _ _ p,c _ _ i,⟨A',n',c',c _ _ q,s,t,fun z=>?_⟩,tZ.case hc hb m⟩;obtain⟨b',B,e,h⟩:=u z;exact⟨b',B,e,tZ.case hc hb h⟩
theorem RgS.case {w w':World}{g:Nat}(hc:CaseAt w g)(hb:But (· = g) w w'){x:Int}{f:Bool}{A:Option Addr}{n c:Nat}{r:Rg}(h:RgS w x f A n c r):RgS w' x f A n c r :=
 ⟨h.hw,h.hf,h.ok,h.len,fun a=>by
  obtain⟨b,o,e,d⟩:=h.ex a;exact⟨b,o,e,d.case hc hb⟩⟩
theorem But.then {S T:Nat->Prop}{a b c:World}(h:But S a b)(k:But T b c)(g:∀q,T q->a.heap.size<=q):But S a c :=
 ⟨k.os.trans h.os,k.tape.trans h.tape,k.output.trans h.output,Nat.le_trans h.size k.size,fun q d i=>(k.block q (cC d h.size) (fun e=>by have:=g q e;omega)).trans (h.block q d i)⟩
theorem CaseAt.ne {w:World}{g q:Nat}{T:TypeId}{cs:Array Value}(h:CaseAt w g)(hb:aT w q T cs)(b:T≠87):q≠g:=fun e=>by
 obtain⟨A',n',c',c,d,a,_⟩:=h.ex;subst e;unfold aT at a hb;rw[a]at hb;injection hb with hb;injection hb with _ hb;exact b hb.symm
theorem CaseAt.off {w w':World}{g q:Nat}{T:TypeId}{x:Int}{f:Bool}{v:Value}(h:CaseAt w g)(a:aT w q T #[x,.bool f,v])(d:∀z,v≠.int .u8 z)(hb:But (· = q) w w')(c:g≠q):CaseAt w' g:=h.but hb c fun b hb i z=>by
 subst hb;rw[a.cell];rcases i with _|_|_|i<;>simp
 exact d z
def SetR (w:World) (p:iM):Prop:=GoodR p.2 7∧p.1.2.1=p.2.length∧nB w p.1.1 p.2 p.1.2.2
theorem SetR.but {w w':World}{p:iM}{S:Nat->Prop}(h:SetR w p)(hb:But S w w')(a:∀q,(Value.slice p.1.1 p.2.length p.1.2.2).ownBlock=some q->¬S q):SetR w' p:=⟨h.1,h.2.1,h.2.2.but hb a⟩
def SomeR (w:World) (g wd:Nat) (e:Ending) (w':World):Prop :=
 ∃(x:Int) (f:Bool) (A:Option Addr) (n c:Nat) (r:Rg),e=.returned (.agg #[.int .i64 x,.bool f,.slice A n c])∧RgS w' x f A n c r∧nR r∧r.w=(wd:Int)∧kD r∧CaseAt w' g∧But (· = g) w w'
structure CRg (w:World) (g wd O:Nat) (x:Int) (f:Bool) (A:Option Addr) (n c:Nat) (r:Rg) (wr:World):Prop where
 bo:aT wr O 71 #[.int .i64 x,.bool f,.slice A n c]
 br:aT wr w.heap.size 71 #[.int .i64 0,.bool false,.slice none 0 0]
 rs:RgS wr x f A n c r
 ok:nR r
 rw_:r.w=(wd:Int)
 wf:kD r
 cs:CaseAt wr g
 bu:But (· = g) w wr
 hO:w.heap.size<O
theorem CRg.case {w:World}{g b O:Nat}{x:Int}{f:Bool}{A:Option Addr}{n c:Nat}{r:Rg}{wr a:World}(h:CRg w g b O x f A n c r wr)(hb:But (· = g) wr a)(hc:CaseAt a g):CRg w g b O x f A n c r a :=
 ⟨h.bo.but hb (h.cs.ne h.bo (by decide)),h.br.but hb (h.cs.ne h.br (by decide)),h.rs.case h.cs hb,h.ok,h.rw_,h.wf,hc,h.bu.trans hb,h.hO⟩
theorem CRg.below {w:World}{g a O:Nat}{x:Int}{f:Bool}{A:Option Addr}{n c:Nat}{r:Rg}{wr b:World}(h:CRg w g a O x f A n c r wr)(hb:Below wr wr b):CRg w g a O x f A n c r b:=h.case (But.of_below hb) (h.cs.below hb)
theorem CRg.put {w:World}{g b O:Nat}{x:Int}{f:Bool}{A:Option Addr}{n c:Nat}{r:Rg}{wr:World}(h:CRg w g b O x f A n c r wr){x':Int}{f':Bool}{A':Option Addr}{n' c':Nat}{a:Rg}(j:RgS wr x' f' A' n' c' a)(i:nR a)(k:a.w=(b:Int))(e:kD a):CRg w g b O x' f' A' n' c' a (cO wr O x' (.bool f') (.slice A' n' c')):=by
 have hb:=bJ wr O x' (.bool f') (.slice A' n' c');have d:=h.hO;exact⟨bY h.bo,h.br.but hb (by omega),RgS.off h.bo hb j,i,k,e,h.cs.off h.bo (fun z=>by simp) hb (Ne.symm (h.cs.ne h.bo (by decide))),h.bu.then hb (fun q l=>by omega),d⟩
theorem CRg.fin {w:World}{g a O:Nat}{x:Int}{f:Bool}{A:Option Addr}{n c:Nat}{r:Rg}{wr:World}(h:CRg w g a O x f A n c r wr):SomeR w g a (.returned (.agg #[x,.bool f,.slice A n c])) (cO wr w x (.bool f) (.slice A n c)):=by
 have hb:=bJ wr w x (.bool f) (.slice A n c);exact⟨x,f,A,n,c,r,rfl,RgS.off h.br hb h.rs,h.ok,h.rw_,h.wf,h.cs.off h.br (fun z=>by simp) hb (Ne.symm (h.cs.ne h.br (by decide))),h.bu.then hb (fun q b=>by omega)⟩
end
section
open Go.RowKit
theorem bY0 (z:Int):(xS z).length=1:=rfl
theorem one_i64 (z:Int):∀u∈xS z,u.oneCell'=true:=by simp[xS,Value.oneCell']
theorem bX8:(Tryz.prog.info? 3).map (fun i=>(i.zero,i.size,i.bytes))=some (some (.int .i64 0),1,8):=by kernel_rfl
structure ClN (g:Nat) (w:World) (A:Option Addr) (n:Nat) (cs:List Int):Prop where
 sl:wX w A n cs
 ne:0<n→∀ b o,A=some ⟨b,o,none⟩→b≠g
theorem ClN.keep {g:Nat}{w w':World}{A:Option Addr}{n:Nat}{cs:List Int}(h:ClN g w A n cs)(a:dW w w'):ClN g w' A n cs:=⟨h.sl.keep a,h.ne⟩
theorem ClN.case {g:Nat}{w w':World}{A:Option Addr}{n:Nat}{cs:List Int}(h:ClN g w A n cs)(hb:But (· = g) w w'):ClN g w' A n cs :=
 ⟨h.sl.but hb (fun c b o a=>h.ne c b o a),h.ne⟩
end
section
open Go.RowKit
open Rg
def eJ (B:Nat) (a b:World):Prop:=Below B a b
theorem lT {B c:Nat}{a b:World}(h:Below c a b)(d:B<=c):eJ B a b:=⟨h.os,h.tape,h.output,h.size,fun q e=>h.block q (cC e d)⟩
theorem gY (B:Nat):∀a b c,eJ B a b->eJ B b c->eJ B a c:=fun _ _ _ h k=>⟨k.os.trans h.os,k.tape.trans h.tape,k.output.trans h.output,Nat.le_trans h.size k.size,fun q d=>(k.block q d).trans (h.block q d)⟩
theorem gP {w w':World}{B V:Nat}{T:TypeId}{cs:Array Value}(h:aT w V T cs)(hb:Below B w w')(a:V<B):aT w' V T cs:=(hb.block V a).trans h
structure BxQ (w:World) (V:Nat) (x:Int) (f:Bool) (A:Option Addr) (n c:Nat) (r:Rg):Prop where
 b:aT w V 71 #[.int .i64 x,.bool f,.slice A n c]
 s:RgS w x f A n c r
section
variable {w w':World} {V:Nat} {x:Int} {f:Bool} {A:Option Addr} {n c:Nat} {r:Rg}
theorem BxQ.case {g:Nat}(h:BxQ w V x f A n c r)(hc:CaseAt w g)(hb:But (· = g) w w'):BxQ w' V x f A n c r:=⟨h.b.but hb (hc.ne h.b (by decide)),h.s.case hc hb⟩
theorem BxQ.below (h:BxQ w V x f A n c r)(hb:Below w w w'):BxQ w' V x f A n c r:=⟨h.b.below hb,h.s.keep (aC hb)⟩
theorem BxQ.alloc (h:BxQ w V x f A n c r)(o:Obj):BxQ (w.alloc o) V x f A n c r:=⟨h.b.alloc o,h.s.keep (aM w o)⟩
theorem BxQ.off (h:BxQ w V x f A n c r){B:Nat}{x':Int}{f':Bool}{A':Option Addr}{n' c':Nat}(a:aT w B 71 #[x',.bool f',.slice A' n' c'])(hb:But (· = B) w w')(d:V≠B):BxQ w' V x f A n c r:=⟨h.b.but hb d,h.s.off a hb⟩
theorem BxQ.put {x':Int}{f':Bool}{A':Option Addr}{n' c':Nat}{a:Rg}(h:BxQ w V x f A n c r)(d:RgS w x' f' A' n' c' a):BxQ (cO w V x' (.bool f') (.slice A' n' c')) V x' f' A' n' c' a :=
 ⟨bY h.b,d.off h.b (bJ _ _ _ _ _)⟩
end
structure PdS (w:World) (g Va Vb Vw:Nat) (xa:Int) (fa:Bool) (Aa:Option Addr) (na ca:Nat) (ra:Rg) (xb:Int) (fb:Bool) (Ab:Option Addr) (nb cb:Nat) (rb:Rg) (xw:Int) (fw:Bool) (Aw:Option Addr) (nw cw:Nat) (rw_:Rg) (wr:World):Prop where
 a:BxQ wr Va xa fa Aa na ca ra
 b:BxQ wr Vb xb fb Ab nb cb rb
 r:BxQ wr Vw xw fw Aw nw cw rw_
 cs:CaseAt wr g
 bel:Below w.heap.size w wr
 hg:w.heap.size≤g
 hVa:w.heap.size≤Va
 hVb:w.heap.size≤Vb
 hab:Va≠Vb
 hra:Va≠Vw
 hrb:Vb≠Vw
section
variable {w wr w':World} {g Va Vb Vw:Nat} {xa:Int} {fa:Bool} {Aa:Option Addr} {na ca:Nat} {ra:Rg} {xb:Int} {fb:Bool} {Ab:Option Addr} {nb cb:Nat} {rb:Rg} {xw:Int} {fw:Bool} {Aw:Option Addr} {nw cw:Nat} {rw_:Rg}
theorem PdS.case (h:PdS w g Va Vb Vw xa fa Aa na ca ra xb fb Ab nb cb rb xw fw Aw nw cw rw_ wr)(hc:CaseAt w' g)(hb:But (· = g) wr w'):PdS w g Va Vb Vw xa fa Aa na ca ra xb fb Ab nb cb rb xw fw Aw nw cw rw_ w' :=
 ⟨h.a.case h.cs hb,h.b.case h.cs hb,h.r.case h.cs hb,hc,hb.below h.bel h.bel.size (fun k c=>by subst c;exact h.hg),h.hg,h.hVa,h.hVb,h.hab,h.hra,h.hrb⟩
end
end
section
open Go.RowKit
structure Pr (H:Nat) (w0 w:World) (v1:Value) (n1:Nat) (xs1:List Value) (v2:Value) (n2:Nat) (xs2:List Value) (l1 l2:Option (Nat×Value)):Prop where
 o1:w.ownsRow H 3 1 v1 n1 xs1
 o2:w.ownsRow H 3 1 v2 n2 xs2
 ne:∀ b,v1.ownBlock=some b→v2.ownBlock≠some b
 b1:∀ q,l1=some q→aT w q.1 3 #[q.2]∧v1.ownBlock≠some q.1∧v2.ownBlock≠some q.1
 b2:∀ q,l2=some q→aT w q.1 3 #[q.2]∧v1.ownBlock≠some q.1∧v2.ownBlock≠some q.1
 be:Below H w0 w
section
variable {H:Nat} {w0 w:World} {v1:Value} {n1:Nat} {xs1:List Value} {v2:Value} {n2:Nat} {xs2:List Value} {l1 l2:Option (Nat×Value)}
theorem Pr.drew (h:Pr H w0 w v1 n1 xs1 v2 n2 xs2 l1 l2):Pr H w0 w.drew v1 n1 xs1 v2 n2 xs2 l1 l2 :=
 ⟨h.o1.drew,h.o2.drew,h.ne,fun q e=>⟨(h.b1 q e).1.drew,(h.b1 q e).2⟩,fun q e=>⟨(h.b2 q e).1.drew,(h.b2 q e).2⟩,h.be.drew⟩
theorem Pr.build (h:Pr H w0 w v1 n1 xs1 v2 n2 xs2 none l2)(a:H<=w0.heap.size)(x:Value):Pr H w0 (w.alloc (.cells #[x] 3)) v1 n1 xs1 v2 n2 xs2 (some (w.heap.size,x)) l2 :=
 ⟨h.o1.alloc _,h.o2.alloc _,h.ne,fun q e=>by
  obtain rfl:q=(w.heap.size,x):=by injection e with e;exact e.symm
  exact⟨aT.new _ _ _,fun e=>by have:=(cN h.o1 e).2.1;simp at this,fun e=>by have:=(cN h.o2 e).2.1;simp at this⟩,fun q e=>⟨(h.b2 q e).1.alloc _,(h.b2 q e).2⟩,h.be.alloc (by have:=h.be.size;omega) _⟩
theorem Pr.app {w':World}{g i x':Nat}{x:Value}(h:Pr H w0 w v1 n1 xs1 v2 n2 xs2 (some (x',x)) l2)(t:H<=w0.heap.size)
 (r:w'.ownsRow H 3 1 (.slice (some ⟨g,0,none⟩) (n1+1) i) (n1+1) (xs1++[x]))(d:w.grownBy w' v1.ownBlock)(l:v1.ownBlock=some g\/g=w.heap.size) :
 Pr H w0 w' (.slice (some ⟨g,0,none⟩) (n1+1) i) (n1+1) (xs1++[x]) v2 n2 xs2 none l2:=by
 have p:v2.ownBlock≠some g:=fun e=>by
  rcases l with c|c
  . exact h.ne g c e
  . have:=(cN h.o2 e).2.1;omega
 refine⟨r,fJ h.o2 fun k _ o e=>d.block k o (fun a=>h.ne k a.symm e),fun b j a=>?_,fun q e=>(by cases e),fun q e=>?_,h.be.grown d (by have:=h.be.size;omega) (jN h.o1)⟩
 . simp only[Value.ownBlock,Option.some.injEq]at j;subst j;exact p a
 . obtain⟨m,n,s⟩:=h.b2 q e;refine⟨m.grown d (fun a=>n a.symm),fun a=>?_,s⟩;simp only[Value.ownBlock,Option.some.injEq]at a;rcases l with c|c
   . rw[a]at c;exact n c
   . have:=m.lt;omega
theorem Pr.less {w':World}{e g:Value}{c d:Nat}{i j:List Value}{a b:Option (Nat×Value)}(h:Pr H w w' v1 n1 xs1 v2 n2 xs2 l1 l2):eJ H w w':=h.be
end
end
section
open Go.RowKit
open Pd
def tB (v:Vl):Array Value:=#[.int .i64 v.k,.int .i64 v.i,.string v.t]
structure TwoV (W0:World) (dl dr:Vl) (d:Nat→Bool) (us:Nat→Value) (w:World):Prop where
 be:Below W0.heap.size W0 w
 c1:d 4=true→us 24 = .agg (tB dl)
 c2:d 9=true→us 29 = .agg (tB dr)
 a1:d 10=true→∃ B,us 7 = .pointer (some ⟨B,0,none⟩)∧W0.heap.size≤B∧aT w B 59 (if d 12=true then tB dl else tB bE)
 a2:d 11=true→∃ B,us 8 = .pointer (some ⟨B,0,none⟩)∧W0.heap.size≤B∧aT w B 59 (if d 13=true then tB dr else tB bE)
 s1:d 12=true→d 10=true
 s2:d 13=true→d 11=true
 ne:d 10=true→d 11=true→∀ B C,us 7 = .pointer (some ⟨B,0,none⟩)→us 8 = .pointer (some ⟨C,0,none⟩)→B≠C
theorem fM {d:Nat->Bool}{e j:Nat}(a:j≠e)(h:qB d e j=true):d j=true:=by rwa [dR a]at h
theorem aS1 {w:World}{B:Nat}{T:TypeId}{v:Vl}(h:aT w B T (tB bE)):aT (((w.setCell ⟨B,0,none⟩ v.k).setCell ⟨B,1,none⟩ v.i).setCell ⟨B,2,none⟩ v.t) B T (tB v):=((h.set_ 0 v.k).set_ 1 v.i).set_ 2 v.t
theorem aS0 {w:World}{B C:Nat}{T:TypeId}{cs:Array Value}{x y z:Value}(h:aT w C T cs)(a:B≠C):aT (((w.setCell ⟨B,0,none⟩ x).setCell ⟨B,1,none⟩ y).setCell ⟨B,2,none⟩ z) C T cs:=((h.far (p:=⟨B,0,none⟩) (fun e=>a e.symm) x).far (p:=⟨B,1,none⟩) (fun e=>a e.symm) y).far (p:=⟨B,2,none⟩) (fun e=>a e.symm) z
theorem pA {b w:World}{n B:Nat}{x y z:Value}(h:Below n b w)(a:n<=B):Below n b (((w.setCell ⟨B,0,none⟩ x).setCell ⟨B,1,none⟩ y).setCell ⟨B,2,none⟩ z):=((h.setCell (p:=⟨B,0,none⟩) a x).setCell (p:=⟨B,1,none⟩) a y).setCell (p:=⟨B,2,none⟩) a z
theorem bY1 (L ps:List Vl)(m:Int)(l r:Od)(A:Option Addr)(n c:Nat)(a4:Option Addr)(b0 c6:Nat)(a3:Option Addr)(a9 c5:Nat)(w:World)(hr:qA w a4 b0 L)(hp:qA w a3 a9 ps) :
 Calls Tryz.prog 37 #[.agg (iK ⟨3,m,l,r⟩ A n c),.slice a4 b0 c6,.slice a3 a9 c5] w fun e w'=>e=.returned (.bool (gT m (oQ L ps l) (oQ L ps r)))/\Below w w w':=by
 obtain⟨a0,O⟩:=zE (gT m (oQ L ps l) (oQ L ps r));rw[O.out];obtain⟨e4,d9⟩:=zE (oQ L ps l);obtain⟨e5,e0⟩:=zE (oQ L ps r);rw[d9.out,e0.out]at O;unfold iK;have d4:=Z (hr.keep (aM w (.cells #[(3:Int),m,l.k,l.ix,l.v.k,l.v.i,l.v.t,r.k,r.ix,r.v.k,r.v.i,r.v.t,.slice A n c] 64)));have d3:=Z (hp.keep (aM w (.cells #[(3:Int),m,l.k,l.ix,l.v.k,l.v.i,l.v.t,r.k,r.ix,r.v.k,r.v.i,r.v.t,.slice A n c] 64)));have S:=Z (aT.new w 64 #[(3:Int),m,l.k,l.ix,l.v.k,l.v.i,l.v.t,r.k,r.ix,r.v.k,r.v.i,r.v.t,.slice A n c]);have HB:=Z ((aB w w).alloc (aD _) (.cells #[(3:Int),m,l.k,l.ix,l.v.k,l.v.i,l.v.t,r.k,r.ix,r.v.k,r.v.i,r.v.t,.slice A n c] 64));clear hr hp;go_enter Tryz.func37,Tryz.ntmps37;go_upto_region 1 with fail;obtain⟨X,d8⟩:=zE (w.heap.size);rw[d8.out]at S;rw[d8.out];generalize hW:w.alloc (.cells #[(3:Int),m,l.k,l.ix,l.v.k,l.v.i,l.v.t,r.k,r.ix,r.v.k,r.v.i,r.v.t,.slice A n c] 64)=I at *;clear hW;have e6:X<I.heap.size:=S.out.lt;have d0:=S.out.cell;go_upto_region 5 with fail;clear d0;refine hD (eJ I) (gY _) [24,29,7,8] [0,1,2,3,5,6,7,8] [4,9,10,11,12,13] (TwoV I.drew e4 e5) ?_;have a6:=Z S.out.drew;have c0:=Z (d4.out.keep (aC (aB I I).drew));have b7:=Z (d3.out.keep (aC (aB I I).drew));have c8:∀(y:LaterR (eJ I) I.drew) z,(cS (eJ I) I.drew y).cell? ⟨X,z,none⟩=(#[(3:Int),m,l.k,l.ix,l.v.k,l.v.i,l.v.t,r.k,r.ix,r.v.k,r.v.i,r.v.t,.slice A n c]:Array Value)[z]?:=fun y z=>y.cell (a6.out.cell z) (fun W h=>(gP a6.out h e6).cell z);simp only[cP];repeat(go_big_quiet_step (fail))
 refine wpQuiet_nil ?_;clear c8;refine⟨by kernel_rfl,⟨aB _ _,fun h=>(by cases h),fun h=>(by cases h),fun h=>(by cases h),fun h=>(by cases h),fun h=>(by cases h),fun h=>(by cases h),fun h=>(by cases h)⟩,?_,?_⟩
 . refine⟨?_,?_,?_,?_,?_,?_,trivial⟩
   . intro d us E hd a hI;replace hI:=Z hI;clear a;simp only[eS,aY,aL,aO,bN,dM,List.foldl];go_wp2_with fail;refine(xN L ps l a4 b0 c6 a3 a9 c5 _ (c0.out.keep (aC hI.out.be)) (b7.out.keep (aC hI.out.be))).mono ?_;rintro e w3 ⟨rfl,hb⟩;rw[d9.out];go_wp2_with fail;refine⟨⟨lT hb hI.out.be.size,cC1 hI.out.be hb,fun _=>rfl,fun h=>hI.out.c2 (fM (by decide) h),fun h=>?_,fun h=>?_,fun h=>by rw[dR (by decide)];exact hI.out.s1 (fM (by decide) h),fun h=>by rw[dR (by decide)];exact hI.out.s2 (fM (by decide) h),fun h J B C e1 e2=>hI.out.ne (fM (by decide) h) (fM (by decide) J) B C e1 e2⟩,by kernel_rfl⟩
     . obtain⟨B,h1,h2,h3⟩:=hI.out.a1 (fM (by decide) h);exact⟨B,h1,h2,by rw[dR (by decide)];exact h3.below hb⟩
     . obtain⟨B,h1,h2,h3⟩:=hI.out.a2 (fM (by decide) h);exact⟨B,h1,h2,by rw[dR (by decide)];exact h3.below hb⟩
   . intro d us E hd a hI;replace hI:=Z hI;clear a;simp only[eS,aY,aL,aO,bN,dM,List.foldl];go_wp2_with fail;refine(xN L ps r a4 b0 c6 a3 a9 c5 _ (c0.out.keep (aC hI.out.be)) (b7.out.keep (aC hI.out.be))).mono ?_;rintro e w3 ⟨rfl,hb⟩;rw[e0.out];go_wp2_with fail;refine⟨⟨lT hb hI.out.be.size,cC1 hI.out.be hb,fun h=>hI.out.c1 (fM (by decide) h),fun _=>rfl,fun h=>?_,fun h=>?_,fun h=>by rw[dR (by decide)];exact hI.out.s1 (fM (by decide) h),fun h=>by rw[dR (by decide)];exact hI.out.s2 (fM (by decide) h),fun h J B C e1 e2=>hI.out.ne (fM (by decide) h) (fM (by decide) J) B C e1 e2⟩,by kernel_rfl⟩
     . obtain⟨B,h1,h2,h3⟩:=hI.out.a1 (fM (by decide) h);exact⟨B,h1,h2,by rw[dR (by decide)];exact h3.below hb⟩
     . obtain⟨B,h1,h2,h3⟩:=hI.out.a2 (fM (by decide) h);exact⟨B,h1,h2,by rw[dR (by decide)];exact h3.below hb⟩
   . intro d us E hd a hI;replace hI:=Z hI;clear a;simp only[eS,aY,aL,aO,bN,dM,List.foldl];go_wp2_with fail;refine⟨⟨(aB _ _).alloc hI.out.be.size _,hI.out.be.alloc hI.out.be.size _,fun h=>hI.out.c1 (fM (by decide) h),fun h=>hI.out.c2 (fM (by decide) h),fun h=>?_,fun h=>?_,fun h=>by rw[jZ],fun h=>by rw[dR (by decide)];exact hI.out.s2 (fM (by decide) h),fun h J B M e1 e2=>?_⟩,by kernel_rfl⟩
     . refine⟨E.heap.size,rfl,hI.out.be.size,?_⟩;rw[dR (by decide),if_neg (fun h=>by have:=hI.out.s1 h;rw[hd]at this;cases this)];exact aT.new E 59 (tB bE)
     . obtain⟨B,h1,h2,h3⟩:=hI.out.a2 (fM (by decide) h);exact⟨B,h1,h2,by rw[dR (by decide)];exact h3.alloc _⟩
     . obtain⟨C,h1,h2,h3⟩:=hI.out.a2 (fM (by decide) J);have hlt:=h3.lt;have e3:(.pointer (some ⟨E,0,none⟩):Value)=.pointer (some ⟨B,0,none⟩):=e1;have x:(.pointer (some ⟨C,0,none⟩):Value)=.pointer (some ⟨M,0,none⟩):=h1.symm.trans e2;injection e3 with e3;injection e3 with e3;injection e3 with e3;injection x with x;injection x with x;injection x with x;omega
   . intro d us E hd a hI;replace hI:=Z hI;clear a;simp only[eS,aY,aL,aO,bN,dM,List.foldl];go_wp2_with fail;refine⟨⟨(aB _ _).alloc hI.out.be.size _,hI.out.be.alloc hI.out.be.size _,fun h=>hI.out.c1 (fM (by decide) h),fun h=>hI.out.c2 (fM (by decide) h),fun h=>?_,fun h=>?_,fun h=>by rw[dR (by decide)];exact hI.out.s1 (fM (by decide) h),fun h=>by rw[jZ],fun h J B M e1 e2=>?_⟩,by kernel_rfl⟩
     . obtain⟨B,h1,h2,h3⟩:=hI.out.a1 (fM (by decide) h);exact⟨B,h1,h2,by rw[dR (by decide)];exact h3.alloc _⟩
     . refine⟨E.heap.size,rfl,hI.out.be.size,?_⟩;rw[dR (by decide),if_neg (fun h=>by have:=hI.out.s2 h;rw[hd]at this;cases this)];exact aT.new E 59 (tB bE)
     . obtain⟨C,h1,h2,h3⟩:=hI.out.a1 (fM (by decide) h);have hlt:=h3.lt;have e3:(.pointer (some ⟨E,0,none⟩):Value)=.pointer (some ⟨M,0,none⟩):=e2;have x:(.pointer (some ⟨C,0,none⟩):Value)=.pointer (some ⟨B,0,none⟩):=h1.symm.trans e1;injection e3 with e3;injection e3 with e3;injection e3 with e3;injection x with x;injection x with x;injection x with x;omega
   . intro d us E hd a hI;replace hI:=Z hI;obtain⟨B,u,K,D⟩:=hI.out.a1 (a 10 (by decide) (by kernel_rfl));have U:=hI.out.c1 (a 4 (by decide) (by kernel_rfl));rw[hd,if_neg (by decide)]at D;have P:=Z D;simp only[eS,aY,aL,aO,bN,dM,List.foldl];rw[u,U];unfold tB;have c9:=P.out.cell;have f2:=P.out.free;clear D;unfold tB at c9;have c4:=Z u;have c3:=Z a;clear u U a;go_wp2_with fail;have u:=c4.out;have a:=c3.out;refine⟨⟨pA (aB _ _) K,pA hI.out.be K,fun _=>rfl,fun h=>(hI.out.c2 (fM (by decide) h)),fun h=>?_,fun h=>?_,fun _=>by rw[dR (by decide)];exact a 10 (by decide) (by kernel_rfl),fun h=>by rw[dR (by decide)];exact hI.out.s2 (fM (by decide) h),fun h J b3 M e1 e2=>hI.out.ne (fM (by decide) h) (fM (by decide) J) b3 M (u.trans e1) e2⟩,by kernel_rfl⟩
     . exact⟨B,rfl,K,by rw[jZ,if_pos rfl];exact aS1 P.out⟩
     . obtain⟨C,h1,h2,h3⟩:=hI.out.a2 (fM (by decide) h);exact⟨C,h1,h2,by rw[dR (by decide)];exact aS0 h3 (hI.out.ne (a 10 (by decide) (by kernel_rfl)) (fM (by decide) h) B C u h1)⟩
   . intro d us E hd a hI;replace hI:=Z hI;obtain⟨B,u,K,D⟩:=hI.out.a2 (a 11 (by decide) (by kernel_rfl));have U:=hI.out.c2 (a 9 (by decide) (by kernel_rfl));rw[hd,if_neg (by decide)]at D;have P:=Z D;simp only[eS,aY,aL,aO,bN,dM,List.foldl];rw[u,U];unfold tB;have c9:=P.out.cell;have f2:=P.out.free;clear D;unfold tB at c9;have c4:=Z u;have c3:=Z a;clear u U a;go_wp2_with fail;have u:=c4.out;have a:=c3.out;refine⟨⟨pA (aB _ _) K,pA hI.out.be K,fun h=>(hI.out.c1 (fM (by decide) h)),fun _=>rfl,fun h=>?_,fun h=>?_,fun h=>by rw[dR (by decide)];exact hI.out.s1 (fM (by decide) h),fun _=>by rw[dR (by decide)];exact a 11 (by decide) (by kernel_rfl),fun h J b3 M e1 e2=>hI.out.ne (fM (by decide) h) (fM (by decide) J) b3 M e1 (u.trans e2)⟩,by kernel_rfl⟩
     . obtain⟨C,h1,h2,h3⟩:=hI.out.a1 (fM (by decide) h);exact⟨C,h1,h2,by rw[dR (by decide)];exact aS0 h3 (fun e=>hI.out.ne (fM (by decide) h) (a 11 (by decide) (by kernel_rfl)) C B h1 u e.symm)⟩
     . exact⟨B,rfl,K,by rw[jZ,if_pos rfl];exact aS1 P.out⟩
 . intro d us E hall hI;obtain⟨B,u,K,D⟩:=hI.a1 (hall 10 (by decide));obtain⟨C,e8,f0,a8⟩:=hI.a2 (hall 11 (by decide));rw[hall 12 (by decide),if_pos rfl]at D;rw[hall 13 (by decide),if_pos rfl]at a8;have d1:=Z (cC1 HB.out.drew hI.be);have d5:=Z (a6.out.below hI.be);simp only[dM,List.foldl];rw[u,e8];clear hI hall HB S a6 d4 d3 c0 b7 K f0 e6;clear u e8;obtain⟨g,o,at_⟩:=e4;obtain⟨j,p,q⟩:=e5;unfold tB at D a8;have b5:=Z D;have HQ:=Z a8;clear D a8;generalize us 24=f3;generalize us 29=f4;clear us;have b1:=b5.out.cell;go_wp2_with fail;refine(zU ⟨g,o,at_⟩ _).mono ?_;rintro e w3 ⟨rfl,V⟩;have b4:=Z (cC1 d1.out V);have d6:=Z (d5.out.below V);have d2:=Z (b5.out.below V);have b8:=Z (HQ.out.below V);clear b1 V b5 HQ d5 d1;obtain⟨c8,Q⟩:=zE (gL ⟨g,o,at_⟩);rw[Q.out];cases c8
   . obtain rfl:false=a0:=(by rw[<- O.out,gT,Q.out];rfl);go_wp2;go_ret;exact⟨rfl,b4.out⟩
   have b2:=b8.out.cell;go_wp2_with fail;refine(zU ⟨j,p,q⟩ _).mono ?_;rintro e w4 ⟨rfl,Y⟩;have a5:=Z (cC1 b4.out Y);have d7:=Z (d6.out.below Y);have b6:=Z (d2.out.below Y);have b9:=Z (b8.out.below Y);clear b2 Y d2 b8 d6 b4;obtain⟨f1,T⟩:=zE (gL ⟨j,p,q⟩);rw[T.out];cases f1
   . obtain rfl:false=a0:=(by rw[<- O.out,gT,Q.out,T.out];rfl);go_wp2;go_ret;exact⟨rfl,a5.out⟩
   have b1:=b6.out.cell;have b2:=b9.out.cell;by_cases hk:g=j;rotate_left
   . obtain rfl:false=a0:=(by rw[<- O.out,gT,Q.out,T.out,decide_eq_false (show ¬(⟨g,o,at_⟩:Vl).k=(⟨j,p,q⟩:Vl).k from hk)];rfl);have g1:(g != j)=true:=(by simpa using hk);clear hk;go_wp2;go_ret;exact⟨rfl,a5.out⟩
   have g1:(g != j)=false:=(by simpa using hk);have b:Hid (hA m (bZ ⟨g,o,at_⟩ ⟨j,p,q⟩)=a0):=Z (by rw[<- O.out,gT,Q.out,T.out,decide_eq_true (show(⟨g,o,at_⟩:Vl).k=(⟨j,p,q⟩:Vl).k from hk)];rfl);clear hk O Q T;have d0:=d7.out.cell;go_wp2_with fail;refine(aC9 m _).mono ?_;rintro e w5 ⟨rfl,a7⟩;have N:=Z (cC1 a5.out a7);have e7:=Z (b6.out.below a7);have e9:=Z (b9.out.below a7);clear b1 b2 d0 a7 b6 b9 d7 a5 g1;have b1:=e7.out.cell;have b2:=e9.out.cell;by_cases c7:1<=m/\m<=6;rotate_left
   . obtain rfl:false=a0:=(by rw[<- b.out,hA];repeat rw[if_neg (by omega)]);have hf:aA0 m=Value.nilFunc:=(by unfold aA0;repeat rw[if_neg (by omega)]);rw[hf];have R:=bT8;clear hf c7 b;go_wp2;go_ret;exact⟨rfl,N.out⟩
   have c7:m=1\/m=2\/m=3\/m=4\/m=5\/m=6:=(by omega);rcases c7 with rfl|rfl|rfl|rfl|rfl|rfl
   . rw[show aA0 1=.func (.func 148) #[] #[]from rfl];have R:=nY (.func 148);go_wp2_with fail;refine(eT ⟨g,o,at_⟩ ⟨j,p,q⟩ _).mono ?_;rintro e w6 ⟨rfl,s⟩;have F:=Z (cC1 N.out s);clear s;obtain⟨H,G⟩:=zE (bZ ⟨g,o,at_⟩ ⟨j,p,q⟩);rw[G.out]at b ⊢;go_wp2_with fail;refine(bO4 H _).mono ?_;rintro e w7 ⟨rfl,rfl⟩;rw[b.out];clear b;go_wp2;go_ret;exact⟨rfl,F.out⟩
   . rw[show aA0 2=.func (.func 149) #[] #[]from rfl];have R:=nY (.func 149);go_wp2_with fail;refine(eT ⟨g,o,at_⟩ ⟨j,p,q⟩ _).mono ?_;rintro e w6 ⟨rfl,s⟩;have F:=Z (cC1 N.out s);clear s;obtain⟨H,G⟩:=zE (bZ ⟨g,o,at_⟩ ⟨j,p,q⟩);rw[G.out]at b ⊢;go_wp2_with fail;refine(aF0 H _).mono ?_;rintro e w7 ⟨rfl,rfl⟩;rw[b.out];clear b;go_wp2;go_ret;exact⟨rfl,F.out⟩
   . rw[show aA0 3=.func (.func 150) #[] #[]from rfl];have R:=nY (.func 150);go_wp2_with fail;refine(eT ⟨g,o,at_⟩ ⟨j,p,q⟩ _).mono ?_;rintro e w6 ⟨rfl,s⟩;have F:=Z (cC1 N.out s);clear s;obtain⟨H,G⟩:=zE (bZ ⟨g,o,at_⟩ ⟨j,p,q⟩);rw[G.out]at b ⊢;go_wp2_with fail;refine(bV0 H _).mono ?_;rintro e w7 ⟨rfl,rfl⟩;rw[b.out];clear b;go_wp2;go_ret;exact⟨rfl,F.out⟩
   . rw[show aA0 4=.func (.func 151) #[] #[]from rfl];have R:=nY (.func 151);go_wp2_with fail;refine(eT ⟨g,o,at_⟩ ⟨j,p,q⟩ _).mono ?_;rintro e w6 ⟨rfl,s⟩;have F:=Z (cC1 N.out s);clear s;obtain⟨H,G⟩:=zE (bZ ⟨g,o,at_⟩ ⟨j,p,q⟩);rw[G.out]at b ⊢;go_wp2_with fail;refine(bC4 H _).mono ?_;rintro e w7 ⟨rfl,rfl⟩;rw[b.out];clear b;go_wp2;go_ret;exact⟨rfl,F.out⟩
   . rw[show aA0 5=.func (.func 152) #[] #[]from rfl];have R:=nY (.func 152);go_wp2_with fail;refine(eT ⟨g,o,at_⟩ ⟨j,p,q⟩ _).mono ?_;rintro e w6 ⟨rfl,s⟩;have F:=Z (cC1 N.out s);clear s;obtain⟨H,G⟩:=zE (bZ ⟨g,o,at_⟩ ⟨j,p,q⟩);rw[G.out]at b ⊢;go_wp2_with fail;refine(aU8 H _).mono ?_;rintro e w7 ⟨rfl,rfl⟩;rw[b.out];clear b;go_wp2;go_ret;exact⟨rfl,F.out⟩
   . rw[show aA0 6=.func (.func 153) #[] #[]from rfl];have R:=nY (.func 153);go_wp2_with fail;refine(eT ⟨g,o,at_⟩ ⟨j,p,q⟩ _).mono ?_;rintro e w6 ⟨rfl,s⟩;have F:=Z (cC1 N.out s);clear s;obtain⟨H,G⟩:=zE (bZ ⟨g,o,at_⟩ ⟨j,p,q⟩);rw[G.out]at b ⊢;go_wp2_with fail;refine(aU9 H _).mono ?_;rintro e w7 ⟨rfl,rfl⟩;rw[b.out];clear b;go_wp2;go_ret;exact⟨rfl,F.out⟩
theorem aX0 {b ps:List Vl}{h:Nd}{x:Bool×Bool×Bool}(a:h.op=1):mK b ps h x=true:=by unfold mK;rw[if_pos a]
theorem yH {a ps:List Vl}{h:Nd}{x:Bool×Bool×Bool}(b:h.op=3):mK a ps h x=gT h.cm (oQ a ps h.l) (oQ a ps h.r):=by unfold mK;rw[if_neg (by omega),if_pos b]
theorem bK4 {b ps:List Vl}{h:Nd}{x:Bool×Bool×Bool}(a:h.op=4):mK b ps h x=x.1:=by unfold mK;rw[if_neg (by omega),if_neg (by omega),if_pos a]
theorem bY4 {b ps:List Vl}{h:Nd}{x:Bool×Bool×Bool}(a:h.op=5):mK b ps h x=x.2.1:=by unfold mK;rw[if_neg (by omega),if_neg (by omega),if_neg (by omega),if_pos a]
theorem bK3 {b ps:List Vl}{h:Nd}{x:Bool×Bool×Bool}(a:h.op=6):mK b ps h x=x.2.2:=by unfold mK;rw[if_neg (by omega),if_neg (by omega),if_neg (by omega),if_neg (by omega),if_pos a]
theorem aX1 {g ps:List Vl}{h:Nd}{x:Bool×Bool×Bool}(a:h.op≠1)(b:h.op≠3)(c:h.op≠4)(d:h.op≠5)(e:h.op≠6):mK g ps h x=false:=by unfold mK;rw[if_neg a,if_neg b,if_neg c,if_neg d,if_neg e]
theorem bP6 (a ps:List Vl):∀(N:Nat) (p:Pd) (A:Option Addr) (n c:Nat) (z:Option Addr) (G T:Nat) (y:Option Addr) (F S:Nat) (w:World),p.nodes<=N->N<=1000->PrdS w A n c p->qA w z G a->qA w y F ps ->
 Calls Tryz.prog 37 #[.agg (iK p.h A n c),.slice z G T,.slice y F S] w fun e w'=>e=.returned (.bool (dV a ps p))/\Below w w w':=by
 intro N
 induction N with
 |zero=>intro p A n c z G T y F S w c3;have:=eA p;omega
 |
  succ N ih =>
  intro p A n c z G T y F S w c3 c7 hs hr hp;have c2:=Z ih;have U:Hid (p.nodes<=N+1/\N+1<=1000):=Z ⟨c3,c7⟩;have c9:n<=1000:=by have:=pH p;have:=hs.len;omega
  have b8:=Z hs.len;obtain⟨b,c0⟩:=zE (dV a ps p);rw[c0.out];obtain⟨hd,b7⟩:=zE (p.h);have g:Hid (mK a ps hd (dZ a ps (p.rest 0))=b):=Z (by rw[fI,<- b7.out];exact c0.out);rw[b7.out];clear ih c3 c7 c0 b7;obtain⟨op,B,⟨D,E,⟨O,M,P⟩⟩,⟨H,I,⟨K,J,L⟩⟩⟩:=hd;by_cases h3:op=3
  . subst h3;obtain rfl:gT B (oQ a ps ⟨D,E,⟨O,M,P⟩⟩) (oQ a ps ⟨H,I,⟨K,J,L⟩⟩)=b:=(by rw[<- g.out,yH rfl]);exact bY1 a ps B ⟨D,E,⟨O,M,P⟩⟩ ⟨H,I,⟨K,J,L⟩⟩ A n c z G T y F S w hr hp
  unfold iK;have b3:=Z (hs.keep (aM w (.cells #[op,B,D,E,O,M,P,H,I,K,J,L,.slice A n c] 64)));have b1:=Z (hr.keep (aM w (.cells #[op,B,D,E,O,M,P,H,I,K,J,L,.slice A n c] 64)));have a9:=Z (hp.keep (aM w (.cells #[op,B,D,E,O,M,P,H,I,K,J,L,.slice A n c] 64)));have c6:=Z (aT.new w 64 #[op,B,D,E,O,M,P,H,I,K,J,L,.slice A n c]);have HB:=Z ((aB w w).alloc (aD _) (.cells #[op,B,D,E,O,M,P,H,I,K,J,L,.slice A n c] 64));clear hs hr hp;go_enter Tryz.func37,Tryz.ntmps37;go_upto_region 1 with fail;obtain⟨X,b4⟩:=zE (w.heap.size);rw[b4.out]at c6;rw[b4.out];generalize hW:w.alloc (.cells #[op,B,D,E,O,M,P,H,I,K,J,L,.slice A n c] 64)=w1 at *;clear hW b4;have c4:=c6.out.cell;by_cases h1:op=1
  . obtain rfl:true=b:=(by rw[<- g.out,aX0 h1]);clear g h3;subst h1;go_wp2;go_ret;exact⟨rfl,HB.out⟩
  by_cases h4:op=4
  . have m:Hid ((dZ a ps (p.rest 0)).1=b):=Z (by rw[<- g.out,bK4 h4]);clear g h1 h3;subst h4;go_wp2_with fail;go_loopw [62] (fun i wr=>∃k:Nat,k<=n/\i=.int .i64 (k:Int)/\Hid ((dZ a ps (p.rest k)).1=b)/\Hid (Below w1 w1 wr)) (fun i _=>n-(intOf i).toNat);case atStart=>exact⟨0,by omega,rfl,m,Z (aB _ _)⟩
    case round =>
     obtain⟨k,hk,rfl,x,u⟩:=hrel;clear c4 m;by_cases hlt:k<n
     . have a4:=Z (b3.out.keep (aC u.out));obtain⟨b',o',q,A1,n1,c1,rfl,hq,d⟩:=a4.out.at hlt;have a7:=Z (eX hq);have j:=Z (mO hq a ps);have a5:=Z (d.s.keep (aM wr (.cells #[q.h.op,q.h.cm,q.h.l.k,q.h.l.ix,q.h.l.v.k,q.h.l.v.i,q.h.l.v.t,q.h.r.k,q.h.r.ix,q.h.r.v.k,q.h.r.v.i,q.h.r.v.t,.slice A1 n1 c1] 64)));obtain⟨W,d1,d2,d3,d4,d5,d6,d7,d8,d9,a0,a1,a2,a8⟩:=d;have Q:=Z (u.out.alloc u.out.size (.cells #[q.h.op,q.h.cm,q.h.l.k,q.h.l.ix,q.h.l.v.k,q.h.l.v.i,q.h.l.v.t,q.h.r.k,q.h.r.ix,q.h.r.v.k,q.h.r.v.i,q.h.r.v.t,.slice A1 n1 c1] 64));have a6:=Z (aT.new wr 64 #[q.h.op,q.h.cm,q.h.l.k,q.h.l.ix,q.h.l.v.k,q.h.l.v.i,q.h.l.v.t,q.h.r.k,q.h.r.ix,q.h.r.v.k,q.h.r.v.i,q.h.r.v.t,.slice A1 n1 c1]);clear a8 hq;obtain⟨Y,R⟩:=zE (wr.heap.size);rw[R.out]at a6;go_upto_region 14 with fail;rw[R.out];generalize hW3:wr.alloc (.cells #[q.h.op,q.h.cm,q.h.l.k,q.h.l.ix,q.h.l.v.k,q.h.l.v.i,q.h.l.v.t,q.h.r.k,q.h.r.ix,q.h.r.v.k,q.h.r.v.i,q.h.r.v.t,.slice A1 n1 c1] 64)=w3 at *;clear hW3 R W d1 d2 d3 d4 d5 d6 d7 d8 d9 a0 a1 a2 a4;have c5:=a6.out.cell;have b2:=Z (b1.out.keep (aC Q.out));have b0:=Z (a9.out.keep (aC Q.out));go_wp2_with fail;refine(c2.out q A1 n1 c1 z G T y F S _ (by have:=a7.out;have:=U.out;omega) (by have:=U.out;omega) a5.out b2.out b0.out).mono ?_;rintro e w4 ⟨rfl,C⟩;have a3:=Z (cC1 Q.out C);clear C c5;obtain⟨o,V⟩:=zE (dV a ps q);rw[V.out]at j ⊢;have b5:Hid (o=false->false=b):=Z (fun h=>by rw[<- x.out,j.out,h];rfl);have b6:Hid (o = !false->(dZ a ps (p.rest (k+1))).1=b):=Z (fun h=>by rw[<- x.out,j.out,h];rfl);cases o
       . obtain rfl:=b5.out rfl;go_wp2;go_ret;exact⟨rfl,cC1 HB.out a3.out⟩
       . have b9:=Z (b6.out rfl);go_wp2;go_roundw;case rel=>exact⟨k+1,by omega,by go_num,b9,a3⟩
         case measure=>simp[intOf];omega
     . obtain rfl:true=b:=(by rw[<- x.out,fD (by rw[<- b8.out];omega)];rfl);clear x;go_wp2;go_ret;exact⟨rfl,cC1 HB.out u.out⟩
  by_cases h5:op=5
  . have m:Hid ((dZ a ps (p.rest 0)).2.1=b):=Z (by rw[<- g.out,bY4 h5]);clear g h1 h3 h4;subst h5;go_wp2_with fail;go_loopw [77] (fun i wr=>∃k:Nat,k<=n/\i=.int .i64 (k:Int)/\Hid ((dZ a ps (p.rest k)).2.1=b)/\Hid (Below w1 w1 wr)) (fun i _=>n-(intOf i).toNat);case atStart=>exact⟨0,by omega,rfl,m,Z (aB _ _)⟩
    case round =>
     obtain⟨k,hk,rfl,x,u⟩:=hrel;clear c4 m;by_cases hlt:k<n
     . have a4:=Z (b3.out.keep (aC u.out));obtain⟨b',o',q,A1,n1,c1,rfl,hq,d⟩:=a4.out.at hlt;have a7:=Z (eX hq);have j:=Z (mO hq a ps);have a5:=Z (d.s.keep (aM wr (.cells #[q.h.op,q.h.cm,q.h.l.k,q.h.l.ix,q.h.l.v.k,q.h.l.v.i,q.h.l.v.t,q.h.r.k,q.h.r.ix,q.h.r.v.k,q.h.r.v.i,q.h.r.v.t,.slice A1 n1 c1] 64)));obtain⟨W,d1,d2,d3,d4,d5,d6,d7,d8,d9,a0,a1,a2,a8⟩:=d;have Q:=Z (u.out.alloc u.out.size (.cells #[q.h.op,q.h.cm,q.h.l.k,q.h.l.ix,q.h.l.v.k,q.h.l.v.i,q.h.l.v.t,q.h.r.k,q.h.r.ix,q.h.r.v.k,q.h.r.v.i,q.h.r.v.t,.slice A1 n1 c1] 64));have a6:=Z (aT.new wr 64 #[q.h.op,q.h.cm,q.h.l.k,q.h.l.ix,q.h.l.v.k,q.h.l.v.i,q.h.l.v.t,q.h.r.k,q.h.r.ix,q.h.r.v.k,q.h.r.v.i,q.h.r.v.t,.slice A1 n1 c1]);clear a8 hq;obtain⟨Y,R⟩:=zE (wr.heap.size);rw[R.out]at a6;go_upto_region 22 with fail;rw[R.out];generalize hW3:wr.alloc (.cells #[q.h.op,q.h.cm,q.h.l.k,q.h.l.ix,q.h.l.v.k,q.h.l.v.i,q.h.l.v.t,q.h.r.k,q.h.r.ix,q.h.r.v.k,q.h.r.v.i,q.h.r.v.t,.slice A1 n1 c1] 64)=w3 at *;clear hW3 R W d1 d2 d3 d4 d5 d6 d7 d8 d9 a0 a1 a2 a4;have c5:=a6.out.cell;have b2:=Z (b1.out.keep (aC Q.out));have b0:=Z (a9.out.keep (aC Q.out));go_wp2_with fail;refine(c2.out q A1 n1 c1 z G T y F S _ (by have:=a7.out;have:=U.out;omega) (by have:=U.out;omega) a5.out b2.out b0.out).mono ?_;rintro e w4 ⟨rfl,C⟩;have a3:=Z (cC1 Q.out C);clear C c5;obtain⟨o,V⟩:=zE (dV a ps q);rw[V.out]at j ⊢;have b5:Hid (o=true->true=b):=Z (fun h=>by rw[<- x.out,j.out,h];rfl);have b6:Hid (o = !true->(dZ a ps (p.rest (k+1))).2.1=b):=Z (fun h=>by rw[<- x.out,j.out,h];rfl);cases o
       . have b9:=Z (b6.out rfl);go_wp2;go_roundw;case rel=>exact⟨k+1,by omega,by go_num,b9,a3⟩
         case measure=>simp[intOf];omega
       . obtain rfl:=b5.out rfl;go_wp2;go_ret;exact⟨rfl,cC1 HB.out a3.out⟩
     . obtain rfl:false=b:=(by rw[<- x.out,fD (by rw[<- b8.out];omega)];rfl);clear x;go_wp2;go_ret;exact⟨rfl,cC1 HB.out u.out⟩
  by_cases h6:op=6
  . have m:Hid ((dZ a ps (p.rest 0)).2.2=b):=Z (by rw[<- g.out,bK3 h6]);clear g h1 h3 h4 h5;subst h6;by_cases hn:0<n
    . obtain⟨b',o',q,A1,n1,c1,rfl,hq,d⟩:=b3.out.at hn;have a5:=Z d.s;obtain⟨W,d1,d2,d3,d4,d5,d6,d7,d8,d9,a0,a1,a2,a8⟩:=d;have a7:=Z (eX hq);have j:=Z (mO hq a ps);simp only[Nat.zero_mul,bX]at W d1 d2 d3 d4 d5 d6 d7 d8 d9 a0 a1 a2;clear a8 hq;go_wp2_with fail;refine(c2.out q A1 n1 c1 z G T y F S _ (by have:=a7.out;have:=U.out;omega) (by have:=U.out;omega) a5.out b1.out a9.out).mono ?_;rintro e w4 ⟨rfl,C⟩;have c8:=Z (cC1 HB.out C);clear C c4 W d1 d2 d3 d4 d5 d6 d7 d8 d9 a0 a1 a2;obtain⟨o,V⟩:=zE (dV a ps q);rw[V.out]at j ⊢;obtain rfl:(!o)=b:=(by rw[<- m.out,j.out]);clear j m V;cases o;all_goals
       go_wp2;go_ret;exact⟨rfl,c8.out⟩
    . obtain rfl:false=b:=(by rw[<- m.out,fD (by rw[<- b8.out];omega)];rfl);obtain rfl:n=0:=(by omega);clear m hn;go_wp2;go_ret;exact⟨rfl,HB.out⟩
  obtain rfl:false=b:=by rw[<- g.out,aX1 h1 h3 h4 h5 h6]
  have g1:(op == 1)=false:=by simpa using h1
  have g3:(op == 3)=false:=by simpa using h3
  have g4:(op == 4)=false:=by simpa using h4
  have g5:(op == 5)=false:=by simpa using h5
  have g6:(op == 6)=false:=by simpa using h6
  clear h1 h3 h4 h5 h6 g;go_wp2;go_ret;exact⟨rfl,HB.out⟩
end
section
open Go.RowKit
theorem uO (a b:Int)(c:ByteArray)(a' b':Int)(c':ByteArray)(w:World):(binOp .neq 59 (.agg #[a,b,c]) (.agg #[a',b',c'])).run Tryz.prog w =
 .ok (.bool (decide ((⟨a,b,c⟩:Vl)≠⟨a',b',c'⟩))) w:=by
 have h:decide ((⟨a,b,c⟩:Vl)≠⟨a',b',c'⟩) = !((a == a')&&((b == b')&&(c.toList == c'.toList))):=by rw[bV];simp only[Vl.mk.injEq,nD,decide_eq_true_eq,Bool.not_eq_true',Bool.and_eq_false_imp,beq_iff_eq,ne_eq,not_and,beq_eq_false_iff_ne]
 rw[h];clear h;by_cases h1:(a == a')=true
 . by_cases h2:(b == b')=true
   . simp[go_sem,h1,h2];split<;>simp_all
   . simp[go_sem,h1,h2]
 . simp[go_sem,h1]
theorem aS6 (k e a b:Int)(c:ByteArray)(i g a' b':Int)(c':ByteArray)(w:World):(binOp .neq 61 (.agg #[k,e,a,b,c]) (.agg #[i,g,a',b',c'])).run Tryz.prog w =
 .ok (.bool (decide ((⟨k,e,⟨a,b,c⟩⟩:Od)≠⟨i,g,⟨a',b',c'⟩⟩))) w:=by
 have h:decide ((⟨k,e,⟨a,b,c⟩⟩:Od)≠⟨i,g,⟨a',b',c'⟩⟩) = !((k == i)&&((e == g)&&((a == a')&&((b == b')&&(c.toList == c'.toList))))):=by rw[bV];simp only[Od.mk.injEq,Vl.mk.injEq,nD,decide_eq_true_eq,Bool.not_eq_true',Bool.and_eq_false_imp,beq_iff_eq,ne_eq,not_and,beq_eq_false_iff_ne]
 rw[h];clear h;by_cases d:(k == i)=true
 . by_cases j:(e == g)=true
   . by_cases h1:(a == a')=true
     . by_cases h2:(b == b')=true
       . simp[go_sem,d,j,h1,h2];split<;>simp_all
       . simp[go_sem,d,j,h1,h2]
     . simp[go_sem,d,j,h1]
   . simp[go_sem,d,j]
 . simp[go_sem,d]
theorem bH7 (k e a b:Int)(c:ByteArray)(i g a' b':Int)(c':ByteArray)(w:World):(binOp .eql 61 (.agg #[k,e,a,b,c]) (.agg #[i,g,a',b',c'])).run Tryz.prog w =
 .ok (.bool (decide ((⟨k,e,⟨a,b,c⟩⟩:Od)=⟨i,g,⟨a',b',c'⟩⟩))) w:=by
 have h:decide ((⟨k,e,⟨a,b,c⟩⟩:Od)=⟨i,g,⟨a',b',c'⟩⟩)=((k == i)&&((e == g)&&((a == a')&&((b == b')&&(c.toList == c'.toList))))):=by rw[bV];simp only[Od.mk.injEq,Vl.mk.injEq,nD,decide_eq_true_eq,aI,beq_iff_eq]
 rw[h];clear h;by_cases d:(k == i)=true
 . by_cases j:(e == g)=true
   . by_cases h1:(a == a')=true
     . by_cases h2:(b == b')=true
       . simp[go_sem,d,j,h1,h2];split<;>simp_all
       . simp[go_sem,d,j,h1,h2]
     . simp[go_sem,d,j,h1]
   . simp[go_sem,d,j]
 . simp[go_sem,d]
theorem aA9 {cols ps:List Int}{o:Od}(h:o.k=3):dJ cols ps o=if o.ix=0/\gL o.v=true then o.v.k else 0:=by unfold dJ;rw[if_pos h]
theorem aB1 {cols ps:List Int}{o:Od}(h:o.k=1):dJ cols ps o=if 0<=o.ix/\o.ix<(cols.length:Int)/\o.v=bE then cols.getD o.ix.toNat 0 else 0:=by unfold dJ;rw[if_neg (by omega),if_pos h]
theorem aB0 {cols ps:List Int}{o:Od}(h:o.k=2):dJ cols ps o=if 0<=o.ix/\o.ix<(ps.length:Int)/\o.v=bE then ps.getD o.ix.toNat 0 else 0:=by unfold dJ;rw[if_neg (by omega),if_neg (by omega),if_pos h]
theorem xK {cols ps:List Int}{o:Od}(a:o.k≠1)(b:o.k≠2)(c:o.k≠3):dJ cols ps o=0:=by unfold dJ;rw[if_neg c,if_neg a,if_neg b]
theorem bI9 (cols ps:List Int)(o:Od)(s:Option Addr)(m z:Nat)(u:Option Addr)(n A:Nat)(w:World)(hc:wX w s m cols)(hp:wX w u n ps) :
 Calls Tryz.prog 183 #[.agg #[.slice s m z,.slice u n A],.agg #[o.k,o.ix,o.v.k,o.v.i,o.v.t]] w fun e w'=>e=.returned (.int .i64 (dJ cols ps o))/\Below w w w':=by
 obtain⟨k,a,⟨d,g,l⟩⟩:=o;obtain⟨p,y⟩:=zE (dJ cols ps ⟨k,a,⟨d,g,l⟩⟩);rw[y.out];have J:=Z hc.len;have K:=Z hp.len;have M:=Z ((hc.keep (aM w (.cells #[.slice s m z,.slice u n A] 175))).keep (aM _ (.cells #[k,a,d,g,l] 61)));have O:=Z ((hp.keep (aM w (.cells #[.slice s m z,.slice u n A] 175))).keep (aM _ (.cells #[k,a,d,g,l] 61)));have N:=Z ((aT.new w 175 #[.slice s m z,.slice u n A]).alloc (.cells #[k,a,d,g,l] 61));have G:=Z (aT.new (w.alloc (.cells #[.slice s m z,.slice u n A] 175)) 61 #[k,a,d,g,l]);rw[show(w.alloc (.cells #[.slice s m z,.slice u n A] 175)).heap.size=w.heap.size+1 by simp]at G;have F:=(aB w w).alloc (aD _) (.cells #[.slice s m z,.slice u n A] 175);have HB:=Z (F.alloc F.size (.cells #[k,a,d,g,l] 61));clear F;clear hc hp;go_enter Tryz.func183,Tryz.ntmps183;go_upto_region 1 with fail;generalize hW:(w.alloc (.cells #[.slice s m z,.slice u n A] 175)).alloc (.cells #[k,a,d,g,l] 61)=S at *;clear hW;have R:=G.out.cell;have U:=N.out.cell;by_cases h3:k=3
 . have c:Hid ((if a=0/\gL ⟨d,g,l⟩=true then d else 0)=p):=Z (by rw[<- y.out,aA9 h3]);subst h3;clear y;by_cases hi:a=0
   . subst hi;go_wp2_with fail;refine(zU ⟨d,g,l⟩ _).mono ?_;rintro e T ⟨rfl,hb2⟩;have V:=(G.out.below hb2).cell;have I:=Z (cC1 HB.out hb2);clear R hb2;obtain⟨q,P⟩:=zE (gL ⟨d,g,l⟩);rw[P.out]at c ⊢;cases q
     . obtain rfl:0=p:=c.out;go_wp2;go_ret;exact⟨rfl,I.out⟩
     . obtain rfl:d=p:=c.out;go_wp2;go_ret;exact⟨rfl,I.out⟩
   . have B:(a != 0)=true:=(by simpa using hi);obtain rfl:0=p:=(by rw[<- c.out,if_neg (fun h=>hi h.1)]);clear hi c;go_wp2;go_ret;exact⟨rfl,HB.out⟩
 by_cases h1:k=1
 . have c:Hid ((if 0<=a/\a<(cols.length:Int)/\(⟨d,g,l⟩:Vl)=bE then cols.getD a.toNat 0 else 0)=p):=Z (by rw[<- y.out,aB1 h1]);clear y h3;subst h1;by_cases h0:a<0
   . obtain rfl:0=p:=(by rw[<- c.out,if_neg (fun h=>by omega)]);have B:decide (a<0)=true:=decide_eq_true h0;clear c h0;go_wp2;go_ret;exact⟨rfl,HB.out⟩
   . have B:decide (a<0)=false:=decide_eq_false h0;by_cases hn:a<(m:Int)
     . have E:decide ((m:Int)<=a)=false:=decide_eq_false (by omega);have C:=uO d g l 0 0 ⟨#[]⟩;by_cases r:(⟨d,g,l⟩:Vl)=⟨0,0,⟨#[]⟩⟩
       . obtain⟨j,rfl⟩:=bO (Int.not_lt.1 h0);obtain⟨b,o,x,rfl,hx,D⟩:=M.out.at (show j<m by omega);have H:=D 0 _ rfl;simp only[Nat.mul_one,bX]at H;obtain rfl:x=p:=(by rw[<- c.out,if_pos ⟨by omega,by rw[J.out];omega,r⟩,bM,bG,hx];rfl);rw[decide_eq_false (fun h=>h r)]at C;have Q:j<m:=(by omega);have L:decide (m<=j)=false:=(by simp;omega);clear hx D c r h0 hn;go_wp2;go_ret;exact⟨rfl,HB.out⟩
       . obtain rfl:0=p:=(by rw[<- c.out,if_neg (fun h=>r h.2.2)]);rw[decide_eq_true r]at C;clear c r h0 hn;go_wp2;go_ret;exact⟨rfl,HB.out⟩
     . have E:decide ((m:Int)<=a)=true:=decide_eq_true (by omega);obtain rfl:0=p:=(by rw[<- c.out,if_neg (fun h=>by have:=J.out;omega)]);clear c h0 hn;go_wp2;go_ret;exact⟨rfl,HB.out⟩
 by_cases h2:k=2
 . have c:Hid ((if 0<=a/\a<(ps.length:Int)/\(⟨d,g,l⟩:Vl)=bE then ps.getD a.toNat 0 else 0)=p):=Z (by rw[<- y.out,aB0 h2]);clear y h3 h1;subst h2;by_cases h0:a<0
   . obtain rfl:0=p:=(by rw[<- c.out,if_neg (fun h=>by omega)]);have B:decide (a<0)=true:=decide_eq_true h0;clear c h0;go_wp2;go_ret;exact⟨rfl,HB.out⟩
   . have B:decide (a<0)=false:=decide_eq_false h0;by_cases hn:a<(n:Int)
     . have E:decide ((n:Int)<=a)=false:=decide_eq_false (by omega);have C:=uO d g l 0 0 ⟨#[]⟩;by_cases r:(⟨d,g,l⟩:Vl)=⟨0,0,⟨#[]⟩⟩
       . obtain⟨j,rfl⟩:=bO (Int.not_lt.1 h0);obtain⟨b,o,x,rfl,hx,D⟩:=O.out.at (show j<n by omega);have H:=D 0 _ rfl;simp only[Nat.mul_one,bX]at H;obtain rfl:x=p:=(by rw[<- c.out,if_pos ⟨by omega,by rw[K.out];omega,r⟩,bM,bG,hx];rfl);rw[decide_eq_false (fun h=>h r)]at C;have Q:j<n:=(by omega);have L:decide (n<=j)=false:=(by simp;omega);clear hx D c r h0 hn;go_wp2;go_ret;exact⟨rfl,HB.out⟩
       . obtain rfl:0=p:=(by rw[<- c.out,if_neg (fun h=>r h.2.2)]);rw[decide_eq_true r]at C;clear c r h0 hn;go_wp2;go_ret;exact⟨rfl,HB.out⟩
     . have E:decide ((n:Int)<=a)=true:=decide_eq_true (by omega);obtain rfl:0=p:=(by rw[<- c.out,if_neg (fun h=>by have:=K.out;omega)]);clear c h0 hn;go_wp2;go_ret;exact⟨rfl,HB.out⟩
 obtain rfl:0=p:=by rw[<- y.out,xK h1 h2 h3]
 have B:(k == 1)=false:=by simpa using h1
 have E:(k == 2)=false:=by simpa using h2
 have L:(k == 3)=false:=by simpa using h3
 clear h1 h2 h3 y;go_wp2;go_ret;exact⟨rfl,HB.out⟩
end
end Go.Proofs.YtnnmlhmffnfjfaaGreat
