/- Texts on which the walk stands. -/
import Derived.Test.YtnnmlhmffnfjfaaGreatC1
import Derived.Shelf.Abstract
open Go.RowKit.Below renaming refl → aB
open Nat renaming le_refl → aD, add_zero → bX, zero_add → cA, lt_or_ge → cJ
open Go renaming bodyPost_ret → aF
open Bool renaming and_eq_true → aI
open List renaming mem_of_getElem? → aJ, mem_cons → aK, getElem?_cons_zero → aL, getElem?_eq_getElem → aN, getElem?_cons_succ → aO, flatMap_append → aP, mem_cons_self → aQ, eq_nil_of_length_eq_zero → aR, mem_cons_of_mem → aS, drop_eq_nil_of_le → aU, length_cons → bL
open Go.World renaming cell?_of_block → bP
set_option maxHeartbeats 4000000
set_option linter.unusedVariables false
set_option maxRecDepth 100000
namespace Go.Proofs.YtnnmlhmffnfjfaaGreat
section
open Go.RowKit
def fA (out:List Iv) (p:Vl):List Iv:=match out.getLast? with
 |none=>out
 |some x=>out.dropLast++[⟨x.f,p,false⟩]
def nH (ins now:Bool) (p:Vl) (out:List Iv):List Iv :=
 if now && !ins then out++[⟨p,bE,true⟩]else if !now&&ins then fA out p else out
def jV (op:Bool→Bool→Bool):Nat→List Vl→List Vl→Bool→Bool→Bool→List Iv→List Iv
 |0,_,_,_,_,_,out=>out
 |
  f+1,la,lb,ia,ib,ins,out =>
  if la.isEmpty&&lb.isEmpty then out else
   jV op f (if dH la (cW la lb)then la.tail else la) (if dH lb (cW la lb)then lb.tail else lb) (xor (dH la (cW la lb)) ia) (xor (dH lb (cW la lb)) ib)
    (op (xor (dH la (cW la lb)) ia) (xor (dH lb (cW la lb)) ib)) (nH ins (op (xor (dH la (cW la lb)) ia) (xor (dH lb (cW la lb)) ib)) (cW la lb) out)
def eD (op:Bool→Bool→Bool) (a b:List Iv):List Iv:=jV op ((cR a).length+(cR b).length) (cR a) (cR b) false false false []
theorem bJ8 {a b:List Vl}(h:¬(a.isEmpty&&b.isEmpty)=true):dH a (cW a b)=true\/dH b (cW a b)=true:=by
 cases a<;>cases b<;>simp[cW,dH]at h ⊢;omega
theorem aJ9 {l:List Vl}{i:Nat}{p:Vl}:l.drop (oN i (dH (l.drop i) p))=if dH (l.drop i) p then (l.drop i).tail else l.drop i:=by
 unfold oN;split<;>simp
theorem aT9 (i:Nat)(q:Bool):(oN i q % 2 == 1)=xor q (i % 2 == 1):=by
 cases q
 . simp[oN]
 . rw[Bool.eq_iff_iff];simp[oN];omega
def cnt (w:World) (g:Nat):Nat:=match w.cell? ⟨g,0,none⟩with
 |some (.int _ q)=>q.toNat
 |_=>0
structure MState (op:Bool→Bool→Bool) (pa pb:List Vl) (R:List Iv) (w2:World) (gi gj ga gb:Nat) (A1 A2:Option Addr) (c1 c2:Nat) (i j k:Nat) (ins:Bool) (out:List Iv) (A':Option Addr) (c':Nat) (wr:World):Prop where
 hi:i≤pa.length
 hj:j≤pb.length
 cap:MCap wr gi gj ga gb i j A1 A2 pa.length pb.length c1 c2
 own:wr.ownsRow (w2.heap.size+4) 187 7 (.slice A' k c') k (out.flatMap Iv.cs)
 len:out.length=k
 kle:k≤i+j
 ins_:ins=true→0<k
 run:∃ f,pa.length - i+(pb.length - j)≤f∧jV op f (pa.drop i) (pb.drop j) (i % 2 == 1) (j % 2 == 1) ins out=R
 bel:Below w2.heap.size w2 wr
 siz:w2.heap.size+4≤wr.heap.size
theorem MState.step {op:Bool->Bool->Bool}{a b:List Vl}{R:List Iv}{D:World}{v x t u:Nat}{A1 A2:Option Addr}{c1 c2 i j k:Nat}{r:Bool}{s:List Iv}{A':Option Addr}{c':Nat}{E:World}
 (h:MState op a b R D v x t u A1 A2 c1 c2 i j k r s A' c' E)(G:i<a.length\/j<b.length)(p:Vl)(q:cW (a.drop i) (b.drop j)=p)(d e:Nat)(A:d=oN i (dH (a.drop i) p))(B:e=oN j (dH (b.drop j) p))(m:Bool)(C:m=op (d % 2 == 1) (e % 2 == 1)) :
 d<=a.length/\e<=b.length/\i+j<d+e/\∃f,a.length-d+(b.length-e)<=f/\jV op f (a.drop d) (b.drop e) (d % 2 == 1) (e % 2 == 1) m (nH r m p s)=R:=by
 have n:¬((a.drop i).isEmpty&&(b.drop j).isEmpty)=true:=by simp;omega
 have o:=bJ8 n;rw[q]at o;have y:dH (a.drop i) p=true->i<a.length:=by
  intro g;rcases cJ i a.length with c|c
  . exact c
  . rw[aU c]at g;simp[dH]at g
 have z:dH (b.drop j) p=true->j<b.length:=by
  intro g;rcases cJ j b.length with c|c
  . exact c
  . rw[aU c]at g;simp[dH]at g
 obtain⟨f,F,l⟩:=h.run;have g:=h.hi;have c:=h.hj;obtain⟨f',rfl⟩:∃f',f=f'+1:=⟨f-1,by omega⟩;unfold jV at l;rw[if_neg n,q]at l;subst A B C;rw[aJ9,aJ9,aT9,aT9];refine⟨?_,?_,?_,f',?_,l⟩;all_goals
  unfold oN;cases hq1:dH (a.drop i) p<;>cases hq2:dH (b.drop j) p<;>simp only[hq1,hq2,forall_const,Bool.false_eq_true,false_or,or_false,if_true,if_false]at y z o ⊢ <;> omega
theorem aO9 {w:World}{g T i:Nat}(h:aT w g T #[(i:Int)]):cnt w g=i:=by
 unfold cnt;rw[aV h (i:=0) rfl];simp
def MRel (op:Bool→Bool→Bool) (pa pb:List Vl) (R:List Iv) (w2:World) (gi gj ga gb:Nat) (A1 A2:Option Addr) (c1 c2:Nat) (v x:Value) (wr:World):Prop :=
 ∃(i j k:Nat) (ins:Bool) (out:List Iv) (A':Option Addr) (c':Nat),v=.slice A' k c'∧x=.bool ins∧MState op pa pb R w2 gi gj ga gb A1 A2 c1 c2 i j k ins out A' c' wr
theorem qR {op:Bool->Bool->Bool}{a b:List Vl}{R:List Iv}{o:World}{m n v x:Nat}{A1 A2:Option Addr}{c1 c2 i j k:Nat}{z:Bool}{A:List Iv}{A':Option Addr}{c':Nat}{s:World}{p:Vl}{c d:Nat}{l:Bool}
 (q:MState op a b R o m n v x A1 A2 c1 c2 i j k z A A' c' s)
 (L:c<=a.length/\d<=b.length/\i+j<c+d/\∃f,a.length-c+(b.length-d)<=f/\jV op f (a.drop c) (b.drop d) (c % 2 == 1) (d % 2 == 1) l (nH z l p A)=R)
 {g:World}(y:MCap g m n v x c d A1 A2 a.length b.length c1 c2)(e:Nat)(r:List Iv)(t:Option Addr)(u:Nat)(I:nH z l p A=r)
 (J:g.ownsRow (o.heap.size+4) 187 7 (.slice t e u) e (r.flatMap Iv.cs))(H:r.length=e)(N:e<=k+1)(G:l=true->0<e)(F:Below o o g)(K:s.heap.size<=g.heap.size) :
 MRel op a b R o m n v x A1 A2 c1 c2 (.slice t e u) (.bool l) g/\a.length+b.length-cnt g m-cnt g n<a.length+b.length-cnt s m-cnt s n:=by
 obtain⟨B,C,M,f,D,E⟩:=L;refine⟨⟨c,d,e,l,r,t,u,rfl,rfl,⟨B,C,y,J,H,?_,G,⟨f,D,by rw[<- I];exact E⟩,F,Nat.le_trans q.siz K⟩⟩,?_⟩
 . have:=q.kle;omega
 . rw[aO9 y.hi,aO9 y.hj,aO9 q.cap.hi,aO9 q.cap.hj];omega
theorem MCap.far {w:World}{d e b c i j:Nat}{A B:Option Addr}{n m g k:Nat}(h:MCap w d e b c i j A B n m g k){p:Addr}(a:d≠p.block/\e≠p.block/\b≠p.block/\c≠p.block)(u:Value):MCap (w.setCell p u) d e b c i j A B n m g k :=
 ⟨h.hi.far a.1 u,h.hj.far a.2.1 u,h.ha.far a.2.2.1 u,h.hb.far a.2.2.2 u⟩
theorem bT5 {l:List Iv}{x:Iv}{p:Vl}(k:Nat)(a:l.length=k)(c:l[k-1]?=some x) :
 ((((l.flatMap Iv.cs).set ((k-1)*7+3) p.k).set ((k-1)*7+4) p.i).set ((k-1)*7+5) p.t).set ((k-1)*7+6) zF=(fA l p).flatMap Iv.cs:=by
 have g:k-1<l.length:=(List.getElem?_eq_some_iff.1 c).1;have b:l.getLast?=some x:=by rw[List.getLast?_eq_getElem?,a];exact c
 obtain⟨d,rfl⟩:=List.getLast?_eq_some_iff.1 b;unfold fA;rw[b];simp only[List.dropLast_concat];have e:(d.flatMap Iv.cs).length=(k-1)*7:=by rw[hV Iv.cs_len,<- a];simp
 rw[aP,aP];simp only[List.flatMap_cons,List.flatMap_nil,List.append_nil];rw[<- e];simp only[List.set_append_right _ _ (Nat.le_add_right _ _),Nat.add_sub_cancel_left];rfl
theorem qK {w:World}{base g k c:Nat}{l:List Iv}{x:Iv}(p:Vl)(h:w.ownsRow base 187 7 (.slice (some ⟨g,0,none⟩) k c) k (l.flatMap Iv.cs))(a:l.length=k)(b:l[k-1]?=some x) :
 ((((w.setCell ⟨g,(k-1)*7+3,none⟩ p.k).setCell ⟨g,(k-1)*7+4,none⟩ p.i).setCell ⟨g,(k-1)*7+5,none⟩ p.t).setCell ⟨g,(k-1)*7+6,none⟩ zF).ownsRow base 187 7 (.slice (some ⟨g,0,none⟩) k c) k ((fA l p).flatMap Iv.cs):=by
 rw[<- bT5 k a b];exact((((h.stored _ _).1.stored _ _).1.stored _ _).1.stored _ _).1
theorem bP0 (F:Nat)(op:Bool->Bool->Bool)(f6:∀args w,(callFunc F args).run Tryz.prog w=.ok (.enter F args) w)
 (d1:∀x y W,Calls Tryz.prog F #[.bool x,.bool y] W fun e w'=>e=.returned (.bool (op x y))/\W=w')
 (A B:Option Addr)(n m ca cb:Nat)(r s:List Iv)(w:World)(hn:n<=64)(hm:m<=64)(V:kH w A n r)(X:kH w B m s) :
 Calls Tryz.prog 261 #[.slice A n ca,.slice B m cb,.func (.func F) #[] #[]] w fun e w' =>
  ∃(A':Option Addr) (c':Nat),e=.returned (.slice A' (eD op r s).length c')/\kH w' A' (eD op r s).length (eD op r s)/\Below w w w':=by
 have e1:=Z d1;have d3:=Z V;have HB:=Z X;have g6:(cR r).length<=128:=by have:=oA r;have:=V.len;omega
 have g7:(cR s).length<=128:=by have:=oA s;have:=X.len;omega
 clear d1 V X;generalize b6:eD op r s=R;have d7:=Z b6;clear b6;obtain⟨i0,hi,f0,f1,f2⟩:=info_parts nJ;go_enter Tryz.func261,Tryz.ntmps261;go_wp2_with fail;refine(pD A n ca r _ hn d3.out).mono ?_;rintro e w1 ⟨A1,c1,rfl,b8,hb1⟩;go_wp2_with fail;refine(pD B m cb s _ hm (HB.out.keep (aC hb1))).mono ?_;rintro e l ⟨A2,c2,rfl,b9,hb2⟩;have a6:=Z (b8.keep (aC hb2));have a7:=Z b9;clear b8 b9;go_wp2_with fail;have M:∀a b c d:Obj,((((l.alloc a).alloc b).alloc c).alloc d).heap.size=l.heap.size+4:=by simp
 have b4:MCap ((((l.alloc (.cells #[.slice A1 (cR r).length c1] 52)).alloc (.cells #[.slice A2 (cR s).length c2] 52)).alloc (.cells #[zO] 3)).alloc (.cells #[zO] 3))
  (l.heap.size+1+1) (l.heap.size+1+1+1) l (l.heap.size+1) 0 0 A1 A2 (cR r).length (cR s).length c1 c2:=by
  refine⟨?_,?_,?_,?_⟩
  . have:=(aT.new ((l.alloc (.cells #[.slice A1 (cR r).length c1] 52)).alloc (.cells #[.slice A2 (cR s).length c2] 52)) 3 #[zO]).alloc (.cells #[zO] 3);simpa using this
  . have:=aT.new (((l.alloc (.cells #[.slice A1 (cR r).length c1] 52)).alloc (.cells #[.slice A2 (cR s).length c2] 52)).alloc (.cells #[zO] 3)) 3 #[zO];simpa using this
  . exact(((aT.new l _ _).alloc _).alloc _).alloc _
  . have:=((aT.new (l.alloc (.cells #[.slice A1 (cR r).length c1] 52)) 52 #[.slice A2 (cR s).length c2]).alloc (.cells #[zO] 3)).alloc (.cells #[zO] 3);simpa using this
 have e4:Below l l ((((l.alloc (.cells #[.slice A1 (cR r).length c1] 52)).alloc (.cells #[.slice A2 (cR s).length c2] 52)).alloc (.cells #[zO] 3)).alloc (.cells #[zO] 3)) :=
  ((((aB _ _).alloc (aD _) _).alloc (by simp) _).alloc (by simp<;>omega) _).alloc (by simp<;>omega) _
 have b7:=M (.cells #[.slice A1 (cR r).length c1] 52) (.cells #[.slice A2 (cR s).length c2] 52) (.cells #[zO] 3) (.cells #[zO] 3);have d4:=Z b4;have d9:=Z b7;clear M b4 b7;have d8:=Z (show ∃f,(cR r).length-0+((cR s).length-0)<=f/\jV op f ((cR r).drop 0) ((cR s).drop 0) (0 % 2 == 1) (0 % 2 == 1) false []=R from⟨_,aD _,by have:=d7.out;unfold eD at this;simpa using this⟩);generalize cR r=t at *;generalize cR s=u at *;generalize M:l.heap.size=z at *;go_loopw [13,14] (fun v x wr=>MRel op t u R l (z+1+1) (z+1+1+1) z (z+1) A1 A2 c1 c2 v x wr) (fun _ _ wr=>t.length+u.length-cnt wr (z+1+1)-cnt wr (z+1+1+1));case atStart=>exact⟨0,0,0,false,[],none,0,rfl,rfl,⟨by omega,by omega,d4.out,⟨by simp,.inl ⟨rfl,rfl⟩⟩,rfl,by omega,by simp,d8.out,by rw[M];exact e4,by rw[M,d9.out];omega⟩⟩
 case round =>
  obtain⟨i,j,k,f3,I,A',c',rfl,rfl,hM⟩:=hrel;have H:=hM.cap;have a1:=aV H.hi (i:=0) rfl;have e2:=aV H.hj (i:=0) rfl;have a3:=aV H.ha (i:=0) rfl;have a4:=aV H.hb (i:=0) rfl;have c9:=hM.hi;have d0:=hM.hj;by_cases c7:i<t.length\/j<u.length
  . have a0:=aC hM.bel;have c0:=a6.out.keep a0;have c3:=a7.out.keep a0;have c5:0<t.length->∀b o,A1=some ⟨b,o,none⟩->b≠z+1+1/\b≠z+1+1+1:=fun h b o e=>(by have:=a6.out.lt Vl.cs_len (by omega) h b o e;omega);have c6:0<u.length->∀b o,A2=some ⟨b,o,none⟩->b≠z+1+1/\b≠z+1+1+1:=fun h b o e=>(by have:=a7.out.lt Vl.cs_len (by omega) h b o e;omega);have a5:=Z (And.intro c5 c6);have a8:=Z c0;have a9:=Z c3;clear c5 c6 c0 c3 a0;have e7:decide (i<t.length)=true\/(decide (i<t.length)=false/\decide (j<u.length)=true):=by
     rcases cJ i t.length with h|h
     . exact .inl (by simp[h])
     . exact .inr ⟨by simp;omega,by simp;omega⟩
    rcases e7 with g1|⟨g1,g2⟩
    all_goals
     go_wp2_with fail;refine(aH7 wr (z+1+1) (z+1+1+1) z (z+1) i j A1 A2 t.length u.length c1 c2 t u H a8.out a9.out c9 d0 c7 (by omega) (by omega)).mono ?_;rintro e w3 ⟨rfl,K⟩;obtain⟨p,b1⟩:=zE (cW (t.drop i) (u.drop j));rw[b1.out];obtain⟨pk,C,D⟩:=p;dsimp only;go_wp2_with fail;have b5:=(H.below K).alloc (.cells #[pk,C,D] 59);have Y:dW wr (w3.alloc (.cells #[pk,C,D] 59)):=(aC K).alloc _;refine(vM _ (z+1+1) (z+1+1+1) z (z+1) i j A1 A2 t.length u.length c1 c2 t u ⟨pk,C,D⟩ b5 (a8.out.keep Y) (a9.out.keep Y) c9 d0 (by omega) (by omega) (by omega) a5.out.1 a5.out.2 ⟨by omega,by omega⟩ ⟨by omega,by omega⟩).mono ?_;rintro e w4 ⟨rfl,J,O⟩;obtain⟨Q,T⟩:∃Q,Hid (Q=oN i (dH (t.drop i) ⟨pk,C,D⟩)):=⟨_,rfl⟩;obtain⟨S,U⟩:∃S,Hid (S=oN j (dH (u.drop j) ⟨pk,C,D⟩)):=⟨_,rfl⟩;rw[<- T.out,<- U.out]at J;rw[<- T.out,<- U.out];have g9:wr.heap.size<=w3.heap.size:=K.size;have f9:=H.lt;have f4:=((aT.new w3 59 #[pk,C,D]).but O (by simp;omega)).cell;have P:Below l l w4:=O.below ((cC1 hM.bel K).alloc (by have:=hM.bel.size;omega) _) (by have:=hM.bel.size;simp;omega) (by rintro k (rfl|rfl)<;>omega);have G:w4.ownsRow (l.heap.size+4) 187 7 (.slice A' k c') k (I.flatMap Iv.cs):=fJ hM.own (fun g f8 e6 _=>by
      rw[O.block g (by simp;omega) (by rintro(rfl|rfl)<;>omega),Below.heap_alloc _ _ _ (by omega),K.block g e6])
     clear a1 e2 a3 a4 b5 Y;go_wp2_with fail;refine(e1.out _ _ _).mono ?_;rintro e w5 ⟨rfl,rfl⟩;obtain⟨now,b0⟩:∃now,Hid (now=op (Q % 2 == 1) (S % 2 == 1)):=⟨_,rfl⟩;rw[<- b0.out];have N:=Z (hM.step c7 ⟨pk,C,D⟩ b1.out Q S T.out U.out now b0.out);have g4:k<=256:=(by have:=hM.kle;omega);have L:=O.size;cases f3<;>cases now
     . go_wp2;exact qR hM N.out J k I A' c' rfl G hM.len (by omega) (by simp) P (by simp at L;omega)
     . go_wp2_with (at_builtin;refine bH (by rfl) (.tmp 48) (.tmp 51) _ (by rfl) (l.heap.size+4) 187 i0 _ 7 72 Tryz.underlying139 hi f0 f1 f2 (by rfl) (by omega) (.slice A' k c') k _ (by rfl) _ _ G w4 (by rfl) (by rfl) (by rfl) (iL ⟨⟨pk,C,D⟩,bE,true⟩) (by simp only[maxLen];omega) (by omega) (by have:=hM.siz;simp at L;omega) ?_;intro g b2 w6 e9 c8 e5 f5 g8);have E:∀q,q<l.heap.size+4->some q≠(Value.slice A' k c').ownBlock:=fun q hq e=>(by have:=jN G q e.symm;omega);exact qR hM N.out (J.grown c8 ⟨E _ (by omega),E _ (by omega),E _ (by omega),E _ (by omega)⟩) (k+1) (I++[⟨⟨pk,C,D⟩,bE,true⟩]) _ _ rfl (by rw[aP];simpa[Iv.cs,bE]using e9) (by simp[hM.len]) (by omega) (by omega)
        (P.trans (e5.mono (by omega))) (by have:=c8.size;simp at L;omega)
     . have e8:0<k:=hM.ins_ rfl;obtain⟨g,b2,hv,g0,g3⟩:=G.form e8;obtain⟨rfl,rfl⟩:A'=some ⟨g,0,none⟩/\c'=b2:=(by injection hv with h1 h2 h3;exact⟨h1,h3⟩);obtain⟨e3,o6,x,b3,a2,c4⟩:=(cC3 Iv.cs_len hM.len G).at (show k-1<k by omega);obtain⟨rfl,rfl⟩:g=e3/\0=o6:=(by injection b3 with h;injection h with h1 h2;exact⟨h1,h2⟩);obtain⟨y0,y1,y2,y3,y4,y5,y6⟩:=IvAt.of c4;simp only[cA]at y0 y1 y2 y3 y4 y5 y6;have f7:=fun q=>G.frozenAt q;have d6:=Z (qK ⟨pk,C,D⟩ G hM.len a2);have g5:(1:Int)<=(k:Int):=(by omega);clear hv b3 c4;have e0:=Z a2;clear a2;go_wp2;have E:∀q:Nat,z+1+1≠g/\z+1+1+1≠g/\z≠g/\z+1≠g:=fun _=>⟨by omega,by omega,by omega,by omega⟩;exact qR hM N.out ((((J.far (p:=⟨g,(k-1)*7+3,none⟩) (E 0) _).far (p:=⟨g,(k-1)*7+3+1,none⟩) (E 0) _).far (p:=⟨g,(k-1)*7+3+2,none⟩) (E 0) _).far (p:=⟨g,(k-1)*7+6,none⟩) (E 0) _) k (fA I ⟨pk,C,D⟩) _ _ rfl d6.out
        (by unfold fA;rw[List.getLast?_eq_getElem?,hM.len,e0.out];simp[hM.len];omega) (by omega) (by simp)
        ((((P.setCell (p:=⟨g,(k-1)*7+3,none⟩) (by simp;omega) _).setCell (p:=⟨g,(k-1)*7+3+1,none⟩) (by simp;omega) _).setCell (p:=⟨g,(k-1)*7+3+2,none⟩) (by simp;omega) _).setCell (p:=⟨g,(k-1)*7+6,none⟩) (by simp;omega) _)
        (by simp[World.setCell];simp at L;omega)
     . go_wp2;exact qR hM N.out J k I A' c' rfl G hM.len (by omega) (fun _=>hM.ins_ rfl) P (by simp at L;omega)
  . have g1:decide (i<t.length)=false:=(by simp;omega);have g2:decide (j<u.length)=false:=(by simp;omega);have d5:=Z hM;clear hM;go_wp2;go_ret;have hM:=d5.out;obtain⟨f,hf,d2⟩:=hM.run;have ho:I=R:=(by rw[aU (by omega),aU (by omega)]at d2;rw[<- d2];cases f<;>simp[jV]);subst ho;obtain rfl:I.length=k:=hM.len;exact⟨A',c',rfl,cC3 Iv.cs_len rfl hM.own,cC1 (cC1 hb1 hb2) hM.bel⟩
abbrev hY (l:List Vl):Prop:=l.Pairwise (fun a b=>bZ a b<0)
def lP:List Vl→Vl→Bool
 |[],_=>false
 |x::P,v=>xor (decide (bZ x v≤0)) (lP P v)
theorem gX {v:Vl}:∀ {P:List Vl},(∀p∈P,¬bZ p v<=0)->lP P v=false
 |[],_=>rfl
 |
  x::P,h=>by
  rw[lP,gX (P:=P) (fun p a=>h p (aS _ a)),decide_eq_false (h x aQ)];rfl
theorem aT8 {v u:Vl}:∀ {P:List Vl},(∀p∈P,bZ p v<=0↔bZ p u<=0)->lP P v=lP P u
 |[],_=>rfl
 |
  x::P,h=>by
  rw[lP,lP,aT8 (P:=P) (fun p a=>h p (aS _ a))];have:=h x aQ;rw[decide_eq_decide.2 this]
theorem zZ {x:Vl}{P:List Vl}{v:Vl}(h:hY (x::P))(b:¬bZ x v<=0):lP (x::P) v=false:=by
 refine gX fun p a=>?_;rcases List.mem_cons.1 a with rfl|a
 . exact b
 . exact gZ (cV (mL b) ((List.pairwise_cons.1 h).1 p a))
def dS:List Vl→List Iv
 |[]=>[]
 |[x]=>[⟨x,bE,true⟩]
 |x::y::P=>⟨x,y,false⟩::dS P
theorem xZ:∀P:List Vl,cR (dS P)=P
 |[]=>rfl
 |[x]=>rfl
 |x::y::P=>by simp[dS,cR,xZ P]
theorem aN6:∀P:List Vl,2*(dS P).length<=P.length+1
 |[]=>by simp[dS]
 |[x]=>by simp[dS]
 |x::y::P=>by have:=aN6 P;simp[dS];omega
theorem aW2 (x:Iv)(l:List Iv)(v:Vl):eP (x::l) v=(xL x v || eP l v):=by simp[eP]
theorem mV (v:Vl):∀P:List Vl,hY P->eP (dS P) v=lP P v
 |[],_=>rfl
 |[x],_=>by simp[dS,eP,xL,lP]
 |
  x::y::P,h=>by
  have d:=List.pairwise_cons.1 h;have e:=List.pairwise_cons.1 d.2;have k:=mV v P e.2;rw[dS,aW2,k,lP,lP];have j:=d.1 y aQ;by_cases a:bZ y v<=0
  . have i:bZ x v<=0:=(by have:=fQ j a;omega);have g:¬bZ v y<0:=(by have:=dD y v;omega);simp[xL,i,a,g]
  . have c:=mL a;have b:lP P v=false:=gX fun p b=>gZ (cV c (e.1 p b));rw[b];simp[xL,a,c]
theorem kK:∀(l:List Iv) (p:Option Iv),cL p l=true->dS (cR l)=l/\hY (cR l)/\(∀v∈cR l,bT v=true)/\∀y,p=some y->∀v∈cR l,bZ y.t v<0
 |[],p,_=>⟨rfl,List.Pairwise.nil,fun v h=>(by simp[cR]at h),fun y _ v h=>(by simp[cR]at h)⟩
 |
  x::r,p,h=>by
  rw[gD,aI]at h;obtain⟨j,u⟩:=h;obtain⟨c,s,H⟩:=x;unfold okI at j;rw[aI,aI]at j;obtain⟨⟨n,z⟩,g⟩:=j;have o:∀y,p=some y->bZ y.t c<0:=by rintro y rfl;simpa using z
  cases H with
  |
   true =>
   simp only[if_true,aI,decide_eq_true_eq]at g;obtain⟨A,C⟩:=g;have B:r=[]:=(by simpa using A);subst B;subst C;refine⟨rfl,List.pairwise_singleton _ _,fun v b=>?_,fun y k v b=>?_⟩
   . have:v=c:=(by simpa[cR]using b);rw[this];exact n
   . have:v=c:=(by simpa[cR]using b);rw[this];exact o y k
  |
   false =>
   simp only[Bool.false_eq_true,if_false,aI,decide_eq_true_eq]at g;obtain⟨b,d⟩:=g;obtain⟨D,E,F,G⟩:=kK r _ u;have m:=G _ rfl;have e:cR (⟨c,s,false⟩::r)=c::s::cR r:=(by simp[cR]);rw[e];refine⟨by rw[dS,D],?_,?_,?_⟩
   . refine List.pairwise_cons.2 ⟨fun q a=>?_,List.pairwise_cons.2 ⟨m,E⟩⟩;rcases List.mem_cons.1 a with rfl|a
     . exact d
     . exact cV d (m q a)
   . intro q a;rcases List.mem_cons.1 a with rfl|a
     . exact n
     . rcases List.mem_cons.1 a with rfl|a
       . exact b
       . exact F q a
   . intro y k q a;have i:=o y k;rcases List.mem_cons.1 a with rfl|a
     . exact i
     . rcases List.mem_cons.1 a with rfl|a
       . exact cV i d
       . exact cV i (cV d (m q a))
theorem uV:∀(P:List Vl) (p:Option Iv),hY P->(∀v∈P,bT v=true)->(∀y,p=some y->∀v∈P,bZ y.t v<0)->cL p (dS P)=true
 |[],p,_,_,_=>by simp[dS,cL]
 |
  [x],p,_,hv,hp=>by
  rw[dS,gD,aI];refine⟨?_,rfl⟩;have a:=hv x aQ;cases p with
  |none=>simp[okI,a]
  |some y=>simp[okI,a,hp y rfl x aQ]
 |
  x::y::P,p,h,hv,hp=>by
  have e:=List.pairwise_cons.1 h;have g:=List.pairwise_cons.1 e.2;rw[dS,gD,aI];refine⟨?_,uV P _ g.2 (fun v h=>hv v (aS _ (aS _ h))) (fun z b v h=>?_)⟩
  . have a:=hv x aQ;have c:=hv y (aS _ aQ);have d:=e.1 y aQ;cases p with
    |none=>simp[okI,a,c,d]
    |some z=>simp[okI,a,c,d,hp z rfl x aQ]
  . injection b with b;rw[<- b];exact g.1 v h
theorem bL5:∀(P Q:List Vl),hY P->hY Q->(∀v∈P,bT v=true)->(∀v∈Q,bT v=true)->(∀v,bT v=true->lP P v=lP Q v)->P=Q
 |[],[],_,_,_,_,_=>rfl
 |
  [],y::Q,_,hq,_,vq,h=>by
  have:=h y (vq y aQ);have k:=List.pairwise_cons.1 hq;rw[lP,lP,gX (P:=Q) (fun p a=>gZ (k.1 p a))]at this;simp[eH]at this
 |
  x::P,[],a,_,vp,_,h=>by
  have:=h x (vp x aQ);have k:=List.pairwise_cons.1 a;rw[lP,lP,gX (P:=P) (fun p a=>gZ (k.1 p a))]at this;simp[eH]at this
 |
  x::P,y::Q,a,hq,vp,vq,h=>by
  have c:=List.pairwise_cons.1 a;have d:=List.pairwise_cons.1 hq;have i:=h x (vp x aQ);have l:=h y (vq y aQ);have m:lP (x::P) x=true:=by rw[lP,gX (P:=P) (fun p a=>gZ (c.1 p a))];simp[eH]
  have n:lP (y::Q) y=true:=by rw[lP,gX (P:=Q) (fun p a=>gZ (d.1 p a))];simp[eH]
  have r:bZ y x<=0:=by
   rcases Int.lt_or_le 0 (bZ y x)with b|b
   . rw[m,zZ hq (by omega)]at i;cases i
   . exact b
  have q:bZ x y<=0:=by
   rcases Int.lt_or_le 0 (bZ x y)with b|b
   . rw[n,zZ a (by omega)]at l;cases l
   . exact b
  have e:x=y:=(gI x y).1 (by have:=dD x y;omega);subst e;congr 1;refine bL5 P Q c.2 d.2 (fun v h=>vp v (aS _ h)) (fun v h=>vq v (aS _ h)) fun v o=>?_;by_cases j:bZ x v<=0
  . have:=h v o;rw[lP,lP,decide_eq_true j]at this;simpa using this
  . have g:=mL j;rw[gX (P:=P) (fun p a=>gZ (cV g (c.1 p a))),gX (P:=Q) (fun p a=>gZ (cV g (d.1 p a)))]
theorem aM8 {a b:List Iv}(k:cL none a=true)(hb:cL none b=true)(h:∀v,bT v=true->eP a v=eP b v):a=b:=by
 obtain⟨c,d,i,_⟩:=kK a none k;obtain⟨e,g,j,_⟩:=kK b none hb;have:cR a=cR b:=bL5 _ _ d g i j fun v l=>by rw[<- mV v _ d,<- mV v _ g,c,e];exact h v l
 rw[<- c,<- e,this]
def mp (op:Bool→Bool→Bool):Nat→List Vl→List Vl→Bool→Bool→Bool→List Vl
 |0,_,_,_,_,_=>[]
 |
  f+1,la,lb,ia,ib,ins =>
  if la.isEmpty&&lb.isEmpty then []else
   if op (xor (dH la (cW la lb)) ia) (xor (dH lb (cW la lb)) ib)=ins then
    mp op f (if dH la (cW la lb)then la.tail else la) (if dH lb (cW la lb)then lb.tail else lb) (xor (dH la (cW la lb)) ia) (xor (dH lb (cW la lb)) ib) ins
   else cW la lb::mp op f (if dH la (cW la lb)then la.tail else la) (if dH lb (cW la lb)then lb.tail else lb) (xor (dH la (cW la lb)) ia) (xor (dH lb (cW la lb)) ib)
    (op (xor (dH la (cW la lb)) ia) (xor (dH lb (cW la lb)) ib))
theorem aL7 (a:List Iv)(x:Iv)(p:Vl):fA (a++[x]) p=a++[⟨x.f,p,false⟩]:=by simp[fA]
theorem aH6 (op:Bool->Bool->Bool):∀(f:Nat) (b c:List Vl) (d e:Bool),
 (∀a,jV op f b c d e false a=a++dS (mp op f b c d e false)) /\
 (∀a x,jV op f b c d e true (a++[⟨x,bE,true⟩])=a++dS (x::mp op f b c d e true))
 |0,b,c,d,e=>⟨fun a=>by simp[jV,mp,dS],fun a x=>by simp[jV,mp,dS]⟩
 |
  f+1,b,c,d,e=>by
  unfold jV mp;by_cases g:(b.isEmpty&&c.isEmpty)=true
  . simp only[g,if_true];exact⟨fun a=>by simp[dS],fun a x=>by simp[dS]⟩
  . simp only[g,Bool.false_eq_true,if_false];generalize cW b c=p;generalize (if dH b p=true then b.tail else b)=m;generalize (if dH c p=true then c.tail else c)=n;generalize ((dH b p).xor d)=k;generalize ((dH c p).xor e)=l;obtain⟨i,j⟩:=aH6 op f m n k l;cases hn:op k l
    . refine⟨fun a=>?_,fun a x=>?_⟩
      . simp only[nH,Bool.false_and,Bool.not_false,Bool.and_false,Bool.false_eq_true,if_false,if_true];exact i a
      . simp only[nH,Bool.false_and,Bool.not_false,Bool.and_true,Bool.false_eq_true,if_false,if_true,aL7];rw[i,dS,List.append_assoc];rfl
    . refine⟨fun a=>?_,fun a x=>?_⟩
      . simp only[nH,Bool.not_false,Bool.and_true,if_true,Bool.true_eq_false,if_false];exact j a p
      . simp only[nH,Bool.not_true,Bool.and_false,Bool.false_and,Bool.false_eq_true,if_false,if_true];exact j a x
theorem bP2 {a b:List Vl}(h:¬(a.isEmpty&&b.isEmpty)=true):cW a b∈a\/cW a b∈b:=by
 match a,b with
 |[],[]=>simp at h
 |x::_,[]=>simp[cW]
 |[],y::_=>simp[cW]
 |
  x::_,y::_ =>
  simp only[cW];split
  . left;simp
  . right;simp
theorem bX5 {g i:List Vl}(c:hY g)(hb:hY i):(∀q∈g,bZ (cW g i) q<=0)/\(∀q∈i,bZ (cW g i) q<=0):=by
 have d:∀(x:Vl) (l:List Vl),hY (x::l)->∀q∈x::l,bZ x q<=0:=by
  intro x l h q a;rcases List.mem_cons.1 a with rfl|a
  . have:=eH q;omega
  . have:=(List.pairwise_cons.1 h).1 q a;omega
 match g,i,c,hb with
 |[],[],_,_=>exact⟨(fun q h=>by cases h),(fun q h=>by cases h)⟩
 |x::l,[],c,_=>exact⟨d x l c,fun q h=>by cases h⟩
 |[],y::l,_,hb=>exact⟨(fun q h=>by cases h),d y l hb⟩
 |
  x::l,y::m,c,hb =>
  simp only[cW];have e:=dD x y;split
  . exact⟨d x l c,fun q a=>iD (b:=y) (by omega) (d y m hb q a)⟩
  . exact⟨fun q a=>iD (b:=x) (by omega) (d x l c q a),d y m hb⟩
theorem aW4 {l:List Vl}{p:Vl}(h:hY l)(d:∀q∈l,bZ p q<=0):hY (if dH l p=true then l.tail else l)/\(∀q∈(if dH l p=true then l.tail else l),bZ p q<0/\q∈l) /\
 (∀v,bZ p v<=0->lP l v=xor (dH l p) (lP (if dH l p=true then l.tail else l) v))/\l.length=(if dH l p=true then l.tail else l).length+(if dH l p=true then 1 else 0):=by
 match l,h,d with
 |[],_,_=>simp[dH,lP]
 |
  x::l,h,d =>
  have k:=List.pairwise_cons.1 h;by_cases b:x=p
  . have c:dH (x::l) p=true:=(by simp[dH,b]);simp only[c,if_true,List.tail_cons];refine⟨k.2,fun q a=>⟨by rw[<- b];exact k.1 q a,aS _ a⟩,fun v i=>?_,by simp⟩;rw[lP,b,decide_eq_true i]
  . have c:dH (x::l) p=false:=(by simp[dH,b]);simp only[c,Bool.false_eq_true,if_false];refine⟨h,fun q a=>⟨?_,a⟩,fun v i=>by simp,by simp⟩;have g:bZ p x<0:=(by have j:=d x aQ;have m:bZ p x≠0:=fun e=>b ((gI p x).1 e).symm;omega);rcases List.mem_cons.1 a with rfl|a
    . exact g
    . exact cV g (k.1 q a)
theorem bI5 (op:Bool->Bool->Bool):∀(f:Nat) (a b:List Vl) (c d:Bool),a.length+b.length<=f->hY a->hY b ->
 hY (mp op f a b c d (op c d))/\(∀q∈mp op f a b c d (op c d),q∈a\/q∈b)/\(mp op f a b c d (op c d)).length<=a.length+b.length /\
  ∀v,xor (op c d) (lP (mp op f a b c d (op c d)) v)=op (xor c (lP a v)) (xor d (lP b v))
 |
  0,a,b,c,d,hf,_,_=>by
  have s:a=[]:=aR (by omega);have t:b=[]:=aR (by omega);subst s t;simp[mp,lP]
 |
  f+1,a,b,c,d,hf,ha,hb=>by
  unfold mp;by_cases j:(a.isEmpty&&b.isEmpty)=true
  . have s:a=[]:=(by simp at j;exact j.1);have t:b=[]:=(by simp at j;exact j.2);subst s t;simp[lP]
  . simp only[j,Bool.false_eq_true,if_false];obtain⟨A,B⟩:=bX5 ha hb;have H:=bP2 j;have I:=bJ8 j;generalize cW a b=p at *;obtain⟨C,x,D,J⟩:=aW4 ha A;obtain⟨E,y,F,K⟩:=aW4 hb B;have L:(if dH a p=true then a.tail else a).length+(if dH b p=true then b.tail else b).length+1<=a.length+b.length:=by
     rcases I with h|h
     . have e:(if dH a p=true then 1 else 0)=1:=if_pos h;omega
     . have e:(if dH b p=true then 1 else 0)=1:=if_pos h;omega
    have o:∀v,¬bZ p v<=0->lP a v=false/\lP b v=false:=fun v g =>
     ⟨gX fun q i=>gZ (fQ (mL g) (A q i)),gX fun q i=>gZ (fQ (mL g) (B q i))⟩
    generalize (if dH a p=true then a.tail else a)=k at *;generalize (if dH b p=true then b.tail else b)=l at *;obtain⟨c1,c2,G,r⟩:=bI5 op f k l ((dH a p).xor c) ((dH b p).xor d) (by omega) C E;have m:∀q∈mp op f k l ((dH a p).xor c) ((dH b p).xor d) (op ((dH a p).xor c) ((dH b p).xor d)),bZ p q<0:=fun q i=>by
     rcases c2 q i with h|h
     . exact(x q h).1
     . exact(y q h).1
    have u:∀q∈mp op f k l ((dH a p).xor c) ((dH b p).xor d) (op ((dH a p).xor c) ((dH b p).xor d)),q∈a\/q∈b:=fun q i=>by
     rcases c2 q i with h|h
     . exact .inl (x q h).2
     . exact .inr (y q h).2
    have z:∀v,bZ p v<=0->op ((dH a p).xor c |>.xor (lP k v)) ((dH b p).xor d |>.xor (lP l v))=op (c.xor (lP a v)) (d.xor (lP b v)):=fun v g=>by
     rw[D v g,F v g];congr 1
     . cases dH a p<;>cases c<;>cases lP k v<;>rfl
     . cases dH b p<;>cases d<;>cases lP l v<;>rfl
    by_cases n:op ((dH a p).xor c) ((dH b p).xor d)=op c d
    . rw[if_pos n];rw[n]at c1 c2 G r m u;refine⟨c1,u,by omega,fun v=>?_⟩;by_cases g:bZ p v<=0
      . rw[r v,z v g]
      . rw[(o v g).1,(o v g).2,gX fun q i=>gZ (cV (mL g) (m q i))];simp
    . rw[if_neg n];refine⟨List.pairwise_cons.2 ⟨m,c1⟩,fun q i=>?_,by rw[bL];omega,fun v=>?_⟩
      . rcases List.mem_cons.1 i with rfl|i
        . exact H
        . exact u q i
      . by_cases g:bZ p v<=0
        . rw[<- z v g,<- r v,lP,decide_eq_true g];revert n;cases op ((dH a p).xor c) ((dH b p).xor d)<;>cases op c d<;>simp
        . rw[(o v g).1,(o v g).2,zZ (List.pairwise_cons.2 ⟨m,c1⟩) g];simp
theorem pG (op:Bool->Bool->Bool)(o:op false false=false){a b:List Iv}(n:cL none a=true)(hb:cL none b=true) :
 cL none (eD op a b)=true/\(cR (eD op a b)).length<=(cR a).length+(cR b).length/\∀v,eP (eD op a b) v=op (eP a v) (eP b v):=by
 obtain⟨j,c,k,_⟩:=kK a none n;obtain⟨l,d,m,_⟩:=kK b none hb;have e:eD op a b=dS (mp op ((cR a).length+(cR b).length) (cR a) (cR b) false false false):=by unfold eD;rw[(aH6 op _ _ _ _ _).1 []];rfl
 obtain⟨c1,c2,g,i⟩:=bI5 op ((cR a).length+(cR b).length) (cR a) (cR b) false false (aD _) c d;rw[o]at c1 c2 g i;rw[e];refine⟨uV _ _ c1 (fun v p=>(c2 v p).elim (k v) (m v)) (fun y h=>by cases h),by rw[xZ];exact g,fun v=>?_⟩;rw[mV v _ c1];have:=i v;rw[<- mV v _ c,<- mV v _ d,j,l]at this;simpa using this
def pN (g:Vl→Bool):Bool→List Vl→List Vl
 |_,[]=>[]
 |ins,p::P=>if g p=ins then pN g ins P else p::pN g (g p) P
def eV:List Vl→Vl→Option Vl
 |[],_=>none
 |p::P,v=>if bZ p v≤0 then some ((eV P v).getD p)else none
theorem qS {v:Vl}:∀ {P:List Vl},hY P->∀u,eV P v=some u->u∈P/\bZ u v<=0/\∀q∈P,bZ q v<=0->bZ q u<=0
 |[],_,u,h=>by cases h
 |
  p::P,hs,u,h=>by
  have k:=List.pairwise_cons.1 hs;unfold eV at h;split at h
  . rename_i j;injection h with h;cases hl:eV P v with
    |
     none =>
     rw[hl]at h;have e:p=u:=h;subst e;refine⟨aQ,j,fun q a b=>?_⟩;rcases List.mem_cons.1 a with rfl|a
     . have:=eH q;omega
     . cases P with
       |nil=>cases a
       |
        cons r P' =>
        unfold eV at hl;split at hl
        . cases hl
        . rename_i d;have l:=List.pairwise_cons.1 k.2;rcases List.mem_cons.1 a with rfl|a
          . exact absurd b d
          . exact absurd b (gZ (cV (mL d) (l.1 q a)))
    |
     some u' =>
     rw[hl]at h;have e:u'=u:=h;subst e;obtain⟨c,g,i⟩:=qS k.2 u' hl;refine⟨aS _ c,g,fun q a b=>?_⟩;rcases List.mem_cons.1 a with rfl|a
     . have:=k.1 u' c;omega
     . exact i q a b
  . cases h
theorem aV6 {v:Vl}:∀ {P:List Vl},hY P->eV P v=none->∀q∈P,¬bZ q v<=0
 |[],_,_,q,a=>by cases a
 |
  p::P,hs,h,q,a=>by
  have k:=List.pairwise_cons.1 hs;unfold eV at h;split at h
  . cases h
  . rename_i b;rcases List.mem_cons.1 a with rfl|a
    . exact b
    . exact gZ (cV (mL b) (k.1 q a))
theorem mM (g:Vl->Bool):∀(P:List Vl) (a:Bool),(∀q∈pN g a P,q∈P)/\(pN g a P).length<=P.length
 |[],a=>⟨(fun q h=>by cases h),by simp[pN]⟩
 |
  p::P,a=>by
  unfold pN;split
  . have b:=mM g P a;exact⟨fun q h=>aS _ (b.1 q h),by rw[bL];omega⟩
  . have b:=mM g P (g p);refine⟨fun q h=>?_,by rw[bL,bL];omega⟩;rcases List.mem_cons.1 h with rfl|h
    . exact aQ
    . exact aS _ (b.1 q h)
theorem sJ (g:Vl->Bool):∀(P:List Vl) (a:Bool),hY P->hY (pN g a P)
 |[],_,_=>List.Pairwise.nil
 |
  p::P,a,h=>by
  have k:=List.pairwise_cons.1 h;unfold pN;split
  . exact sJ g P a k.2
  . exact List.pairwise_cons.2 ⟨fun q b=>k.1 q ((mM g P _).1 q b),sJ g P _ k.2⟩
theorem aP2 (g:Vl->Bool)(v:Vl):∀(P:List Vl) (a:Bool),hY P->xor a (lP (pN g a P) v)=match eV P v with|none=>a|some u=>g u
 |[],a,_=>by simp[pN,lP,eV]
 |
  p::P,a,h=>by
  have k:=List.pairwise_cons.1 h;by_cases b:bZ p v<=0
  . have e:(match eV (p::P) v with|none=>a|some u=>g u)=(match eV P v with|none=>g p|some u=>g u):=(by rw[eV,if_pos b];cases eV P v<;>rfl);rw[e,<- aP2 g v P (g p) k.2,pN];by_cases c:g p=a
    . rw[if_pos c,c]
    . rw[if_neg c,lP,decide_eq_true b];revert c;generalize lP (pN g (g p) P) v=z;generalize g p=y;cases a<;>cases y<;>cases z<;>simp
  . rw[eV,if_neg b,gX (fun q d=>?_)]
    . simp
    . rcases List.mem_cons.1 ((mM g (p::P) a).1 q d)with rfl|d
      . exact b
      . exact gZ (cV (mL b) (k.1 q d))
theorem zY {Q P:List Vl}(b:hY P)(c:∀q∈Q,q∈P)(v:Vl):lP Q v=match eV P v with|none=>false|some u=>lP Q u:=by
 cases hl:eV P v with
 |none=>exact gX fun q a=>aV6 b hl q (c q a)
 |
  some u =>
  obtain⟨_,d,e⟩:=qS b u hl;exact aT8 fun q a=>⟨fun h=>e q (c q a) h,fun h=>iD h d⟩
end
section
open Go.RowKit
set_option maxRecDepth 100000
inductive Rg where
 | nil (w:Int) (f:Bool)
 | cons (vs:List Iv) (rest tail:Rg)
 deriving DecidableEq
namespace Rg
def w:Rg→Int
 |nil w _=>w
 |cons _ _ t=>t.w
def f:Rg→Bool
 |nil _ f=>f
 |cons _ _ t=>t.f
def len:Rg→Nat
 |nil _ _=>0
 |cons _ _ t=>t.len+1
def parts:Rg→List (List Iv×Rg)
 |nil _ _=>[]
 |cons vs r t=>(vs,r)::t.parts
def tN (w:Int) (f:Bool):List (List Iv×Rg)→Rg
 |[]=>nil w f
 |p::l=>cons p.1 p.2 (tN w f l)
def size:Rg→Nat
 |nil _ _=>0
 |cons _ r t=>1+r.size+t.size
def fits:Rg→Bool
 |nil _ _=>true
 |cons vs r t=>decide (vs.length≤64)&&r.fits&&t.fits
def nix (r:Rg):Bool := !r.f&&decide (r.len=0)
def den:Rg→List Vl→Bool
 |nil _ f,[]=>f
 |nil _ _,_::_=>false
 |cons _ _ t,[]=>den t []
 |cons vs r t,v::row=>if eP vs v then den r row else den t (v::row)
def at_ (n:Int):Rg→Vl→Rg
 |nil _ _,_=>nil n false
 |cons vs r t,v=>if eP vs v then r else at_ n t v
theorem cI:∀r:Rg,r.parts.length=r.len
 |nil _ _=>rfl
 |cons _ _ t=>by simp[parts,len,cI t]
theorem qQ:∀r:Rg,tN r.w r.f r.parts=r
 |nil _ _=>rfl
 |cons _ _ t=>by simp only[parts,tN,w,f,qQ t]
theorem w_mk (w:Int)(f:Bool):∀l,(tN w f l).w=w
 |[]=>rfl
 |_::l=>w_mk w f l
theorem f_mk (w:Int)(f:Bool):∀l,(tN w f l).f=f
 |[]=>rfl
 |_::l=>f_mk w f l
theorem iS (w:Int)(f:Bool):∀l,(tN w f l).parts=l
 |[]=>rfl
 |p::l=>by simp[tN,parts,iS w f l]
theorem ext {a b:Rg}(c:a.w=b.w)(d:a.f=b.f)(e:a.parts=b.parts):a=b:=by rw[<- qQ a,<- qQ b,c,d,e]
theorem aV2 (r:Rg):r.nix=true↔r.f=false/\r.parts=[]:=by
 unfold nix;rw[<- cI];simp
theorem sD:∀r:Rg,r.den []=r.f
 |nil _ _=>rfl
 |cons _ _ t=>sD t
theorem oJ (n:Int)(v:Vl)(a:List Vl):∀r:Rg,r.den (v::a)=(r.at_ n v).den a
 |nil _ _=>by cases a<;>rfl
 |
  cons vs r t=>by
  simp only[den,at_];split
  . rfl
  . exact oJ n v a t
theorem lJ (n:Int)(v:Vl):∀r:Rg,(∃p∈r.parts,eP p.1 v=true/\r.at_ n v=p.2)\/(r.at_ n v=nil n false/\∀p∈r.parts,eP p.1 v=false)
 |nil _ _=>.inr ⟨rfl,by simp[parts]⟩
 |
  cons vs r t=>by
  cases h:eP vs v
  . rcases lJ n v t with⟨p,a,b,c⟩|⟨b,c⟩
    . exact .inl ⟨p,aS _ a,b,by simp[at_,h,c]⟩
    . refine .inr ⟨by simp[at_,h,b],fun p a=>?_⟩;rcases List.mem_cons.1 a with rfl|a
      . exact h
      . exact c p a
  . exact .inl ⟨(vs,r),aQ,h,by simp[at_,h]⟩
theorem uJ {p:List Iv×Rg}:∀ {r:Rg},p∈r.parts->p.2.size<r.size
 |nil _ _,h=>by cases h
 |
  cons vs r t,h=>by
  rcases List.mem_cons.1 h with rfl|h
  . simp only[size];omega
  . have:=uJ (r:=t) h;simp only[size];omega
theorem lV {p:List Iv×Rg}:∀ {r:Rg},r.fits=true->p∈r.parts->p.1.length<=64/\p.2.fits=true
 |nil _ _,_,h=>by cases h
 |
  cons vs r t,hf,h=>by
  simp only[fits,aI,decide_eq_true_eq]at hf;rcases List.mem_cons.1 h with rfl|h
  . exact⟨hf.1.1,hf.1.2⟩
  . exact lV hf.2 h
end Rg
open Rg
def lo (l:List Iv):Vl:=match l with|[]=>bE|x::_=>x.f
def wR (a b:List Iv):Prop:=∀v,bT v=true→eP a v=true→eP b v=false
def eI:Nat→Rg→Prop
 |0,r=>r.w=0∧r.parts=[]
 |n
  + 1,r=>r.w=((n+1:Nat):Int)∧r.f=false∧(∀p∈r.parts,p.1≠[]∧cL none p.1=true∧eI n p.2∧p.2.nix=false) ∧
  r.parts.Pairwise (fun p q=>bZ (lo p.1) (lo q.1)<0∧wR p.1 q.1∧p.2≠q.2)
theorem eI.width:∀ {n:Nat} {r:Rg},eI n r->r.w=(n:Int)
 |0,_,h=>h.1
 |_+1,_,h=>h.1
theorem vF:∀n:Nat,eI n (.nil (n:Int) false)
 |0=>⟨rfl,rfl⟩
 |n+1=>⟨rfl,rfl,(fun p h=>by cases h),List.Pairwise.nil⟩
theorem sA (n:Nat)(r:Rg)(h:eI n r)(a:r.nix=true):r=.nil (n:Int) false:=by
 have:=(aV2 r).1 a;exact Rg.ext h.width this.1 this.2
theorem eI.at_ {n:Nat}{r:Rg}(h:eI (n+1) r)(v:Vl):eI n (r.at_ (n:Int) v):=by
 rcases lJ (n:Int) v r with⟨p,a,_,e⟩|⟨e,_⟩
 . rw[e];exact(h.2.2.1 p a).2.2.1
 . rw[e];exact vF n
theorem bX3 {l:List Iv}(h:cL none l=true)(d:l≠[]):bT (lo l)=true/\eP l (lo l)=true:=by
 cases l with
 |nil=>exact absurd rfl d
 |
  cons x r =>
  rw[gD,aI]at h;have a:=h.1;unfold okI at a;simp only[aI]at a;refine⟨a.1.1,?_⟩;show eP (x::r) x.f=true;rw[aW2];unfold xL;rw[eH];have b:=a.2;split at b
  . rename_i c;simp[c]
  . rename_i c;simp only[aI,decide_eq_true_eq]at b;simp[b.2]
theorem bU6 {L:List (List Iv×Rg)}(h:L.Pairwise (fun p q=>bZ (lo p.1) (lo q.1)<0/\wR p.1 q.1/\p.2≠q.2)){p q:List Iv×Rg}(d:p∈L)(a:q∈L){v:Vl}(g:bT v=true)(b:eP p.1 v=true)(c:eP q.1 v=true):p=q:=by
 induction L with
 |nil=>cases d
 |
  cons x L ih =>
  have k:=List.pairwise_cons.1 h;rcases List.mem_cons.1 d with rfl|e
  . rcases List.mem_cons.1 a with rfl|a
    . rfl
    . have:=(k.1 q a).2.1 v g b;rw[this]at c;cases c
  . rcases List.mem_cons.1 a with rfl|a
    . have:=(k.1 p e).2.1 v g c;rw[this]at b;cases b
    . exact ih k.2 e a
theorem bO1 {L:List (List Iv×Rg)}(h:L.Pairwise (fun p q=>bZ (lo p.1) (lo q.1)<0/\wR p.1 q.1/\p.2≠q.2)){p q:List Iv×Rg}(c:p∈L)(a:q∈L)(b:p.2=q.2):p=q:=by
 induction L with
 |nil=>cases c
 |
  cons x L ih =>
  have k:=List.pairwise_cons.1 h;rcases List.mem_cons.1 c with rfl|d
  . rcases List.mem_cons.1 a with rfl|a
    . rfl
    . exact absurd b (k.1 q a).2.2
  . rcases List.mem_cons.1 a with rfl|a
    . exact absurd b.symm (k.1 p d).2.2
    . exact ih k.2 d a
theorem eI.at_iff {n:Nat}{r:Rg}(h:eI (n+1) r){p:List Iv×Rg}(a:p∈r.parts){v:Vl}(j:bT v=true):eP p.1 v=true↔r.at_ (n:Int) v=p.2:=by
 constructor
 . intro d;rcases lJ (n:Int) v r with⟨q,g,b,e⟩|⟨_,i⟩
   . rw[e,bU6 h.2.2.2 g a j b d]
   . rw[i p a]at d;cases d
 . intro c;rcases lJ (n:Int) v r with⟨q,g,b,e⟩|⟨e,_⟩
   . rw[<- bO1 h.2.2.2 g a (e.symm.trans c)];exact b
   . rw[e]at c;have:=(h.2.2.1 p a).2.2.2;rw[<- c]at this;cases this
theorem aK9:∀(a b:List (List Iv×Rg)),a.Pairwise (fun p q=>bZ (lo p.1) (lo q.1)<0)->b.Pairwise (fun p q=>bZ (lo p.1) (lo q.1)<0)->(∀p,p∈a↔p∈b)->a=b
 |[],[],_,_,_=>rfl
 |[],y::b,_,_,h=>by have:=(h y).2 aQ;cases this
 |x::a,[],_,_,h=>by have:=(h x).1 aQ;cases this
 |
  x::a,y::b,ha,hb,h=>by
  have i:=List.pairwise_cons.1 ha;have j:=List.pairwise_cons.1 hb;have g:∀p:List Iv×Rg,¬bZ (lo p.1) (lo p.1)<0:=fun p=>by rw[eH];omega
  have e:x=y:=by
   rcases List.mem_cons.1 ((h x).1 aQ)with e|k
   . exact e
   . rcases List.mem_cons.1 ((h y).2 aQ)with e|l
     . exact e.symm
     . exact absurd (cV (i.1 y l) (j.1 x k)) (g x)
  subst e;rw[aK9 a b i.2 j.2 fun p=>?_];constructor
  . intro c;rcases List.mem_cons.1 ((h p).1 (aS _ c))with rfl|d
    . exact absurd (i.1 p c) (g p)
    . exact d
  . intro c;rcases List.mem_cons.1 ((h p).2 (aS _ c))with rfl|d
    . exact absurd (j.1 p c) (g p)
    . exact d
def jB (n:Nat) (row:List Vl):Prop:=row.length=n∧∀v∈row,bT v=true
theorem aH2 {n:Nat}{a b:Rg}(c:eI (n+1) a)(hb:eI (n+1) b)(h:∀v,bT v=true->a.at_ (n:Int) v=b.at_ (n:Int) v){p:List Iv×Rg}(d:p∈a.parts):p∈b.parts:=by
 obtain⟨s,j,x,k⟩:=c.2.2.1 p d;obtain⟨o,l2⟩:=bX3 j s;have e:=(c.at_iff d o).1 l2;rw[h _ o]at e;rcases lJ (n:Int) (lo p.1) b with⟨q,g,r,u⟩|⟨r,_⟩
 . have l:q.2=p.2:=u.symm.trans e;have:q.1=p.1:=aM8 (hb.2.2.1 q g).2.1 j fun v i=>(by have t:=c.at_iff d i;have m:=hb.at_iff g i;rw[<- h v i,l]at m;rw[Bool.eq_iff_iff,m,t]);have:q=p:=Prod.ext this l;rw[<- this];exact g
 . rw[r]at e;rw[<- e]at k;cases k
theorem aW9:∀(n:Nat) (a b:Rg),eI n a->eI n b->(∀c,jB n c->a.den c=b.den c)->a=b
 |
  0,a,b,ha,hb,h=>by
  have:=h [] ⟨rfl,fun v h=>by cases h⟩;rw[sD,sD]at this;exact Rg.ext (ha.1.trans hb.1.symm) this (ha.2.trans hb.2.symm)
 |
  n+1,a,b,ha,hb,h=>by
  have g:∀v,bT v=true->a.at_ (n:Int) v=b.at_ (n:Int) v:=fun v e =>
   aW9 n _ _ (ha.at_ v) (hb.at_ v) fun c i=>by
    rw[<- oJ,<- oJ];exact h (v::c) ⟨by simp[i.1],fun u d=>by
     rcases List.mem_cons.1 d with rfl|d
     . exact e
     . exact i.2 u d⟩
  refine Rg.ext (ha.1.trans hb.1.symm) (ha.2.1.trans hb.2.1.symm) ?_;exact aK9 _ _ (ha.2.2.2.imp fun h=>h.1) (hb.2.2.2.imp fun h=>h.1) fun p=>⟨aH2 ha hb g,aH2 hb ha fun v e=>(g v e).symm⟩
end
section
open Go.RowKit
open Rg
def xR (v:Vl):List Vl→List Vl
 |[]=>[v]
 |x::l=>if bZ v x<0 then v::x::l else if bZ v x=0 then x::l else x::xR v l
theorem aB3 (u v:Vl):∀l:List Vl,u∈xR v l↔u=v\/u∈l
 |[]=>by simp[xR]
 |
  x::l=>by
  have a:=aB3 u v l;unfold xR;split
  . simp
  . split
    . rename_i h;have e:=(gI v x).1 h;subst e;simp
    . simp only[aK,a];constructor
      . rintro(h|h|h)
        . exact .inr (.inl h)
        . exact .inl h
        . exact .inr (.inr h)
      . rintro(h|h|h)
        . exact .inr (.inl h)
        . exact .inl h
        . exact .inr (.inr h)
theorem aW0 (v:Vl):∀l:List Vl,hY l->hY (xR v l)
 |[],_=>List.pairwise_singleton _ _
 |
  x::l,h=>by
  have k:=List.pairwise_cons.1 h;unfold xR;split
  . rename_i b;refine List.pairwise_cons.2 ⟨fun q a=>?_,h⟩;rcases List.mem_cons.1 a with rfl|a
    . exact b
    . exact cV b (k.1 q a)
  . split
    . exact h
    . rename_i c d;refine List.pairwise_cons.2 ⟨fun q a=>?_,aW0 v l k.2⟩;rcases(aB3 q v l).1 a with rfl|a
      . have:=dD x q;omega
      . exact k.1 q a
def uI (l:List Vl):List Vl:=l.foldr xR []
theorem zL:∀l:List Vl,hY (uI l)/\∀v,v∈uI l↔v∈l
 |[]=>⟨List.Pairwise.nil,fun v=>by simp[uI]⟩
 |
  x::l=>by
  obtain⟨a,b⟩:=zL l;refine⟨aW0 x _ a,fun v=>?_⟩;show v∈xR x (uI l)↔_;rw[aB3,b,aK]
theorem aE3:∀(a b:List Vl),hY a->hY b->(∀v,v∈a↔v∈b)->a=b
 |[],[],_,_,_=>rfl
 |[],y::b,_,_,h=>absurd ((h y).2 (by simp)) (by simp)
 |x::a,[],_,_,h=>absurd ((h x).1 (by simp)) (by simp)
 |
  x::a,y::b,h1,h2,h=>by
  have d:=List.pairwise_cons.1 h1;have g:=List.pairwise_cons.1 h2;have l:x=y:=by
   rcases List.mem_cons.1 ((h x).1 (by simp))with e|e
   . exact e
   . rcases List.mem_cons.1 ((h y).2 (by simp))with c|c
     . exact c.symm
     . have m:=g.1 x e;have n:=d.1 y c;have o:=dD x y;omega
  subst l;congr 1;refine aE3 a b d.2 g.2 fun r=>?_;have i:=h r;have p:=eH x;constructor
  . intro j;rcases List.mem_cons.1 (i.1 (aS _ j))with e|e
    . have:=d.1 r j;rw[e]at this;omega
    . exact e
  . intro k;rcases List.mem_cons.1 (i.2 (aS _ k))with e|e
    . have:=g.1 r k;rw[e]at this;omega
    . exact e
def aM2 (ls:List (List Iv)):List Vl:=uI (ls.flatMap cR)
theorem lO (a:List (List Iv)):hY (aM2 a)/\∀v,v∈aM2 a↔∃l∈a,v∈cR l:=by
 obtain⟨b,c⟩:=zL (a.flatMap cR);exact⟨b,fun v=>by rw[aM2,c,List.mem_flatMap]⟩
def dU (r:Rg):List (List Iv):=r.parts.map (·.1)
def kI (a b:Rg):List Vl:=aM2 (dU a++dU b)
def mP:List Rg→List Rg
 |[]=>[]
 |r::l=>if r.nix then mP l else r::(mP l).filter (fun s=>decide (s≠r))
theorem eQ (s:Rg):∀l:List Rg,s∈mP l↔s∈l/\s.nix=false
 |[]=>by simp[mP]
 |
  r::l=>by
  have c:=eQ s l;unfold mP;split
  . rename_i h;rw[c,aK];constructor
    . rintro⟨b,a⟩;exact⟨.inr b,a⟩
    . rintro⟨rfl|b,a⟩
      . rw[h]at a;cases a
      . exact⟨b,a⟩
  . rename_i h;simp only[aK,List.mem_filter,c,decide_eq_true_eq];constructor
    . rintro(rfl|⟨⟨b,a⟩,_⟩)
      . exact⟨.inl rfl,by simpa using h⟩
      . exact⟨.inr b,a⟩
    . rintro⟨rfl|b,a⟩
      . exact .inl rfl
      . by_cases e:s=r
        . exact .inl e
        . exact .inr ⟨⟨b,a⟩,e⟩
theorem iP:∀l:List Rg,(mP l).Nodup
 |[]=>List.nodup_nil
 |
  r::l=>by
  unfold mP;split
  . exact iP l
  . refine List.nodup_cons.2 ⟨fun h=>?_,(iP l).filter _⟩;simp at h
theorem aF6 (r:Rg):∀l:List Rg,mP (l++[r])=if r.nix || decide (r∈mP l)then mP l else mP l++[r]
 |
  []=>by
  simp only[List.nil_append,mP];cases r.nix<;>simp
 |
  x::l=>by
  have d:=aF6 r l;rw[List.cons_append];unfold mP;by_cases c:x.nix=true
  . rw[if_pos c,if_pos c];exact d
  . rw[if_neg c,if_neg c,d];by_cases b:r.nix=true
    . simp[b]
    . by_cases e:r=x
      . subst e;by_cases a:r∈mP l
        . simp[a]
        . simp[b,a,List.filter_append]
      . by_cases a:r∈mP l
        . simp[b,a,e]
        . simp[b,a,e,List.filter_append]
def dT (ro:Vl→Rg) (P:List Vl) (r:Rg):List Iv:=dS (pN (fun p=>decide (ro p=r)) false P)
def cY (ro:Vl→Rg) (P:List Vl):List (List Iv×Rg):=(mP (P.map ro)).map fun r=>(dT ro P r,r)
def comb (op:Bool→Bool→Bool):Nat→Rg→Rg→Rg
 |0,a,b=>.nil 0 (op a.f b.f)
 |n+1,a,b=>tN ((n+1:Nat):Int) false (cY (fun p=>comb op n (a.at_ (n:Int) p) (b.at_ (n:Int) p)) (kI a b))
theorem aK7 (g:Vl->Bool):∀(P:List Vl) (x:Vl),P.find? g=some x->∃Q,pN g false P=x::Q
 |[],x,h=>by cases h
 |
  p::P,x,h=>by
  rw[List.find?_cons]at h;cases hg:g p
  . rw[hg]at h;obtain⟨Q,a⟩:=aK7 g P x h;exact⟨Q,by rw[pN,if_pos hg,a]⟩
  . rw[hg]at h;injection h with h;subst h;exact⟨_,by rw[pN,if_neg (by rw[hg];simp)]⟩
theorem yE {ro:Vl->Rg}{P:List Vl}{r:Rg}{x:Vl}(h:P.find? (fun p=>decide (ro p=r))=some x):dT ro P r≠[]/\lo (dT ro P r)=x:=by
 obtain⟨Q,a⟩:=aK7 _ P x h;unfold dT;rw[a];cases Q with
 |nil=>exact⟨by simp[dS],rfl⟩
 |cons y Q=>exact⟨by simp[dS],rfl⟩
theorem nN {ro:Vl->Rg}{P:List Vl}{r:Rg}(h:r∈mP (P.map ro)):∃x,P.find? (fun p=>decide (ro p=r))=some x:=by
 obtain⟨a,_⟩:=(eQ r _).1 h;obtain⟨p,b,rfl⟩:=List.mem_map.1 a;have:(P.find? (fun q=>decide (ro q=ro p))).isSome=true:=List.find?_isSome.2 ⟨p,b,by simp⟩;exact Option.isSome_iff_exists.1 this
theorem yX (ro:Vl->Rg):∀P:List Vl,hY P->(mP (P.map ro)).Pairwise (fun r s=>∀x y,P.find? (fun p=>decide (ro p=r))=some x->P.find? (fun p=>decide (ro p=s))=some y->bZ x y<0)
 |[],_=>List.Pairwise.nil
 |
  p::P,h=>by
  have k:=List.pairwise_cons.1 h;have m:=yX ro P k.2;rw[List.map_cons];unfold mP;have d:∀s,ro p≠s->(p::P).find? (fun q=>decide (ro q=s))=P.find? (fun q=>decide (ro q=s)):=fun s c=>by rw[List.find?_cons,decide_eq_false c]
  split
  . rename_i g;refine m.imp_of_mem fun {r s} i c j x y a b=>?_;have o:=((eQ r _).1 i).2;have t:=((eQ s _).1 c).2;rw[d r (fun e=>by rw[e,o]at g;cases g)]at a;rw[d s (fun e=>by rw[e,t]at g;cases g)]at b;exact j x y a b
  . refine List.pairwise_cons.2 ⟨fun s c x y a b=>?_,?_⟩
    . have l:s≠ro p:=(by simpa using(List.mem_filter.1 c).2);rw[List.find?_cons]at a;simp only[decide_true,Option.some.injEq]at a;subst a;rw[d s (Ne.symm l)]at b;exact k.1 y (List.mem_of_find?_eq_some b)
    . refine(m.filter _).imp_of_mem fun {r s} i c j x y a b=>?_;have n:r≠ro p:=(by simpa using(List.mem_filter.1 i).2);have l:s≠ro p:=(by simpa using(List.mem_filter.1 c).2);rw[d r (Ne.symm n)]at a;rw[d s (Ne.symm l)]at b;exact j x y a b
theorem aN9 {ro:Vl->Rg}{P:List Vl}(h:hY P)(r:Rg)(v:Vl):eP (dT ro P r) v=match eV P v with|none=>false|some u=>decide (ro u=r):=by
 unfold dT;rw[mV v _ (sJ _ _ _ h)];have:=aP2 (fun p=>decide (ro p=r)) v P false h;rw[Bool.false_xor]at this;refine this.trans ?_;cases eV P v<;>rfl
theorem bU9 {ro:Vl->Rg}{P:List Vl}(h:hY P)(b:∀v∈P,bT v=true)(r:Rg):cL none (dT ro P r)=true :=
 uV _ _ (sJ _ _ _ h) (fun v a=>b v ((mM _ _ _).1 v a)) (fun y h=>by cases h)
theorem bE2 {n:Nat}{ro:Vl->Rg}{P:List Vl}(h:hY P)(o:∀v∈P,bT v=true)(e:∀p∈P,eI n (ro p)):eI (n+1) (tN ((n+1:Nat):Int) false (cY ro P)):=by
 refine⟨w_mk _ _ _,f_mk _ _ _,fun p i=>?_,?_⟩
 . rw[iS]at i;obtain⟨r,g,rfl⟩:=List.mem_map.1 i;obtain⟨x,b⟩:=nN g;obtain⟨c,d⟩:=(eQ r _).1 g;obtain⟨q,l,rfl⟩:=List.mem_map.1 c;exact⟨(yE b).1,bU9 h o _,e q l,d⟩
 . rw[iS];unfold cY;rw[List.pairwise_map];have c:=yX ro P h;have d:=iP (P.map ro);refine(c.and d).imp_of_mem fun {r s} e m ⟨t,k2⟩=>?_;obtain⟨x,b⟩:=nN e;obtain⟨y,j⟩:=nN m;refine⟨?_,fun v _ k=>?_,k2⟩
   . show bZ (lo (dT ro P r)) (lo (dT ro P s))<0;rw[(yE b).2,(yE j).2];exact t x y b j
   . show eP (dT ro P s) v=false;have a:eP (dT ro P r) v=true:=k;rw[aN9 h]at a ⊢;cases hl:eV P v with
     |none=>rfl
     |
      some u =>
      rw[hl]at a;simp only[decide_eq_true_eq]at a;simp only[decide_eq_false_iff_not];rw[a];exact k2
theorem cA5 {n:Nat}{ro:Vl->Rg}{P:List Vl}(h:hY P)(i:∀p∈P,eI n (ro p))(v:Vl):(tN ((n+1:Nat):Int) false (cY ro P)).at_ (n:Int) v=match eV P v with|none=>.nil (n:Int) false|some u=>ro u:=by
 rcases lJ (n:Int) v (tN ((n+1:Nat):Int) false (cY ro P))with⟨p,e,b,c⟩|⟨b,c⟩
 . rw[iS]at e;obtain⟨r,j,rfl⟩:=List.mem_map.1 e;rw[c];have a:eP (dT ro P r) v=true:=b;rw[aN9 h]at a;cases hl:eV P v with
   |none=>rw[hl]at a;cases a
   |
    some u =>
    rw[hl]at a;simp only[decide_eq_true_eq]at a;exact a.symm
 . rw[b];cases hl:eV P v with
   |none=>rfl
   |
    some u =>
    have g:=(qS h u hl).1;cases hn:(ro u).nix
    . have:=c (dT ro P (ro u),ro u) (by rw[iS];exact List.mem_map.2 ⟨ro u,(eQ _ _).2 ⟨List.mem_map.2 ⟨u,g,rfl⟩,hn⟩,rfl⟩);have d:eP (dT ro P (ro u)) v=false:=this;rw[aN9 h,hl]at d;simp at d
    . exact(sA n _ (i u g) hn).symm
theorem in_last {l:List Iv}{P:List Vl}(e:cL none l=true)(d:hY P)(g:∀q∈cR l,q∈P)(v:Vl):eP l v=match eV P v with|none=>false|some u=>eP l u:=by
 obtain⟨b,c,_,_⟩:=kK l none e;have a:∀v,eP l v=lP (cR l) v:=fun v=>by rw[<- mV v _ c,b]
 rw[a v,zY d g v];cases eV P v with
 |none=>rfl
 |some u=>exact(a u).symm
theorem aP8 (n:Int){P:List Vl}(b:hY P)(v:Vl):∀r:Rg,(∀p∈r.parts,cL none p.1=true/\∀q∈cR p.1,q∈P)->r.at_ n v=match eV P v with|none=>.nil n false|some u=>r.at_ n u
 |.nil _ _,_=>by cases eV P v<;>rfl
 |
  .cons vs r t,h=>by
  have a:=h (vs,r) aQ;have d:=aP8 n b v t (fun p c=>h p (aS _ c));simp only[Rg.at_];rw[in_last a.1 b a.2 v,d];cases eV P v with
  |none=>rfl
  |some u=>rfl
theorem aM1 {n:Nat}{a b:Rg}(i:eI (n+1) a)(hb:eI (n+1) b):hY (kI a b)/\(∀v∈kI a b,bT v=true)/\(∀p∈a.parts,cL none p.1=true/\∀q∈cR p.1,q∈kI a b)/\(∀p∈b.parts,cL none p.1=true/\∀q∈cR p.1,q∈kI a b):=by
 obtain⟨j,e⟩:=lO (dU a++dU b);refine⟨j,fun v k=>?_,fun p c=>⟨(i.2.2.1 p c).2.1,fun q g=>(e q).2 ⟨p.1,List.mem_append.2 (.inl (List.mem_map.2 ⟨p,c,rfl⟩)),g⟩⟩,fun p c=>⟨(hb.2.2.1 p c).2.1,fun q g=>(e q).2 ⟨p.1,List.mem_append.2 (.inr (List.mem_map.2 ⟨p,c,rfl⟩)),g⟩⟩⟩;obtain⟨l,d,m⟩:=(e v).1 k;rw[List.mem_append]at d;have:cL none l=true:=by
  rcases d with d|d
  . obtain⟨p,c,rfl⟩:=List.mem_map.1 d;exact(i.2.2.1 p c).2.1
  . obtain⟨p,c,rfl⟩:=List.mem_map.1 d;exact(hb.2.2.1 p c).2.1
 exact(kK l none this).2.2.1 v m
theorem lC (op:Bool->Bool->Bool):∀(n:Nat) (a b:Rg),eI n a->eI n b->eI n (comb op n a b)
 |0,_,_,_,_=>⟨rfl,rfl⟩
 |
  n+1,a,b,ha,hb=>by
  obtain⟨c,d,_,_⟩:=aM1 ha hb;exact bE2 c d fun p _=>lC op n _ _ (ha.at_ p) (hb.at_ p)
theorem aD0 (op:Bool->Bool->Bool)(e:op false false=false):∀(n:Nat) (a b:Rg),eI n a->eI n b->∀c,c.length=n->(comb op n a b).den c=op (a.den c) (b.den c)
 |
  0,a,b,_,_,c,hr=>by
  obtain rfl:=aR hr;rw[sD,sD,sD];rfl
 |
  n+1,a,b,ha,hb,c,hr=>by
  obtain⟨d,_,g,i⟩:=aM1 ha hb;cases c with
  |nil=>cases hr
  |
   cons v c =>
   have j:c.length=n:=(by simpa using hr);rw[oJ (n:Int),oJ (n:Int) v c a,oJ (n:Int) v c b,comb,cA5 d (fun p _=>lC op n _ _ (ha.at_ p) (hb.at_ p)) v,aP8 (n:Int) d v a g,aP8 (n:Int) d v b i];cases eV (kI a b) v with
   |
    none =>
    have:∀c:List Vl,(Rg.nil (n:Int) false).den c=false:=fun c=>(by cases c<;>rfl);simp only[this];exact e.symm
   |some u=>exact aD0 op e n _ _ (ha.at_ u) (hb.at_ u) c j
def yC (A:Option Addr) (n c:Nat):Prop:=n≤c∧(A=none→n=0∧c=0)
def tZ (w:World):Rg→Nat→Nat→Prop
 |.nil _ _,_,_=>True
 |
  .cons vs rest tail,b,o =>
  (∃A n c,w.cell? ⟨b,o,none⟩=some (.slice A n c)∧yC A n c∧kH w A n vs)∧w.cell? ⟨b,o+1,none⟩=some (.int .i64 rest.w)∧w.cell? ⟨b,o+2,none⟩=some (.bool rest.f) ∧
  (∃A n c,w.cell? ⟨b,o+3,none⟩=some (.slice A n c)∧yC A n c∧n=rest.len∧(0<n→∃b' o',A=some ⟨b',o',none⟩∧tZ w rest b' o'))∧tZ w tail b (o+4)
structure RgS (w:World) (x:Int) (f:Bool) (A:Option Addr) (n c:Nat) (r:Rg):Prop where
 hw:r.w=x
 hf:r.f=f
 ok:yC A n c
 len:n=r.len
 ex:0<n→∃ b o,A=some ⟨b,o,none⟩∧tZ w r b o
structure PtAt (w:World) (b o:Nat) (p:List Iv×Rg) (A:Option Addr) (n c:Nat) (x:Int) (f:Bool) (A':Option Addr) (n' c':Nat):Prop where
 c0:w.cell? ⟨b,o,none⟩=some (.slice A n c)
 c1:w.cell? ⟨b,o+1,none⟩=some (.int .i64 x)
 c2:w.cell? ⟨b,o+2,none⟩=some (.bool f)
 c3:w.cell? ⟨b,o+3,none⟩=some (.slice A' n' c')
 ok:yC A n c
 vs:kH w A n p.1
 rg:RgS w x f A' n' c' p.2
theorem tZ.keep {w d:World}(a:dW w d):∀ {r:Rg} {b o:Nat},tZ w r b o->tZ d r b o
 |.nil _ _,_,_,_=>trivial
 |
  .cons vs rest tail,b,o,h=>by
  obtain⟨⟨A,n,c,g,j,k⟩,l,m,⟨A',n',c',p,q,s,t⟩,i⟩:=h;refine⟨⟨A,n,c,aW a g,j,k.keep a⟩,aW a l,aW a m,⟨A',n',c',aW a p,q,s,fun u=>?_⟩,tZ.keep a i⟩;obtain⟨b',v,e,h⟩:=t u;exact⟨b',v,e,tZ.keep a h⟩
theorem RgS.keep {w a:World}{x:Int}{f:Bool}{A:Option Addr}{n c:Nat}{r:Rg}(h:RgS w x f A n c r)(d:dW w a):RgS a x f A n c r :=
 ⟨h.hw,h.hf,h.ok,h.len,fun g=>by
  obtain⟨b,o,e,i⟩:=h.ex g;exact⟨b,o,e,i.keep d⟩⟩
theorem tZ.at {w:World}:∀ {r:Rg} {b o k:Nat} {p:List Iv×Rg},tZ w r b o->r.parts[k]?=some p->∃A n c x f A' n' c',PtAt w b (o+k*4) p A n c x f A' n' c'
 |.nil _ _,_,_,_,_,_,hp=>by simp[parts]at hp
 |
  .cons vs rest tail,b,o,0,p,h,hp=>by
  simp only[parts,aL,Option.some.injEq]at hp;subst hp;obtain⟨⟨A,n,c,a,d,e⟩,g,i,⟨A',n',c',j,l,m,q⟩,_⟩:=h;exact⟨A,n,c,rest.w,rest.f,A',n',c',⟨by simpa using a,by simpa using g,by simpa using i,by simpa using j,d,e,⟨rfl,rfl,l,m,q⟩⟩⟩
 |
  .cons vs rest tail,b,o,k+1,p,h,hp=>by
  simp only[parts,aO]at hp;have:=tZ.at h.2.2.2.2 hp;rw[show o+(k+1)*4=o+4+k*4 by omega];exact this
theorem RgS.at {w:World}{x:Int}{f:Bool}{A:Option Addr}{n c k:Nat}{r:Rg}(h:RgS w x f A n c r)(l:k<n):∃b o p A1 n1 c1 d a A2 n2 c2,A=some ⟨b,o,none⟩/\r.parts[k]?=some p/\PtAt w b (o+k*4) p A1 n1 c1 d a A2 n2 c2:=by
 obtain⟨b,o,e,i⟩:=h.ex (by omega);have m:=h.len;have g:k<r.parts.length:=by rw[cI];omega
 obtain⟨A1,n1,c1,d,a,A2,n2,c2,j⟩:=i.at (aN g);exact⟨b,o,_,A1,n1,c1,d,a,A2,n2,c2,e,aN g,j⟩
theorem tZ.of {w:World}:∀ {r:Rg} {b o:Nat},(∀k p,r.parts[k]?=some p->∃A n c x f A' n' c',PtAt w b (o+k*4) p A n c x f A' n' c')->tZ w r b o
 |.nil _ _,_,_,_=>trivial
 |
  .cons vs rest tail,b,o,h=>by
  obtain⟨A,n,c,x,f,A',n',c',a⟩:=h 0 (vs,rest) rfl;simp only[Nat.zero_mul,bX]at a;obtain⟨d,e,g,i,j,l,⟨rfl,rfl,m,q,s⟩⟩:=a;refine⟨⟨A,n,c,d,j,l⟩,e,g,⟨A',n',c',i,m,q,s⟩,tZ.of fun k p t=>?_⟩;have:=h (k+1) p (by simpa[parts]using t);rw[show o+4+k*4=o+(k+1)*4 by omega];exact this
theorem PtAt.keep {w d:World}{b o:Nat}{p:List Iv×Rg}{A:Option Addr}{n c:Nat}{x:Int}{f:Bool}{A':Option Addr}{n' c':Nat}(h:PtAt w b o p A n c x f A' n' c')(a:dW w d):PtAt d b o p A n c x f A' n' c' :=
 ⟨aW a h.c0,aW a h.c1,aW a h.c2,aW a h.c3,h.ok,h.vs.keep a,h.rg.keep a⟩
theorem RgS.nil {w:World}(x:Int)(f:Bool):RgS w x f none 0 0 (.nil x f):=⟨rfl,rfl,⟨aD _,fun _=>⟨rfl,rfl⟩⟩,rfl,fun h=>absurd h (by omega)⟩
theorem RgS.nil_of {w:World}{x:Int}{f:Bool}{A:Option Addr}{c:Nat}{r:Rg}(h:RgS w x f A 0 c r):r=.nil x f:=by
 have:=h.len;have a:=h.hw;have b:=h.hf;cases r with
 |nil x f=>simp only[Rg.w,Rg.f]at a b;rw[a,b]
 |cons vs rest tail=>simp[Rg.len]at this
def eB (l:List (List Iv×Rg)):Nat:=(l.map fun p=>1+p.2.size).sum
theorem iQ:∀r:Rg,r.size=eB r.parts
 |.nil _ _=>rfl
 |
  .cons vs rest tail=>by
  have a:=iQ tail;simp only[Rg.size,parts,eB,List.map_cons,List.sum_cons]at a ⊢;omega
theorem tF (p:List Iv×Rg)(l:List (List Iv×Rg)):eB (p::l)=1+p.2.size+eB l:=by simp[eB]
theorem uK (a b:List (List Iv×Rg)):eB (a++b)=eB a+eB b:=by simp[eB,List.sum_append]
theorem oZ {l:List (List Iv×Rg)}{k:Nat}{p:List Iv×Rg}(h:l[k]?=some p):eB (l.drop k)=1+p.2.size+eB (l.drop (k+1)):=by rw[eL h,tF]
theorem rK:∀l:List (List Iv×Rg),l.length<=eB l
 |[]=>aD _
 |p::l=>by have:=rK l;rw[tF,bL];omega
theorem eK (r:Rg):r.len<=r.size:=by rw[iQ,<- cI];exact rK _
theorem iX {r:Rg}{k:Nat}{p:List Iv×Rg}(h:r.parts[k]?=some p):p.2.size<r.size:=uJ (aJ h)
theorem bI4 (r:Rg):r.nix=(!r.f&&decide (r.len=0)):=rfl
theorem RgS.at2 {w i:World}{x:Int}{f:Bool}{A:Option Addr}{n c k:Nat}{r:Rg}(h:RgS w x f A n c r)(j:dW w i)(l:k<n):∃b o p A1 n1 c1 d a A2 n2 c2,A=some ⟨b,o,none⟩/\r.parts[k]?=some p/\PtAt w b (o+k*4) p A1 n1 c1 d a A2 n2 c2/\PtAt i b (o+k*4) p A1 n1 c1 d a A2 n2 c2:=by
 obtain⟨b,o,p,A1,n1,c1,d,a,A2,n2,c2,e,m,g⟩:=h.at l;exact⟨b,o,p,A1,n1,c1,d,a,A2,n2,c2,e,m,g,g.keep j⟩
end
section
open Go.RowKit
def gV:Int := -9223372036854775808
def eG (k:Int):Vl×Bool :=
 if k=1∨k=2∨k=3∨k=5 then (⟨k,0,⟨#[]⟩⟩,true)else if k=4 then (⟨k,gV,⟨#[]⟩⟩,true)else (bE,false)
theorem lB (k:Int)(w:World):Calls Tryz.prog 184 #[k] w fun e w' =>
 e=.returned (.tuple #[.agg #[.int .i64 (eG k).1.k,.int .i64 (eG k).1.i,.string (eG k).1.t],.bool (eG k).2])/\Below w w w':=by
 generalize hf:eG k=r;have a:=Z hf;clear hf;go_enter Tryz.func184,Tryz.ntmps184;go_wp2;all_goals
  first
   |(refine aF (v:=.tuple #[.agg #[.int .i64 k,.int .i64 0,.string ⟨#[]⟩],.bool true]) ?_ rfl ⟨?_,?_⟩;focus (simp[results,Tryz.results184,go_sem];done))
   |(refine aF (v:=.tuple #[.agg #[.int .i64 k,.int .i64 gV,.string ⟨#[]⟩],.bool true]) ?_ rfl ⟨?_,?_⟩;focus (simp[results,Tryz.results184,go_sem,gV];done))
   |(refine aF (v:=.tuple #[.agg #[.int .i64 0,.int .i64 0,.string ⟨#[]⟩],.bool false]) ?_ rfl ⟨?_,?_⟩;focus (simp[results,Tryz.results184,go_sem];done))
  . rw[<- a.out];simp_all[eG,bE]
  . repeat(first|exact aB _ _|apply Below.drew|refine Below.setCell ?_ (by simp) _|refine Below.alloc ?_ (by simp) _)
def u8c (b:Int):List Value:=[.int .u8 b]
structure CaseAt (w:World) (g:Nat):Prop where
 ex:∃ (A:Option Addr) (n c k:Nat) (zs:List Int),aT w g 87 #[.slice A n c,.int .i64 (k:Int)]∧Sl 1 u8c w A n zs∧(∀ z∈zs,0≤z∧z≤255)∧n≤1000∧k≤n∧(0<n→∀ b o,A=some ⟨b,o,none⟩→b<g)
theorem Sl.lt_of {w:World}{A:Option Addr}{n:Nat}{e:List Int}{b o:Nat}(h:Sl 1 u8c w A n e)(c:A=some ⟨b,o,none⟩)(d:0<n):∃z,w.cell? ⟨b,o,none⟩=some (.int .u8 z):=by
 obtain⟨b',i,x,a,g,hc⟩:=h.at d;rw[c]at a;injection a with h1;injection h1 with h1 h2;subst h1 h2;exact⟨x,by have:=hc 0 _ rfl;simpa using this⟩
theorem case_ne {w:World}{g:Nat}{A A':Option Addr}{n m c k:Nat}{j:List Int}(e:aT w g 87 #[.slice A' m c,(k:Int)])(h:Sl 1 u8c w A n j)(i:0<n):∀b o,A=some ⟨b,o,none⟩->b≠g:=by
 rintro b o d rfl;obtain⟨z,a⟩:=h.lt_of d i;rw[e.cell]at a;rcases o with _|_|o<;>simp at a
theorem CaseAt.below {w a:World}{g:Nat}(h:CaseAt w g)(hb:Below w w a):CaseAt a g:=by
 obtain⟨A,n,c,k,l,b,d,e,i,j⟩:=h.ex;exact⟨A,n,c,k,l,b.below hb,d.keep (aC hb),e,i,j⟩
theorem gE (g:Nat)(m:Int)(w:World)(hc:CaseAt w g)(hm:1<=m)(Q:m<=1000) :
 Calls Tryz.prog 46 #[.pointer (some ⟨g,0,none⟩),m] w fun e w'=>(∃x:Int,0<=x/\x<m/\e=.returned x)/\CaseAt w' g/\But (· = g) w w':=by
 obtain⟨A,n,c,k,L,a,d,t,hn,hk,B⟩:=hc.ex;have F:=Z B;clear B;have I:=aV a (i:=0) rfl;have e1:=aV a (i:=1) rfl;rcases cJ k n with s|s
 . obtain⟨b,o,z,rfl,E,D⟩:=d.at s;have C:=case_ne a d (by omega) b o rfl;have R:0<=z/\z<=255:=t z (aJ E);have r:=D 0 _ rfl;simp only[Nat.mul_one,bX]at r;have K:decide (n<=k)=false:=(by simp;omega);have P:decide (m<1)=false:=(by simp;omega);have J:=a.free 1;have l:=a.set_ 1 (.int .i64 ((k:Int)+1));have q:But (· = g) w (w.setCell ⟨g,1,none⟩ (.int .i64 ((k:Int)+1))):=But.set (S:=fun k=>k=g) w (p:=⟨g,1,none⟩) rfl _;have y:=d.but q (fun h b' o' e=>by injection e with e;injection e with e1 e2;rw[<- e1];exact C);have M:=vI (p:=⟨g,1,none⟩) (u:=.int .i64 ((k:Int)+1)) r C;have HB:=Z (show CaseAt (w.setCell ⟨g,1,none⟩ (.int .i64 ((k:Int)+1))) g from⟨_,n,c,k+1,L,l,y,t,hn,s,F.out⟩);have N:=aV l (i:=0) (u:=.slice (some ⟨b,o,none⟩) n c) rfl;have O:=aV l (i:=1) (u:=.int .i64 ((k:Int)+1)) rfl;have G:=Z d;have v:=Z hc;have H:=Z q;clear a d hc l q y E D t;go_enter Tryz.func46,Tryz.ntmps46;go_wp2;have j:=@bK w.drew;refine aZ [] [0,1,2,3,4,5,6,7,8,9,10,11,12,13] ?_;simp only[bS,cP];unfold bA;repeat(go_big_quiet_step (fail))
   refine wpQuiet_nil ?_;clear j;go_wp2;generalize w.setCell ⟨g,1,none⟩ (.int .i64 ((k:Int)+1))=W at *;clear r I e1 J;have j:=@bK W.drew.drew;refine aZ [] [0,1,2,3,4,5,6,7,8,9,10,11,12,13,14] ?_;simp only[bS,cP];unfold bA;repeat(go_big_quiet_step (fail))
   refine wpQuiet_nil ?_;clear j;go_wp2;go_ret;refine⟨⟨z % m,Int.emod_nonneg z (by omega),?_,rfl⟩,HB.out.below (aB _ _).drew.drew,H.out.drew.drew⟩;exact Int.emod_lt_of_pos z (by omega)
 . have K:decide (n<=k)=true:=(by simp;omega);go_enter Tryz.func46,Tryz.ntmps46;have HB:=Z a;have G:=Z d;have v:=Z hc;clear a d hc;go_wp2;have j:=@bK w.drew;refine aZ [] [0,1,2,3,4,5,6,7,8,9,10,11,12,13] ?_;simp only[bS,cP];unfold bA;repeat(go_big_quiet_step (fail))
   refine wpQuiet_nil ?_;clear j;go_wp2;go_ret;exact⟨⟨0,by omega,by omega,rfl⟩,v.out.below (aB _ _).drew,(But.refl _ _).drew⟩
theorem info_u8:(Tryz.prog.info? 5).map (fun i=>(i.zero,i.size,i.bytes))=some (some (.int .u8 0),1,1):=by kernel_rfl
theorem new_any (A:Option Addr)(n c:Nat)(i:List Int)(a:Nat)(w:World)(hs:Sl 1 u8c w A n i)(v:∀z∈i,0<=z/\z<=255)(t:A=none->n=0/\c=0)(u:∀ad,A=some ad->ad.spot=none)(L:n<=c)(J:c<=9223372036854775807)(K:a<=1000) :
 Calls Tryz.prog 13 #[.slice A n c,(a:Int)] w fun e w'=>∃g,w.heap.size<=g/\e=.returned (.pointer (some ⟨g,0,none⟩))/\CaseAt w' g/\Below w w w':=by
 obtain⟨C,hi,x,y,B⟩:=info_parts info_u8;have D:∀m:Nat,m<=n->m<=1000->∀(A':Option Addr) (c':Nat) (d:World),d.ownsRow w 5 1 (.slice A' m c') m ((i.take m).flatMap u8c)->Below w w d ->
  CaseAt (d.alloc (.cells #[.slice A' m c',zO] 87)) d.heap.size/\Below w w (d.alloc (.cells #[.slice A' m c',zO] 87)):=by
  intro m h1 h2 A' c' d ho hb;have hl:=hs.len;refine⟨⟨A',m,c',0,i.take m,aT.new _ _ _,(cC3 (cs:=u8c) (fun _=>rfl) (by simp;omega) ho).keep (aM _ _),fun z h=>v z (List.mem_of_mem_take h),by omega,by omega,fun hm b o e=>Sl.lt (cs:=u8c) (sz:=1) (fun _=>rfl) (by decide) (cC3 (cs:=u8c) (fun _=>rfl) (by simp;omega) ho) hm b o e⟩,hb.alloc hb.size _⟩
 have s:=Z D;have l:=fun(m:Nat) (h:m<=n)=>Z (hs.take m h);have p:=Z t;have r:=Z u;clear hs t u v D;rcases cJ a n with G|G
 rotate_left
 . have q:=l n (aD _);clear l;have H:min (n:Int) (a:Int)=(n:Int):=(by omega);go_enter Tryz.func13,Tryz.ntmps13;go_wp2_with (at_builtin;refine fG (cs:=u8c) w (by rfl) _ (.tmp 10) _ (by rfl) w 5 C _ 1 1 Tryz.underlying22 hi x y B (by rfl) (by omega) zN 0 [] (by rfl) ⟨by simp,.inl ⟨rfl,rfl⟩⟩ A n c (i.take n) (by rfl) q.out p.out r.out (fun _=>rfl) (by simp[u8c,Value.oneCell']) (by simp only[maxLen];omega) (by omega) (aD _) ?_;intro A1 c1 d k F j E I;simp only[cA,List.nil_append]at k);go_ret;obtain⟨h1,h2⟩:=s.out n (aD _) (by omega) A1 c1 d k j;exact⟨_,j.size,rfl,h1,h2⟩
 . have q:=l a (by omega);clear l;have H:min (n:Int) (a:Int)=(a:Int):=(by omega);go_enter Tryz.func13,Tryz.ntmps13;go_wp2_with (at_builtin;refine fG (cs:=u8c) w (by rfl) _ (.tmp 10) _ (by rfl) w 5 C _ 1 1 Tryz.underlying22 hi x y B (by rfl) (by omega) zN 0 [] (by rfl) ⟨by simp,.inl ⟨rfl,rfl⟩⟩ A a c (i.take a) (by rfl) q.out (fun h=>⟨by have:=(p.out h).1;omega,(p.out h).2⟩) r.out (fun _=>rfl) (by simp[u8c,Value.oneCell']) (by simp only[maxLen];omega) (by omega) (aD _) ?_;intro A1 c1 d k F j E I;simp only[cA,List.nil_append]at k);go_ret;obtain⟨h1,h2⟩:=s.out a (by omega) (by omega) A1 c1 d k j;exact⟨_,j.size,rfl,h1,h2⟩
theorem mZ (g:Nat)(m:Int)(w:World)(hc:CaseAt w g)(hm:1<=m)(b:m<=1000) :
 Calls Tryz.prog 22 #[.pointer (some ⟨g,0,none⟩),m] w fun e w'=>(∃x:Bool,e=.returned (.bool x))/\CaseAt w' g/\But (· = g) w w':=by
 go_enter Tryz.func22,Tryz.ntmps22;go_wp2_with fail;refine(gE g m _ hc hm b).mono ?_;rintro e i ⟨⟨x,c,d,rfl⟩,a,hb1⟩;go_wp2;go_ret;exact⟨⟨_,rfl⟩,a,hb1⟩
def cA9 (w:World) (g:Nat) (e:Ending) (w':World):Prop:=(∃x:ByteArray,x.size≤64∧e=.returned (.string x))∧CaseAt w' g∧But (· = g) w w'
theorem aR0 (g:Nat)(w:World)(hc:CaseAt w g) :
 Calls Tryz.prog 147 #[.pointer (some ⟨g,0,none⟩)] w fun e w'=>cA9 w g e w':=by
 go_enter Tryz.func147,Tryz.ntmps147;go_wp2_with fail;refine(gE g 10 _ hc (by omega) (by omega)).mono ?_;rintro e l ⟨⟨x,d,j,rfl⟩,a,hb1⟩;go_wp2;iterate 8
  . go_ret;exact⟨⟨_,by decide,rfl⟩,a,hb1⟩
 . go_loop [3,4] (fun t i=>∃(k:Nat) (s:ByteArray),k<=64/\i=.int .i64 (k:Int)/\t=.string s/\s.size<=k) (fun _ i=>64-(intOf i).toNat);case atStart=>exact⟨0,⟨#[]⟩,by omega,rfl,rfl,by decide⟩
   case round =>
    obtain⟨k,s,hk,rfl,rfl,c⟩:=hrel;have b:s.size<=64:=(by omega);by_cases hlt:k<64
    . go_wp2;go_round;case rel=>exact⟨k+1,_,by omega,by go_num,rfl,by have h1:(⟨#[255]⟩:ByteArray).size=1:=rfl;have h2:(⟨#[98]⟩:ByteArray).size=1:=rfl;simp;omega⟩
      case measure=>simp[intOf];omega
    . go_wp2;go_ret;exact⟨⟨s,b,rfl⟩,a,hb1⟩
 . go_loop [3,5] (fun t i=>∃(k:Nat) (s:ByteArray),k<=64/\i=.int .i64 (k:Int)/\t=.string s/\s.size<=k) (fun _ i=>64-(intOf i).toNat);case atStart=>exact⟨0,⟨#[]⟩,by omega,rfl,rfl,by decide⟩
   case round =>
    obtain⟨k,s,hk,rfl,rfl,c⟩:=hrel;have b:s.size<=64:=(by omega);by_cases hlt:k<64
    . go_wp2;go_round;case rel=>exact⟨k+1,_,by omega,by go_num,rfl,by have h1:(⟨#[255]⟩:ByteArray).size=1:=rfl;have h2:(⟨#[98]⟩:ByteArray).size=1:=rfl;simp;omega⟩
      case measure=>simp[intOf];omega
    . go_wp2;go_ret;exact⟨⟨s,b,rfl⟩,a,hb1⟩
theorem CaseAt.lt {w:World}{g:Nat}(h:CaseAt w g):g<w.heap.size:=by
 obtain⟨A,n,c,k,b,a,_⟩:=h.ex;exact a.lt
theorem CaseAt.but {w d:World}{g:Nat}{S:Nat->Prop}(h:CaseAt w g)(hb:But S w d)(r:¬S g)(q:∀b,S b->∀i x,w.cell? ⟨b,i,none⟩≠some (.int .u8 x)):CaseAt d g:=by
 obtain⟨A,n,c,k,v,j,a,l,m,p⟩:=h.ex;refine⟨A,n,c,k,v,j.but hb r,a.but hb (fun s b o e t=>?_),l,m,p⟩;obtain⟨z,u⟩:=a.lt_of e s;exact q b t o z u
theorem CaseAt.far {w j:World}{g:Nat}{S:Nat->Prop}(h:CaseAt w g)(hb:But S w j)(i:∀b,S b->g<b):CaseAt j g:=by
 obtain⟨A,n,c,k,t,l,m,p,q,r,d⟩:=h.ex;exact⟨A,n,c,k,t,l.but hb (fun a=>by have:=i g a;omega),m.but hb (fun s b o e a=>by have:=i b a;have:=d s b o e;omega),p,q,r,d⟩
theorem But.setNew {S:Nat->Prop}{w a:World}(h:But S w a){p:Addr}(d:w.heap.size<=p.block)(u:Value):But S w (a.setCell p u) :=
 ⟨h.os,h.tape,h.output,by simpa[World.setCell]using h.size,fun k b c=>(Below.heap_setCell a p u k (by omega)).trans (h.block k b c)⟩
theorem But.allocNew {S:Nat->Prop}{w a:World}(h:But S w a)(o:Obj):But S w (a.alloc o):=h.trans (But.alloc _ _)
theorem lY {w:World}{g z:Nat}{k i:Int}{t:ByteArray}(h:CaseAt w g)(l:aT w z 59 #[k,i,t])(m:g≠z)(c d e:Value) :
 CaseAt (((w.setCell ⟨z,0,none⟩ c).setCell ⟨z,1,none⟩ d).setCell ⟨z,2,none⟩ e) g:=by
 refine h.but (S:=fun b=>b=z) (((But.set (S:=fun b=>b=z) w (p:=⟨z,0,none⟩) rfl c).trans (But.set (S:=fun b=>b=z) _ (p:=⟨z,1,none⟩) rfl d)).trans (But.set (S:=fun b=>b=z) _ (p:=⟨z,2,none⟩) rfl e)) m ?_;rintro b rfl j x a;rw[l.cell]at a;rcases j with _|_|_|j<;>simp at a
end
section
open Go.RowKit
set_option maxRecDepth 100000
structure Od where
 k:Int
 ix:Int
 v:Vl
 deriving DecidableEq
structure Nd where
 op:Int
 cm:Int
 l:Od
 r:Od
 deriving DecidableEq
def Nd.cs (h:Nd):List Value:=[.int .i64 h.op,.int .i64 h.cm,.int .i64 h.l.k,.int .i64 h.l.ix,.int .i64 h.l.v.k,.int .i64 h.l.v.i,.string h.l.v.t,.int .i64 h.r.k,.int .i64 h.r.ix,.int .i64 h.r.v.k,.int .i64 h.r.v.i,.string h.r.v.t]
theorem Nd.cs_len (h:Nd):h.cs.length=12:=rfl
inductive Pd where
 | nil (h:Nd)
 | cons (a t:Pd)
 deriving DecidableEq
namespace Pd
def h:Pd→Nd
 |nil h=>h
 |cons _ t=>t.h
def len:Pd→Nat
 |nil _=>0
 |cons _ t=>t.len+1
def args:Pd→List Pd
 |nil _=>[]
 |cons a t=>a::t.args
def uA (h:Nd):List Pd→Pd
 |[]=>nil h
 |a::l=>cons a (uA h l)
def nodes:Pd→Nat
 |nil _=>1
 |cons a t=>a.nodes+t.nodes
theorem lU:∀p:Pd,p.args.length=p.len
 |nil _=>rfl
 |cons _ t=>by simp[args,len,lU t]
theorem yD:∀p:Pd,uA p.h p.args=p
 |nil _=>rfl
 |cons _ t=>by simp only[args,uA,h,yD t]
theorem aO0 (h:Nd):∀l,(uA h l).h=h
 |[]=>rfl
 |_::l=>aO0 h l
theorem sM (h:Nd):∀l,(uA h l).args=l
 |[]=>rfl
 |a::l=>by simp[uA,args,sM h l]
theorem len_mk (h:Nd)(l:List Pd):(uA h l).len=l.length:=by rw[<- lU,sM]
theorem ext {a b:Pd}(c:a.h=b.h)(d:a.args=b.args):a=b:=by rw[<- yD a,<- yD b,c,d]
theorem eA:∀p:Pd,1<=p.nodes
 |nil _=>aD _
 |cons a t=>by have:=eA t;simp only[nodes];omega
theorem oB {q:Pd}:∀ {p:Pd},q∈p.args->q.nodes<p.nodes
 |nil _,h=>by cases h
 |
  cons a t,h=>by
  rcases List.mem_cons.1 h with rfl|h
  . have:=eA t;simp only[nodes];omega
  . have:=oB (p:=t) h;simp only[nodes];omega
end Pd
open Pd
def PdP (w:World):Pd→Nat→Nat→Prop
 |.nil _,_,_=>True
 |
  .cons a t,b,o =>
  (∀(j:Nat) (u:Value),a.h.cs[j]?=some u→w.cell? ⟨b,o+j,none⟩=some u) ∧
  (∃A n c,w.cell? ⟨b,o+12,none⟩=some (.slice A n c)∧yC A n c∧n=a.len∧(0<n→∃b' o',A=some ⟨b',o',none⟩∧PdP w a b' o'))∧PdP w t b (o+13)
structure PrdS (w:World) (A:Option Addr) (n c:Nat) (p:Pd):Prop where
 ok:yC A n c
 len:n=p.len
 ex:0<n→∃ b o,A=some ⟨b,o,none⟩∧PdP w p b o
structure ArgAt (w:World) (b o:Nat) (q:Pd) (A:Option Addr) (n c:Nat):Prop where
 c0:w.cell? ⟨b,o,none⟩=some (.int .i64 q.h.op)
 c1:w.cell? ⟨b,o+1,none⟩=some (.int .i64 q.h.cm)
 c2:w.cell? ⟨b,o+2,none⟩=some (.int .i64 q.h.l.k)
 c3:w.cell? ⟨b,o+3,none⟩=some (.int .i64 q.h.l.ix)
 c4:w.cell? ⟨b,o+4,none⟩=some (.int .i64 q.h.l.v.k)
 c5:w.cell? ⟨b,o+5,none⟩=some (.int .i64 q.h.l.v.i)
 c6:w.cell? ⟨b,o+6,none⟩=some (.string q.h.l.v.t)
 c7:w.cell? ⟨b,o+7,none⟩=some (.int .i64 q.h.r.k)
 c8:w.cell? ⟨b,o+8,none⟩=some (.int .i64 q.h.r.ix)
 c9:w.cell? ⟨b,o+9,none⟩=some (.int .i64 q.h.r.v.k)
 c10:w.cell? ⟨b,o+10,none⟩=some (.int .i64 q.h.r.v.i)
 c11:w.cell? ⟨b,o+11,none⟩=some (.string q.h.r.v.t)
 c12:w.cell? ⟨b,o+12,none⟩=some (.slice A n c)
 s:PrdS w A n c q
theorem PdP.imp {w l:World}(d:∀(b j:Nat) (v:Value),w.cell? ⟨b,j+12,none⟩≠none->∀i,i<=12->w.cell? ⟨b,j+i,none⟩=some v->l.cell? ⟨b,j+i,none⟩=some v):∀ {p:Pd} {b o:Nat},PdP w p b o->PdP l p b o
 |.nil _,_,_,_=>trivial
 |
  .cons a t,b,o,⟨h1,⟨A,n,c,h2,h3,h4,h5⟩,h6⟩=>by
  have g:w.cell? ⟨b,o+12,none⟩≠none:=by rw[h2];simp
  refine⟨fun j u k=>?_,⟨A,n,c,d b o _ g 12 (aD _) h2,h3,h4,fun q=>?_⟩,PdP.imp d h6⟩
  . have s:j<12:=(by have:=(List.getElem?_eq_some_iff.1 k).1;rw[Nd.cs_len]at this;exact this);exact d b o u g j (by omega) (h1 j u k)
  . obtain⟨b',r,e,m⟩:=h5 q;exact⟨b',r,e,PdP.imp d m⟩
theorem PrdS.imp {w a:World}{A:Option Addr}{n c:Nat}{p:Pd}(h:PrdS w A n c p)(d:∀(b j:Nat) (v:Value),w.cell? ⟨b,j+12,none⟩≠none->∀i,i<=12->w.cell? ⟨b,j+i,none⟩=some v->a.cell? ⟨b,j+i,none⟩=some v):PrdS a A n c p :=
 ⟨h.ok,h.len,fun g=>by
  obtain⟨b,o,e,k⟩:=h.ex g;exact⟨b,o,e,k.imp d⟩⟩
theorem PrdS.keep {w a:World}{A:Option Addr}{n c:Nat}{p:Pd}(h:PrdS w A n c p)(b:dW w a):PrdS a A n c p:=h.imp fun _ _ _ _ _ _ h=>aW b h
theorem PrdS.short {w e:World}{A:Option Addr}{n c:Nat}{p:Pd}{S:Nat->Prop}(h:PrdS w A n c p)(hb:But S w e)(g:∀b,S b->∀j,12<=j->w.cell? ⟨b,j,none⟩=none):PrdS e A n c p:=h.imp fun b j v l i _ d=>by
 have k:¬S b:=fun m=>l (g b m _ (by omega));exact(bP (a:=⟨b,j+i,none⟩) (hb.block b (gS (w:=w) (a:=⟨b,j+i,none⟩) (by rw[d];rfl)) k)).trans d
theorem bN2 {w:World}{B:Nat}{T:TypeId}{cs:Array Value}(h:aT w B T cs)(hc:cs.size<=12):∀j,12<=j->w.cell? ⟨B,j,none⟩=none:=fun j a=>by
 rw[h.cell j];exact Array.getElem?_eq_none (by omega)
theorem PrdS.blk {w a:World}{A:Option Addr}{n c:Nat}{p:Pd}{B:Nat}{T:TypeId}{cs:Array Value}(h:PrdS w A n c p)(d:aT w B T cs)(hc:cs.size<=12)(hb:But (· = B) w a):PrdS a A n c p:=h.short hb fun b e=>by
 subst e;exact bN2 d hc
theorem PrdS.case {w a:World}{A:Option Addr}{n c:Nat}{p:Pd}{g:Nat}(h:PrdS w A n c p)(hc:CaseAt w g)(hb:But (· = g) w a):PrdS a A n c p:=by
 obtain⟨A',n',c',k,d,b,_⟩:=hc.ex;exact h.blk b (by simp) hb
theorem PdP.at {w:World}:∀ {p:Pd} {b o k:Nat} {q:Pd},PdP w p b o->p.args[k]?=some q->∃A n c,ArgAt w b (o+k*13) q A n c
 |.nil _,_,_,_,_,_,hp=>by simp[args]at hp
 |
  .cons a t,b,o,0,q,⟨h1,⟨A,n,c,h2,h3,h4,h5⟩,h6⟩,hp=>by
  simp only[args,aL,Option.some.injEq]at hp;subst hp;refine⟨A,n,c,?_⟩;rw[Nat.zero_mul,bX];exact⟨h1 0 _ rfl,h1 1 _ rfl,h1 2 _ rfl,h1 3 _ rfl,h1 4 _ rfl,h1 5 _ rfl,h1 6 _ rfl,h1 7 _ rfl,h1 8 _ rfl,h1 9 _ rfl,h1 10 _ rfl,h1 11 _ rfl,h2,⟨h3,h4,h5⟩⟩
 |
  .cons a t,b,o,k+1,q,h,hp=>by
  simp only[args,aO]at hp;have:=PdP.at h.2.2 hp;rw[show o+(k+1)*13=o+13+k*13 by omega];exact this
theorem PrdS.at {w:World}{A:Option Addr}{n c k:Nat}{p:Pd}(h:PrdS w A n c p)(i:k<n):∃b o q A1 n1 c1,A=some ⟨b,o,none⟩/\p.args[k]?=some q/\ArgAt w b (o+k*13) q A1 n1 c1:=by
 obtain⟨b,o,e,d⟩:=h.ex (by omega);have j:=h.len;have a:k<p.args.length:=by rw[lU];omega
 obtain⟨A1,n1,c1,g⟩:=d.at (aN a);exact⟨b,o,_,A1,n1,c1,e,aN a,g⟩
theorem PdP.of {w:World}:∀ {p:Pd} {b o:Nat},(∀k q,p.args[k]?=some q->∃A n c,ArgAt w b (o+k*13) q A n c)->PdP w p b o
 |.nil _,_,_,_=>trivial
 |
  .cons a t,b,o,h=>by
  obtain⟨A,n,c,e⟩:=h 0 a rfl;simp only[Nat.zero_mul,bX]at e;refine⟨fun j u d=>?_,⟨A,n,c,e.c12,e.s.ok,e.s.len,e.s.ex⟩,PdP.of fun k q i=>?_⟩
  . have g:j<12:=by have:=(List.getElem?_eq_some_iff.1 d).1;rw[Nd.cs_len]at this;exact this
    match j,g with
    |0,_=>injection d with d;rw[<- d];exact e.c0
    |1,_=>injection d with d;rw[<- d];exact e.c1
    |2,_=>injection d with d;rw[<- d];exact e.c2
    |3,_=>injection d with d;rw[<- d];exact e.c3
    |4,_=>injection d with d;rw[<- d];exact e.c4
    |5,_=>injection d with d;rw[<- d];exact e.c5
    |6,_=>injection d with d;rw[<- d];exact e.c6
    |7,_=>injection d with d;rw[<- d];exact e.c7
    |8,_=>injection d with d;rw[<- d];exact e.c8
    |9,_=>injection d with d;rw[<- d];exact e.c9
    |10,_=>injection d with d;rw[<- d];exact e.c10
    |11,_=>injection d with d;rw[<- d];exact e.c11
  . have:=h (k+1) q (by simpa[args]using i);rw[show o+13+k*13=o+(k+1)*13 by omega];exact this
theorem ArgAt.keep {w d:World}{b o:Nat}{q:Pd}{A:Option Addr}{n c:Nat}(h:ArgAt w b o q A n c)(a:dW w d):ArgAt d b o q A n c :=
 ⟨aW a h.c0,aW a h.c1,aW a h.c2,aW a h.c3,aW a h.c4,aW a h.c5,aW a h.c6,aW a h.c7,aW a h.c8,aW a h.c9,aW a h.c10,aW a h.c11,aW a h.c12,h.s.keep a⟩
theorem PrdS.nil {w:World}(h:Nd):PrdS w none 0 0 (.nil h):=⟨⟨aD _,fun _=>⟨rfl,rfl⟩⟩,rfl,fun h=>absurd h (by omega)⟩
theorem PrdS.nil_of {w:World}{A:Option Addr}{c:Nat}{p:Pd}(h:PrdS w A 0 c p):p=.nil p.h:=by
 have:=h.len;cases p with
 |nil h=>rfl
 |cons a t=>simp[Pd.len]at this
def iK (h:Nd) (A:Option Addr) (n c:Nat):Array Value:=#[.int .i64 h.op,.int .i64 h.cm,.int .i64 h.l.k,.int .i64 h.l.ix,.int .i64 h.l.v.k,.int .i64 h.l.v.i,.string h.l.v.t,.int .i64 h.r.k,.int .i64 h.r.ix,.int .i64 h.r.v.k,.int .i64 h.r.v.i,.string h.r.v.t,.slice A n c]
structure PdE where
 p:Pd
 A:Option Addr
 n:Nat
 c:Nat
def PdE.cs (e:PdE):List Value:=(iK e.p.h e.A e.n e.c).toList
theorem PdE.cs_len (e:PdE):(PdE.cs e).length=13:=rfl
theorem aA2 (e:PdE):∀u∈PdE.cs e,u.oneCell'=true:=by simp[PdE.cs,iK,Value.oneCell']
end
section
open Go.RowKit
structure LaterS (S:Nat→Prop) (w:World) where
 to:World
 but:But S w to
instance (S:Nat→Prop) (w:World):Nonempty (LaterS S w):=⟨⟨w,But.refl _ _⟩⟩
instance (S:Nat→Prop) (w:World):Inhabited (LaterS S w):=⟨⟨w,But.refl _ _⟩⟩
def dG (S:Nat→Prop) (w:World) (x:LaterS S w):World:=x.to
theorem hC {S:Nat->Prop}{w:World}(x:LaterS S w)(a:Addr)(h:(w.cell? a).isSome=true)(b:¬S a.block):(dG S w x).cell? a=w.cell? a :=
 bP (w:=w) (x.but.block a.block (gS h) b)
abbrev bZ9 (S:Nat→Prop) (w:World):World→Prop:=fun W=>∃x:LaterS S w,W=dG S w x
theorem aZ2 {S:Nat->Prop}{w W:World}:bZ9 S w W↔But S w W:=⟨fun⟨x,h⟩=>by rw[h];exact x.but,fun h=>⟨⟨W,h⟩,rfl⟩⟩
section
variable {P:Program} {ops:Array Oper} {Q:Exit→Act→World→Prop} {md:Region.Mode} {S:Nat→Prop}
def sY (S:Nat→Prop) (P:Program) (md:Region.Mode) (ops:Array Oper) (Q:Exit→Act→World→Prop):Nat→Array Bool→Act→World→Prop
 |0,listed,a,w=>Region.ready md ops listed=[]∧Q .normal a w
 |
  fuel+1,listed,a,w =>
  (Region.ready md ops listed=[]→Q .normal a w) ∧
  ∀i∈Region.ready md ops listed,wpOp P ops Q i (fun a' w'=>But S w w'∧sY S P md ops Q fuel (listed.setIfInBounds i true) a' w') a w
theorem yQ:∀(fuel:Nat) (b:Array Bool) (a:Act) (w:World),sY S P md ops Q fuel b a w->wpAny P md ops Q fuel b a w
 |0,_,_,_,h=>h
 |fuel+1,_,_,_,h=>⟨h.1,fun i hi=>wpOp_mono (fun a' d c=>yQ fuel _ a' d c.2) (h.2 i hi)⟩
theorem uD {i:Nat}{n:Oper}{v:Value}(hi:ops[i]?=some n)(C:∀(j:Nat) (o:Oper) cs b,ops[j]?=some o->o.op≠.select cs b)
 (F:∀c a w,Q (.panic c) (a.put n.dst v) w->Q (.panic c) a w) :
 ∀
  (fuel:Nat) (d:Array Bool) (a:Act) (w:World),
  (∀j p,ops[j]?=some p->j≠i->d.getD j true=false->(∀e∈p.after,Region.binds md e=true->e.on≠i)->n.apart ops p=true) ->
  i∈Region.ready md ops d->YieldsIf P ops (fun W=>But S w W) n v a ->
  sY S P md ops Q fuel (d.setIfInBounds i true) (a.put n.dst v) w->sY S P md ops Q (fuel+1) d a w:=by
 intro fuel
 induction fuel with
 |
  zero =>
  intro d a w _ m t H;refine⟨fun h=>(by rw[h]at m;cases m),fun j s=>?_⟩;by_cases g:j=i
  . subst g;exact t.wpOp hi (But.refl _ _) ⟨But.refl _ _,H⟩
  . have:=ready_mono s g;rw[H.1]at this;cases this
 |
  succ fuel ih =>
  intro d a w z m t H;refine⟨fun h=>(by rw[h]at m;cases m),fun j s=>?_⟩;by_cases g:j=i
  . subst g;exact t.wpOp hi (But.refl _ _) ⟨But.refl _ _,H⟩
  . have l:=H.2 j (ready_mono s g);obtain⟨B,p,x,I⟩:=mem_ready.1 s;have R:∀e∈p.after,Region.binds md e=true->e.on≠i:=fun e J hb K=>by
     have l:=I e J hb;have y:=(mem_ready.1 m).1;rw[K]at l;rcases cJ i d.size with u|u
     . simp[u]at y l;rw[y]at l;cases l
     . simp[Array.getElem?_eq_none u]at l
    have E:=wpOp_putIf x (z j p x g B R) (fun cs b=>C i n cs b hi) (fun cs b=>C j p cs b x) F t l;have L:∀k q,ops[k]?=some q->k≠i->(d.setIfInBounds j true).getD k true=false ->
     (∀e∈q.after,Region.binds md e=true->e.on≠i)->n.apart ops q=true:=fun k q M N D O=>by
     refine z k q M N ?_ O;by_cases A:j=k
     . subst A;exact B
     . rw[getD_set_ne true A]at D;exact D
    refine wpOp_mono (fun a' T r=>⟨r.2.1,ih (d.setIfInBounds j true) a' T L (ready_mono m (Ne.symm g)) (cC6 (fun W G=>But.trans r.2.1 G) r.1) ?_⟩) E;rw[Array.setIfInBounds_comm _ _ g];exact r.2.2
def aL1 (S:Nat→Prop) (P:Program) (ops:Array Oper) (Q:Exit→Act→World→Prop):List (List Nat×Nat)→List Nat→Act→World→Prop
 |[],last,a,w=>wpQuiet P ops (bZ9 S w) (fun a'=>Q .normal a' w) (dE ops last) a
 |(qs,e)::r,last,a,w=>wpQuiet P ops (bZ9 S w) (fun a'=>wpOp P ops Q e (fun a'' w'=>But S w w'∧aL1 S P ops Q r last a'' w') a' w) (dE ops qs) a
theorem mH (j:Region.noSelect ops=true)(g:∀c a d v w,Q (.panic c) (Act.put a d v) w->Q (.panic c) a w){K:Act->Prop}{w:World}{fuel:Nat}{l':Array Bool}
 (l:∀a,K a->sY S P .any ops Q fuel l' a w) :
 ∀(p:List Nat) (b:Array Bool) (a:Act),pQ ops p b=some l'->wpQuiet P ops (bZ9 S w) K (dE ops p) a->sY S P .any ops Q (p.length+fuel) b a w
 |
  [],b,a,hc,h=>by
  simp only[pQ,Option.some.injEq]at hc;subst hc;simp only[List.length_nil,cA];exact l a h
 |
  i::r,b,a,hc,h=>by
  unfold pQ at hc;split at hc
  . rename_i q;simp only[aI]at q;obtain⟨⟨m,t⟩,s⟩:=q;cases hi:ops[i]? with
    |none=>simp[kJ,hi]at m
    |
     some o =>
     simp only[kJ,hi]at m;have E:dE ops (i::r)=o::dE ops r:=(by simp[dE,eS,hi]);rw[E]at h;unfold wpQuiet at h;have D:(i::r).length+fuel=(r.length+fuel)+1:=(by simp;omega);rw[D];by_cases k:Region.wanted o (yielded ops a.tmps)=true
     . rw[if_pos k]at h;obtain⟨v,z,A⟩:=h;refine uD hi (Region.noSelect_spec j) (fun c a w=>g c a _ _ w) _ b a w (Region.free_spec hi s) (by simpa using t) (v:=v) (.inl ⟨k,fun W B=>?_⟩) (mH j g l r _ _ hc A);have e:=z W (aZ2.2 B);have C:=nM o m a.eval P W;unfold Oper.quietAt at e;generalize (execOp a.eval o).run P W=F at *;cases F with
       |
        ok n w' =>
        cases n<;>simp only[Oper.quietUpon]at e<;>simp only[hZ]at C;obtain⟨u,y⟩:=e;rw[u,y]
       |halt x w'=>simp only[Oper.quietUpon]at e
     . rw[if_neg k]at h;exact uD hi (Region.noSelect_spec j) (fun c a w=>g c a _ _ w) _ b a w (Region.free_spec hi s) (by simpa using t) (v:=undef) (.inr ⟨by simpa using k,rfl⟩) (mH j g l r _ _ hc h)
  . cases hc
theorem aS2 (n:Region.noSelect ops=true)(k:∀c a d v w,Q (.panic c) (Act.put a d v) w->Q (.panic c) a w)(b:List Nat) :
 ∀(o:List (List Nat×Nat)) (g:Array Bool) (a:Act) (w:World),pP ops o b g=true->aL1 S P ops Q o b a w->sY S P .any ops Q (tH o b) g a w
 |
  [],g,a,w,hc,h=>by
  unfold pP at hc;split at hc
  . rename_i l m;exact mH n k (fuel:=0) (fun a' j=>⟨by simpa using hc,j⟩) b g a m h
  . cases hc
 |
  (qs,e)::r,g,a,w,hc,h=>by
  unfold pP at hc;split at hc
  . rename_i l m;simp only[aI,beq_iff_eq]at hc;refine mH n k (fuel:=tH r b+1) (fun a' j=>?_) qs g a m h;refine⟨fun p=>(by rw[hc.1]at p;cases p),fun i hi=>?_⟩;rw[hc.1]at hi;have s:i=e:=(by simpa using hi);subst s;exact wpOp_mono (fun q t ⟨hb,h''⟩=>⟨hb,aS2 n k b r _ q t hc.2 h''⟩) j
  . cases hc
def dI (S:Nat→Prop) (P:Program) (ops:Array Oper) (Q:Exit→Act→World→Prop):List (List Oper×Oper)→List Oper→Act→World→Prop
 |[],last,a,w=>wpQuiet P ops (fun W=>∃x:LaterS S w,W=dG S w x) (fun a'=>Q .normal a' w) last a
 |(qs,e)::r,last,a,w=>wpQuiet P ops (fun W=>∃x:LaterS S w,W=dG S w x) (fun a'=>wpList P ops (Exit.then (fun a'' w'=>But S w w'∧dI S P ops Q r last a'' w') Q) [e] a' w) qs a
theorem qI (b:List Nat):∀(c:List (List Nat×Nat)) (a:Act) (w:World),c.all (fun s=>decide (s.2<ops.size))=true->dI S P ops Q (bS ops c) (dE ops b) a w->aL1 S P ops Q c b a w
 |[],a,w,_,h=>h
 |
  (qs,e)::r,a,w,hl,h=>by
  simp only[List.all_cons,aI,decide_eq_true_eq]at hl;have i:ops[e]?=some (eS ops e):=by unfold eS;rw[Array.getElem?_eq_getElem hl.1];rfl
  unfold bS dI at h;unfold aL1;refine lK (fun a' g=>?_) _ _ h;refine wpOp_mono (fun d j ⟨hb,h''⟩=>⟨hb,qI b r d j hl.2 h''⟩) (gN i g)
theorem gJ {id:Nat}{a:Act}{w:World}{l:List Oper}(S:Nat->Prop)(b:List (List Nat×Nat))(e:List Nat)
 (h:dI S P l.toArray Q (bS l.toArray b) (dE l.toArray e) a w.drew)
 (j:P.follows .mixedOrders=true:=by kernel_rfl)
 (hc:(Region.noSelect l.toArray&&(pP l.toArray b e (Array.replicate l.toArray.size false)&&(decide (tH b e=l.toArray.size)&&b.all (fun s=>decide (s.2<l.toArray.size)))))=true:=by kernel_rfl)
 (i:∀c a d v w,Q (.panic c) (Act.put a d v) w->Q (.panic c) a w:=by intro _ _ d _ _ h;cases d<;>exact h) :
 (Code.region id l.toArray true).wp P Q a w:=by
 simp only[aI,decide_eq_true_eq]at hc;refine wp_region_any j ?_;have g:=aS2 hc.1 i e b _ a _ hc.2.1 (qI e b a _ hc.2.2.2 h);rw[hc.2.2.1]at g;exact yQ _ _ _ _ g
end
end
end Go.Proofs.YtnnmlhmffnfjfaaGreat
