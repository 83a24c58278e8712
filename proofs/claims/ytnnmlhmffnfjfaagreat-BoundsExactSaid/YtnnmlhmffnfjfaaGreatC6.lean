/- Texts on which the walk stands. -/
import Derived.Test.YtnnmlhmffnfjfaaGreatC5
import Derived.Lib.AppendStr
open Go.RowKit.Below renaming refl → aB, alloc → cG
open Nat renaming le_refl → aD, add_zero → bX
open Go renaming bodyPost_ret → aF
open Bool renaming and_eq_true → aI
open List renaming mem_of_getElem? → aJ, getElem?_cons_zero → aL, mem_cons_self → aQ, mem_cons_of_mem → aS, length_cons → bL, take_of_length_le → bW, length_append → cF, append_assoc → cH
open Go.World renaming size_alloc → aX
open Int renaming lt_or_le → cD
set_option maxHeartbeats 8000000
set_option linter.unusedVariables false
set_option maxRecDepth 100000
namespace Go.Proofs.YtnnmlhmffnfjfaaGreat
section
open Go.RowKit
open Rg
theorem kH.off {w d:World}{B:Nat}{T:TypeId}{x:Int}{f:Bool}{v:Value}(i:aT w B T #[x,.bool f,v])(hb:But (· = B) w d){A:Option Addr}{n:Nat}{l:List Iv}(h:kH w A n l):kH d A n l:=by
 refine h.but hb fun j b o g e=>?_;subst e;obtain⟨b',k,y,c,_,hc⟩:=h.at j;rw[g]at c;injection c with h1;injection h1 with h1 h2;subst h1 h2;have a:=hc 0 _ rfl;have c1:=hc 1 _ rfl;rw[i.cell]at a c1;simp only[Nat.zero_mul,bX]at a c1;rcases o with _|_|_|o<;>simp at a c1
theorem tZ.off {w l:World}{B:Nat}{T:TypeId}{x:Int}{f:Bool}{A:Option Addr}{n c:Nat}(d:aT w B T #[x,.bool f,.slice A n c])(hb:But (· = B) w l):∀ {r:Rg} {b o:Nat},tZ w r b o->tZ l r b o
 |.nil _ _,_,_,_=>trivial
 |
  .cons vs rest tail,b,o,h=>by
  obtain⟨⟨A1,n1,c1,i,q,s⟩,k,t,⟨A',n',c',u,y,z,C⟩,p⟩:=h;have F:¬b=B:=by intro e;subst e;rw[d.cell]at i k;rcases o with _|_|_|o<;>simp at i k
  have g:∀j v,w.cell? ⟨b,j,none⟩=some v->l.cell? ⟨b,j,none⟩=some v:=fun j v m=>by have D:=gS (w:=w) (a:=⟨b,j,none⟩) (by rw[m];rfl);rw[World.cell?_of_block (w:=w) (hb.block b D F)];exact m
  refine⟨⟨A1,n1,c1,g _ _ i,q,s.off d hb⟩,g _ _ k,g _ _ t,⟨A',n',c',g _ _ u,y,z,fun E=>?_⟩,tZ.off d hb p⟩;obtain⟨b',G,e,h⟩:=C E;exact⟨b',G,e,tZ.off d hb h⟩
theorem RgS.off {w a:World}{B:Nat}{T:TypeId}{x':Int}{f':Bool}{A':Option Addr}{n' c':Nat}(d:aT w B T #[x',.bool f',.slice A' n' c'])(hb:But (· = B) w a){x:Int}{f:Bool}{A:Option Addr}{n c:Nat}{r:Rg}(h:RgS w x f A n c r):RgS a x f A n c r :=
 ⟨h.hw,h.hf,h.ok,h.len,fun g=>by
  obtain⟨b,o,e,i⟩:=h.ex g;exact⟨b,o,e,i.off d hb⟩⟩
def iE:List (List Iv)→Rg
 |[]=>.nil 0 true
 |s::l=>if !s.isEmpty && !(iE l).nix then .cons s (iE l) (.nil ((iE l).w+1) false)else .nil ((iE l).w+1) false
theorem aD9:∀l:List (List Iv),(iE l).w=(l.length:Int)
 |[]=>rfl
 |
  s::l=>by
  unfold iE;have a:=aD9 l;split
  . simp only[Rg.w,a,bL];omega
  . simp only[Rg.w,a,bL];omega
abbrev iM:=(Option Addr×Nat×Nat)×List Iv
def mG (p:iM):List Value:=[.slice p.1.1 p.1.2.1 p.1.2.2]
structure SetsS (w:World) (A:Option Addr) (n:Nat) (ps:List iM):Prop where
 sl:Sl 1 mG w A n ps
 ok:∀ p∈ps,yC p.1.1 p.1.2.1 p.1.2.2∧p.1.2.1≤1000000∧kH w p.1.1 p.1.2.1 p.2
theorem SetsS.keep {w c:World}{A:Option Addr}{n:Nat}{ps:List iM}(h:SetsS w A n ps)(b:dW w c):SetsS c A n ps :=
 ⟨h.sl.keep b,fun p a=>⟨(h.ok p a).1,(h.ok p a).2.1,(h.ok p a).2.2.keep b⟩⟩
theorem RgS.one {w:World}{g:Nat}{T:TypeId}{A:Option Addr}{n c:Nat}{x:Int}{f:Bool}{A':Option Addr}{n' c':Nat}{vs:List Iv}{r:Rg}(b:aT w g T #[.slice A n c,x,.bool f,.slice A' n' c'])(d:yC A n c)(e:kH w A n vs)(a:RgS w x f A' n' c' r)(y:Int):RgS w y false (some ⟨g,0,none⟩) 1 1 (.cons vs r (.nil y false)) :=
 ⟨rfl,rfl,⟨aD _,fun h=>by cases h⟩,rfl,fun _=>⟨g,0,rfl,⟨A,n,c,by rw[b.cell];rfl,d,e⟩,by rw[b.cell,a.hw];rfl,by rw[b.cell,a.hf];rfl,⟨A',n',c',by rw[b.cell];rfl,a.ok,a.len,a.ex⟩,trivial⟩⟩
theorem kP (s:List Iv)(l:List (List Iv)):iE (s::l)=if !s.isEmpty && !(iE l).nix then .cons s (iE l) (.nil ((iE l).w+1) false)else .nil ((iE l).w+1) false:=rfl
theorem hP {w:World}{base:Nat}{e:TypeId}{sz n c:Nat}{A:Option Addr}{d:List Value}(h:w.ownsRow base e sz (.slice A n c) n d):yC A n c:=by
 rcases h.2 with⟨a,b⟩|⟨g,i,j,a,_,_,k,_⟩
 . injection a with h1 h2 h3;exact⟨by omega,fun _=>⟨b,h3⟩⟩
 . injection a with h1 h2 h3;exact⟨by omega,fun h=>by rw[h]at h1;cases h1⟩
def cO (W:World) (B:Nat) (a b c:Value):World:=((W.setCell ⟨B,0,none⟩ a).setCell ⟨B,1,none⟩ b).setCell ⟨B,2,none⟩ c
theorem bY {W:World}{B:Nat}{T:TypeId}{a b c a' b' c':Value}(h:aT W B T #[a,b,c]):aT (cO W B a' b' c') B T #[a',b',c']:=((h.set_ 0 a').set_ 1 b').set_ 2 c'
theorem bJ (W:World)(B:Nat)(a b c:Value):But (· = B) W (cO W B a b c) :=
 ((But.set (S:=fun k=>k=B) W (p:=⟨B,0,none⟩) rfl _).trans (But.set (S:=fun k=>k=B) _ (p:=⟨B,1,none⟩) rfl _)).trans (But.set (S:=fun k=>k=B) _ (p:=⟨B,2,none⟩) rfl _)
theorem bD {base:Nat}{e W:World}{B:Nat}(h:Below base e W)(d:base<=B)(a b c:Value):Below base e (cO W B a b c):=((h.setCell (p:=⟨B,0,none⟩) d a).setCell (p:=⟨B,1,none⟩) d b).setCell (p:=⟨B,2,none⟩) d c
theorem kW (W:World)(B:Nat)(a b c:Value):(cO W B a b c).heap.size=W.heap.size:=by simp[cO,World.setCell]
theorem bF {W:World}{B:Nat}{T:TypeId}{x y z:Value}(h:aT W B T #[x,y,z])(a b:Value):(∀j,W.frozen? ⟨B,j,none⟩=false)/\(∀j,(W.setCell ⟨B,0,none⟩ a).frozen? ⟨B,j,none⟩=false)/\(∀j,((W.setCell ⟨B,0,none⟩ a).setCell ⟨B,1,none⟩ b).frozen? ⟨B,j,none⟩=false):=⟨h.free,(h.set_ 0 a).free,((h.set_ 0 a).set_ 1 b).free⟩
set_option maxRecDepth 8000 in
theorem bL1 (A:Option Addr)(n c:Nat)(ps:List iM)(w:World)(hs:SetsS w A n ps)(hn:n<=12) :
 Calls Tryz.prog 132 #[.slice A n c] w fun e w'=>∃(x:Int) (f:Bool) (A':Option Addr) (n' c':Nat),e=.returned (.agg #[x,.bool f,.slice A' n' c'])/\RgS w' x f A' n' c' (iE (ps.map (·.2)))/\Below w w w':=by
 obtain⟨i0,hi,d3,d4,d5⟩:=info_parts nJ;have K:=Z hs;have W:=Z hs.sl.len;clear hs;go_enter Tryz.func132,Tryz.ntmps132;go_wp2;go_loopw [4] (fun i wr=>∃(k:Nat) (z:Int) (x:Int) (f:Bool) (A':Option Addr) (n' c':Nat),k<=n/\i=.int .i64 z/\Hid (z=(k:Int)-1)/\aT wr (w.heap.size+1) 71 #[x,.bool f,.slice A' n' c']/\aT wr w 71 zR/\Hid (RgS wr x f A' n' c' (iE ((ps.map (·.2)).drop k)))/\Below w w wr) (fun i _=>(intOf i+1).toNat);case atStart =>
  refine⟨n,(n:Int)-1,0,true,none,0,0,by omega,rfl,rfl,?_,?_,?_,?_⟩
  . have:=aT.new (w.alloc (.cells zR 71)) 71 #[zO,zT,zN];rw[aX]at this;exact this
  . exact(aT.new w _ _).alloc _
  . show RgS _ _ _ _ _ _ _;rw[List.drop_eq_nil_of_le (by rw[List.length_map,W.out];omega)];exact RgS.nil _ _
  . exact((aB _ _).alloc (aD _) _).alloc (by simp) _
 case round =>
  obtain⟨k,z,x,f,A',n',c',hk,rfl,E,r,C,q,hb⟩:=hrel;have f4:=r.cell;have hlt:=r.lt;rcases Nat.eq_zero_or_pos k with O|O
  . obtain rfl:z = -1:=(by have:=E.out;omega);have f3:=C.cell;obtain⟨a0,a1,a2⟩:=bF C x (.bool f);have R:Hid (aT _ _ _ #[x,zF,zN]):=Z (C.set_ 0 x);have T:Hid (aT _ _ _ #[x,.bool f,zN]):=Z (R.out.set_ 1 (.bool f));have F3:Hid (aT _ _ _ #[x,.bool f,.slice A' n' c']):=Z (T.out.set_ 2 (.slice A' n' c'));have y1:=R.out.cell;have y2:=T.out.cell;have y3:=F3.out.cell;have b3:=Z (bD hb (aD _) x (.bool f) (.slice A' n' c'));have b6:=Z (RgS.off C (bJ wr w x (.bool f) (.slice A' n' c')) q.out);go_wp2;refine aF (v:=.agg #[x,.bool f,.slice A' n' c']) (by simp[results,Tryz.results132,go_sem,y3]) rfl ⟨x,f,A',n',c',rfl,?_,b3.out⟩;have:=b6.out;rw[O,List.drop_zero]at this;exact this
  . obtain⟨j,rfl⟩:∃j:Nat,z=(j:Int):=⟨k-1,by have:=E.out;omega⟩;obtain rfl:k=j+1:=(by have:=E.out;omega);clear E O;obtain⟨b,o,p,rfl,hp,a9⟩:=K.out.sl.at (show j<n by omega);have Q:=K.out.ok p (aJ hp);have Hd:Hid ((ps.map (·.2)).drop j=p.2::(ps.map (·.2)).drop (j+1)):=(by show _=_;rw[eL (k:=j) (x:=p.2) (by rw[List.getElem?_map,hp];rfl)]);have hx:x=((n-(j+1):Nat):Int):=(by have h1:=q.out.hw;rw[aD9]at h1;have:=W.out;simp at h1;omega);have f2:0<=x/\x<=12:=(by omega);clear hx;have e1:=aW ((aC hb).trans (aM wr (.cells #[.int .i64 (x+1),zF,zN] 71))) (a9 0 _ rfl);obtain⟨⟨A1,n1,c1⟩,l⟩:=p;dsimp only[mG]at e1 Q;simp only[Nat.mul_one,bX]at e1;have s:=Z Q;clear hp a9 Q;have L:=Z (r.alloc (.cells #[.int .i64 (x+1),zF,zN] 71));have V:=Z (C.alloc (.cells #[.int .i64 (x+1),zF,zN] 71));have b5:=Z (aT.new wr 71 #[.int .i64 (x+1),zF,zN]);have G:=L.out.cell;have J:=Z ((aB wr wr).alloc (aD _) (.cells #[.int .i64 (x+1),zF,zN] 71));by_cases a7:n1=0
    . have g2:decide (0<n1)=false:=(by simp[a7]);have a8:¬wr.heap.size=w.heap.size+1:=(by omega);have a6:=L.out.free;obtain⟨a0,a1,a2⟩:=bF r (.int .i64 (x+1)) zF;have d6:=(((r.set_ 0 (.int .i64 (x+1))).set_ 1 zF).alloc (.cells #[.int .i64 (x+1),zF,zN] 71)).free;have d7:=(((r.set_ 0 (.int .i64 (x+1)))).alloc (.cells #[.int .i64 (x+1),zF,zN] 71)).free;have b8:Hid (l=[]):=List.eq_nil_of_length_eq_zero (by have:=s.out.2.2.len;omega);clear a7;go_wp2;go_roundw;case rel=>refine⟨j,_,x+1,false,none,0,0,by omega,rfl,rfl,(bY r).alloc _,(C.but (bJ wr _ _ _ _) (by omega)).alloc _,?_,(bD hb (by omega) _ _ _).alloc (bD hb (by omega) _ _ _).size _⟩;show RgS _ _ _ _ _ _ _;rw[Hd.out,kP,b8.out,q.out.hw];exact RgS.nil _ _
      case measure=>simp[intOf]
    . have g2:decide (0<n1)=true:=(by simp;omega);go_wp2_with fail;refine(tI x f A' n' c' _ _ (q.out.keep (aC J.out))).mono ?_;rintro e g ⟨rfl,hb1⟩;obtain⟨v1,M⟩:=zE ((iE ((ps.map (·.2)).drop (j+1))).nix);rw[M.out];have H:=Z e1;clear G e1;have D:=Z (L.out.below hb1);have U:=Z (b5.out.below hb1);have G:=D.out.cell;have b0:=U.out.cell;have a6:=D.out.free;cases v1
      . have d2:=hb1.size;simp only[aX]at d2;have B:=cC1 J.out hb1;have b1:=Z (((K.out.keep (aC (cC1 hb B))).keep (aM g (.cells #[] 187))).sl.at (show j<n by omega));have e1:(g.alloc (.cells #[] 187)).cell? ⟨b,o+j,none⟩=some (.slice A1 n1 c1):=(by rw[World.cell?_alloc_lt g _ _ (by have h:=gS (w:=wr.alloc (.cells #[.int .i64 (x+1),zF,zN] 71)) (a:=⟨b,o+j,none⟩) (by rw[H.out];rfl);simp only[aX]at h;dsimp only;omega),aC hb1 _ (by rw[H.out];rfl)];exact H.out);have a4:=(s.out.2.2.keep (aC (cC1 hb B))).keep (aM g (.cells #[] 187));have b4:=Z a4;have e5:=s.out.2.1;have I:=Z B;have b2:=Z hb1;clear a4 B b1 hb1;go_wp2_with (at_builtin;refine gG (cs:=Iv.cs) (g.alloc (.cells #[] 187)) (by rfl) _ (.tmp 34) _ (by rfl) g 187 i0 _ 7 72 Tryz.underlying139 hi d3 d4 d5 (by rfl) (by omega) (.slice (some ⟨g,0,none⟩) 0 0) 0 [] (by rfl) ⟨by simp,.inr ⟨g,0,#[],rfl,aD _,heap_alloc_new g _,aD _,by simp[maxLen],by simp,by simp⟩⟩ A1 n1 c1 l (by rfl) b4.out s.out.1.2 Iv.cs_len iL (by simp only[maxLen];omega) (by omega) (by simp) ?_;intro A2 c2 d P e3 b9 d8 e6;simp only[Nat.zero_add,List.nil_append]at P;have m:Hid (Below g g d):=Z (((aB _ _).alloc (aD _) _).trans b9);have X:=Z (D.out.below m.out);have t:=Z (U.out.below m.out);have f1:=m.out.size;clear G b0 a6 e1;have G:=X.out.cell;have b0:=t.out.cell;have d9:=t.out.free;have e0:=(t.out.alloc (.cells #[.slice A2 n1 c2,x,.bool f,.slice A' n' c'] 141)).free;have e2:=(t.out.alloc (.cells #[.slice A2 n1 c2,x,.bool f,.slice A' n' c'] 141)).cell;have c3:¬w.heap.size+1=wr.heap.size:=(by omega);have N3:=Z ((t.out.alloc (.cells #[.slice A2 n1 c2,x,.bool f,.slice A' n' c'] 141)).set_ 2 (.slice (some ⟨d,0,none⟩) 1 1));have u:=Z ((X.out.alloc (.cells #[.slice A2 n1 c2,x,.bool f,.slice A' n' c'] 141)).far (p:=⟨wr,2,none⟩) c3 (.slice (some ⟨d,0,none⟩) 1 1));have N:Hid (aT _ _ _ #[.int .i64 (x+1),.bool f,.slice A' n' c']):=Z (u.out.set_ 0 (.int .i64 (x+1)));have Y:Hid (aT _ _ _ #[.int .i64 (x+1),zF,.slice A' n' c']):=Z (N.out.set_ 1 zF);have N4:Hid (aT _ _ _ #[.int .i64 (x+1),zF,.slice (some ⟨d,0,none⟩) 1 1]):=Z N3.out;have e4:=N4.out.cell;have e8:=u.out.free;have e9:=N.out.free;have f0:=Y.out.free;have e7:=u.out.cell;have hq1:=N.out.cell;have hq2:=Y.out.cell);go_roundw;case rel =>
         have P2:=(aT.new d 141 #[.slice A2 n1 c2,x,.bool f,.slice A' n' c']).far (p:=⟨wr,2,none⟩) (by dsimp only;omega) (.slice (some ⟨d,0,none⟩) 1 1);have a3:But (· = wr.heap.size) (d.alloc (.cells #[.slice A2 n1 c2,x,.bool f,.slice A' n' c'] 141)) ((d.alloc (.cells #[.slice A2 n1 c2,x,.bool f,.slice A' n' c'] 141)).setCell ⟨wr,2,none⟩ (.slice (some ⟨d,0,none⟩) 1 1)):=But.set (S:=fun k=>k=wr.heap.size) _ (p:=⟨wr,2,none⟩) rfl _;have a5:=t.out.alloc (.cells #[.slice A2 n1 c2,x,.bool f,.slice A' n' c'] 141);have c4:=((cC3 (cs:=Iv.cs) Iv.cs_len s.out.2.2.len P).keep (aM d (.cells #[.slice A2 n1 c2,x,.bool f,.slice A' n' c'] 141)));have c5:=kH.off a5 a3 c4;have c8:=((q.out.keep (aC I.out)).keep (aC m.out)).keep (aM d (.cells #[.slice A2 n1 c2,x,.bool f,.slice A' n' c'] 141));have c9:=RgS.off a5 a3 c8;have F:=bJ ((d.alloc (.cells #[.slice A2 n1 c2,x,.bool f,.slice A' n' c'] 141)).setCell ⟨wr,2,none⟩ (.slice (some ⟨d,0,none⟩) 1 1)) (w.heap.size+1) (.int .i64 (x+1)) zF (.slice (some ⟨d,0,none⟩) 1 1);have c6:=kH.off u.out F c5;have d0:=RgS.off u.out F c9;have c7:=P2.but F (by omega);have c0:=((cC1 (cC1 hb I.out) m.out).alloc (cC1 (cC1 hb I.out) m.out).size (.cells #[.slice A2 n1 c2,x,.bool f,.slice A' n' c'] 141)).setCell (p:=⟨wr,2,none⟩) (by dsimp only;omega) (.slice (some ⟨d,0,none⟩) 1 1);have d1:=((((V.out.below b2.out).below m.out).alloc (.cells #[.slice A2 n1 c2,x,.bool f,.slice A' n' c'] 141)).far (p:=⟨wr,2,none⟩) (by dsimp only;omega) (.slice (some ⟨d,0,none⟩) 1 1)).but F (by omega);refine⟨j,_,x+1,false,some ⟨d,0,none⟩,1,1,by omega,rfl,rfl,bY u.out,d1,?_,bD c0 (by omega) _ _ _⟩;show RgS _ _ _ _ _ _ _;have a8:l.isEmpty=false:=by
          have:=s.out.2.2.len;cases l with
          |nil=>simp at this;omega
          |cons y l=>rfl
         rw[Hd.out,kP,M.out,q.out.hw,a8];exact RgS.one c7 (hP P) c6 d0 _
        case measure=>simp[intOf]
      . obtain⟨a0,a1,a2⟩:=bF D.out (.int .i64 (x+1)) zF;have b7:=Z (V.out.below hb1);go_wp2;go_roundw;case rel=>have B:=cC1 hb (cC1 J.out hb1);refine⟨j,_,x+1,false,none,0,0,by omega,rfl,rfl,bY D.out,b7.out.but (bJ g _ _ _ _) (by omega),?_,bD B (by omega) _ _ _⟩;show RgS _ _ _ _ _ _ _;rw[Hd.out,kP,M.out,q.out.hw];simp only[Bool.not_true,Bool.and_false,Bool.false_eq_true,if_false];exact RgS.nil _ _
        case measure=>simp[intOf]
def kQ (l:List (List Iv)):Int:=if l.length > 12 then 1 else if l.all cM then 0 else 30
def mE (l:List (List Iv)):Rg:=if kQ l=0 then iE l else cQ
theorem aE1 {l:List (List Iv)}{s:List Iv}(h:¬l.length > 12)(c:s∈l)(b:cM s=false):kQ l=30:=by
 unfold kQ;rw[if_neg h,if_neg];intro a;rw[List.all_eq_true]at a;rw[a s c]at b;cases b
set_option maxRecDepth 8000 in
theorem Box_any (A:Option Addr)(n c:Nat)(ps:List iM)(w:World)(hs:SetsS w A n ps) :
 Calls Tryz.prog 185 #[.slice A n c] w fun e w'=>gU w (mE (ps.map (·.2))) (kQ (ps.map (·.2))) e w':=by
 have G:=Z hs;have t:=Z hs.sl.len;clear hs;have M:=Z (aT.new w 71 zR);have D:=Z ((aB w w).alloc (aD _) (.cells zR 71));generalize S:kQ (ps.map (·.2))=J;generalize T:mE (ps.map (·.2))=K;have d:=Z S;have F:=Z T;clear S T;rcases Nat.lt_or_ge 12 n with a0|a0
 . have g1:decide (12<n)=true:=(by simp;omega);have e1:J=1:=(by rw[<- d.out];simp[kQ,t.out];omega);have e2:K=cQ:=(by rw[<- F.out];simp[mE,d.out,e1]);subst e1 e2;go_enter Tryz.func185,Tryz.ntmps185;go_wp2;refine aF (v:=.tuple #[.agg zR,(1:Int)]) (by simp[results,Tryz.results185,go_sem]) rfl ⟨0,false,none,0,0,rfl,RgS.nil _ _,?_⟩;repeat(first|exact D.out|exact aB _ _|refine Below.setCell ?_ (by simp) _|refine cG ?_ (by simp) _)
 . have g1:decide (12<n)=false:=(by simp;omega);obtain⟨W0,O⟩:∃W:World,Hid (w.alloc (.cells zR 71)=W):=⟨_,rfl⟩;rw[O.out]at M D;go_enter Tryz.func185,Tryz.ntmps185;go_wp2;go_loopw [12] (fun i wr=>∃k:Nat,k<=n/\i=.int .i64 (k:Int)/\Hid (∀p∈ps.take k,cM p.2=true)/\Below W0 W0 wr) (fun i _=>n-(intOf i).toNat);case atStart=>exact⟨0,by omega,rfl,(by show ∀p∈_,_;simp),by rw[O.out];exact aB _ _⟩
   case round =>
    obtain⟨k,hk,rfl,Q,hb⟩:=hrel;have m:=cC1 D.out hb;have r:=Z (M.out.below hb);have B:=r.out.cell;obtain⟨u,y,z⟩:=bF r.out zO zF;by_cases hlt:k<n
    . obtain⟨b,o,p,rfl,hp,R⟩:=(G.out.keep (aC m)).sl.at hlt;have I:=(G.out.keep (aC m)).ok p (aJ hp);have e1:=R 0 _ rfl;have N:=Z hp;obtain⟨⟨A1,n1,c1⟩,l⟩:=p;dsimp only[mG]at e1 I;simp only[Nat.mul_one,bX]at e1;have V:=Z I;clear hp R I;go_wp2_with fail;refine(jT A1 n1 c1 l _ V.out.2.2).mono ?_;rintro e U ⟨rfl,hb1⟩;obtain⟨v,H⟩:=zE (cM l);rw[H.out];have a:=Z (r.out.below hb1);clear B u y z e1;have B:=a.out.cell;cases v
      . have e1:J=30:=(by rw[<- d.out];exact aE1 (s:=l) (by simp[t.out];omega) (List.mem_map.2 ⟨_,aJ N.out,rfl⟩) H.out);have e2:K=cQ:=(by rw[<- F.out];simp[mE,d.out,e1]);subst e1 e2;obtain⟨u,y,z⟩:=bF a.out zO zF;have g:Hid (aT _ _ _ zR):=Z (a.out.set_ 0 zO);have j:Hid (aT _ _ _ zR):=Z (g.out.set_ 1 zF);have C:Hid (aT _ _ _ zR):=Z (j.out.set_ 2 zN);have y1:=g.out.cell;have y2:=j.out.cell;have L:=C.out.cell;have E:=Z (bD (cC1 m hb1) (aD _) zO zF zN);go_wp2;refine aF (v:=.tuple #[.agg zR,(30:Int)]) (by simp[results,Tryz.results185,go_sem,L]) rfl ⟨0,false,none,0,0,rfl,RgS.nil _ _,E.out⟩
      . go_wp2;go_roundw;case rel =>
         refine⟨k+1,by omega,by go_num,?_,cC1 hb hb1⟩;show ∀p∈_,_;rw[cU N.out];intro q hq;rcases List.mem_append.1 hq with hq|hq
         . exact Q.out q hq
         . have:q=((A1,n1,c1),l):=(by simpa using hq);rw[this];exact H.out
        case measure=>simp[intOf];omega
    . have e1:J=0:=(by rw[<- d.out];have h1:=Q.out;rw[bW (by have:=t.out;omega)]at h1;unfold kQ;rw[if_neg (by simp[t.out];omega),if_pos];rw[List.all_eq_true];intro s hs;obtain⟨q,hq,rfl⟩:=List.mem_map.1 hs;exact h1 q hq);have e2:iE (ps.map (·.2))=K:=(by rw[<- F.out];simp[mE,d.out,e1]);subst e1 e2;clear u y z;go_wp2_with fail;refine(bL1 A n c ps _ (G.out.keep (aC m)) (by omega)).mono ?_;rintro e U ⟨x,f,A',n',c',rfl,P,hb1⟩;have a:=Z (r.out.below hb1);clear B;have B:=a.out.cell;have X:=Z P;clear P;obtain⟨u,y,z⟩:=bF a.out x (.bool f);have g:Hid (aT _ _ _ #[x,zF,zN]):=Z (a.out.set_ 0 x);have j:Hid (aT _ _ _ #[x,.bool f,zN]):=Z (g.out.set_ 1 (.bool f));have C:Hid (aT _ _ _ #[x,.bool f,.slice A' n' c']):=Z (j.out.set_ 2 (.slice A' n' c'));have y1:=g.out.cell;have y2:=j.out.cell;have L:=C.out.cell;have E:=Z (bD (cC1 m hb1) (aD _) x (.bool f) (.slice A' n' c'));have Y:=Z (RgS.off a.out (bJ U w x (.bool f) (.slice A' n' c')) X.out);go_wp2;refine aF (v:=.tuple #[.agg #[x,.bool f,.slice A' n' c'],zO]) (by simp[results,Tryz.results185,go_sem,L]) rfl ⟨x,f,A',n',c',rfl,Y.out,E.out⟩
end
section
open Go.RowKit
def xS (b:Int):List Value:=[.int .i64 b]
abbrev wX (w:World) (A:Option Addr) (n:Nat) (cs:List Int):Prop:=Sl 1 xS w A n cs
def dstB (W:Int) (cs:List Int):Bool:=cs.all (fun c=>decide (0≤c∧c<W))&&decide cs.Nodup
structure Lay (w w':World):Prop where
 bel:Below w.heap.size w w'
 dr:w.drawn≤w'.drawn
theorem Lay.refl (w:World):Lay w w:=⟨aB _ _,aD _⟩
theorem Lay.drew {w a:World}(h:Lay w a):Lay w a.drew:=⟨h.bel.drew,Nat.le_succ_of_le h.dr⟩
theorem Lay.alloc {w a:World}(h:Lay w a)(o:Obj):Lay w (a.alloc o):=⟨h.bel.alloc h.bel.size o,h.dr⟩
theorem Lay.trans {a b c:World}(h:Lay a b)(k:Lay b c):Lay a c:=⟨cC1 h.bel k.bel,Nat.le_trans h.dr k.dr⟩
theorem aO6 (a b:Vl)(w:World) :
 Calls Tryz.prog 93 #[.agg #[a.k,a.i,a.t],.agg #[b.k,b.i,b.t]] w fun e w'=>e=.returned (.int .i64 (bZ a b))/\Lay w w':=by
 obtain⟨k,i,t⟩:=a;obtain⟨d,c,g⟩:=b;go_enter Tryz.func93,Tryz.ntmps93;go_wp2_with (first
  |(go_at_call 154;refine(aD3 _ _ _).mono ?_;rintro e w' ⟨rfl,rfl⟩)
  |(go_at_call 155;refine(vR _ _ _).mono ?_;rintro e w' ⟨rfl,rfl⟩)
  |(go_at_call 156;refine(aD2 _ _ _).mono ?_;rintro e w' ⟨rfl,rfl⟩))
 all_goals
  go_ret;refine⟨hN ?_,by repeat(first|exact Lay.refl _|apply Lay.drew|refine Lay.alloc ?_ _)⟩;rw[sF];simp_all[lD,sI]
end
section
open Go.RowKit
open Rg
def uX (tb tl tr:Bool) (a b:Bool):Bool:=if a&&b then tb else if a then tl else if b then tr else false
theorem of_any (c d g a b:Bool)(w:World):Calls Tryz.prog 161 #[.agg #[.bool c,.bool d,.bool g],.bool a,.bool b] w fun e w'=>e=.returned (.bool (uX c d g a b))/\Below w w w':=by
 cases a<;>cases b <;>
 . go_enter Tryz.func161,Tryz.ntmps161;go_wp2;go_ret;exact⟨rfl,(aB _ _).alloc (aD _) _⟩
def fU (r:Rg) (i:Int):Rg:=if i<0 then .nil (r.w-1) false else match r.parts[i.toNat]? with|some p=>p.2|none=>cQ
def RgOne (w:World) (r:Rg) (e:Ending) (w':World):Prop :=
 ∃(x:Int) (f:Bool) (A:Option Addr) (n c:Nat),e=.returned (.agg #[.int .i64 x,.bool f,.slice A n c])∧RgS w' x f A n c r∧Below w.heap.size w w'
theorem mS (r:Rg)(x:Int)(f:Bool)(A:Option Addr)(n c:Nat)(i:Int)(w:World)(a:RgS w x f A n c r)(hi:i<(n:Int))(z : -1<=i)(hx:0<=x/\x<=12) :
 Calls Tryz.prog 242 #[.agg #[x,.bool f,.slice A n c],i] w fun e w'=>RgOne w (fU r i) e w':=by
 have d:=a.hw;have HB:Hid (Below w w ((w.alloc (.cells #[x,.bool f,.slice A n c] 71)).alloc (.cells zR 71))):=Z (((aB _ _).alloc (aD _) _).alloc (by simp) _);rcases cD i 0 with h0|h0
 . have q:decide (i<0)=true:=(by simp;omega);have hr:fU r i=.nil (x-1) false:=(by simp[fU,h0,d]);rw[hr];clear hr a d;go_enter Tryz.func242,Tryz.ntmps242;go_wp2;refine aF (v:=.agg #[.int .i64 (x-1),zF,zN]) (by simp[results,Tryz.results242,go_sem]) rfl ⟨x-1,false,none,0,0,rfl,RgS.nil _ _,?_⟩;repeat(first|exact HB.out|exact aB _ _|refine Below.setCell ?_ (by simp) _|refine cG ?_ (by simp) _)
 . obtain⟨k,rfl⟩:=Int.eq_ofNat_of_zero_le h0;have q:decide ((k:Int)<0)=false:=(by simp);have hr:∀p,r.parts[k]?=some p->fU r (k:Int)=p.2:=fun p hp=>(by unfold fU;rw[if_neg (by omega),Int.toNat_natCast,hp]);obtain⟨b,o,p,A1,n1,c1,l,j,A2,n2,c2,rfl,hp,g,s⟩:=a.at2 (aC HB.out) (show k<n by omega);rw[hr p hp];have m:=Z g.rg;clear g;obtain⟨_,t,u,y,_,_,_⟩:=s;clear hr a d hp;go_enter Tryz.func242,Tryz.ntmps242;go_wp2;refine aF (v:=.agg #[l,.bool j,.slice A2 n2 c2]) (by simp[results,Tryz.results242,go_sem]) rfl ⟨l,j,A2,n2,c2,rfl,(m.out.keep (aM _ _)).keep (aM _ _),?_⟩;exact((aB _ _).alloc (aD _) _).alloc (by simp) _
structure Ev where
 v:Vl
 s:Int
 p:Int
 e:Bool
def Ev.cs (x:Ev):List Value:=[.int .i64 x.v.k,.int .i64 x.v.i,.string x.v.t,.int .i64 x.s,.int .i64 x.p,.bool x.e]
theorem Ev.cs_len (x:Ev):(Ev.cs x).length=6:=rfl
theorem aA3 (x:Ev):∀u∈Ev.cs x,u.oneCell'=true:=by simp[Ev.cs,Value.oneCell']
def sQ (a b:Ev):Int:=if bZ a.v b.v≠0 then bZ a.v b.v else if a.e=b.e then 0 else if b.e then -1 else 1
theorem bZ8 (a b:Ev)(w:World):Calls Tryz.prog 246 #[.agg #[a.v.k,a.v.i,a.v.t,a.s,a.p,.bool a.e],.agg #[b.v.k,b.v.i,b.v.t,b.s,b.p,.bool b.e]] w fun e w'=>e=.returned (.int .i64 (sQ a b))/\Lay w w':=by
 obtain⟨⟨n,m,o⟩,a1,u,a3⟩:=a;obtain⟨⟨j,g,l⟩,bs,q,d⟩:=b;generalize hr:sQ ⟨⟨n,m,o⟩,a1,u,a3⟩ ⟨⟨j,g,l⟩,bs,q,d⟩=r;obtain⟨c,A⟩:=zE (bZ ⟨n,m,o⟩ ⟨j,g,l⟩);have B:Hid ((if c≠0 then c else if a3=d then 0 else if d then -1 else 1)=r):=by show _=_;rw[<- hr,<- A.out];rfl
 clear hr;have C:Lay w ((w.alloc (.cells #[n,m,o,a1,u,.bool a3] 227)).alloc (.cells #[j,g,l,bs,q,.bool d] 227)):=((Lay.refl w).alloc _).alloc _;have D:=Z ((aT.new w 227 #[n,m,o,a1,u,.bool a3]).alloc (.cells #[j,g,l,bs,q,.bool d] 227));have E:Hid (aT ((w.alloc (.cells #[n,m,o,a1,u,.bool a3] 227)).alloc (.cells #[j,g,l,bs,q,.bool d] 227)) (w.heap.size+1) 227 #[j,g,l,bs,q,.bool d]):=by have:=aT.new (w.alloc (.cells #[n,m,o,a1,u,.bool a3] 227)) 227 #[j,g,l,bs,q,.bool d];rw[aX]at this;exact this
 go_enter Tryz.func246,Tryz.ntmps246;go_wp2_with fail;refine(aO6 ⟨n,m,o⟩ ⟨j,g,l⟩ _).mono ?_;rintro e G ⟨rfl,x⟩;rw[A.out];have H:=(D.out.below x.bel).cell;have I:=(E.out.below x.bel).cell;have z:=Z (C.trans x);clear x C;by_cases hc:c=0
 . have F:(c == 0)=true:=(by simp[hc]);have y:=Z hc;clear hc;cases a3<;>cases d <;>
   . go_wp2;go_ret;exact⟨hN (by rw[<- B.out,y.out];rfl),z.out⟩
 . have F:(c == 0)=false:=(by simp[hc]);have y:=Z hc;clear hc;go_wp2;go_ret;exact⟨hN (by rw[<- B.out,if_pos y.out]),z.out⟩
theorem entE:∀args w,(callFunc 246 args).run Tryz.prog w=.ok (.enter 246 args) w:=Go.Proofs.enters_of Tryz.func246 (by kernel_rfl) rfl
def qF (qs:List Ev):Prop:=qs.Pairwise (fun a b=>¬sQ b a<0)
def evI (s:Int) (i:Nat) (x:Iv):List Ev:=⟨x.f,s,(i:Int),true⟩::(if x.o then []else [⟨x.t,s,(i:Int),false⟩])
def evP (s:Int) (i:Nat) (vs:List Iv):List Ev:=vs.flatMap (evI s i)
def wA (s:Int):Nat→List (List Iv×Rg)→List Ev
 |_,[]=>[]
 |i,p::l=>evP s i p.1++wA s (i+1) l
def evs (a b:Rg):List Ev:=wA 0 0 a.parts++wA 1 0 b.parts
theorem vK (s:Int)(i:Nat)(l:List Iv)(x:Iv):evP s i (l++[x])=evP s i l++evI s i x:=by simp[evP]
theorem aC4 (s:Int):∀(i:Nat) (l m:List (List Iv×Rg)),wA s i (l++m)=wA s i l++wA s (i+l.length) m
 |i,[],m=>by simp[wA]
 |
  i,p::l,m=>by
  rw[List.cons_append,wA,wA,aC4 s (i+1) l m,cH,bL,show i+1+l.length=i+(l.length+1) by omega]
theorem aX5 (s:Int)(l:List (List Iv×Rg))(p:List Iv×Rg):wA s 0 (l++[p])=wA s 0 l++evP s l.length p.1:=by
 rw[aC4];simp[wA]
def cB7 (a b:Rg) (qs:List Ev):Prop:=qs.Perm (evs a b)∧qF qs
theorem aW1:(Tryz.prog.info? 5).map (fun i=>(i.zero,i.size,i.bytes))=some (some (.int .u8 0),1,1):=by kernel_rfl
def yZ (b:Int):List Value:=[.int .u8 b]
theorem aL5 (b:Int):(yZ b).length=1:=rfl
theorem iN (b:Int):∀u∈yZ b,u.oneCell'=true:=by simp[yZ,Value.oneCell']
def pE (i:Int) (k:Nat):Int:=IntKind.u64.wrap i / 2 ^ (8*k) % 256
def qO (i:Int):Nat→List Int
 |0=>[]
 |k+1=>qO i k++[pE i k]
def txB (t:ByteArray):List Int:=t.toList.map (fun b=>(b.toNat:Int))
def mC (v:Vl):List Int:=[v.k]++qO v.i 8++[(v.t.size:Int)]++txB v.t
def cB2 (w:World) (base:Nat) (A:Option Addr) (m c:Nat) (bs:List Int):Prop:=w.ownsRow base 5 1 (.slice A m c) m (bs.flatMap yZ)∧bs.length=m
theorem bO2 {w:World}{base n:Nat}{e:TypeId}{sz:Nat}{v:Value}{a:List Value}(h:w.ownsRow base e sz v n a):∃A c,v=.slice A n c:=by
 rcases h.2 with⟨rfl,rfl⟩|⟨g,b,d,rfl,_⟩
 . exact⟨none,0,rfl⟩
 . exact⟨_,_,rfl⟩
theorem bM3 (t:ByteArray):(txB t).flatMap yZ=Lib.strCells t:=by
 unfold txB Lib.strCells;rw[ByteArray.toList_eq,List.flatMap_map];simp only[yZ];exact(List.map_eq_flatMap ..).symm
theorem lS {h g H:Nat}{v:Value}(a:some h≠v.ownBlock)(b:v.ownBlock=some g\/g=H+1)(d:h<H){m c:Nat}:Hid (some h≠(Value.slice (some ⟨g,0,none⟩) m c).ownBlock):=by
 show _≠_;rcases b with e|e
 . rw[e]at a;exact a
 . simp only[Value.ownBlock,ne_eq,Option.some.injEq];omega
structure TB (w w':World):Prop where
 size:w.heap.size≤w'.heap.size
 block:∀ k,k<w.heap.size→(∀ cs fz,w.heap[k]? ≠ some (.cells cs 5 fz))→w'.heap[k]? = w.heap[k]?
theorem TB.refl (w:World):TB w w:=⟨aD _,fun _ _ _=>rfl⟩
theorem TB.trans {a b c:World}(h:TB a b)(k:TB b c):TB a c :=
 ⟨Nat.le_trans h.size k.size,fun i hi d=>by
  have e:=h.block i hi d;rw[<- e];exact k.block i (Nat.lt_of_lt_of_le hi h.size) (fun cs g=>by rw[e];exact d cs g)⟩
theorem TB.of_below {a b:World}(h:Below a a b):TB a b:=⟨h.size,fun k c _=>h.block k c⟩
theorem TB.alloc {a b:World}(h:TB a b)(o:Obj):TB a (b.alloc o):=h.trans (TB.of_below ((aB _ _).alloc (aD _) _))
theorem TB.grown {a b c:World}(h:TB a b){base n:Nat}{v:Value}{o:List Value}(m:b.ownsRow base 5 1 v n o)(d:b.grownBy c v.ownBlock):TB a c :=
 h.trans ⟨d.size,fun k j l=>d.block k j (fun e=>by
  rcases m.2 with⟨rfl,_⟩|⟨g,p,q,rfl,_,i,_⟩
  . simp[Value.ownBlock]at e
  . simp only[Value.ownBlock,Option.some.injEq]at e;subst e;exact l _ _ i)⟩
theorem aT.tb {w a:World}{b:Nat}{T:TypeId}{cs:Array Value}(h:aT w b T cs)(c:T≠5)(hb:TB w a):aT a b T cs :=
 (hb.block b h.lt (fun d g e=>by unfold aT at h;rw[h]at e;injection e with e;injection e with _ e;exact c e)).trans h
set_option maxRecDepth 100000 in
theorem aX7 (base:Nat)(A:Option Addr)(m c:Nat)(bs:List Int)(v:Vl)(w:World)(ho:cB2 w base A m c bs)(hb:base<=w.heap.size)(hm:m<=100000000)(hk:0<=v.k/\v.k<=255)(ht:v.t.size<=64) :
 Calls Tryz.prog 266 #[.slice A m c,.agg #[v.k,v.i,v.t]] w fun e w'=>∃(A':Option Addr) (c':Nat),e=.returned (.slice A' (bs++mC v).length c')/\cB2 w' base A' (bs++mC v).length c' (bs++mC v)/\Below base w w'/\TB w w':=by
 obtain⟨K,s,G⟩:=v;obtain⟨B,hi,u,x,y⟩:=info_parts aW1;dsimp only at hk ht;generalize hes:bs++mC ⟨K,s,G⟩=es;have M:=Z hes;clear hes;have L:=ho.1;have W:=Z ho.2;clear ho;go_enter Tryz.func266,Tryz.ntmps266;go_wp2_with (first
  |(at_builtin;refine bH (by rfl) (.tmp 6) (.tmp 10) _ (by rfl) base 5 B _ 1 1 Tryz.underlying22 hi u x y (by rfl) (by omega) (.slice A m c) m _ (by rfl) _ _ (L.alloc _) (w.heap.size+1) (by simp) (by rfl) (by rfl) (iN _) (by simp only[maxLen];omega) (by omega) (by simp;omega) ?_;intro g Y S a2 O a0 a1 a5;have N:=Z (aT.grown (aT.new w 59 #[.int .i64 K,.int .i64 s,.string G]) O (jH L))))
 have U:Hid (Below base w S):=Z ((cG (aB base w) hb _).trans a0);have a9:w.heap.size<S.heap.size:=N.out.lt;go_loopw [0,5] (fun v i wr=>∃(k:Nat) (z:Int) (A':Option Addr) (a c':Nat) (r:List Int),k<=8/\i=.int .i64 z/\Hid (z=8*(k:Int))/\v=.slice A' a c'/\a<=m+9/\Hid (a=m+1+k)/\Hid (r=bs++[K]++qO s k)/\wr.ownsRow base 5 1 (.slice A' a c') a (r.flatMap yZ)/\aT wr w 59 #[K,s,G]/\Below base w wr/\Hid (some w.heap.size≠(Value.slice A' a c').ownBlock)/\TB w wr) (fun _ i _=>64-(intOf i).toNat);case atStart =>
  refine⟨0,0,_,m+1,Y,bs++[K],by omega,rfl,rfl,rfl,by omega,rfl,(by show _=_;simp[qO]),?_,N.out,U.out,?_,(TB.of_below ((aB _ _).alloc (aD _) _)).grown (L.alloc _) O⟩
  . simpa[yZ]using a2
  . show _≠_;have h1:=jH L;rcases a1 with h|h
    . rw[h]at h1;exact h1
    . simp only[Value.ownBlock,ne_eq,Option.some.injEq];omega
 case round =>
  obtain⟨k,z,A',a,c',r,a4,rfl,D,rfl,a6,n,C,l,hx,E,o,F⟩:=hrel;have b3:=hx.cell;have b1:=hx.lt;have h8:k=8\/k=0\/k=1\/k=2\/k=3\/k=4\/k=5\/k=6\/k=7:=by omega
  rcases h8 with rfl|rfl|rfl|rfl|rfl|rfl|rfl|rfl|rfl
  . obtain rfl:z=64:=(by have:=D.out;omega);have a7:base<=wr.heap.size:=(by omega);go_wp2_with (first
     |(at_builtin;refine bH (by rfl) (.tmp 25) (.tmp 30) _ (by rfl) base 5 B _ 1 1 Tryz.underlying22 hi u x y (by rfl) (by omega) (.slice A' a c') a _ (by rfl) _ _ l wr.heap.size (by rfl) (by rfl) (by rfl) (iN _) (by simp only[maxLen];omega) (by omega) (by omega) ?_;intro I p H d b j q J;have a3:=(aT.grown hx b o.out);have b2:=a3.cell;have b0:=j.size)
     |(at_builtin;refine Lib.wpList_append_own_string H (by rfl) (.tmp 32) (.tmp 34) _ _ (by rfl) base 5 B Tryz.underlying22 Tryz.underlying9 hi u x y _ _ _ (by rfl) d G (by rfl) (by simp only[maxLen];omega) (by omega) (by omega) ?_;intro v6 w6 R P a8))
    obtain⟨T,X,rfl⟩:=bO2 R;have Q:es.length=a+1+G.size:=(by rw[<- M.out];have h1:=n.out;have h2:=W.out;have h3:(txB G).length=G.size:=(by simp[txB,ByteArray.toList_eq]);simp only[mC,cF,bL,List.length_nil,h3,qO];omega);have V:Hid (es=r++[(G.size:Int)]++txB G):=(by show _=_;rw[C.out,<- M.out];simp[mC]);go_ret;rw[Q];refine⟨T,X,rfl,⟨?_,Q⟩,?_,(F.grown l b).grown d P⟩
    . rw[V.out];simpa[yZ,bM3,List.flatMap_append]using R
    . exact((E.trans j).grown P (by omega) (jN d))
  . obtain rfl:z=0:=(by have:=D.out;omega);go_wp2_with (first
     |(at_builtin;refine bH (by rfl) (.tmp 16) (.tmp 23) _ (by rfl) base 5 B _ 1 1 Tryz.underlying22 hi u x y (by rfl) (by omega) (.slice A' a c') a _ (by rfl) _ _ l wr.heap.size (by rfl) (by rfl) (by rfl) (iN _) (by simp only[maxLen];omega) (by omega) (by omega) ?_;intro I p H d b j q J))
    go_roundw;case rel=>refine⟨1,_,_,a+1,p,r++[pE s 0],by omega,rfl,rfl,rfl,(by have:=n.out;omega),(by show _=_;have:=n.out;omega),(by show _=_;rw[C.out,cH];rfl),?_,aT.grown hx b o.out,E.trans j,lS o.out q (by omega),F.grown l b⟩;simpa[yZ,pE]using d
    case measure=>simp[intOf]
  . obtain rfl:z=8:=(by have:=D.out;omega);go_wp2_with (first
     |(at_builtin;refine bH (by rfl) (.tmp 16) (.tmp 23) _ (by rfl) base 5 B _ 1 1 Tryz.underlying22 hi u x y (by rfl) (by omega) (.slice A' a c') a _ (by rfl) _ _ l wr.heap.size (by rfl) (by rfl) (by rfl) (iN _) (by simp only[maxLen];omega) (by omega) (by omega) ?_;intro I p H d b j q J))
    go_roundw;case rel=>refine⟨2,_,_,a+1,p,r++[pE s 1],by omega,rfl,rfl,rfl,(by have:=n.out;omega),(by show _=_;have:=n.out;omega),(by show _=_;rw[C.out,cH];rfl),?_,aT.grown hx b o.out,E.trans j,lS o.out q (by omega),F.grown l b⟩;simpa[yZ,pE]using d
    case measure=>simp[intOf]
  . obtain rfl:z=16:=(by have:=D.out;omega);go_wp2_with (first
     |(at_builtin;refine bH (by rfl) (.tmp 16) (.tmp 23) _ (by rfl) base 5 B _ 1 1 Tryz.underlying22 hi u x y (by rfl) (by omega) (.slice A' a c') a _ (by rfl) _ _ l wr.heap.size (by rfl) (by rfl) (by rfl) (iN _) (by simp only[maxLen];omega) (by omega) (by omega) ?_;intro I p H d b j q J))
    go_roundw;case rel=>refine⟨3,_,_,a+1,p,r++[pE s 2],by omega,rfl,rfl,rfl,(by have:=n.out;omega),(by show _=_;have:=n.out;omega),(by show _=_;rw[C.out,cH];rfl),?_,aT.grown hx b o.out,E.trans j,lS o.out q (by omega),F.grown l b⟩;simpa[yZ,pE]using d
    case measure=>simp[intOf]
  . obtain rfl:z=24:=(by have:=D.out;omega);go_wp2_with (first
     |(at_builtin;refine bH (by rfl) (.tmp 16) (.tmp 23) _ (by rfl) base 5 B _ 1 1 Tryz.underlying22 hi u x y (by rfl) (by omega) (.slice A' a c') a _ (by rfl) _ _ l wr.heap.size (by rfl) (by rfl) (by rfl) (iN _) (by simp only[maxLen];omega) (by omega) (by omega) ?_;intro I p H d b j q J))
    go_roundw;case rel=>refine⟨4,_,_,a+1,p,r++[pE s 3],by omega,rfl,rfl,rfl,(by have:=n.out;omega),(by show _=_;have:=n.out;omega),(by show _=_;rw[C.out,cH];rfl),?_,aT.grown hx b o.out,E.trans j,lS o.out q (by omega),F.grown l b⟩;simpa[yZ,pE]using d
    case measure=>simp[intOf]
  . obtain rfl:z=32:=(by have:=D.out;omega);go_wp2_with (first
     |(at_builtin;refine bH (by rfl) (.tmp 16) (.tmp 23) _ (by rfl) base 5 B _ 1 1 Tryz.underlying22 hi u x y (by rfl) (by omega) (.slice A' a c') a _ (by rfl) _ _ l wr.heap.size (by rfl) (by rfl) (by rfl) (iN _) (by simp only[maxLen];omega) (by omega) (by omega) ?_;intro I p H d b j q J))
    go_roundw;case rel=>refine⟨5,_,_,a+1,p,r++[pE s 4],by omega,rfl,rfl,rfl,(by have:=n.out;omega),(by show _=_;have:=n.out;omega),(by show _=_;rw[C.out,cH];rfl),?_,aT.grown hx b o.out,E.trans j,lS o.out q (by omega),F.grown l b⟩;simpa[yZ,pE]using d
    case measure=>simp[intOf]
  . obtain rfl:z=40:=(by have:=D.out;omega);go_wp2_with (first
     |(at_builtin;refine bH (by rfl) (.tmp 16) (.tmp 23) _ (by rfl) base 5 B _ 1 1 Tryz.underlying22 hi u x y (by rfl) (by omega) (.slice A' a c') a _ (by rfl) _ _ l wr.heap.size (by rfl) (by rfl) (by rfl) (iN _) (by simp only[maxLen];omega) (by omega) (by omega) ?_;intro I p H d b j q J))
    go_roundw;case rel=>refine⟨6,_,_,a+1,p,r++[pE s 5],by omega,rfl,rfl,rfl,(by have:=n.out;omega),(by show _=_;have:=n.out;omega),(by show _=_;rw[C.out,cH];rfl),?_,aT.grown hx b o.out,E.trans j,lS o.out q (by omega),F.grown l b⟩;simpa[yZ,pE]using d
    case measure=>simp[intOf]
  . obtain rfl:z=48:=(by have:=D.out;omega);go_wp2_with (first
     |(at_builtin;refine bH (by rfl) (.tmp 16) (.tmp 23) _ (by rfl) base 5 B _ 1 1 Tryz.underlying22 hi u x y (by rfl) (by omega) (.slice A' a c') a _ (by rfl) _ _ l wr.heap.size (by rfl) (by rfl) (by rfl) (iN _) (by simp only[maxLen];omega) (by omega) (by omega) ?_;intro I p H d b j q J))
    go_roundw;case rel=>refine⟨7,_,_,a+1,p,r++[pE s 6],by omega,rfl,rfl,rfl,(by have:=n.out;omega),(by show _=_;have:=n.out;omega),(by show _=_;rw[C.out,cH];rfl),?_,aT.grown hx b o.out,E.trans j,lS o.out q (by omega),F.grown l b⟩;simpa[yZ,pE]using d
    case measure=>simp[intOf]
  . obtain rfl:z=56:=(by have:=D.out;omega);go_wp2_with (first
     |(at_builtin;refine bH (by rfl) (.tmp 16) (.tmp 23) _ (by rfl) base 5 B _ 1 1 Tryz.underlying22 hi u x y (by rfl) (by omega) (.slice A' a c') a _ (by rfl) _ _ l wr.heap.size (by rfl) (by rfl) (by rfl) (iN _) (by simp only[maxLen];omega) (by omega) (by omega) ?_;intro I p H d b j q J))
    go_roundw;case rel=>refine⟨8,_,_,a+1,p,r++[pE s 7],by omega,rfl,rfl,rfl,(by have:=n.out;omega),(by show _=_;have:=n.out;omega),(by show _=_;rw[C.out,cH];rfl),?_,aT.grown hx b o.out,E.trans j,lS o.out q (by omega),F.grown l b⟩;simpa[yZ,pE]using d
    case measure=>simp[intOf]
def xU (x:Iv):List Int:=mC x.f++mC x.t
def xT (f:Bool):Int:=if f then 1 else 0
def aF3:Rg→List Int
 |.nil _ _=>[]
 |.cons vs rest tail=>[(vs.length:Int)]++vs.flatMap xU++([xT rest.f,(rest.len:Int)]++aF3 rest)++aF3 tail
def nP (r:Rg):List Int:=[xT r.f,(r.len:Int)]++aF3 r
def bR6 (p:List Iv×Rg):List Int:=[(p.1.length:Int)]++p.1.flatMap xU++nP p.2
theorem mX:∀r:Rg,aF3 r=r.parts.flatMap bR6
 |.nil _ _=>rfl
 |
  .cons vs rest tail=>by
  rw[aF3,mX tail,parts,List.flatMap_cons];rfl
def okV (v:Vl):Prop:=(0≤v.k∧v.k≤255)∧v.t.size≤64
def kU:Rg→Prop
 |.nil _ _=>True
 |.cons vs rest tail=>vs.length≤64∧(∀x∈vs,okV x.f∧okV x.t)∧kU rest∧kU tail
theorem kU.mem {p:List Iv×Rg}:∀ {r:Rg},kU r->p∈r.parts->p.1.length<=64/\(∀x∈p.1,okV x.f/\okV x.t)/\kU p.2
 |.nil _ _,_,h=>by cases h
 |
  .cons vs rest tail,ho,h=>by
  rcases List.mem_cons.1 h with rfl|h
  . exact⟨ho.1,ho.2.1,ho.2.2.1⟩
  . exact kU.mem ho.2.2.2 h
theorem rP (i:Int):∀k,(qO i k).length=k
 |0=>rfl
 |k+1=>by simp[qO,rP i k]
theorem vL (v:Vl):(mC v).length=10+v.t.size:=by
 simp[mC,rP,txB,ByteArray.toList_eq];omega
theorem aX8 {x:Iv}(h:okV x.f/\okV x.t):(xU x).length<=148:=by
 have a:=h.1.2;have b:=h.2.2;rw[xU,cF,vL,vL];omega
theorem aJ7:∀ {l:List Iv},(∀x∈l,okV x.f/\okV x.t)->(l.flatMap xU).length<=148*l.length
 |[],_=>by simp
 |
  x::l,h=>by
  have b:=aX8 (h x aQ);have c:=aJ7 (fun y a=>h y (aS _ a));rw[List.flatMap_cons,cF,bL];omega
theorem aC6:∀ {r:Rg},kU r->(aF3 r).length<=10000*r.size
 |.nil _ _,_=>by simp[aF3]
 |
  .cons vs rest tail,h=>by
  have a:=aC6 h.2.2.1;have b:=aC6 h.2.2.2;have c:=aJ7 h.2.1;have d:=h.1;simp only[aF3,cF,bL,List.length_nil,Rg.size];omega
theorem aC5 {r:Rg}(h:kU r):(nP r).length<=10000*r.size+2:=by
 have:=aC6 h;simp only[nP,cF,bL,List.length_nil];omega
set_option maxRecDepth 100000 in
theorem enc_any (w0:World)(r:Rg):∀(x:Int) (f:Bool) (A:Option Addr) (n c:Nat) (B:Option Addr) (m d:Nat) (bs:List Int) (w:World),RgS w0 x f A n c r->kU r->r.size<=64->Below w0 w0 w->cB2 w w0 B m d bs->m+10000*r.size<=1000000 ->
 Calls Tryz.prog 243 #[.slice B m d,.agg #[x,.bool f,.slice A n c]] w fun e w'=>∃(A':Option Addr) (l c':Nat),e=.returned (.slice A' l c')/\cB2 w' w0 A' l c' (bs++nP r)/\Below w0 w0 w'/\TB w w':=by
 induction hsz:r.size using Nat.strongRecOn generalizing r with
 |
  _ s ih =>
  intro x f A n c B m d bs w O e5 hs hb ho hm;obtain⟨X,hi,U,V,W⟩:=info_parts aW1;have hn:n<=64:=by have:=O.len;have:=eK r;omega
  have a0:=Z O.len;have g2:=Z O.hf;have g0:=Z O;have f8:=Z e5;have f5:=Z ih;have a5:=Z hsz;have g:=ho.1;have j2:=Z ho.2;have i4:=hb.size;have HB:=Z hb;clear O e5 ih hsz ho hb;cases f;all_goals
   go_enter Tryz.func243,Tryz.ntmps243;go_wp2_with (first
    |(at_builtin;refine bH (by rfl) (.tmp 11) (.tmp 12) _ (by rfl) w0.heap.size 5 X _ 1 1 Tryz.underlying22 hi U V W (by rfl) (by omega) (.slice B m d) m _ (by rfl) _ _ (g.alloc _) (w.heap.size+1) (by first|rfl|simp) (by rfl) (by rfl) (iN _) (by simp only[maxLen];omega) (by omega) (by first|omega|(simp;omega)) ?_;intro Q N I G D F R _;have T:=(aT.grown (aT.new w _ _) D (jH g));have f3:=T.cell;have b1:=F.size;simp only[aX]at b1;have i2:=jH g)
    |(at_builtin;refine bH (by rfl) (.tmp 14) (.tmp 15) _ (by rfl) w0.heap.size 5 X _ 1 1 Tryz.underlying22 hi U V W (by rfl) (by omega) (.slice B m d) m _ (by rfl) _ _ (g.alloc _) (w.heap.size+1) (by first|rfl|simp) (by rfl) (by rfl) (iN _) (by simp only[maxLen];omega) (by omega) (by first|omega|(simp;omega)) ?_;intro Q N I G D F R _;have T:=(aT.grown (aT.new w _ _) D (jH g));have f3:=T.cell;have b1:=F.size;simp only[aX]at b1;have i2:=jH g)
    |(at_builtin;refine bH (by rfl) (.tmp 17) (.tmp 22) _ (by rfl) w0.heap.size 5 X _ 1 1 Tryz.underlying22 hi U V W (by rfl) (by omega) (.slice (some ⟨Q,0,none⟩) (m+1) N) (m+1) _ (by rfl) _ _ G I.heap.size (by first|rfl|simp) (by rfl) (by rfl) (iN _) (by simp only[maxLen];omega) (by omega) (by first|omega|(simp;omega)) ?_;intro h5 d2 w6 e7 a8 e0 h6 _;have k0:=(T.tb (by decide) ((TB.refl _).grown G a8)).cell))
   have b6:Hid (Below w0 w0 w6):=Z (((HB.out.alloc i4 _).trans F).trans e0);have c6:Hid (TB w w6):=Z (((TB.refl w).alloc _).grown (g.alloc _) D |>.grown G a8);have b8:Hid (∃z,z=bs++[xT r.f,(r.len:Int)]/\w6.ownsRow w0 5 1 (.slice (some ⟨h5,0,none⟩) (m+1+1) d2) (m+1+1) (z.flatMap yZ)):=(by refine⟨_,rfl,?_⟩;rw[g2.out,<- a0.out];simpa[yZ,xT]using e7);clear g G e7 D a8 R h6 F e0;go_loopw [0,27] (fun v i wr=>∃(k q:Nat) (A':Option Addr) (l c':Nat) (z:List Int),k<=n/\i=.int .i64 (k:Int)/\v=.slice A' l c'/\l+10000*q<=m+2+10000*s/\Hid (q=eB (r.parts.drop k))/\Hid (z=bs++[xT r.f,(r.len:Int)]++(r.parts.take k).flatMap bR6)/\wr.ownsRow w0 5 1 (.slice A' l c') l (z.flatMap yZ)/\Below w0 w0 wr/\TB w wr) (fun _ i _=>n-(intOf i).toNat);case atStart =>
    obtain⟨z,hcl,ho⟩:=b8.out;refine⟨0,s,_,m+1+1,d2,z,by omega,rfl,rfl,by omega,?_,?_,ho,b6.out,c6.out⟩
    . show _=_;rw[List.drop_zero,<- iQ,a5.out]
    . show _=_;rw[hcl];simp
   case round =>
    obtain⟨k,q,A',l,c',z,hk,rfl,rfl,j6,a4,a2,g,hb,f0⟩:=hrel;clear b6 c6 b8;by_cases hlt:k<n
    . obtain⟨j4,o1,p,A1,n1,c1,x1,f1,A2,n2,c2,rfl,hp,b0,i3⟩:=g0.out.at2 (aC hb) hlt;have e8:=iX hp;rw[a5.out]at e8;have Hd:=Z (oZ hp);have hq1:1+p.2.size<=q:=(by have h1:=a4.out;have h2:=Hd.out;omega);have hq2:q<=s:=(by have h1:=a4.out;have h2:eB (r.parts.take k)+eB (r.parts.drop k)=s:=(by rw[<- uK,List.take_append_drop,<- iQ,a5.out]);omega);have g5:=Z (cU hp);have a9:=kU.mem f8.out (aJ hp);have a3:=Z a9;have g8:=Z b0.vs;have g7:=Z b0.rg;have f6:=Z (f5.out p.2.size e8 p.2 rfl);obtain⟨p0,p1,p2,p3,j0,b3,j1⟩:=i3;have j7:n1<=64:=(by have:=b3.len;have:=a9.1;omega);have d1:=Z b3.len;clear hp j0 b3 j1 b0 a9;have i6:=hb.size;obtain⟨f4,L⟩:=zE (p.2.size);rw[L.out]at hq1;go_wp2_with (first
       |(at_builtin;refine bH (by rfl) (.tmp 31) (.tmp 36) _ (by rfl) w0.heap.size 5 X _ 1 1 Tryz.underlying22 hi U V W (by rfl) (by omega) (.slice A' l c') l _ (by rfl) _ _ (g.alloc _) (wr.heap.size+1) (by first|rfl|simp) (by rfl) (by rfl) (iN _) (by simp only[maxLen];omega) (by omega) (by first|omega|(simp;omega)) ?_;intro Q N I G D F R _;have f3:=(aT.grown (aT.new wr _ _) D (jH g)).cell))
      have b5:Hid (Below w0 w0 I):=Z ((hb.alloc i6 _).trans F);have c5:Hid (TB w I):=Z ((f0.alloc _).grown (g.alloc _) D);have c4:Hid (aT I wr 141 #[.slice A1 n1 c1,x1,.bool f1,.slice A2 n2 c2]):=Z (aT.grown (aT.new wr _ _) D (jH g));have a1:Hid (I.ownsRow w0 5 1 (.slice (some ⟨Q,0,none⟩) (l+1) N) (l+1) ((z++[(n1:Int)]).flatMap yZ)):=(by show World.ownsRow _ _ _ _ _ _ _;simpa[yZ]using G);clear g G D R F p0 p1 p2 p3;go_loopw [0,41] (fun v i Y=>∃(j E:Nat) (J:Option Addr) (M:Nat) (C:List Int),j<=n1/\i=.int .i64 (j:Int)/\v=.slice J E M/\E<=l+1+148*j/\Hid (C=z++[(n1:Int)]++(p.1.take j).flatMap xU)/\cB2 Y w0 J E M C/\Below w0 w0 Y/\TB w Y/\aT Y wr 141 #[.slice A1 n1 c1,x1,.bool f1,.slice A2 n2 c2]) (fun _ i _=>n1-(intOf i).toNat);case atStart=>refine⟨0,l+1,_,N,z++[(n1:Int)],by omega,rfl,rfl,by omega,(by show _=_;simp),⟨a1.out,?_⟩,b5.out,c5.out,c4.out⟩;have:=a1.out.1;rw[hV aL5]at this;omega
      case round =>
       obtain⟨j,E,J,M,C,hj,rfl,rfl,j5,c7,e6,P,b2,a7⟩:=hrel;clear b5 c5 c4 a1;have c3:=Z a7;have K:=Z e6;have i5:=P.size;have j9:=a7.lt;clear a7 e6;by_cases h9:j<n1
       . obtain⟨b,o,u,rfl,hu,f2⟩:=(g8.out.keep (aC P)).at h9;have g6:=Z (cU hu);have H:=Z (a3.out.2.1 u (aJ hu));have j3:=Z (aX8 H.out);obtain⟨a,y,b4⟩:=u;obtain⟨d3,d4,d5,d6,d7,d8,d9⟩:=IvAt.of f2;dsimp only at d3 d4 d5 d6 d7 d8 d9;clear hu f2;go_wp2_with fail;refine(aX7 w0 J E M C a _ ⟨K.out.1.alloc _,K.out.2⟩ (by simp;omega) (by omega) H.out.1.1 H.out.1.2).mono ?_;rintro e w7 ⟨A7,g9,rfl,e2,e4,S⟩;have b9:=Z e2;have c8:Hid ((C++mC a).length=E+10+a.t.size):=(by show _=_;rw[cF,vL,K.out.2];omega);have i0:(C++mC a).length<=E+74:=(by have h1:=c8.out;have h2:a.t.size<=64:=H.out.1.2;omega);obtain⟨m7,d0⟩:=zE ((C++mC a).length);rw[d0.out]at b9 i0 c8 ⊢;have i9:=(aT.tb (aT.new _ _ _) (by decide) S).cell;have b7:=Z ((P.alloc i5 (.cells #[a.k,a.i,a.t,y.k,y.i,y.t,.bool b4] 187)).trans e4);have g1:=Z ((b2.alloc (.cells #[a.k,a.i,a.t,y.k,y.i,y.t,.bool b4] 187)).trans S);have f9:=Z ((c3.out.alloc (.cells #[a.k,a.i,a.t,y.k,y.i,y.t,.bool b4] 187)).tb (by decide) S);have j8:=b7.out.size;clear e2 e4 S d3 d4 d5 d6 d7 d8 d9 P b2;go_wp2_with fail;refine(aX7 w0 A7 m7 g9 (C++mC a) y _ b9.out (by omega) (by omega) H.out.2.1 H.out.2.2).mono ?_;rintro e w8 ⟨A8,h0,rfl,e3,h7,e9⟩;have c0:=Z e3;have c9:Hid ((C++mC a++mC y).length=m7+10+y.t.size):=(by show _=_;rw[cF,vL,d0.out];omega);obtain⟨m8,g4⟩:=zE ((C++mC a++mC y).length);rw[g4.out]at c0 c9 ⊢;clear i9 e3;go_wp2;go_roundw;case rel =>
          refine⟨j+1,m8,A8,h0,C++mC a++mC y,by omega,by go_num,rfl,?_,?_,c0.out,b7.out.trans h7,g1.out.trans e9,f9.out.tb (by decide) e9⟩
          . have h1:=c9.out;have h3:y.t.size<=64:=H.out.2.2;omega
          . show _=_;rw[g6.out,c7.out];simp[xU]
         case measure=>simp[intOf];omega
       . have i8:=c3.out.cell;have i1:E+10000*f4<=1000000:=(by omega);go_wp2_with fail;refine(f6.out x1 f1 A2 n2 c2 J E M C _ g7.out a3.out.2.2 (by rw[L.out];omega) P K.out (by rw[L.out];exact i1)).mono ?_;rintro e w9 ⟨A9,m9,h4,rfl,a6,h8,i7⟩;have f7:=Z a6;have g3:=Z a6.2;clear a6 i8;go_wp2;go_roundw;case rel =>
          refine⟨k+1,q-1-f4,A9,m9,h4,C++nP p.2,by omega,by go_num,rfl,?_,?_,?_,f7.out.1,h8,b2.trans i7⟩
          . have h1:=g3.out;have h2:=aC5 a3.out.2.2;rw[cF,K.out.2]at h1;rw[L.out]at h2;omega
          . show _=_;have h1:=a4.out;have h2:=Hd.out;rw[L.out]at h2;omega
          . show _=_;have e1:p.1.take j=p.1:=bW (by have:=d1.out;omega);rw[g5.out,c7.out,a2.out,e1];simp[bR6,d1.out]
         case measure=>simp[intOf];omega
    . go_wp2;go_ret;refine⟨A',l,c',rfl,⟨?_,?_⟩,hb,f0⟩
      . have e1:r.parts.take k=r.parts:=bW (by rw[cI];have:=a0.out;omega);have h1:=a2.out;rw[e1,<- mX]at h1;have h2:bs++nP r=z:=(by rw[h1,nP];simp);rw[h2];exact g
      . have e1:r.parts.take k=r.parts:=bW (by rw[cI];have:=a0.out;omega);have h1:=a2.out;rw[e1,<- mX]at h1;have h2:bs++nP r=z:=(by rw[h1,nP];simp);rw[h2];have:=g.1;rw[hV aL5]at this;omega
def pV (v:Vl):Prop := -9223372036854775808≤v.i∧v.i<9223372036854775808
def kD:Rg→Prop
 |.nil _ _=>True
 |.cons vs rest tail=>(∀x∈vs,pV x.f∧pV x.t)∧kD rest∧kD tail
theorem kD.mem {p:List Iv×Rg}:∀ {r:Rg},kD r->p∈r.parts->(∀x∈p.1,pV x.f/\pV x.t)/\kD p.2
 |.nil _ _,_,h=>by cases h
 |
  .cons vs rest tail,ho,h=>by
  rcases List.mem_cons.1 h with rfl|h
  . exact⟨ho.1,ho.2.1⟩
  . exact kD.mem ho.2.2 h
theorem kD.of {w:Int}{f:Bool}:∀ {L:List (List Iv×Rg)},(∀p∈L,(∀x∈p.1,pV x.f/\pV x.t)/\kD p.2)->kD (tN w f L)
 |[],_=>trivial
 |p::L,h=>⟨(h p aQ).1,(h p aQ).2,kD.of fun q a=>h q (aS _ a)⟩
theorem kU.of {w:Int}{f:Bool}:∀ {L:List (List Iv×Rg)},(∀p∈L,p.1.length<=64/\(∀x∈p.1,okV x.f/\okV x.t)/\kU p.2)->kU (tN w f L)
 |[],_=>trivial
 |p::L,h=>⟨(h p aQ).1,(h p aQ).2.1,(h p aQ).2.2,kU.of fun q a=>h q (aS _ a)⟩
theorem aQ5 {v:Vl}(h:bT v=true):okV v:=by
 unfold bT at h;have a:v.t.toList.isEmpty=true->v.t.size=0:=fun h=>by rw[List.isEmpty_iff,ByteArray.toList_eq]at h;have:=congrArg List.length h;simpa using this
 unfold okV;split at h
 . rename_i b;simp only[aI]at h;have:=a h.2;omega
 . split at h
   . simp only[aI]at h;have:=a h.2;omega
   . split at h
     . have:=a h;omega
     . split at h
       . simp only[aI,decide_eq_true_eq]at h;omega
       . cases h
theorem zero_ok:okV bE:=⟨⟨by decide,by decide⟩,by decide⟩
def vD (x:Iv):Prop:=bT x.f=true∧((x.o=true∧x.t=bE)∨(x.o=false∧bT x.t=true))
theorem qL:∀(l:List Iv) (p:Option Iv),cL p l=true->∀x∈l,vD x
 |[],_,_,x,h=>by cases h
 |
  y::l,p,h,x,d=>by
  rw[gD,aI]at h;rcases List.mem_cons.1 d with rfl|d
  . have b:=h.1;unfold okI at b;simp only[aI]at b;refine⟨b.1.1,?_⟩;have a:=b.2;split at a
    . rename_i c;simp only[aI,decide_eq_true_eq]at a;exact .inl ⟨c,a.2⟩
    . rename_i c;simp only[aI,decide_eq_true_eq]at a;exact .inr ⟨by simpa using c,a.1⟩
  . exact qL l _ h.2 x d
theorem bY2 {x:Iv}(h:vD x):okV x.f/\okV x.t:=by
 refine⟨aQ5 h.1,?_⟩;rcases h.2 with⟨_,e⟩|⟨_,e⟩
 . rw[e];exact zero_ok
 . exact aQ5 e
theorem good_eq {x y:Iv}(j:vD x)(k:vD y)(e:x.f=y.f)(g:x.t=y.t):x=y:=by
 obtain⟨l,n,m⟩:=x;obtain⟨o,q,p⟩:=y;simp only at e g;subst e g;have i:bT bE=false:=by decide
 rcases j.2 with⟨c,a⟩|⟨c,a⟩<;>rcases k.2 with⟨d,b⟩|⟨d,b⟩<;>simp only at c a d b
 . rw[c,d]
 . rw[a,i]at b;cases b
 . rw[b,i]at a;cases a
 . rw[c,d]
theorem qX:∀(n:Nat) (r:Rg),eI n r->r.fits=true->kU r
 |
  0,r,h,_=>by
  cases r with
  |nil=>trivial
  |cons vs rest tail=>have:=h.2;simp[parts]at this
 |
  n+1,r,h,hf=>by
  rw[<- qQ r];refine kU.of fun p b=>?_;obtain⟨_,c,d,_⟩:=h.2.2.1 p b;have a:=lV hf b;exact⟨a.1,fun x e=>bY2 (qL _ _ c x e),qX n _ d a.2⟩
theorem num_inj {i j:Int}(hi : -9223372036854775808<=i/\i<9223372036854775808)(a : -9223372036854775808<=j/\j<9223372036854775808)(h:qO i 8=qO j 8):i=j:=by
 simp only[qO,List.nil_append,List.cons_append,List.cons.injEq,and_true,pE]at h;have e:∀x:Int,IntKind.u64.wrap x=x % 18446744073709551616:=fun x=>by simp[IntKind.wrap,IntKind.bits,IntKind.signed]
 rw[e,e]at h;omega
theorem tx_inj {a b:ByteArray}(h:txB a=txB b):a=b:=by
 rw[nD];unfold txB at h;refine List.map_inj_right (f:=fun b:UInt8=>(b.toNat:Int)) ?_ |>.1 h
 intro x y c;have:x.toNat=y.toNat:=Int.ofNat.inj c;exact UInt8.toNat_inj.1 this
theorem aX6 {v u:Vl}(n:pV v)(m:pV u){s t:List Int}(h:mC v++s=mC u++t):v=u/\s=t:=by
 obtain⟨y,x,z⟩:=v;obtain⟨q,p,r⟩:=u;simp only[mC,cH,List.cons_append,List.nil_append,List.cons.injEq]at h;obtain⟨c,e⟩:=h;obtain⟨g,a⟩:=List.append_inj e (by rw[rP,rP]);simp only[List.cons.injEq]at a;obtain⟨o,i⟩:=a;have b:∀t:ByteArray,(txB t).length=t.size:=fun t=>by simp[txB,ByteArray.toList_eq]
 obtain⟨j,k⟩:=List.append_inj i (by rw[b,b];omega);have l:=num_inj n m g;have d:=tx_inj j;subst c l d;exact⟨rfl,k⟩
theorem bZ3 {x y:Iv}(i:vD x)(j:vD y)(a:pV x.f/\pV x.t)(b:pV y.f/\pV y.t){s t:List Int}(h:xU x++s=xU y++t):x=y/\s=t:=by
 simp only[xU,cH]at h;obtain⟨c,d⟩:=aX6 a.1 b.1 h;obtain⟨e,g⟩:=aX6 a.2 b.2 d;exact⟨good_eq i j c e,g⟩
theorem aJ8:∀(l m:List Iv),l.length=m.length->(∀x∈l,vD x/\pV x.f/\pV x.t)->(∀x∈m,vD x/\pV x.f/\pV x.t)->∀s t,l.flatMap xU++s=m.flatMap xU++t->l=m/\s=t
 |[],[],_,_,_,s,t,h=>⟨rfl,by simpa using h⟩
 |[],_::_,h,_,_,_,_,_=>by simp at h
 |_::_,[],h,_,_,_,_,_=>by simp at h
 |
  x::l,y::m,hl,hx,hy,s,t,h=>by
  simp only[List.flatMap_cons,cH]at h;obtain⟨b,c⟩:=bZ3 (hx x aQ).1 (hy y aQ).1 (hx x aQ).2 (hy y aQ).2 h;obtain⟨d,e⟩:=aJ8 l m (by simpa using hl) (fun z a=>hx z (aS _ a)) (fun z a=>hy z (aS _ a)) s t c;exact⟨by rw[b,d],e⟩
def encG (n:Nat) (p:List Iv×Rg):Prop:=(∀x∈p.1,vD x∧pV x.f∧pV x.t)∧eI n p.2∧kD p.2
theorem aJ6 (n:Nat)(d:∀a b:Rg,eI n a->eI n b->kD a->kD b->∀s t,nP a++s=nP b++t->a=b/\s=t) :
 ∀(l m:List (List Iv×Rg)),l.length=m.length->(∀p∈l,encG n p)->(∀p∈m,encG n p)->∀s t,l.flatMap bR6++s=m.flatMap bR6++t->l=m/\s=t
 |[],[],_,_,_,s,t,h=>⟨rfl,by simpa using h⟩
 |[],_::_,h,_,_,_,_,_=>by simp at h
 |_::_,[],h,_,_,_,_,_=>by simp at h
 |
  p::l,q::m,hl,hx,hy,s,t,h=>by
  simp only[List.flatMap_cons,bR6,cH,List.cons_append,List.nil_append,List.cons.injEq]at h;obtain⟨u,e⟩:=h;have a:=hx p aQ;have b:=hy q aQ;obtain⟨g,i⟩:=aJ8 p.1 q.1 (by omega) a.1 b.1 _ _ e;obtain⟨j,k⟩:=d p.2 q.2 a.2.1 b.2.1 a.2.2 b.2.2 _ _ i;obtain⟨o,r⟩:=aJ6 n d l m (by simpa using hl) (fun z c=>hx z (aS _ c)) (fun z c=>hy z (aS _ c)) s t k;exact⟨by rw[o,Prod.ext g j],r⟩
theorem bY5 {a b:Bool}(h:xT a=xT b):a=b:=by cases a<;>cases b<;>first|rfl|(simp[xT]at h)
theorem aJ5:∀(n:Nat) (a b:Rg),eI n a->eI n b->kD a->kD b->∀s t,nP a++s=nP b++t->a=b/\s=t
 |
  0,a,b,ha,hb,_,_,s,t,h=>by
  simp only[nP,mX,ha.2,hb.2,List.flatMap_nil,List.append_nil,List.cons_append,List.nil_append,List.cons.injEq]at h;exact⟨Rg.ext (ha.1.trans hb.1.symm) (bY5 h.1) (ha.2.trans hb.2.symm),h.2.2⟩
 |
  n+1,a,b,ha,hb,wa,wb,s,t,h=>by
  simp only[nP,mX,List.cons_append,List.nil_append,List.cons.injEq]at h;obtain⟨q,u,j⟩:=h;have g:∀r:Rg,eI (n+1) r->kD r->∀p∈r.parts,encG n p:=fun r m o p c=>by have e:=m.2.2.1 p c;have i:=o.mem c;exact⟨fun x d=>⟨qL _ _ e.2.1 x d,i.1 x d⟩,e.2.2.1,i.2⟩
  obtain⟨k,l⟩:=aJ6 n (aJ5 n) a.parts b.parts (by rw[cI,cI];omega) (g a ha wa) (g b hb wb) s t j;exact⟨Rg.ext (ha.1.trans hb.1.symm) (ha.2.1.trans hb.2.1.symm) k,l⟩
theorem bZ2 {n:Nat}{a b:Rg}(c:eI n a)(hb:eI n b)(d:kD a)(e:kD b)(h:nP a=nP b):a=b :=
 (aJ5 n a b c hb d e [] [] (by rw[h])).1
theorem lH {s:Int}{i:Nat}{x:Iv}{e:Ev}:e∈evI s i x↔e=⟨x.f,s,(i:Int),true⟩\/(x.o=false/\e=⟨x.t,s,(i:Int),false⟩):=by
 unfold evI;cases x.o<;>simp
theorem kN {s:Int}{e:Ev}:∀ {L:List (List Iv×Rg)} {i:Nat},e∈wA s i L↔∃(j:Nat) (p:List Iv×Rg) (x:Iv),L[j]?=some p/\x∈p.1/\e∈evI s (i+j) x
 |[],i=>by simp[wA]
 |
  q::L,i=>by
  rw[wA,List.mem_append,kN (L:=L) (i:=i+1)];constructor
  . rintro(h|⟨j,p,x,a,b,c⟩)
    . rw[evP,List.mem_flatMap]at h;obtain⟨x,a,b⟩:=h;exact⟨0,q,x,rfl,a,b⟩
    . exact⟨j+1,p,x,by simpa using a,b,by rw[show i+(j+1)=i+1+j by omega];exact c⟩
  . rintro⟨j,p,x,a,b,c⟩;cases j with
    |
     zero =>
     simp only[aL,Option.some.injEq]at a;subst a;exact .inl (by rw[evP,List.mem_flatMap];exact⟨x,b,c⟩)
    |succ j=>exact .inr ⟨j,p,x,by simpa using a,b,by rw[show i+1+j=i+(j+1) by omega];exact c⟩
theorem vJ {s:Int}{e:Ev}{L:List (List Iv×Rg)}{i:Nat}(h:e∈wA s i L):e.s=s:=by
 obtain⟨j,p,x,_,_,a⟩:=kN.1 h;rcases lH.1 a with rfl|⟨_,rfl⟩<;>rfl
theorem bR3 {a b:Rg}{e:Ev}(h:e.s=0):e∈evs a b↔e∈wA 0 0 a.parts:=by
 unfold evs;rw[List.mem_append];constructor
 . rintro(c|c)
   . exact c
   . have:=vJ c;omega
 . exact .inl
theorem bR2 {a b:Rg}{e:Ev}(h:e.s=1):e∈evs a b↔e∈wA 1 0 b.parts:=by
 unfold evs;rw[List.mem_append];constructor
 . rintro(c|c)
   . have:=vJ c;omega
   . exact c
 . exact .inr
def kS (s:Int) (es:List Ev):Int:=es.foldl (fun c e=>if e.s=s then (if e.e then e.p else -1)else c) (-1)
theorem aC8 (s:Int)(es:List Ev)(e:Ev):kS s (es++[e])=if e.s=s then (if e.e then e.p else -1)else kS s es:=by simp[kS]
theorem zM {α:Type}{P:List α->Prop}(a:P [])(b:∀l x,P l->P (l++[x]))(l:List α):P l:=by
 have:∀r:List α,P r.reverse:=fun r=>by
  induction r with
  |nil=>exact a
  |cons x r ih=>rw[List.reverse_cons];exact b _ _ ih
 have:=this l.reverse
 rwa [List.reverse_reverse]at this
theorem bF3 (s:Int)(es:List Ev):(kS s es = -1/\∀e∈es,e.s≠s)\/∃d e b,es=d++e::b/\e.s=s/\(∀a∈b,a.s≠s)/\kS s es=if e.e then e.p else -1:=by
 refine zM (P:=fun es=>(kS s es = -1/\∀e∈es,e.s≠s)\/∃d e b,es=d++e::b/\e.s=s/\(∀a∈b,a.s≠s)/\kS s es=if e.e then e.p else -1) ?_ ?_ es
 . exact .inl ⟨rfl,fun e h=>by cases h⟩
 . intro es e m;rw[aC8];by_cases c:e.s=s
   . exact .inr ⟨es,e,[],rfl,c,(fun a h=>by cases h),by rw[if_pos c]⟩
   . rw[if_neg c];rcases m with⟨g,i⟩|⟨d,j,b,g,i,k,l⟩
     . refine .inl ⟨g,fun a h=>?_⟩;rcases List.mem_append.1 h with h|h
       . exact i a h
       . rw[List.mem_singleton.1 h];exact c
     . refine .inr ⟨d,j,b++[e],by rw[g];simp,i,fun a h=>?_,l⟩;rcases List.mem_append.1 h with h|h
       . exact k a h
       . rw[List.mem_singleton.1 h];exact c
def kG:List (List Iv×Rg)→Vl→Int
 |[],_ => -1
 |p::L,v=>if eP p.1 v then 0 else if kG L v<0 then -1 else kG L v+1
theorem kO (v:Vl):∀L:List (List Iv×Rg),(kG L v = -1/\∀p∈L,eP p.1 v=false)\/∃(j:Nat) (p:List Iv×Rg),L[j]?=some p/\eP p.1 v=true/\kG L v=(j:Int)/\∀i q,i<j->L[i]?=some q->eP q.1 v=false
 |[]=>.inl ⟨rfl,fun p h=>by cases h⟩
 |
  p::L=>by
  unfold kG;by_cases a:eP p.1 v=true
  . exact .inr ⟨0,p,rfl,a,by rw[if_pos a];rfl,fun i q hi=>by omega⟩
  . rw[if_neg a];have g:eP p.1 v=false:=(by simpa using a);rcases kO v L with⟨e,b⟩|⟨j,q,e,b,m,k⟩
    . rw[if_pos (by omega)];refine .inl ⟨rfl,fun q c=>?_⟩;rcases List.mem_cons.1 c with rfl|c
      . exact g
      . exact b q c
    . rw[if_neg (by omega)];refine .inr ⟨j+1,q,by simpa using e,b,by omega,fun i l hi d=>?_⟩;cases i with
      |zero=>simp only[aL,Option.some.injEq]at d;subst d;exact g
      |succ i=>exact k i l (by omega) (by simpa using d)
theorem bD7 {v:Vl}{L:List (List Iv×Rg)}(k:L.Pairwise (fun p q=>wR p.1 q.1))(n:bT v=true){j:Nat}{p:List Iv×Rg}(b:L[j]?=some p)(a:eP p.1 v=true):kG L v=(j:Int):=by
 rcases kO v L with⟨_,c⟩|⟨i,q,d,c,e,g⟩
 . rw[c p (aJ b)]at a;cases a
 . rw[e];rcases Nat.lt_trichotomy i j with h|h|h
   . have m:j<L.length:=(List.getElem?_eq_some_iff.1 b).1;have l:i<L.length:=(by omega);have:=List.pairwise_iff_getElem.1 k i j l m h v n;rw[(List.getElem?_eq_some_iff.1 d).2,(List.getElem?_eq_some_iff.1 b).2]at this;rw[this c]at a;cases a
   . rw[h]
   . rw[g j p h b]at a;cases a
theorem aU7:∀(l:List Iv) (p:Option Iv),cL p l=true->l.Pairwise (fun x y=>x.o=false/\bZ x.t y.f<0)
 |[],_,_=>List.Pairwise.nil
 |
  x::l,p,h=>by
  rw[gD,aI]at h;refine List.pairwise_cons.2 ⟨fun y b=>?_,aU7 l _ h.2⟩;have c:l.isEmpty=false:=by cases l with|nil=>cases b|cons=>rfl
  have a:=h.1;unfold okI at a;rw[c]at a;refine⟨?_,(kK l (some x) h.2).2.2.2 x rfl y.f ?_⟩
  . cases ho:x.o
    . rfl
    . rw[ho]at a;simp at a
  . clear h a c
    induction l with
    |nil=>cases b
    |
     cons z l ih =>
     unfold cR;rcases List.mem_cons.1 b with rfl|b
     . split<;>simp
     . have:=ih b;split<;>simp[this]
theorem bV1 {l:List Iv}(h:cL none l=true){x y:Iv}(n:x∈l)(q:y∈l){z:Vl}(d:xL x z=true)(e:xL y z=true):x=y:=by
 have s:=aU7 l none h;clear h;unfold xL at d e;simp only[aI,Bool.or_eq_true,decide_eq_true_eq]at d e
 induction l with
 |nil=>cases n
 |
  cons u l ih =>
  have k:=List.pairwise_cons.1 s;have m:∀a b:Iv,(a.o=false/\bZ a.t b.f<0)->(a.o=true\/bZ z a.t<0)->bZ b.f z<=0->False:=fun a b ⟨r,hlt⟩ c h4=>by
   rcases c with c|c
   . rw[r]at c;cases c
   . have:=fQ (cV c hlt) h4;rw[eH]at this;omega
  rcases List.mem_cons.1 n with j|p
  . rcases List.mem_cons.1 q with g|i
    . rw[j,g]
    . exact(m u y (k.1 y i) (j ▸ d.2) e.1).elim
  . rcases List.mem_cons.1 q with g|i
    . exact(m u x (k.1 x p) (g ▸ e.2) d.1).elim
    . exact ih p i k.2
theorem bJ9 {l:List Iv}(h:cL none l=true){x:Iv}(a:x∈l)(c:x.o=false):bZ x.f x.t<0:=by
 have:∀(l:List Iv) (p:Option Iv),cL p l=true->x∈l->bZ x.f x.t<0:=by
  intro l
  induction l with
  |nil=>intro p _ a;cases a
  |
   cons u l ih =>
   intro p h a;rw[gD,aI]at h;rcases List.mem_cons.1 a with rfl|a
   . have b:=h.1;unfold okI at b;rw[c]at b;simp only[Bool.false_eq_true,if_false,aI,decide_eq_true_eq]at b;exact b.2.2
   . exact ih _ h.2 a
 exact this l none h a
theorem vC {l:List Iv}{v:Vl}:eP l v=true↔∃x∈l,xL x v=true:=by unfold eP;exact List.any_eq_true
theorem pI {x:Iv}{v:Vl}:xL x v=true↔bZ x.f v<=0/\(x.o=true\/bZ v x.t<0):=by
 unfold xL;simp only[aI,Bool.or_eq_true,decide_eq_true_eq]
theorem aP0 {a b:Ev}(h:¬sQ b a<0):bZ a.v b.v<=0/\(a.v=b.v->a.e=true->b.e=true):=by
 have g:=dD a.v b.v;unfold sQ at h;by_cases c:bZ b.v a.v=0
 . rw[if_neg (by omega)]at h;refine⟨by omega,fun _ d=>?_⟩;cases hb:b.e
   . rw[d,hb]at h;simp at h
   . rfl
 . rw[if_pos c]at h;refine⟨by omega,fun e=>?_⟩;rw[e,eH]at c;omega
theorem bK8 {s:Int}{L:List (List Iv×Rg)}{es rest:List Ev}{p:Vl}(F:qF (es++rest))(N:∀e:Ev,e.s=s->(e∈es++rest↔e∈wA s 0 L))
 (M:∀e∈es,bZ e.v p<=0)(a0:∀e∈rest,bZ p e.v<0)(J:∀q∈L,cL none q.1=true)(A:L.Pairwise (fun p q=>wR p.1 q.1))(a7:bT p=true):kS s es=kG L p:=by
 have D:∀e:Ev,e.s=s->e∈wA s 0 L->bZ e.v p<=0->e∈es:=fun e a5 Y b3=>by
  rcases List.mem_append.1 ((N e a5).2 Y)with h|h
  . exact h
  . have:=a0 e h;have:=dD p e.v;omega
 rcases bF3 s es with⟨g,n⟩|⟨b5,e,b4,g,n,V,W⟩
 . rw[g];rcases kO p L with⟨a,_⟩|⟨j,q,a,b,_,_⟩
   . exact a.symm
   . obtain⟨x,a8,b0⟩:=vC.1 b;have a9:=(pI.1 b0).1;exact absurd rfl (n ⟨x.f,s,((0+j:Nat):Int),true⟩ (D _ rfl (kN.2 ⟨j,q,x,a,a8,lH.2 (.inl rfl)⟩) a9))
 . rw[W];have B:e∈es:=(by rw[g];simp);obtain⟨j,q,x,a,b,k3⟩:=kN.1 ((N e n).1 (List.mem_append_left _ B));have l:=J q (aJ a);have O:∀d:Ev,d∈es->d.s=s->d≠e->¬sQ e d<0:=fun d K a6 a3=>by
    rw[g]at K;rcases List.mem_append.1 K with h|h
    . unfold qF at F;rw[g,cH]at F;exact(List.pairwise_append.1 F).2.2 d h e (by simp)
    . rcases List.mem_cons.1 h with h|h
      . exact absurd h a3
      . exact absurd a6 (V d h)
   rcases lH.1 k3 with rfl|⟨k,rfl⟩
   . simp only[if_true];have C:bZ x.f p<=0:=M _ B;have hi:xL x p=true:=by
      refine pI.2 ⟨C,?_⟩;cases k:x.o
      . right;rcases cD (bZ p x.t) 0 with h|h
        . exact h
        . exfalso;have a2:bZ x.t p<=0:=(by have:=dD p x.t;omega);have E:=D ⟨x.t,s,((0+j:Nat):Int),false⟩ rfl (kN.2 ⟨j,q,x,a,b,lH.2 (.inr ⟨k,rfl⟩)⟩) a2;have:=(aP0 (O _ E rfl (by simp))).1;have r:=bJ9 l b k;have u:=dD x.f x.t;simp only at this;omega
      . exact .inl rfl
     rw[bD7 A a7 a (vC.2 ⟨x,b,hi⟩)];simp
   . simp only[Bool.false_eq_true,if_false];have C:bZ x.t p<=0:=M _ B;rcases kO p L with⟨c,_⟩|⟨i,T,c,k5,_,_⟩
     . exact c.symm
     . exfalso;obtain⟨y,m,b2⟩:=vC.1 k5;have G:=pI.1 b2;have a4:=J T (aJ c);have E:=D ⟨y.f,s,((0+i:Nat):Int),true⟩ rfl (kN.2 ⟨i,T,y,c,m,lH.2 (.inl rfl)⟩) G.1;have r:=aP0 (O _ E rfl (by simp));simp only at r;have u:bZ y.f x.t<0:=by
        rcases cD (bZ y.f x.t) 0 with h|h
        . exact h
        . have U:y.f=x.t:=(gI _ _).1 (by omega);have:=r.2 U trivial;cases this
       have I:=bJ9 l b k;have P:∀z,bZ z x.t<0->(y.o=true\/bZ z y.t<0):=fun z H=>by
        rcases G.2 with h|h
        . exact .inl h
        . exact .inr (cV (fQ H C) h)
       have H:∃z,bT z=true/\xL x z=true/\xL y z=true:=by
        rcases cD 0 (bZ x.f y.f)with h|h
        . have X:bZ y.f x.f<=0:=(by have:=dD x.f y.f;omega);exact⟨x.f,(qL _ _ l x b).1,pI.2 ⟨by rw[eH];omega,.inr I⟩,pI.2 ⟨X,P _ I⟩⟩
        . exact⟨y.f,(qL _ _ a4 y m).1,pI.2 ⟨h,.inr u⟩,pI.2 ⟨by rw[eH];omega,P _ u⟩⟩
       obtain⟨z,Q,R,S⟩:=H;have e1:=bD7 A Q a (vC.2 ⟨x,b,R⟩);have e2:=bD7 A Q c (vC.2 ⟨y,m,S⟩);have a1:i=j:=(by omega);subst a1;rw[a]at c;injection c with c;subst c;have b1:=bV1 l b m R S;subst b1;rcases G.2 with h|h
       . rw[k]at h;cases h
       . have:=dD p x.t;omega
theorem rest_at {n:Nat}{r:Rg}(k:r.w=((n+1:Nat):Int))(v:Vl):fU r (kG r.parts v)=r.at_ (n:Int) v:=by
 have l:∀r:Rg,∀w:Int,(match r.parts[(kG r.parts v).toNat]? with|some p=>p.2|none=>cQ)=r.at_ (n:Int) v\/(kG r.parts v<0/\r.at_ (n:Int) v=.nil (n:Int) false):=by
  intro r w
  induction r with
  |nil=>right;exact⟨by simp[parts,kG],rfl⟩
  |
   cons vs rest tail _ a =>
   simp only[parts,kG,Rg.at_];by_cases e:eP vs v=true
   . left;simp[e]
   . rw[if_neg e,if_neg e];rcases cD (kG tail.parts v) 0 with h|h
     . rw[if_pos h];right;refine⟨by omega,?_⟩;rcases a with a|a
       . rcases lJ (n:Int) v tail with⟨p,g,c,_⟩|⟨b,_⟩
         . rcases kO v tail.parts with⟨_,d⟩|⟨j,_,_,_,i,_⟩
           . rw[d p g]at c;cases c
           . omega
         . exact b
       . exact a.2
     . rw[if_neg (by omega)];left;rcases a with a|a
       . rw[<- a];have:(kG tail.parts v+1).toNat=(kG tail.parts v).toNat+1:=(by omega);rw[this,List.getElem?_cons_succ]
       . omega
 unfold fU;rcases cD (kG r.parts v) 0 with h|h
 . rw[if_pos h];rcases lJ (n:Int) v r with⟨p,g,c,_⟩|⟨b,_⟩
   . rcases kO v r.parts with⟨_,d⟩|⟨j,_,_,_,i,_⟩
     . rw[d p g]at c;cases c
     . omega
   . rw[b,k];congr 1;omega
 . rw[if_neg (by omega)];rcases l r 0 with b|b
   . exact b
   . omega
end
end Go.Proofs.YtnnmlhmffnfjfaaGreat
