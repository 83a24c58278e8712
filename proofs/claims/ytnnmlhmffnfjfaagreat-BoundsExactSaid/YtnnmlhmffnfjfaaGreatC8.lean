/- Texts on which the walk stands. -/
import Derived.Test.YtnnmlhmffnfjfaaGreatC7
import Derived.Maps.OwnOps
import Derived.Maps.RangeWalk
import Derived.Deep.DeepCutAuto
open Go renaming wpQuiet_nil → aA, bodyPost_ret → aF
open Go.RowKit.Below renaming refl → aB
open Nat renaming le_refl → aD
open List renaming mem_of_getElem? → aJ, flatMap_append → aP, mem_cons_of_mem → aS, mem_singleton → bU
open Go.World renaming size_alloc → aX
set_option maxHeartbeats 8000000
set_option linter.unusedVariables false
set_option maxRecDepth 100000
namespace Go.Proofs.YtnnmlhmffnfjfaaGreat
open Go.RowKit
open Rg
abbrev opV (tb tl tr:Bool):Value:=.func (.func 161) #[.agg #[.bool tb,.bool tl,.bool tr]] #[]
def CombRes (w:World) (r:Rg) (e:Ending) (w':World):Prop :=
 ∃(x:Int) (f:Bool) (A:Option Addr) (n c:Nat) (ok:Bool),e=.returned (.tuple #[.agg #[.int .i64 x,.bool f,.slice A n c],.bool ok])∧(ok=true↔dP r)∧(ok=true→uB w.heap.size w'.heap.size w' x f A n c r)∧Below w.heap.size w w'
def bA2 (N:Nat) (tb tl tr:Bool):Prop:=∀(a b:Rg) (xa:Int) (fa:Bool) (Aa:Option Addr) (na ca:Nat) (xb:Int) (fb:Bool) (Ab:Option Addr) (nb cb:Nat) (w:World),
 RgS w xa fa Aa na ca a→RgS w xb fb Ab nb cb b→eI N a→eI N b→kD a→kD b→dP a→dP b →
 Calls Tryz.prog 160 #[.agg #[.int .i64 xa,.bool fa,.slice Aa na ca],.agg #[.int .i64 xb,.bool fb,.slice Ab nb cb],opV tb tl tr] w fun e w'=>CombRes w (comb (uX tb tl tr) N a b) e w'
structure GC where
 N:Nat
 a:Rg
 b:Rg
 xa:Int
 fa:Bool
 Aa:Option Addr
 na:Nat
 ca:Nat
 xb:Int
 fb:Bool
 Ab:Option Addr
 nb:Nat
 cb:Nat
 tb:Bool
 tl:Bool
 tr:Bool
 w0:World
 B:Nat
def GC.h (g:GC):Nat:=g.w0.heap.size
def GC.op (g:GC):Bool→Bool→Bool:=uX g.tb g.tl g.tr
def GC.ro (g:GC) (k:Int×Int):Rg:=comb g.op g.N (fU g.a k.1) (fU g.b k.2)
structure GC.Good (g:GC):Prop where
 ra:RgS g.w0 g.xa g.fa g.Aa g.na g.ca g.a
 rb:RgS g.w0 g.xb g.fb g.Ab g.nb g.cb g.b
 fa:eI (g.N+1) g.a
 fb:eI (g.N+1) g.b
 wa:kD g.a
 wb:kD g.b
 ia:dP g.a
 ib:dP g.b
 n12:g.N+1≤12
theorem uR {n:Nat}{r:Rg}(b:eI (n+1) r)(d:kD r)(hi:dP r)(i:Int)(g : -1<=i)(j:i<(r.len:Int)):eI n (fU r i)/\kD (fU r i)/\dP (fU r i):=by
 unfold fU;rcases Int.lt_or_le i 0 with h|h
 . rw[if_pos h];have e:r.w-1=(n:Int):=(by rw[b.1];omega);rw[e];exact⟨vF n,trivial,by simp[Rg.size],rfl⟩
 . rw[if_neg (by omega)];have c:i.toNat<r.parts.length:=(by rw[cI];omega);rw[List.getElem?_eq_getElem c];dsimp only;have a:=List.getElem_mem c;have k:=uJ a;exact⟨(b.2.2.1 _ a).2.2.1,(d.mem a).2,by have:=hi.1;omega,(lV hi.2 a).2⟩
theorem GC.ro_ok {g:GC}(a:g.Good){i k:Int}(hi : -1<=i/\i<(g.na:Int))(b : -1<=k/\k<(g.nb:Int)):eI g.N (g.ro (i,k))/\kD (g.ro (i,k)):=by
 obtain⟨c,d,_⟩:=uR a.fa a.wa a.ia i hi.1 (by rw[<- a.ra.len];exact hi.2);obtain⟨e,j,_⟩:=uR a.fb a.wb a.ib k b.1 (by rw[<- a.rb.len];exact b.2);exact⟨lC _ _ _ _ c e,aO7 _ _ _ _ d j⟩
structure GF (g:GC) (w:World):Prop where
 bel:Below g.h g.w0 w
 ba:aT w (g.h+4) 71 #[.int .i64 g.xa,.bool g.fa,.slice g.Aa g.na g.ca]
 bb:aT w (g.h+5) 71 #[.int .i64 g.xb,.bool g.fb,.slice g.Ab g.nb g.cb]
 bp:aT w (g.h+6) 222 #[.pointer (some ⟨g.h+3,0,none⟩)]
 bo:aT w (g.h+7) 199 #[opV g.tb g.tl g.tr]
 bk:aT w (g.h+9) 257 #[.map (some (g.h+8))]
 bc:aT w (g.h+11) 258 #[.map (some (g.h+10))]
 hB:g.h+13≤g.B∧g.B≤w.heap.size
def GC.may (g:GC) (q:Nat):Prop:=q=g.h+8∨q=g.h+10∨q=g.h+12∨q=g.h+3∨g.B≤q
theorem GF.but {g:GC}{w c:World}{S:Nat->Prop}(h:GF g w)(hb:But S w c)(b:∀q,S q->g.may q):GF g c:=by
 have a:=h.hB;have n:∀q,¬g.may q->¬S q:=fun q i j=>i (b q j);refine⟨hb.below h.bel h.bel.size (fun k e=>?_),h.ba.but hb (n _ ?_),h.bb.but hb (n _ ?_),h.bp.but hb (n _ ?_),h.bo.but hb (n _ ?_),h.bk.but hb (n _ ?_),h.bc.but hb (n _ ?_),⟨a.1,Nat.le_trans a.2 hb.size⟩⟩
 . have d:=b k e;unfold GC.may at d;omega
 all_goals
  unfold GC.may;omega
theorem GF.below {g:GC}{w a:World}(h:GF g w)(hb:Below w w a):GF g a:=h.but (S:=fun _=>False) (But.of_below hb) (fun _ h=>h.elim)
structure GS (g:GC) (w:World) (A:Option Addr) (n c:Nat) (ms:List PM) (nk:Nat) (K1:Int×Int→Option Int) (K2:ByteArray→Option Int):Prop where
 fx:GF g w
 km:fW w 225 kv2 (g.h+8) nk K1
 cm:fW w 9 Value.string (g.h+10) n K2
 tot:aT w (g.h+12) 3 #[.int .i64 (eB (ms.map PM.pr):Nat)]
 out:aT w (g.h+3) 71 #[.int .i64 ((g.N+1:Nat):Int),.bool false,.slice A n c]
 parts:PartsIn g.B w A n c ms
 k1:∀ k z,K1 k=some z→z=iV (ms.map PM.r) (g.ro k)∧((g.ro k).nix=true∨g.ro k∈ms.map PM.r)
 k2:∀ s,eI g.N s→kD s→dP s→K2 (oK s)=if s∈ms.map PM.r then some (iV (ms.map PM.r) s) else none
 good:∀ m∈ms,eI g.N m.r∧kD m.r∧dP m.r∧m.r.nix=false
 size:eB (ms.map PM.pr)≤64
 nodup:(ms.map PM.r).Nodup
def GC.S (g:GC) (A:Option Addr) (n c:Nat) (q:Nat):Prop:=q=g.h+8∨q=g.h+10∨q=g.h+12∨q=g.h+3∨(Value.slice A n c).ownBlock=some q
theorem GS.below {g:GC}{w e:World}{A:Option Addr}{n c:Nat}{ms:List PM}{d:Nat}{a:Int×Int->Option Int}{b:ByteArray->Option Int}(h:GS g w A n c ms d a b)(hb:Below w w e):GS g e A n c ms d a b :=
 ⟨h.fx.below hb,h.km.below hb,h.cm.below hb,h.tot.below hb,h.out.below hb,h.parts.below hb,h.k1,h.k2,h.good,h.size,h.nodup⟩
theorem GS.known {g:GC}{w j:World}{A:Option Addr}{n c:Nat}{ms:List PM}{u o:Nat}{i:Int×Int->Option Int}{m:ByteArray->Option Int}(h:GS g w A n c ms u i m)(hb:But (· = g.h+8) w j){d:Int×Int}{l:Int}
 (p:fW j 225 kv2 (g.h+8) o (fun b=>if b=d then some l else i b))(t:l=iV (ms.map PM.r) (g.ro d)/\((g.ro d).nix=true\/g.ro d∈ms.map PM.r)):GS g j A n c ms o (fun b=>if b=d then some l else i b) m:=by
 have v:=h.fx.hB;refine⟨h.fx.but hb (fun q s=>.inl s),p,h.cm.but hb (by omega),h.tot.but hb (by omega),h.out.but hb (by omega),h.parts.but hb (fun k a=>by omega),fun k z a=>?_,h.k2,h.good,h.size,h.nodup⟩;split at a
 . rename_i e;injection a with a;rw[<- a,e];exact t
 . exact h.k1 k z a
theorem aW3 {U:List Rg}{r:Rg}(a:r∉U)(s:Rg)(b:s≠r):iV (U++[r]) s=iV U s:=by
 induction U with
 |nil=>simp[iV,Ne.symm b]
 |
  cons x U ih =>
  rw[List.cons_append];unfold iV;rw[ih (fun h=>a (aS _ h))]
theorem wN {U:List Rg}{r:Rg}(a:r∉U):iV (U++[r]) r=(U.length:Int):=by
 induction U with
 |nil=>simp[iV]
 |
  cons x U ih =>
  have b:=ih (fun h=>a (aS _ h));rw[List.cons_append];unfold iV;rw[b,if_neg (fun e=>a (by rw[e];exact List.mem_cons_self)),if_neg (by omega),List.length_cons];omega
theorem GS.added {g:GC}{w j:World}{A A':Option Addr}{n c c':Nat}{ms:List PM}{y:Nat}{t:Int×Int->Option Int}{u:ByteArray->Option Int}(h:GS g w A n c ms y t u){m:PM}{d:Rg}(x:m.r=d)
 (G:eI g.N d)(H:kD d)(hi:dP d)(I:d.nix=false)(o:d∉ms.map PM.r)(T:eB (ms.map PM.pr)+(1+d.size)<=64)
 (M:GF g j)(P:fW j 225 kv2 (g.h+8) y t)(L:fW j 9 Value.string (g.h+10) (n+1) (fun p=>if p=oK d then some (n:Int)else u p))
 (U:aT j (g.h+12) 3 #[.int .i64 ((eB (ms.map PM.pr)+(1+d.size):Nat):Int)])(R:aT j (g.h+3) 71 #[.int .i64 ((g.N+1:Nat):Int),zF,.slice A' (n+1) c'])
 (S:PartsIn g.B j A' (n+1) c' (ms++[m])):GS g j A' (n+1) c' (ms++[m]) y t (fun p=>if p=oK d then some (n:Int)else u p):=by
 have v:(ms++[m]).map PM.r=ms.map PM.r++[d]:=by rw[List.map_append,List.map_cons,List.map_nil,x]
 have F:eB ((ms++[m]).map PM.pr)=eB (ms.map PM.pr)+(1+d.size):=by rw[List.map_append,uK,List.map_cons,List.map_nil,tF];show _+(1+m.r.size+0)=_;rw[x];omega
 refine⟨M,P,L,by rw[F];exact U,R,S,fun k z O=>?_,fun s C D E=>?_,fun V l=>?_,by rw[F];exact T,?_⟩
 . obtain⟨J,i⟩:=h.k1 k z O;rw[v];have Q:g.ro k≠d:=fun e=>by
    rcases i with i|i
    . rw[e,I]at i;cases i
    . rw[e]at i;exact o i
   refine⟨by rw[aW3 o _ Q];exact J,i.imp id (fun h=>List.mem_append_left _ h)⟩
 . rw[v];by_cases e:s=d
   . subst e;rw[if_pos rfl,if_pos (by simp),wN o,List.length_map,h.parts.len]
   . rw[if_neg (fun hc=>e (bS0 C G D H E hi hc)),h.k2 s C D E,aW3 o _ e];by_cases q:s∈ms.map PM.r
     . rw[if_pos q,if_pos (List.mem_append_left _ q)]
     . rw[if_neg q,if_neg (by simp only[List.mem_append,bU,not_or];exact⟨q,e⟩)]
 . rcases List.mem_append.1 l with l|l
   . exact h.good V l
   . rw[bU]at l;subst l;rw[x];exact⟨G,H,hi,I⟩
 . rw[v];exact List.nodup_append.2 ⟨h.nodup,by simp,fun a K b hb=>by rw[bU]at hb;subst hb;exact fun e=>o (e ▸ K)⟩
theorem aN8:(Tryz.prog.info? 141).map (fun i=>(i.zero,i.size,i.bytes))=some (some (.agg #[.slice none 0 0,.int .i64 0,.bool false,.slice none 0 0]),4,64):=by kernel_rfl
theorem map_ne {κ:Type}{w:World}{c:TypeId}{d:κ->Value}{b n G:Nat}{M:κ->Option Int}{T:TypeId}{cs:Array Value}(h:fW w c d b n M)(a:aT w G T cs):G≠b:=fun e=>by
 subst e;exact h.norow cs T (0,0) a
def GFail (g:GC) (ms:List PM) (r:Rg):Prop:=¬dP r∨(r.nix=false∧r∉ms.map PM.r∧64<eB (ms.map PM.pr)+(1+r.size))
def GRes (g:GC) (A:Option Addr) (n c:Nat) (ms:List PM) (nk:Nat) (w:World) (r:Rg) (e:Ending) (w':World):Prop :=
 ∃
  (now:Int) (ok:Bool),e=.returned (.tuple #[.int .i64 now,.bool ok])∧But (g.S A n c) w w'∧(ok=false→GFail g ms r) ∧
  (ok=true→∃(A':Option Addr) (n' c':Nat) (ms':List PM) (K1':Int×Int→Option Int) (K2':ByteArray→Option Int),GS g w' A' n' c' ms' (nk+1) K1' K2'∧ms'.map PM.pr=gK (ms.map PM.pr) r∧now=iV (ms'.map PM.r) r ∧
   ((Value.slice A' n' c').ownBlock=(Value.slice A n c).ownBlock∨∃q,(Value.slice A' n' c').ownBlock=some q∧w.heap.size≤q))
theorem But.wide {S a:Nat->Prop}{w b:World}(h:But S w b)(g:∀k,S k->a k):But a w b:=⟨h.os,h.tape,h.output,h.size,fun k d e=>h.block k d (fun c=>e (g k c))⟩
theorem zW (ms:List PM):(ms.map PM.pr).map (·.2)=ms.map PM.r:=by rw[List.map_map];rfl
set_option maxRecDepth 100000 in
theorem bP8 (g:GC)(hg:g.Good)(ih:bA2 g.N g.tb g.tl g.tr)(w:World)(A:Option Addr)(n c:Nat)(ms:List PM)(nk:Nat)(K1:Int×Int->Option Int)(K2:ByteArray->Option Int)(j2:GS g w A n c ms nk K1 K2)(D3:nk<=100000)
 (i k:Int)(hi : -1<=i/\i<(g.na:Int))(hk : -1<=k/\k<(g.nb:Int))(D1:g.na<=64)(D2:g.nb<=64) :
 Calls Tryz.prog 241 #[.agg #[.int .i64 i,.int .i64 k],.pointer (some ⟨g.h+9,0,none⟩),.pointer (some ⟨g.h+4,0,none⟩),.pointer (some ⟨g.h+5,0,none⟩),.pointer (some ⟨g.h+7,0,none⟩),.pointer (some ⟨g.h+11,0,none⟩),.pointer (some ⟨g.h+12,0,none⟩),.pointer (some ⟨g.h+6,0,none⟩)] w
  fun e w'=>GRes g A n c ms nk w (g.ro (i,k)) e w':=by
 obtain⟨f3,w0⟩:=key2 i k (by omega) (by omega);obtain⟨l,a2⟩:=zE (g.ro (i,k));have p5:=GC.ro_ok hg hi hk;rw[a2.out]at p5 ⊢;have b9:=Z p5;have J:=Z hg;have i4:=Z ih;have e2:=Z w0;obtain⟨B4,n4⟩:=zE (K1 (i,k));have f7:Hid (Below w.heap.size w (w.alloc (.cells #[.int .i64 i,.int .i64 k] 225))):=Z ((aB _ _).alloc (aD _) _);have i6:Hid (aT (w.alloc (.cells #[.int .i64 i,.int .i64 k] 225)) w.heap.size 225 #[.int .i64 i,.int .i64 k]):=Z (aT.new _ _ _);have L:=Z (j2.below f7.out);have hlt:g.h+13<=w.heap.size:=by have:=j2.fx.hB;omega
 have C5:g.B<=w.heap.size:=j2.fx.hB.2;have f1:=L.out.fx.bk.cell;clear hg ih j2 p5 w0;cases B4 with
 |
  some z =>
  go_enter Tryz.func241,Tryz.ntmps241;go_wp2_with (at_lookup;refine jS (P:=Tryz.prog) rfl (by rfl) _ _ _ (by rfl) wL Tryz.underlying257 (by rfl) L.out.km (i,k) f3 (by rfl) e2.out ?_;rw[n4.out]);refine aF (v:=.tuple #[.int .i64 z,.bool true]) (by simp[results,Tryz.results241,go_sem]) rfl ?_;have h1:=L.out.k1 _ _ n4.out;rw[a2.out]at h1;refine⟨z,true,rfl,But.of_below f7.out,(fun h=>by cases h),fun _=>⟨A,n,c,ms,K1,K2,?_,?_,h1.1,.inl rfl⟩⟩
  . have h2:=L.out;exact { h2 with km:=h2.km.mono (Nat.le_succ _) }
  . unfold gK;rw[zW];rcases h1.2 with e|e
    . simp[e]
    . simp[e]
 |
  none =>
  go_enter Tryz.func241,Tryz.ntmps241;go_upto_region 4 with(at_lookup;refine jS (P:=Tryz.prog) rfl (by rfl) _ _ _ (by rfl) wL Tryz.underlying257 (by rfl) L.out.km (i,k) f3 (by rfl) e2.out ?_;rw[n4.out]);go_cut [13,14] (fun s t w2=>∃(G:Nat) (ok:Bool) (x:Int) (f:Bool) (A2:Option Addr) (n2 c2:Nat) (lo hi:Nat),s=.pointer (some ⟨G,0,none⟩)/\t=.bool ok/\aT w2 G 71 #[.int .i64 x,.bool f,.slice A2 n2 c2]/\(ok=true↔dP l)/\(ok=true->uB lo hi w2 x f A2 n2 c2 l)/\w.heap.size<lo/\hi<=w2.heap.size/\Below (w.heap.size+1) (w.alloc (.cells #[.int .i64 i,.int .i64 k] 225)) w2);case first =>
   obtain⟨W,e3⟩:∃W:World,Hid (w.alloc (.cells #[.int .i64 i,.int .i64 k] 225)=W):=⟨_,rfl⟩;have u7:W.heap.size=w.heap.size+1:=(by rw[<- e3.out,aX]);rw[e3.out]at L f7 i6 ⊢;have t3:=Z (J.out.ra.keep (aC L.out.fx.bel));have n7:=Z (J.out.rb.keep (aC L.out.fx.bel));have X:=Z (uR J.out.fa J.out.wa J.out.ia i hi.1 (by rw[<- J.out.ra.len];exact hi.2));have Y:=Z (uR J.out.fb J.out.wb J.out.ib k hk.1 (by rw[<- J.out.rb.len];exact hk.2));have i8:Hid (comb (uX g.tb g.tl g.tr) g.N (fU g.a i) (fU g.b k)=l):=Z a2.out;have t2:Hid (0<=g.xa/\g.xa<=12):=Z (by have h1:=J.out.ra.hw;have h2:=J.out.fa.1;have h3:=J.out.n12;omega);have n6:Hid (0<=g.xb/\g.xb<=12):=Z (by have h1:=J.out.rb.hw;have h2:=J.out.fb.1;have h3:=J.out.n12;omega);have E3:∀(x:LaterS (fun q=>W.heap.size<=q) W.drew) j,(dG (fun q=>W.heap.size<=q) W.drew x).cell? ⟨g.h+4,j,none⟩=(#[.int .i64 g.xa,.bool g.fa,.slice g.Aa g.na g.ca]:Array Value)[j]?:=fun x j=>(L.out.fx.ba.drew.but x.but (by omega)).cell j;have E4:∀(x:LaterS (fun q=>W.heap.size<=q) W.drew) j,(dG (fun q=>W.heap.size<=q) W.drew x).cell? ⟨g.h+5,j,none⟩=(#[.int .i64 g.xb,.bool g.fb,.slice g.Ab g.nb g.cb]:Array Value)[j]?:=fun x j=>(L.out.fx.bb.drew.but x.but (by omega)).cell j;have E5:∀(x:LaterS (fun q=>W.heap.size<=q) W.drew) j,(dG (fun q=>W.heap.size<=q) W.drew x).cell? ⟨g.h+7,j,none⟩=(#[opV g.tb g.tl g.tr]:Array Value)[j]?:=fun x j=>(L.out.fx.bo.drew.but x.but (by omega)).cell j;have E6:∀(x:LaterS (fun q=>W.heap.size<=q) W.drew) j,(dG (fun q=>W.heap.size<=q) W.drew x).cell? ⟨w.heap.size,j,none⟩=(#[.int .i64 i,.int .i64 k]:Array Value)[j]?:=fun x j=>(i6.out.drew.but x.but (by omega)).cell j;have V:=Z u7;clear u7
   -- ORDERS BEGIN
   refine bQ (fun q=>W.heap.size<=q) (.two [0,1,2,4,5,6,8] 3 (.two [] 7 (.two [] 9 (.one [10,11,12] 13 (.one [] 14 (.last [15]))) 13 (.one [] 9 (.one [10,11,12] 14 (.last [15])))) 13 (.one [] 7 (.one [] 9 (.one [10,11,12] 14 (.last [15]))))) 13 (.one [] 3 (.one [] 7 (.one [] 9 (.one [10,11,12] 14 (.last [15])))))) ?_;have g6:Below W.heap.size W W.drew:=(aB _ _).drew;have c4:W.drew.heap.size=W.heap.size:=rfl;generalize z7:W.drew=o at *;clear z7;have U:=Z c4;clear c4;unfold bB;simp only[cP];repeat(go_big_quiet_step (fail))
   refine aA ⟨?_,?_⟩
   . go_wp2_with fail;refine(mS g.a g.xa g.fa g.Aa g.na g.ca i _ (t3.out.keep (aC g6)) hi.2 hi.1 t2.out).mono ?_;rintro e b8 ⟨i0,g3,f6,h9,g1,rfl,g8,v0⟩;have E:=Z g8;have g4:=cC1 g6 v0;clear g8;go_wp2_with fail;refine⟨But.of_below v0,?_⟩;unfold bB;simp only[cP];repeat(go_big_quiet_step (fail))
     refine aA ⟨?_,?_⟩
     . go_wp2_with fail;refine(mS g.b g.xb g.fb g.Ab g.nb g.cb k _ (n7.out.keep (aC g4)) hk.2 hk.1 n6.out).mono ?_;rintro e b0 ⟨f5,e7,d8,f4,e6,rfl,c3,o6⟩;replace E:=Z (E.out.keep (aC o6));have Q:=Z c3;have g5:=cC1 g4 o6;clear c3;go_wp2_with fail;refine⟨But.of_below o6,?_⟩;unfold bB;simp only[cP];repeat(go_big_quiet_step (fail))
       refine aA ⟨?_,?_⟩
       . go_wp2_with fail;refine(i4.out (fU g.a i) (fU g.b k) i0 g3 f6 h9 g1 f5 e7 d8 f4 e6 _ E.out Q.out X.out.1 Y.out.1 X.out.2.1 Y.out.2.1 X.out.2.2 Y.out.2.2).mono ?_;rintro e b1 ⟨x,f,A2,n2,c2,ok,rfl,I,H,o7⟩;rw[i8.out]at I H;have o3:=cC1 g5 o7;have a1:=Z I;have R:=Z H;have k3:=g5.size;have k0:=o7.size;clear I H E Q;go_wp2_with fail;refine⟨But.of_below o7,?_⟩;unfold bB;simp only[cP];repeat(go_big_quiet_step (fail))
         refine aA ?_;go_wp2_with fail;refine⟨But.alloc _ _,?_⟩;replace R:=Z (fun h=>(R.out h).keep fun q h1 h2=>Below.heap_alloc _ (.cells #[.int .i64 0,.bool false,.slice none 0 0] 71) _ h2);have d:=Z (aT.new b1 71 #[.int .i64 0,.bool false,.slice none 0 0]);have z2:=o3.alloc o3.size (.cells #[.int .i64 0,.bool false,.slice none 0 0] 71);have d3:=o3.size;have o4:b1.heap.size<(b1.alloc (.cells #[.int .i64 0,.bool false,.slice none 0 0] 71)).heap.size:=d.out.lt;generalize hWN:b1.alloc (.cells #[.int .i64 0,.bool false,.slice none 0 0] 71)=d2 at *;clear hWN;unfold bB;simp only[cP];repeat(go_big_quiet_step (fail))
         refine aA ?_;have p8:=d.out.cell;obtain⟨n9,o0,o1⟩:=bF d.out (.int .i64 x) (.bool f);go_wp2_with fail;refine⟨(bJ d2 b1.heap.size (.int .i64 x) (.bool f) (.slice A2 n2 c2)).wide (fun q hq=>by subst hq;exact d3),?_⟩;unfold bB;simp only[cP];repeat(go_big_quiet_step (fail))
         refine aA ?_;go_wp2_with fail;go_meet;case rel =>
          refine⟨b1.heap.size,ok,x,f,A2,n2,c2,(b0).heap.size,b1.heap.size,rfl,rfl,bY d.out,a1.out,fun h=>(R.out h).keep fun q h1 h2=>?_,?_,?_,?_⟩
          . exact(bJ d2 b1.heap.size (.int .i64 x) (.bool f) (.slice A2 n2 c2)).block q (by first|omega|(simp only[aX];omega)) (by show ¬q=_;first|omega|(simp only[aX]at h1 e8;omega))
          . have:=V.out;have:=U.out;omega
          . have:=kW d2 b1.heap.size (.int .i64 x) (.bool f) (.slice A2 n2 c2);show _<=(cO _ _ _ _ _).heap.size;omega
          . rw[e3.out];exact bD (base:=w.heap.size+1) (B:=b1.heap.size) (z2.mono (by have:=V.out;have:=U.out;omega)) (by have:=V.out;have:=U.out;omega) _ _ _
       . go_wp2_with fail;refine⟨But.alloc _ _,?_⟩;replace E:=Z (E.out.keep (aM _ (.cells #[.int .i64 0,.bool false,.slice none 0 0] 71)));replace Q:=Z (Q.out.keep (aM _ (.cells #[.int .i64 0,.bool false,.slice none 0 0] 71)));have d:=Z (aT.new b0 71 #[.int .i64 0,.bool false,.slice none 0 0]);have t8:=g5.alloc g5.size (.cells #[.int .i64 0,.bool false,.slice none 0 0] 71);have d3:=g5.size;have o4:b0.heap.size<(b0.alloc (.cells #[.int .i64 0,.bool false,.slice none 0 0] 71)).heap.size:=d.out.lt;generalize hWN:b0.alloc (.cells #[.int .i64 0,.bool false,.slice none 0 0] 71)=d2 at *;clear hWN;unfold bB;simp only[cP];repeat(go_big_quiet_step (fail))
         refine aA ?_;go_wp2_with fail;refine(i4.out (fU g.a i) (fU g.b k) i0 g3 f6 h9 g1 f5 e7 d8 f4 e6 _ E.out Q.out X.out.1 Y.out.1 X.out.2.1 Y.out.2.1 X.out.2.2 Y.out.2.2).mono ?_;rintro e k6 ⟨x,f,A2,n2,c2,ok,rfl,I,H,j4⟩;rw[i8.out]at I H;have e8:=d.out.lt;replace d:=Z (d.out.below j4);have z3:=cC1 t8 j4;have a1:=Z I;have R:=Z H;have k3:=t8.size;have k0:=j4.size;clear I H E Q;go_wp2_with fail;refine⟨But.of_below j4,?_⟩;unfold bB;simp only[cP];repeat(go_big_quiet_step (fail))
         refine aA ?_;have p8:=d.out.cell;obtain⟨n9,o0,o1⟩:=bF d.out (.int .i64 x) (.bool f);go_wp2_with fail;refine⟨(bJ k6 b0.heap.size (.int .i64 x) (.bool f) (.slice A2 n2 c2)).wide (fun q hq=>by subst hq;exact d3),?_⟩;unfold bB;simp only[cP];repeat(go_big_quiet_step (fail))
         refine aA ?_;go_wp2_with fail;go_meet;case rel =>
          refine⟨b0.heap.size,ok,x,f,A2,n2,c2,(d2).heap.size,k6.heap.size,rfl,rfl,bY d.out,a1.out,fun h=>(R.out h).keep fun q h1 h2=>?_,?_,?_,?_⟩
          . exact(bJ k6 b0.heap.size (.int .i64 x) (.bool f) (.slice A2 n2 c2)).block q (by first|omega|(simp only[aX];omega)) (by show ¬q=_;first|omega|(simp only[aX]at h1 e8;omega))
          . have:=V.out;have:=U.out;omega
          . have:=kW k6 b0.heap.size (.int .i64 x) (.bool f) (.slice A2 n2 c2);show _<=(cO _ _ _ _ _).heap.size;omega
          . rw[e3.out];exact bD (base:=w.heap.size+1) (B:=b0.heap.size) (z3.mono (by have:=V.out;have:=U.out;omega)) (by have:=V.out;have:=U.out;omega) _ _ _
     . go_wp2_with fail;refine⟨But.alloc _ _,?_⟩;replace E:=Z (E.out.keep (aM _ (.cells #[.int .i64 0,.bool false,.slice none 0 0] 71)));have d:=Z (aT.new b8 71 #[.int .i64 0,.bool false,.slice none 0 0]);have t9:=g4.alloc g4.size (.cells #[.int .i64 0,.bool false,.slice none 0 0] 71);have d3:=g4.size;have o4:b8.heap.size<(b8.alloc (.cells #[.int .i64 0,.bool false,.slice none 0 0] 71)).heap.size:=d.out.lt;generalize hWN:b8.alloc (.cells #[.int .i64 0,.bool false,.slice none 0 0] 71)=d2 at *;clear hWN;unfold bB;simp only[cP];repeat(go_big_quiet_step (fail))
       refine aA ?_;go_wp2_with fail;refine(mS g.b g.xb g.fb g.Ab g.nb g.cb k _ (n7.out.keep (aC t9)) hk.2 hk.1 n6.out).mono ?_;rintro e C2 ⟨f5,e7,d8,f4,e6,rfl,c3,j5⟩;replace E:=Z (E.out.keep (aC j5));replace d:=Z (d.out.below j5);have Q:=Z c3;have u0:=cC1 t9 j5;clear c3;go_wp2_with fail;refine⟨But.of_below j5,?_⟩;unfold bB;simp only[cP];repeat(go_big_quiet_step (fail))
       refine aA ?_;go_wp2_with fail;refine(i4.out (fU g.a i) (fU g.b k) i0 g3 f6 h9 g1 f5 e7 d8 f4 e6 _ E.out Q.out X.out.1 Y.out.1 X.out.2.1 Y.out.2.1 X.out.2.2 Y.out.2.2).mono ?_;rintro e k7 ⟨x,f,A2,n2,c2,ok,rfl,I,H,j6⟩;rw[i8.out]at I H;have e8:=d.out.lt;replace d:=Z (d.out.below j6);have z4:=cC1 u0 j6;have a1:=Z I;have R:=Z H;have k3:=u0.size;have k0:=j6.size;clear I H E Q;go_wp2_with fail;refine⟨But.of_below j6,?_⟩;unfold bB;simp only[cP];repeat(go_big_quiet_step (fail))
       refine aA ?_;have p8:=d.out.cell;obtain⟨n9,o0,o1⟩:=bF d.out (.int .i64 x) (.bool f);go_wp2_with fail;refine⟨(bJ k7 b8.heap.size (.int .i64 x) (.bool f) (.slice A2 n2 c2)).wide (fun q hq=>by subst hq;exact d3),?_⟩;unfold bB;simp only[cP];repeat(go_big_quiet_step (fail))
       refine aA ?_;go_wp2_with fail;go_meet;case rel =>
        refine⟨b8.heap.size,ok,x,f,A2,n2,c2,(C2).heap.size,k7.heap.size,rfl,rfl,bY d.out,a1.out,fun h=>(R.out h).keep fun q h1 h2=>?_,?_,?_,?_⟩
        . exact(bJ k7 b8.heap.size (.int .i64 x) (.bool f) (.slice A2 n2 c2)).block q (by first|omega|(simp only[aX];omega)) (by show ¬q=_;first|omega|(simp only[aX]at h1 e8;omega))
        . have:=V.out;have:=U.out;omega
        . have:=kW k7 b8.heap.size (.int .i64 x) (.bool f) (.slice A2 n2 c2);show _<=(cO _ _ _ _ _).heap.size;omega
        . rw[e3.out];exact bD (base:=w.heap.size+1) (B:=b8.heap.size) (z4.mono (by have:=V.out;have:=U.out;omega)) (by have:=V.out;have:=U.out;omega) _ _ _
   . go_wp2_with fail;refine⟨But.alloc _ _,?_⟩;have d:=Z (aT.new o 71 #[.int .i64 0,.bool false,.slice none 0 0]);have u1:=g6.alloc g6.size (.cells #[.int .i64 0,.bool false,.slice none 0 0] 71);have d3:=g6.size;have o4:o.heap.size<(o.alloc (.cells #[.int .i64 0,.bool false,.slice none 0 0] 71)).heap.size:=d.out.lt;generalize hWN:o.alloc (.cells #[.int .i64 0,.bool false,.slice none 0 0] 71)=d2 at *;clear hWN;unfold bB;simp only[cP];repeat(go_big_quiet_step (fail))
     refine aA ?_;go_wp2_with fail;refine(mS g.a g.xa g.fa g.Aa g.na g.ca i _ (t3.out.keep (aC u1)) hi.2 hi.1 t2.out).mono ?_;rintro e E7 ⟨i0,g3,f6,h9,g1,rfl,g8,o8⟩;replace d:=Z (d.out.below o8);have E:=Z g8;have u2:=cC1 u1 o8;clear g8;go_wp2_with fail;refine⟨But.of_below o8,?_⟩;unfold bB;simp only[cP];repeat(go_big_quiet_step (fail))
     refine aA ?_;go_wp2_with fail;refine(mS g.b g.xb g.fb g.Ab g.nb g.cb k _ (n7.out.keep (aC u2)) hk.2 hk.1 n6.out).mono ?_;rintro e C3 ⟨f5,e7,d8,f4,e6,rfl,c3,j7⟩;replace E:=Z (E.out.keep (aC j7));replace d:=Z (d.out.below j7);have Q:=Z c3;have u3:=cC1 u2 j7;clear c3;go_wp2_with fail;refine⟨But.of_below j7,?_⟩;unfold bB;simp only[cP];repeat(go_big_quiet_step (fail))
     refine aA ?_;go_wp2_with fail;refine(i4.out (fU g.a i) (fU g.b k) i0 g3 f6 h9 g1 f5 e7 d8 f4 e6 _ E.out Q.out X.out.1 Y.out.1 X.out.2.1 Y.out.2.1 X.out.2.2 Y.out.2.2).mono ?_;rintro e k8 ⟨x,f,A2,n2,c2,ok,rfl,I,H,j8⟩;rw[i8.out]at I H;have e8:=d.out.lt;replace d:=Z (d.out.below j8);have z5:=cC1 u3 j8;have a1:=Z I;have R:=Z H;have k3:=u3.size;have k0:=j8.size;clear I H E Q;go_wp2_with fail;refine⟨But.of_below j8,?_⟩;unfold bB;simp only[cP];repeat(go_big_quiet_step (fail))
     refine aA ?_;have p8:=d.out.cell;obtain⟨n9,o0,o1⟩:=bF d.out (.int .i64 x) (.bool f);go_wp2_with fail;refine⟨(bJ k8 o.heap.size (.int .i64 x) (.bool f) (.slice A2 n2 c2)).wide (fun q hq=>by subst hq;exact d3),?_⟩;unfold bB;simp only[cP];repeat(go_big_quiet_step (fail))
     refine aA ?_;go_wp2_with fail;go_meet;case rel =>
      refine⟨o.heap.size,ok,x,f,A2,n2,c2,(C3).heap.size,k8.heap.size,rfl,rfl,bY d.out,a1.out,fun h=>(R.out h).keep fun q h1 h2=>?_,?_,?_,?_⟩
      . exact(bJ k8 o.heap.size (.int .i64 x) (.bool f) (.slice A2 n2 c2)).block q (by first|omega|(simp only[aX];omega)) (by show ¬q=_;first|omega|(simp only[aX]at h1 e8;omega))
      . have:=V.out;have:=U.out;omega
      . have:=kW k8 o.heap.size (.int .i64 x) (.bool f) (.slice A2 n2 c2);show _<=(cO _ _ _ _ _).heap.size;omega
      . rw[e3.out];exact bD (base:=w.heap.size+1) (B:=o.heap.size) (z5.mono (by have:=V.out;have:=U.out;omega)) (by have:=V.out;have:=U.out;omega) _ _ _
   -- ORDERS END
  case rest =>
   obtain⟨G,ok,x,f,A2,n2,c2,lo,F,rfl,rfl,u4,I,H,k3,k0,hb2⟩:=hcut;have k9:Hid (Below w.heap.size w wc):=Z (f7.out.trans (hb2.mono (by omega)));have j3:Below (w.alloc (.cells #[.int .i64 i,.int .i64 k] 225)).heap.size (w.alloc (.cells #[.int .i64 i,.int .i64 k] 225)) wc:=(by rw[aX];exact hb2);have s2:=Z (L.out.below j3);have y5:Hid (∀k,(Value.slice A n c).ownBlock=some k->k<lo\/F<=k):=Z (fun k hk=>by have:=(cN L.out.parts.own hk).2.1;rw[aX]at this;omega);have y6:Hid (∀m∈ms,∀k,m.vv.ownBlock=some k->k<lo\/F<=k):=Z (fun m hm k hk=>by have:=(cN (L.out.parts.ok m hm).own hk).2.1;rw[aX]at this;omega);have s5:=Z (i6.out.below j3);have a1:=Z I;have R:=Z H;have m1:=Z u4;have D6:w.heap.size+1<=wc.heap.size:=(by have:=j3.size;rw[aX]at this;exact this);clear I H u4 hb2 j3 f1 L i6 f7;cases ok
   . go_wp2;exact aF (v:=.tuple #[.int .i64 (-1),.bool false]) (by simp[results,Tryz.results241,go_sem]) rfl ⟨-1,false,rfl,But.of_below k9.out,fun _=>.inl (fun h=>by have:=a1.out.2 h;cases this),fun h=>by cases h⟩
   . have p1:=m1.out.cell;have e5:=Z (a1.out.1 rfl);have l4:=Z (R.out rfl);clear a1 R;go_wp2_with fail;refine(tI x f A2 n2 c2 l _ l4.out.s).mono ?_;rintro e B9 ⟨rfl,a3⟩;obtain⟨nx,a9⟩:=zE (l.nix);rw[a9.out];have d1:=Z (s2.out.below a3);have n0:=Z (s5.out.below a3);have l7:=Z (m1.out.below a3);have l5:=Z (l4.out.keep fun k _ h=>a3.block k (by omega));have l0:=Z (cC1 k9.out a3);have D7:=a3.size;clear s2 s5 m1 l4 k9 a3 p1;have k4:=n0.out.cell;have f1:=d1.out.fx.bk.cell;cases nx
     . have p1:=l7.out.cell;have j9:=qX _ _ b9.out.1 e5.out.2;have q7:=Z j9;have p6:=e5.out.1;have q4:=Z (wP j9 p6);have y7:=Z (aC5 j9);have y4:=Z (bR9 b9.out.1 e5.out);clear j9;go_wp2_with fail;refine(enc_any B9 l x f A2 n2 c2 none 0 0 [] _ l5.out.s q7.out p6 (aB _ _) ⟨⟨by simp,.inl ⟨rfl,rfl⟩⟩,rfl⟩ (by omega)).mono ?_;rintro e w4 ⟨A4,x3,t4,rfl,g7,d4,B2⟩;have A5:0<x3:=(by have:=g7.2;simp[nP]at this;omega);obtain⟨t5,y9,w6,_,_⟩:=g7.1.form A5;obtain⟨rfl,rfl⟩:A4=some ⟨t5,0,none⟩/\t4=y9:=(by injection w6 with h1 h2 h3;exact⟨h1,h3⟩);have p0:=bO3 g7.1 (by simpa using q4.out) g7.2;simp only[List.nil_append]at p0;have v6:(convert 22 9 (.slice (some ⟨t5,0,none⟩) x3 t4)).run Tryz.prog w4=.ok (.string (oK l)) w4:=p0;have T:=Z (d1.out.below d4);have n1:=Z (n0.out.below d4);have l8:=Z (l7.out.below d4);have l6:=Z (l5.out.keep fun k _ h=>d4.block k (by omega));have l1:=Z (cC1 l0.out d4);have D8:=d4.size;obtain⟨g2,i7⟩:=zE (oK l);have e1:=Z (T.out.k2 l b9.out.1 b9.out.2 e5.out);have w1:keyOf Tryz.prog 9 (.string g2)=some (.string g2.data.toList):=WideMaps.keyOf_string_mk Tryz.underlying9 (by rw[<- i7.out];have:=y4.out;simp only[maxLen];omega);have m2:=Z w1;rw[i7.out]at v6 e1;clear w1 p0 w6 g7 d4 B2 p1 k4 f1 d1 n0 l7 l5 l0 q7 q4 y7;have o9:=T.out.fx.bc.cell;by_cases f2:l∈ms.map PM.r
       . rw[if_pos f2]at e1;have a8:=Z f2;clear f2;have k4:=n1.out.cell;have f1:=T.out.fx.bk.cell;have v9 : -9223372036854775808<=iV (ms.map PM.r) l/\iV (ms.map PM.r) l<9223372036854775808:=by
          rcases gH l (ms.map PM.r)with⟨h1,_⟩|⟨j,h1,h2⟩
          . omega
          . have h3:=(List.getElem?_eq_some_iff.1 h1).1;have h4:=rK (ms.map PM.pr);have h5:=T.out.size;rw[List.length_map]at h3 h4;omega
         obtain⟨k5,b4⟩:=zE (iV (ms.map PM.r) l);rw[b4.out]at e1 v9;go_wp2_with (first
          |(at_lookup;refine jS (P:=Tryz.prog) rfl (by rfl) _ _ _ (by rfl) bD5 Tryz.underlying258 (by rfl) T.out.cm g2 _ (by rfl) m2.out ?_;rw[e1.out])
          |(at_mapUpdate;refine iO (P:=Tryz.prog) rfl (by rfl) _ _ _ _ (by rfl) wL Tryz.underlying257 (by rfl) T.out.km (by omega) (i,k) f3 (by rfl) e2.out k5 v9 (by rfl) (yF (i,k)) ?_;intro w5 A8 v2))
         refine aF (v:=.tuple #[.int .i64 k5,.bool true]) (by simp[results,Tryz.results241,go_sem]) rfl ⟨k5,true,rfl,(But.of_below l1.out).trans (v2.wide (fun q hq=>.inl hq)),(fun h=>by cases h),fun _=>⟨A,n,c,ms,(fun D=>if D=(i,k)then some k5 else K1 D),K2,?_,?_,b4.out.symm,.inl rfl⟩⟩
         . exact T.out.known v2 A8 ⟨by rw[a2.out];exact b4.out.symm,.inr (by rw[a2.out];exact a8.out)⟩
         . unfold gK;rw[zW,if_pos (by rw[decide_eq_true a8.out,Bool.or_true])]
       . rw[if_neg f2]at e1;have a8:=Z f2;clear f2;go_upto_region 13 with(at_lookup;refine jS (P:=Tryz.prog) rfl (by rfl) _ _ _ (by rfl) bD5 Tryz.underlying258 (by rfl) T.out.cm g2 _ (by rfl) m2.out ?_;rw[e1.out]);obtain⟨b6,c0⟩:=zE (eB (ms.map PM.pr));have D5:b6<=64:=(by rw[<- c0.out];exact T.out.size);have i9:=Z T.out.tot;rw[c0.out]at i9;have B7:∀(x:LaterS (fun _=>False) w4.drew) j,(dG (fun _=>False) w4.drew x).cell? ⟨g.h+12,j,none⟩=(#[.int .i64 (b6:Int)]:Array Value)[j]?:=fun x j=>(i9.out.drew.but x.but (by simp)).cell j;have B6:∀(y:LaterS (fun _=>False) w4.drew) j,(dG (fun _=>False) w4.drew y).cell? ⟨G,j,none⟩=(#[.int .i64 x,.bool f,.slice A2 n2 c2]:Array Value)[j]?:=fun y j=>(l8.out.drew.but y.but (by simp)).cell j;refine bQ (fun _=>False) (.one [0,1] 2 (.fin [3,4] 5)) ?_;unfold bB;simp only[cP];repeat(go_big_quiet_step (fail))
         refine aA ?_;clear B7 B6;have d5:Below w4.heap.size w4 w4.drew:=(aB _ _).drew;go_wp2_with fail;refine(bN5 l x f A2 n2 c2 _ (l6.out.s.keep (aC d5)) (by omega)).mono ?_;rintro e w5 ⟨rfl,o5⟩;obtain⟨sz,e4⟩:=zE (l.size);rw[e4.out]at p6 ⊢;have c5:=cC1 d5 o5;have b3:=Z (T.out.below c5);have s6:=Z (n1.out.below c5);have l9:=Z (l8.out.below c5);have q8:=Z (l6.out.keep fun k _ h=>c5.block k (by omega));have q0:=Z (cC1 l1.out c5);have D9:=c5.size;have j0:=Z (i9.out.below c5);go_wp2_with fail;refine⟨But.of_below o5,?_⟩;clear T n1 l8 l6 l1 o5 c5 d5 i9 o9;unfold bB;simp only[cP];repeat(go_big_quiet_step (fail))
         refine aA ?_;have p7:=j0.out.cell;have B3:=j0.out.free;go_upto_region 14 with fail;have a5:But (· = g.h+12) w5 (w5.setCell ⟨g.h+12,0,none⟩ (.int .i64 ((b6:Int)+(1+(sz:Int))))):=But.set (S:=fun q=>q=g.h+12) _ (p:=⟨g.h+12,0,none⟩) rfl _;have n5:Hid (aT (w5.setCell ⟨g.h+12,0,none⟩ (.int .i64 ((b6:Int)+(1+(sz:Int))))) (g.h+12) 3 #[.int .i64 ((b6:Int)+(1+(sz:Int)))]):=Z (j0.out.set_ 0 _);generalize hW6:w5.setCell ⟨g.h+12,0,none⟩ (.int .i64 ((b6:Int)+(1+(sz:Int))))=C0 at *;clear hW6 p7 B3 j0;have C6:=b3.out.fx.hB;have f9:=Z (b3.out.fx.but a5 (fun q hq=>.inr (.inr (.inl hq))));have r6:=Z (b3.out.km.but a5 (by omega));have l3:=Z (b3.out.cm.but a5 (by omega));have m5:=Z (b3.out.out.but a5 (by omega));have m9:=Z (b3.out.parts.but a5 (fun k hk=>by omega));have u5:G≠g.h+12:=fun e=>(by have h1:=l9.out;have h2:=b3.out.tot;unfold aT at h1 h2;rw[e,h2]at h1;injection h1 with h1;injection h1 with _ h1;exact absurd h1 (by decide));have m0:=Z (l9.out.but a5 u5);have s7:=Z (s6.out.but a5 (by omega));have q9:=Z (q8.out.keep fun k h1 h=>a5.block k (by omega) (by omega));have l2:Hid (But (g.S A n c) w C0):=Z ((But.of_below q0.out).trans (a5.wide (fun q hq=>.inr (.inr (.inl hq)))));have E0:=a5.size;have t1:=Z b3.out;clear b3 s6 l9 q8 q0 a5 u5;have p7:=n5.out.cell;by_cases t6:64<b6+(1+sz)
         . have z1:decide (64<(b6:Int)+(1+(sz:Int)))=true:=(by simp;omega);have x6:=Z t6;clear t6;go_wp2;refine aF (v:=.tuple #[.int .i64 (-1),.bool false]) (by simp[results,Tryz.results241,go_sem]) rfl ⟨-1,false,rfl,l2.out,fun _=>.inr ⟨a9.out,a8.out,?_⟩,fun h=>by cases h⟩;rw[c0.out,e4.out];exact x6.out
         . have z1:decide (64<(b6:Int)+(1+(sz:Int)))=false:=(by simp;omega);have z8:=f9.out.bp.cell;have A9:=m5.out.cell;have o9:=f9.out.bc.cell;have D0:n<=64:=(by have h1:=m9.out.len;have h2:=rK (ms.map PM.pr);rw[List.length_map,c0.out]at h2;omega);go_upto_region 18 with(at_mapUpdate;refine iO (P:=Tryz.prog) rfl (by rfl) _ _ _ _ (by rfl) bD5 Tryz.underlying258 (by rfl) l3.out (by omega) g2 _ (by rfl) m2.out (n:Int) (by omega) (by rfl) (fun D h=>by injection h) ?_;intro w7 w3 a6);have C7:=f9.out.hB;have r2:=Z (f9.out.but a6 (fun q hq=>.inr (.inl hq)));have r7:=Z (r6.out.but a6 (by omega));have q5:=Z w3;have s3:=Z (n5.out.but a6 (by omega));have r9:=Z (m5.out.but a6 (by omega));have s1:=Z (m9.out.but a6 (fun k hk=>by omega));have r4:=Z (m0.out.but a6 (map_ne l3.out m0.out));have s8:=Z (s7.out.but a6 (by omega));have r0:=Z (q9.out.keep fun k h1 h=>a6.block k (by omega) (by omega));have q1:Hid (But (g.S A n c) w w7):=Z (l2.out.trans (a6.wide (fun q hq=>.inr (.inl hq))));have E1:=a6.size;clear f9 r6 l3 n5 m5 m9 m0 s7 q9 l2 w3 a6 z8 A9 o9 p7 v6;go_frame;go_cut [71] (fun s C1=>∃n8:Bool,s=.bool n8/\Below w7.heap.size w7 C1);case first =>
            refine bQ (fun q=>w7.heap.size<=q) (.one [] 0 (.two [] 1 (.one [] 2 (.one [] 3 (.last []))) 2 (.one [] 1 (.one [] 3 (.last []))))) ?_;unfold bB;simp only[cP];refine aA ?_;have d5:Below w7.heap.size w7 w7.drew:=(aB _ _).drew;generalize c4:w7.drew=o at *;clear c4;go_wp2_with fail;refine⟨But.alloc _ _,?_⟩;have d:=Z (aT.new o 4 #[.bool false]);have u8:=d5.alloc d5.size (.cells #[.bool false] 4);have c1:=d5.size;generalize hWn:o.alloc (.cells #[.bool false] 4)=j1 at *;clear hWn;unfold bB;simp only[cP];refine aA ⟨?_,?_⟩
            . have b5:=d.out.cell;have d6:=d.out.free;go_wp2_with fail;refine⟨But.set (S:=fun q=>w7.heap.size<=q) _ (p:=⟨o.heap.size,0,none⟩) c1 _,?_⟩;have c9:Hid (aT (j1.setCell ⟨o.heap.size,0,none⟩ (.bool true)) o.heap.size 4 #[.bool true]):=Z (d.out.set_ 0 _);have hb2:=u8.setCell (p:=⟨o.heap.size,0,none⟩) c1 (.bool true);generalize hW2:j1.setCell ⟨o.heap.size,0,none⟩ (.bool true)=W2 at *;clear hW2 b5 d6;unfold bB;simp only[cP];refine aA ?_;have b5:=c9.out.cell;have d6:=c9.out.free;go_wp2_with fail;refine⟨But.set (S:=fun q=>w7.heap.size<=q) _ (p:=⟨o.heap.size,0,none⟩) c1 _,?_⟩;have m3:Hid (aT (W2.setCell ⟨o.heap.size,0,none⟩ (.bool false)) o.heap.size 4 #[.bool false]):=Z (c9.out.set_ 0 _);have a3:=hb2.setCell (p:=⟨o.heap.size,0,none⟩) c1 (.bool false);generalize hW3:W2.setCell ⟨o.heap.size,0,none⟩ (.bool false)=W3 at *;clear hW3 b5 d6;unfold bB;simp only[cP];refine aA ?_;have b5:=m3.out.cell;go_wp2_with fail;refine⟨But.refl _ _,?_⟩;unfold bB;simp only[cP];refine aA ?_;go_wp2_with fail;go_meet;case rel=>exact⟨false,rfl,a3⟩
            . have b5:=d.out.cell;have d6:=d.out.free;go_wp2_with fail;refine⟨But.set (S:=fun q=>w7.heap.size<=q) _ (p:=⟨o.heap.size,0,none⟩) c1 _,?_⟩;have c9:Hid (aT (j1.setCell ⟨o.heap.size,0,none⟩ (.bool false)) o.heap.size 4 #[.bool false]):=Z (d.out.set_ 0 _);have hb2:=u8.setCell (p:=⟨o.heap.size,0,none⟩) c1 (.bool false);generalize hW2:j1.setCell ⟨o.heap.size,0,none⟩ (.bool false)=W2 at *;clear hW2 b5 d6;unfold bB;simp only[cP];refine aA ?_;have b5:=c9.out.cell;have d6:=c9.out.free;go_wp2_with fail;refine⟨But.set (S:=fun q=>w7.heap.size<=q) _ (p:=⟨o.heap.size,0,none⟩) c1 _,?_⟩;have m3:Hid (aT (W2.setCell ⟨o.heap.size,0,none⟩ (.bool true)) o.heap.size 4 #[.bool true]):=Z (c9.out.set_ 0 _);have a3:=hb2.setCell (p:=⟨o.heap.size,0,none⟩) c1 (.bool true);generalize hW3:W2.setCell ⟨o.heap.size,0,none⟩ (.bool true)=W3 at *;clear hW3 b5 d6;unfold bB;simp only[cP];refine aA ?_;have b5:=m3.out.cell;go_wp2_with fail;refine⟨But.refl _ _,?_⟩;unfold bB;simp only[cP];refine aA ?_;go_wp2_with fail;go_meet;case rel=>exact⟨true,rfl,a3⟩
           case rest =>
            obtain⟨n8,rfl,a0⟩:=hcut;have i3:=Z (r2.out.below a0);have r8:=Z (r7.out.below a0);have q6:=Z (q5.out.below a0);have s4:=Z (s3.out.below a0);have m6:=Z (r9.out.below a0);have O:=Z (s1.out.below a0);have r5:=Z (r4.out.below a0);have n3:=Z (s8.out.below a0);have r1:=Z (r0.out.keep fun k h1 h=>a0.block k (by omega));have q2:Hid (But (g.S A n c) w wc):=Z (q1.out.trans (But.of_below a0));have E2:=a0.size;clear r2 r7 q5 s3 r9 s1 r4 s8 r0 q1 a0;have C8:=i3.out.hB;have g9:∀q,q<g.B->¬(Value.slice A n c).ownBlock=some q:=fun q hq hs=>(by have:=(cN O.out.own hs).1;omega);have e9:∀q,q<g.B->q≠g.h+3->¬((Value.slice A n c).ownBlock=some q\/q=g.h+3):=fun q hq hn hs=>by
             rcases hs with hs|hs
             . exact g9 q hq hs
             . exact hn hs
            have z6:¬(Value.slice A n c).ownBlock=some G:=fun hs=>(by obtain⟨_,_,cs,h1⟩:=cN O.out.own hs;have h2:=r5.out;unfold aT at h2;rw[h1]at h2;injection h2 with h2;injection h2 with _ h2;exact absurd h2 (by decide));have u6:¬((Value.slice A n c).ownBlock=some w.heap.size\/w.heap.size=g.h+3):=fun hs=>by
             rcases hs with hs|hs
             . obtain⟨_,_,cs,h1⟩:=cN O.out.own hs;have h2:=n3.out;unfold aT at h2;rw[h1]at h2;injection h2 with h2;injection h2 with _ h2;exact absurd h2 (by decide)
             . omega
            have s0:Hid (wc.drew.ownsRow g.B 141 4 (.slice A n c) n (ms.flatMap PM.cs)):=Z O.out.own;have u9:But (fun q=>(Value.slice A n c).ownBlock=some q) wc wc.drew:=(But.refl _ _).drew;have v7:wc.drew.heap.size=wc.heap.size:=rfl;have x4:∀(y:LaterS (fun q=>(Value.slice A n c).ownBlock=some q) wc.drew) j,(dG (fun q=>(Value.slice A n c).ownBlock=some q) wc.drew y).cell? ⟨g.h+6,j,none⟩=(#[.pointer (some ⟨g.h+3,0,none⟩)]:Array Value)[j]?:=fun y j=>(i3.out.bp.drew.but y.but (g9 _ (by omega))).cell j;have q3:∀(y:LaterS (fun q=>(Value.slice A n c).ownBlock=some q) wc.drew) j,(dG (fun q=>(Value.slice A n c).ownBlock=some q) wc.drew y).cell? ⟨g.h+3,j,none⟩=(#[.int .i64 ((g.N+1:Nat):Int),.bool false,.slice A n c]:Array Value)[j]?:=fun y j=>(m6.out.drew.but y.but (g9 _ (by omega))).cell j;have x5:∀(y:LaterS (fun q=>(Value.slice A n c).ownBlock=some q) wc.drew) j,(dG (fun q=>(Value.slice A n c).ownBlock=some q) wc.drew y).cell? ⟨G,j,none⟩=(#[.int .i64 x,.bool f,.slice A2 n2 c2]:Array Value)[j]?:=fun y j=>(r5.out.drew.but y.but z6).cell j;have s9:Hid (∀k,(Value.slice A n c).ownBlock=some k->k<lo\/F<=k):=y5;have t0:Hid (∀m∈ms,∀k,m.vv.ownBlock=some k->k<lo\/F<=k):=y6;obtain⟨x2,v8,w8,x0,x1⟩:=info_parts aN8;have i1:=Z v7;clear v7;cases n8
            . skip
              go_upto_region 21 with fail;refine bQ (fun q=>(Value.slice A n c).ownBlock=some q) (.one [0,1,2,3,4,5,6] 7 (.one [] 8 (.one [] 9 (.fin [10] 11)))) ?_;generalize c4:wc.drew=o at *;clear c4;unfold bB;simp only[cP];repeat(go_big_quiet_step (fail))
              refine aA ?_;go_wp2_with fail;refine⟨But.alloc _ _,?_⟩;unfold bB;simp only[cP];refine aA ?_;go_wp2_with (at_builtin;refine cB (by rfl) (.tmp 88) (.tmp 91) _ (by rfl) g.B 141 x2 _ 4 64 Tryz.underlying69 v8 w8 x0 x1 (by rfl) (by omega) (.slice A n c) n _ (by rfl) o #[.slice none 0 0,.int .i64 x,.bool f,.slice A2 n2 c2] s0.out o.heap.size (by rfl) (by rfl) (by rfl) (aN0 (PM.mk none 0 0 [] x f A2 n2 c2 l lo F)) (by simp only[maxLen];omega) (by omega) (by have:=i1.out;omega) ?_;intro C K w9 h8 d7 o2 h0 A6);refine⟨cC5 d7 (fun k hk=>hk),?_⟩;have a7:But (fun q=>(Value.slice A n c).ownBlock=some q) wc w9:=(u9.trans (But.alloc _ _)).trans (cC5 d7 (fun k hk=>hk));have b2:=Z (m6.out.but a7 (g9 _ (by omega)));have c8:=Z (i3.out.but a7 (fun q hq=>.inr (.inr (.inr (.inr (cN O.out.own hq).1)))));have d0:=Z h8;have d9:=Z h0;have f8:=Z a7;have B1:=a7.size;clear d7 o2 h0 h8 a7 x4 q3 x5;unfold bB;simp only[cP];refine aA ?_;go_wp2_with fail;refine⟨But.refl _ _,?_⟩;unfold bB;simp only[cP];have p3:=b2.out.cell;have p4:=b2.out.free;repeat(go_big_quiet_step (fail))
              refine aA ?_;go_upto_region 22 with fail;have a4:But (· = g.h+3) w9 (w9.setCell ⟨g.h+3,2,none⟩ (.slice (some ⟨C,0,none⟩) (n+1) K)):=But.set (S:=fun q=>q=g.h+3) _ (p:=⟨g.h+3,2,none⟩) rfl _;have m4:Hid (aT (w9.setCell ⟨g.h+3,2,none⟩ (.slice (some ⟨C,0,none⟩) (n+1) K)) (g.h+3) 71 #[.int .i64 ((g.N+1:Nat):Int),.bool false,.slice (some ⟨C,0,none⟩) (n+1) K]):=Z (b2.out.set_ 2 _);generalize hW10:w9.setCell ⟨g.h+3,2,none⟩ (.slice (some ⟨C,0,none⟩) (n+1) K)=b7 at *;clear hW10 p3 p4;have z9:=c8.out.hB;have i2:=Z (c8.out.but a4 (fun q hq=>.inr (.inr (.inr (.inl hq)))));have i5:=Z (fB d0.out a4 (fun k hk hs=>by have:=(cN d0.out hk).1;omega));have M:Hid (But (fun q=>(Value.slice A n c).ownBlock=some q\/q=g.h+3) wc b7):=Z ((f8.out.wide (fun q hq=>.inl hq)).trans (a4.wide (fun q hq=>.inr hq)));have B0:=a4.size;clear b2 c8 d0 f8 a4;have x7:=i1.out;have m8:Hid (b7.ownsRow g.B 141 4 (.slice (some ⟨C,0,none⟩) (n+1) K) (n+1) ((ms++[PM.mk none 0 0 [] x f A2 n2 c2 l lo F]).flatMap PM.cs)):=(by refine Z ?_;rw[aP];simpa[PM.cs]using i5.out);have g0:Hid (GS g b7 (some ⟨C,0,none⟩) (n+1) K (ms++[PM.mk none 0 0 [] x f A2 n2 c2 l lo F]) nk K1 (fun D=>if D=oK l then some (n:Int)else K2 D)):=by
               refine Z (t1.out.added (m:=PM.mk none 0 0 [] x f A2 n2 c2 l lo F) rfl b9.out.1 b9.out.2 e5.out a9.out a8.out (by rw[c0.out,e4.out];omega) i2.out (r8.out.but M.out (e9 _ (by omega) (by omega))) ?_ ?_ m4.out ?_)
               . have:=q6.out.but M.out (e9 _ (by omega) (by omega));rw[<- i7.out]at this;exact this
               . have:=s4.out.but M.out (e9 _ (by omega) (by omega));rw[c0.out,e4.out];simpa using this
               . refine O.out.add m8.out (M.out.wide (fun q hq=>?_)) (fun k hk=>?_) r1.out (by omega) (by omega) (fun k A1 A3=>?_)
                 . rcases hq with hq|hq
                   . exact .inl hq
                   . exact .inr (by omega)
                 . simp only[Value.ownBlock,Option.some.injEq]at hk;subst hk;rcases d9.out with e|e
                   . exact .inl e
                   . exact .inr (by omega)
                 . exact⟨fun h=>by have:=s9.out _ h;omega,fun m hm h=>by have:=t0.out m hm _ h;omega⟩
              have k4:=(n3.out.but M.out u6).cell;have f1:=i2.out.bk.cell;go_wp2_with (at_mapUpdate;refine iO (P:=Tryz.prog) rfl (by rfl) _ _ _ _ (by rfl) wL Tryz.underlying257 (by rfl) g0.out.km (by omega) (i,k) f3 (by rfl) e2.out (n:Int) (by omega) (by rfl) (yF (i,k)) ?_;intro B8 p2 h6);have b4:Hid ((n:Int)=iV ((ms++[PM.mk none 0 0 [] x f A2 n2 c2 l lo F]).map PM.r) l):=(by show _=_;rw[List.map_append,List.map_cons,List.map_nil,wN a8.out,List.length_map,O.out.len]);refine aF (v:=.tuple #[.int .i64 (n:Int),.bool true]) (by simp[results,Tryz.results241,go_sem]) rfl ⟨n,true,rfl,?_,(fun h=>by cases h),fun _=>⟨some ⟨C,0,none⟩,n+1,K,ms++[PM.mk none 0 0 [] x f A2 n2 c2 l lo F],(fun D=>if D=(i,k)then some (n:Int)else K1 D),(fun D=>if D=oK l then some (n:Int)else K2 D),?_,?_,b4.out,?_⟩⟩
              . refine(q2.out.trans (M.out.wide (fun q hq=>?_))).trans (h6.wide (fun q hq=>.inl hq));rcases hq with hq|hq
                . exact .inr (.inr (.inr (.inr hq)))
                . exact .inr (.inr (.inr (.inl hq)))
              . exact g0.out.known h6 p2 ⟨by rw[a2.out];exact b4.out,.inr (by rw[a2.out];simp)⟩
              . rw[List.map_append,List.map_cons,List.map_nil];unfold gK;rw[zW,if_neg (by simp[a9.out];exact fun m hm=>fun e=>a8.out (List.mem_map.2 ⟨m,hm,e⟩))];rfl
              . rcases d9.out with e|e
                . exact .inl e.symm
                . exact .inr ⟨C,rfl,by omega⟩
            . skip
              go_upto_region 19 with fail;refine bQ (fun q=>(Value.slice A n c).ownBlock=some q) (.one [0,1,2,3,4,5,6] 7 (.one [] 8 (.one [] 9 (.fin [10] 11)))) ?_;generalize c4:wc.drew=o at *;clear c4;unfold bB;simp only[cP];repeat(go_big_quiet_step (fail))
              refine aA ?_;go_wp2_with fail;refine⟨But.alloc _ _,?_⟩;unfold bB;simp only[cP];refine aA ?_;go_wp2_with (at_builtin;refine cB (by rfl) (.tmp 75) (.tmp 79) _ (by rfl) g.B 141 x2 _ 4 64 Tryz.underlying69 v8 w8 x0 x1 (by rfl) (by omega) (.slice A n c) n _ (by rfl) o #[.slice none 0 0,.int .i64 0,.bool false,.slice none 0 0] s0.out o.heap.size (by rfl) (by rfl) (by rfl) (aN0 (PM.mk none 0 0 [] 0 false none 0 0 l lo F)) (by simp only[maxLen];omega) (by omega) (by have:=i1.out;omega) ?_;intro C K w9 h8 d7 o2 h0 A6);refine⟨cC5 d7 (fun k hk=>hk),?_⟩;have a7:But (fun q=>(Value.slice A n c).ownBlock=some q) wc w9:=(u9.trans (But.alloc _ _)).trans (cC5 d7 (fun k hk=>hk));have b2:=Z (m6.out.but a7 (g9 _ (by omega)));have c8:=Z (i3.out.but a7 (fun q hq=>.inr (.inr (.inr (.inr (cN O.out.own hq).1)))));have d0:=Z h8;have d9:=Z h0;have f8:=Z a7;have B1:=a7.size;clear d7 o2 h0 h8 a7 x4 q3 x5;unfold bB;simp only[cP];refine aA ?_;go_wp2_with fail;refine⟨But.refl _ _,?_⟩;unfold bB;simp only[cP];have p3:=b2.out.cell;have p4:=b2.out.free;repeat(go_big_quiet_step (fail))
              refine aA ?_;go_upto_region 20 with fail;have a4:But (· = g.h+3) w9 (w9.setCell ⟨g.h+3,2,none⟩ (.slice (some ⟨C,0,none⟩) (n+1) K)):=But.set (S:=fun q=>q=g.h+3) _ (p:=⟨g.h+3,2,none⟩) rfl _;have m4:Hid (aT (w9.setCell ⟨g.h+3,2,none⟩ (.slice (some ⟨C,0,none⟩) (n+1) K)) (g.h+3) 71 #[.int .i64 ((g.N+1:Nat):Int),.bool false,.slice (some ⟨C,0,none⟩) (n+1) K]):=Z (b2.out.set_ 2 _);generalize hW10:w9.setCell ⟨g.h+3,2,none⟩ (.slice (some ⟨C,0,none⟩) (n+1) K)=b7 at *;clear hW10 p3 p4;have z9:=c8.out.hB;have i2:=Z (c8.out.but a4 (fun q hq=>.inr (.inr (.inr (.inl hq)))));have i5:=Z (fB d0.out a4 (fun k hk hs=>by have:=(cN d0.out hk).1;omega));have M:Hid (But (fun q=>(Value.slice A n c).ownBlock=some q\/q=g.h+3) wc b7):=Z ((f8.out.wide (fun q hq=>.inl hq)).trans (a4.wide (fun q hq=>.inr hq)));have B0:=a4.size;clear b2 c8 d0 f8 a4;have x7:=i1.out;have m7:Hid (b7.ownsRow g.B 141 4 (.slice (some ⟨C,0,none⟩) (n+1) K) (n+1) ((ms++[PM.mk none 0 0 [] 0 false none 0 0 l lo F]).flatMap PM.cs)):=(by refine Z ?_;rw[aP];simpa[PM.cs]using i5.out);have f0:(ms++[PM.mk none 0 0 [] 0 false none 0 0 l lo F])[n]?=some (PM.mk none 0 0 [] 0 false none 0 0 l lo F):=(by rw[<- O.out.len];simp);obtain⟨y8,B5,t7,h7⟩:=(cC3 PM.cs_len (by simp[O.out.len]) m7.out).2 (Nat.succ_pos n);obtain⟨rfl,rfl⟩:C=y8/\0=B5:=(by injection t7 with h;injection h with h1 h2;exact⟨h1,h2⟩);have y0:=h7 n _ f0 0 (.slice none 0 0) rfl;have y1:=h7 n _ f0 1 (.int .i64 0) rfl;have y2:=h7 n _ f0 2 (.bool false) rfl;have y3:=h7 n _ f0 3 (.slice none 0 0) rfl;simp only[Nat.zero_add,Nat.add_zero]at y0 y1 y2 y3;have A0:=fun q=>m7.out.frozenAt q;have x8:=Z ((((m7.out.stored (n*4) (.slice none 0 0)).1.stored (n*4+1) (.int .i64 x)).1.stored (n*4+2) (.bool f)).1.stored (n*4+3) (.slice A2 n2 c2)).1;have C4:=Z f0;clear f0 h7 t7;go_upto_region 22 with fail;have c6:But (fun q=>q=C) b7 ((((b7.setCell ⟨C,n*4,none⟩ (.slice none 0 0)).setCell ⟨C,n*4+1,none⟩ (.int .i64 x)).setCell ⟨C,n*4+2,none⟩ (.bool f)).setCell ⟨C,n*4+3,none⟩ (.slice A2 n2 c2)) :=
               (((But.set (S:=fun q=>q=C) _ (p:=⟨C,n*4,none⟩) rfl _).trans (But.set (S:=fun q=>q=C) _ (p:=⟨C,n*4+1,none⟩) rfl _)).trans (But.set (S:=fun q=>q=C) _ (p:=⟨C,n*4+2,none⟩) rfl _)).trans (But.set (S:=fun q=>q=C) _ (p:=⟨C,n*4+3,none⟩) rfl _)
              generalize hwz:(((b7.setCell ⟨C,n*4,none⟩ (.slice none 0 0)).setCell ⟨C,n*4+1,none⟩ (.int .i64 x)).setCell ⟨C,n*4+2,none⟩ (.bool f)).setCell ⟨C,n*4+3,none⟩ (.slice A2 n2 c2)=p9 at *;clear hwz y0 y1 y2 y3 A0;have C9:g.B<=C:=(cN i5.out (k:=C) rfl).1;have D4:=c6.size;have r3:=Z (i2.out.but c6 (fun q hq=>.inr (.inr (.inr (.inr (by omega))))));have x9:=Z (m4.out.but c6 (by omega));have e0:Hid (But (fun q=>(Value.slice A n c).ownBlock=some q\/q=g.h+3) wc p9):=by
               refine Z ⟨c6.os.trans M.out.os,c6.tape.trans M.out.tape,c6.output.trans M.out.output,Nat.le_trans M.out.size c6.size,fun k hk hs=>?_⟩;rw[c6.block k (Nat.lt_of_lt_of_le hk M.out.size) (fun e=>?_),M.out.block k hk hs];rcases d9.out with h|h
               . exact hs (.inl (by rw[e];exact h))
               . omega
              have m8:Hid (p9.ownsRow g.B 141 4 (.slice (some ⟨C,0,none⟩) (n+1) K) (n+1) ((ms++[PM.mk none 0 0 [] x f A2 n2 c2 l lo F]).flatMap PM.cs)):=(by refine Z ?_;have h1:=x8.out;have hl:(ms.flatMap PM.cs).length=n*4:=(by rw[hV PM.cs_len,O.out.len]);rw[aP,<- hl]at h1;rw[aP];have e:∀(i:Nat) (u:Value) (c7:List Value),(ms.flatMap PM.cs++c7).set ((ms.flatMap PM.cs).length+i) u=ms.flatMap PM.cs++c7.set i u:=fun i u c7=>(by rw[List.set_append_right _ _ (Nat.le_add_right _ _),Nat.add_sub_cancel_left]);have z0:∀(u:Value) (c7:List Value),(ms.flatMap PM.cs++c7).set ((ms.flatMap PM.cs).length) u=ms.flatMap PM.cs++c7.set 0 u:=fun u c7=>e 0 u c7;rw[z0,e,e,e]at h1;exact h1);have g0:Hid (GS g p9 (some ⟨C,0,none⟩) (n+1) K (ms++[PM.mk none 0 0 [] x f A2 n2 c2 l lo F]) nk K1 (fun D=>if D=oK l then some (n:Int)else K2 D)):=by
               refine Z (t1.out.added (m:=PM.mk none 0 0 [] x f A2 n2 c2 l lo F) rfl b9.out.1 b9.out.2 e5.out a9.out a8.out (by rw[c0.out,e4.out];omega) r3.out (r8.out.but e0.out (e9 _ (by omega) (by omega))) ?_ ?_ x9.out ?_)
               . have:=q6.out.but e0.out (e9 _ (by omega) (by omega));rw[<- i7.out]at this;exact this
               . have:=s4.out.but e0.out (e9 _ (by omega) (by omega));rw[c0.out,e4.out];simpa using this
               . refine O.out.add m8.out (e0.out.wide (fun q hq=>?_)) (fun k hk=>?_) r1.out (by omega) (by omega) (fun k A1 A3=>?_)
                 . rcases hq with hq|hq
                   . exact .inl hq
                   . exact .inr (by omega)
                 . simp only[Value.ownBlock,Option.some.injEq]at hk;subst hk;rcases d9.out with e|e
                   . exact .inl e
                   . exact .inr (by omega)
                 . exact⟨fun h=>by have:=s9.out _ h;omega,fun m hm h=>by have:=t0.out m hm _ h;omega⟩
              have k4:=(n3.out.but e0.out u6).cell;have f1:=r3.out.bk.cell;go_wp2_with (at_mapUpdate;refine iO (P:=Tryz.prog) rfl (by rfl) _ _ _ _ (by rfl) wL Tryz.underlying257 (by rfl) g0.out.km (by omega) (i,k) f3 (by rfl) e2.out (n:Int) (by omega) (by rfl) (yF (i,k)) ?_;intro B8 p2 h6);have b4:Hid ((n:Int)=iV ((ms++[PM.mk none 0 0 [] x f A2 n2 c2 l lo F]).map PM.r) l):=(by show _=_;rw[List.map_append,List.map_cons,List.map_nil,wN a8.out,List.length_map,O.out.len]);refine aF (v:=.tuple #[.int .i64 (n:Int),.bool true]) (by simp[results,Tryz.results241,go_sem]) rfl ⟨n,true,rfl,?_,(fun h=>by cases h),fun _=>⟨some ⟨C,0,none⟩,n+1,K,ms++[PM.mk none 0 0 [] x f A2 n2 c2 l lo F],(fun D=>if D=(i,k)then some (n:Int)else K1 D),(fun D=>if D=oK l then some (n:Int)else K2 D),?_,?_,b4.out,?_⟩⟩
              . refine(q2.out.trans (e0.out.wide (fun q hq=>?_))).trans (h6.wide (fun q hq=>.inl hq));rcases hq with hq|hq
                . exact .inr (.inr (.inr (.inr hq)))
                . exact .inr (.inr (.inr (.inl hq)))
              . exact g0.out.known h6 p2 ⟨by rw[a2.out];exact b4.out,.inr (by rw[a2.out];simp)⟩
              . rw[List.map_append,List.map_cons,List.map_nil];unfold gK;rw[zW,if_neg (by simp[a9.out];exact fun m hm=>fun e=>a8.out (List.mem_map.2 ⟨m,hm,e⟩))];rfl
              . rcases d9.out with e|e
                . exact .inl e.symm
                . exact .inr ⟨C,rfl,by omega⟩
     . go_wp2_with (at_mapUpdate;refine iO (P:=Tryz.prog) rfl (by rfl) _ _ _ _ (by rfl) wL Tryz.underlying257 (by rfl) d1.out.km (by omega) (i,k) f3 (by rfl) e2.out (-1) (by omega) (by rfl) (yF (i,k)) ?_;intro w4 A7 v1);refine aF (v:=.tuple #[.int .i64 (-1),.bool true]) (by simp[results,Tryz.results241,go_sem]) rfl ⟨-1,true,rfl,(But.of_below l0.out).trans (v1.wide (fun q hq=>.inl hq)),(fun h=>by cases h),fun _=>⟨A,n,c,ms,(fun D=>if D=(i,k)then some (-1)else K1 D),K2,?_,?_,?_,.inl rfl⟩⟩
       . refine d1.out.known v1 A7 ⟨?_,.inl (by rw[a2.out];exact a9.out)⟩;rw[a2.out];rcases gH l (ms.map PM.r)with⟨h1,_⟩|⟨j,h1,_⟩
         . exact h1.symm
         . obtain⟨m,hm,he⟩:=List.mem_map.1 (aJ h1);have:=(d1.out.good m hm).2.2.2;rw[he,a9.out]at this;cases this
       . simp[gK,a9.out]
       . rcases gH l (ms.map PM.r)with⟨h1,_⟩|⟨j,h1,_⟩
         . exact h1.symm
         . obtain⟨m,hm,he⟩:=List.mem_map.1 (aJ h1);have:=(d1.out.good m hm).2.2.2;rw[he,a9.out]at this;cases this
def GC.at_ (g:GC) (p:Vl):Rg:=comb g.op g.N (g.a.at_ (g.N:Int) p) (g.b.at_ (g.N:Int) p)
def GC.full (g:GC):Rg:=comb g.op (g.N+1) g.a g.b
theorem GC.full_eq (g:GC):g.full=tN ((g.N+1:Nat):Int) false (cY g.at_ (kI g.a g.b)):=rfl
theorem GC.at_form {g:GC}(a:g.Good)(p:Vl):eI g.N (g.at_ p):=lC _ _ _ _ (a.fa.at_ p) (a.fb.at_ p)
structure CSt (g:GC) (qs:List Ev) (k:Nat) (K:List Vl) (ms:List PM) (o:Int):Prop where
 sw:Swp qs k K
 pr:ms.map PM.pr=cY g.at_ K
 op:o=iV (eZ g.at_ K) (fT g.at_ (.nil (g.N:Int) false) K)
 fit:∀ q∈cY g.at_ K,q.1.length≤64∧q.2.fits=true
theorem CSt.zero (g:GC)(qs:List Ev):CSt g qs 0 [] [] (-1):=⟨Swp.zero qs,rfl,rfl,fun q h=>by cases h⟩
theorem CSt.skip {g:GC}{qs:List Ev}{k:Nat}{K:List Vl}{ms:List PM}{o:Int}(h:CSt g qs k K ms o){x y:Ev}(a:qs[k]?=some x)(b:qs[k+1]?=some y)(e:y.v=x.v):CSt g qs (k+1) K ms o:=⟨h.sw.skip a b e,h.pr,h.op,h.fit⟩
theorem aT2 {ms:List PM}{L:List (List Iv×Rg)}(h:ms.map PM.pr=L):ms.map PM.r=L.map (·.2):=by rw[<- h,zW]
theorem bB8 {ro:Vl->Rg}(K:List Vl)(p:Vl):(gK (cY ro K) (ro p)).map (·.2)=eZ ro (K++[p]):=by
 rw[xY,List.map_map];exact List.map_id' _
section
variable {g:GC} {qs:List Ev} {k:Nat} {K:List Vl} {ms ms':List PM} {o now:Int} {x:Ev}
theorem CSt.room (h:CSt g qs k K ms o)(a:ms'.map PM.pr=gK (ms.map PM.pr) (g.at_ x.v))(b:now=iV (ms'.map PM.r) (g.at_ x.v)):ms'.map PM.pr=gK (cY g.at_ K) (g.at_ x.v)/\now=iV (eZ g.at_ (K++[x.v])) (g.at_ x.v):=by
 rw[h.pr]at a;refine⟨a,?_⟩;rw[b,aT2 a,bB8]
theorem CSt.same (c:g.Good)(h:CSt g qs k K ms o)(l:qF qs)(m:qs[k]?=some x)(hb:∀y,qs[k+1]?=some y->y.v≠x.v)(j:ms'.map PM.pr=gK (cY g.at_ K) (g.at_ x.v))(d:now=iV (eZ g.at_ (K++[x.v])) (g.at_ x.v))(b:now=o):CSt g qs (k+1) (K++[x.v]) ms' o:=by
 have i:=(aA4 (n:=g.N) (K:=K) (p:=x.v) (fun q _=>g.at_form c q)).1 (by rw[<- d,<- h.op];exact b);obtain⟨e,a⟩:=bM7 (n:=g.N) (fun q _=>g.at_form c q) i;refine⟨h.sw.take l m hb,by rw[j,e,a],?_,by rw[a];exact h.fit⟩;rw[tS,<- d];exact b.symm
theorem CSt.turn (c:g.Good)(h:CSt g qs k K ms o)(u:qF qs)(z:qs[k]?=some x)(hb:∀y,qs[k+1]?=some y->y.v≠x.v)(b:now=iV (eZ g.at_ (K++[x.v])) (g.at_ x.v))(l:now≠o)
 (s:ms'.map PM.pr=tL now x.v (lI o x.v (gK (cY g.at_ K) (g.at_ x.v))))(i:∀m∈ms',m.vs.length<=64/\m.r.fits=true):CSt g qs (k+1) (K++[x.v]) ms' now:=by
 have d:g.at_ x.v≠fT g.at_ (.nil (g.N:Int) false) K:=fun e=>l (by
  have:=(aA4 (n:=g.N) (K:=K) (p:=x.v) (fun q _=>g.at_form c q)).2 e;rw[<- b,<- h.op]at this;exact this)
 have a:=bM6 (n:=g.N) (K:=K) (p:=x.v) (fun q _=>g.at_form c q) d;rw[<- b,<- h.op,<- s]at a;refine⟨h.sw.take u z hb,a.symm,by rw[tS];exact b,?_⟩;rw[a];intro q t;obtain⟨m,j,rfl⟩:=List.mem_map.1 t;exact i m j
theorem CSt.ahead (h:CSt g qs k K ms o)(i:qs.Perm (evs g.a g.b))(c:qF qs)(d:qs[k]?=some x)(hb:∀y,qs[k+1]?=some y->y.v≠x.v):∃R,kI g.a g.b=K++x.v::R:=by
 have j:=(List.getElem?_eq_some_iff.1 d).1;obtain⟨R,e⟩:=(h.sw.take c d hb).prefix_ i c (by omega);exact⟨R,by simpa using e⟩
theorem CSt.fail1 (l:g.Good)(h:CSt g qs k K ms o)(m:qs.Perm (evs g.a g.b))(n:qF qs)(p:qs[k]?=some x)(hb:∀y,qs[k+1]?=some y->y.v≠x.v)(c:GFail g ms (g.at_ x.v)):¬dP g.full:=by
 obtain⟨R,j⟩:=h.ahead m n p hb;rw[g.full_eq,j];rcases c with c|⟨e,d,i⟩
 . exact bQ9 (g.at_form l x.v) c
 . refine bQ8 e ?_ (by rw[<- h.pr];exact i);rw[aT2 h.pr,sV]at d;exact d
theorem CSt.fail2 (i:g.Good)(h:CSt g qs k K ms o)(s:qs.Perm (evs g.a g.b))(t:qF qs)(u:qs[k]?=some x)(hb:∀y,qs[k+1]?=some y->y.v≠x.v)(r:now=iV (eZ g.at_ (K++[x.v])) (g.at_ x.v))(m:now≠o)(z:0<=now)(l:64<=(dT g.at_ K (g.at_ x.v)).length):¬dP g.full:=by
 obtain⟨R,d⟩:=h.ahead s t u hb;rw[g.full_eq,d];refine bQ7 (n:=g.N) ?_ (fun e=>m (by
  have:=(aA4 (n:=g.N) (K:=K) (p:=x.v) (fun q _=>g.at_form i q)).2 e;rw[<- r,<- h.op]at this;exact this)) l
 rcases gH (g.at_ x.v) (eZ g.at_ (K++[x.v]))with⟨c,_⟩|⟨j,c,_⟩
 . omega
 . exact((eQ _ _).1 (aJ c)).2
theorem CSt.done (h:CSt g qs qs.length K ms o)(j:qs.Perm (evs g.a g.b))(e:eB (ms.map PM.pr)<=64):tN ((g.N+1:Nat):Int) false (ms.map PM.pr)=g.full/\dP g.full:=by
 have i:=h.sw.fin j;have c:=h.pr;have d:=h.fit;rw[i]at c d;refine⟨by rw[g.full_eq,c],?_⟩;rw[g.full_eq,rH];rw[c]at e;exact⟨e,d⟩
theorem cur_at (c:g.Good)(n:qs.Perm (evs g.a g.b))(d:qF qs)(i:qs[k]?=some x)(hb:∀y,qs[k+1]?=some y->y.v≠x.v) :
 kS 0 (qs.take (k+1))=kG g.a.parts x.v/\kS 1 (qs.take (k+1))=kG g.b.parts x.v:=by
 have o:qF (qs.take (k+1)++qs.drop (k+1)):=by rw[List.take_append_drop];exact d
 have m:∀e,e∈qs.take (k+1)++qs.drop (k+1)↔e∈evs g.a g.b:=fun e=>by rw[List.take_append_drop];exact n.mem_iff
 have p:bT x.v=true:=by have r:x.v∈kI g.a g.b:=(bI0 _ _ _).2 ⟨x,n.mem_iff.1 (aJ i),rfl⟩;exact(aM1 c.fa c.fb).2.1 _ r
 constructor
 . exact bK8 o (fun e j=>(m e).trans (bR3 j)) (zG d i) (zI d i hb) (fun q l=>(c.fa.2.2.1 q l).2.1) (c.fa.2.2.2.imp fun h=>h.2.1) p
 . exact bK8 o (fun e j=>(m e).trans (bR2 j)) (zG d i) (zI d i hb) (fun q l=>(c.fb.2.2.1 q l).2.1) (c.fb.2.2.2.imp fun h=>h.2.1) p
theorem rU (L:List (List Iv×Rg))(v:Vl) : -1<=kG L v/\kG L v<(L.length:Int):=by
 rcases kO v L with⟨a,_⟩|⟨j,p,a,_,b,_⟩
 . omega
 . have:=(List.getElem?_eq_some_iff.1 a).1;omega
theorem ro_at (c:g.Good)(p:Vl):g.ro (kG g.a.parts p,kG g.b.parts p)=g.at_ p:=by
 unfold GC.ro GC.at_;rw[rest_at c.fa.1,rest_at c.fb.1]
theorem ev_side (m:qs.Perm (evs g.a g.b))(n:qs[k]?=some x):(x.s=0\/x.s=1)/\0<=x.p/\x.p<1000\/¬(g.a.len<=64/\g.b.len<=64):=by
 have i:=m.mem_iff.1 (aJ n);unfold evs at i;by_cases l:g.a.len<=64/\g.b.len<=64
 . left;rcases List.mem_append.1 i with h|h
   . refine⟨.inl (vJ h),?_⟩;obtain⟨j,p,y,c,_,d⟩:=kN.1 h;have e:=(List.getElem?_eq_some_iff.1 c).1;rw[cI]at e;rcases lH.1 d with rfl|⟨_,rfl⟩<;>simp only<;>omega
   . refine⟨.inr (vJ h),?_⟩;obtain⟨j,p,y,c,_,d⟩:=kN.1 h;have e:=(List.getElem?_eq_some_iff.1 c).1;rw[cI]at e;rcases lH.1 d with rfl|⟨_,rfl⟩<;>simp only<;>omega
 . exact .inr l
end
theorem entO:∀args w,(callFunc 161 args).run Tryz.prog w=.ok (.enter 161 args) w:=Go.Proofs.enters_of Tryz.func161 (by kernel_rfl) rfl
theorem entG1:∀args w,(callFunc 241 args).run Tryz.prog w=.ok (.enter 241 args) w:=Go.Proofs.enters_of Tryz.func241 (by kernel_rfl) rfl
structure Boxes (H O:Nat) (xa:Int) (fa:Bool) (Aa:Option Addr) (na ca:Nat) (xb:Int) (fb:Bool) (Ab:Option Addr) (nb cb:Nat) (ov:Value) (w:World):Prop where
 ba:aT w H 71 #[.int .i64 xa,.bool fa,.slice Aa na ca]
 bb:aT w (H+1) 71 #[.int .i64 xb,.bool fb,.slice Ab nb cb]
 bp:aT w (H+2) 222 #[.pointer (some ⟨O,0,none⟩)]
 bo:aT w (H+3) 199 #[ov]
 km:fW w 225 kv2 (H+4) 0 (fun _=>none)
 bk:aT w (H+5) 257 #[.map (some (H+4))]
 cm:fW w 9 Value.string (H+6) 0 (fun _=>none)
 bc:aT w (H+7) 258 #[.map (some (H+6))]
 bt:aT w (H+8) 3 #[.int .i64 0]
def gFn (H:Nat):Value:=.func (.func 241) #[] #[.pointer (some ⟨H+5,0,none⟩),.pointer (some ⟨H,0,none⟩),.pointer (some ⟨H+1,0,none⟩),.pointer (some ⟨H+3,0,none⟩),.pointer (some ⟨H+7,0,none⟩),.pointer (some ⟨H+8,0,none⟩),.pointer (some ⟨H+2,0,none⟩)]
theorem aT.step {w:World}{b:Nat}{T:TypeId}{cs:Array Value}(h:b=w.heap.size):aT (w.alloc (.cells cs T)) b T cs:=by subst h;exact aT.new w T cs
theorem aO1 (O:Nat)(xa:Int)(fa:Bool)(Aa:Option Addr)(na ca:Nat)(xb:Int)(fb:Bool)(Ab:Option Addr)(nb cb:Nat)(c d g:Bool)(w:World) :
 Calls Tryz.prog 203 #[.agg #[xa,.bool fa,.slice Aa na ca],.agg #[xb,.bool fb,.slice Ab nb cb],.pointer (some ⟨O,0,none⟩),opV c d g] w
  fun e w'=>e=.returned (gFn w)/\Boxes w O xa fa Aa na ca xb fb Ab nb cb (opV c d g) w'/\Below w w w'/\w'.heap.size=w.heap.size+9:=by
 have l:=@run_makeMap Tryz.prog;go_enter Tryz.func203,Tryz.ntmps203;go_wp2;go_ret;refine⟨by simp[gFn],?_,?_,by simp[aX]⟩
 . generalize a:w.heap.size=H;have i:∀(w:World) (o:Obj) (b:Nat) (T:TypeId) (cs:Array Value),aT w b T cs->aT (w.alloc o) b T cs:=fun w o b T cs h=>h.alloc o;have j:∀ {κ:Type} (w:World) (o:Obj) (kT:TypeId) (kv:κ->Value) (b n:Nat) (M:κ->Option Int),fW w kT kv b n M->fW (w.alloc o) kT kv b n M:=fun w o kT kv b n M h=>h.below ((aB _ _).alloc (aD _) _);have k:∀ {κ:Type} (w:World) (kT:TypeId) (kv:κ->Value) (b:Nat),b=w.heap.size->fW (w.alloc (.map #[] 0)) kT kv b 0 (fun _=>none):=fun w kT kv b h=>(by subst h;exact cD1 w kT kv);constructor;all_goals(repeat(first|(focus (refine aT.step ?_;simp[aX,a];done))|(focus (refine k _ _ _ _ ?_;simp[aX,a];done))|(refine i _ _ _ _ _ ?_)|(refine j _ _ _ _ _ _ _ ?_)))
 . repeat(first|exact aB _ _|(refine Below.alloc ?_ (by simp[aX];try omega) _))
theorem bR7 (c d g:Bool):bA2 0 c d g:=by
 intro a b xa fa Aa na ca xb fb Ab nb cb w j m h1 h2 _ _ _ _;have e1:xa=0:=by rw[<- j.hw];exact h1.1
 have e2:=j.hf;have e3:=m.hf;subst e1;have hr:comb (uX c d g) 0 a b=.nil 0 (uX c d g fa fb):=by rw[<- e2,<- e3];rfl
 rw[hr];have x:=entO;clear j m h1 h2 e2 e3 hr;have o:Hid (Below w w (((w.alloc (.cells #[zO,.bool fa,.slice Aa na ca] 71)).alloc (.cells #[xb,.bool fb,.slice Ab nb cb] 71)).alloc (.cells zR 71))):=Z ((((aB _ _).alloc (aD _) _).alloc (by simp) _).alloc (by simp;omega) _);have q:Hid (aT (((w.alloc (.cells #[zO,.bool fa,.slice Aa na ca] 71)).alloc (.cells #[xb,.bool fb,.slice Ab nb cb] 71)).alloc (.cells zR 71)) (w.heap.size+1+1) 71 zR):=Z (aT.step (by simp[aX]));go_enter Tryz.func160,Tryz.ntmps160;go_wp2_with fail;refine(of_any c d g fa fb _).mono ?_;rintro e z ⟨rfl,hb1⟩;have i:=Z (q.out.below hb1);have y:=i.out.cell;obtain⟨s,t,u⟩:=bF i.out zO (.bool (uX c d g fa fb));have k:Hid (aT _ _ _ zR):=Z (i.out.set_ 0 zO);have l:Hid (aT _ _ _ #[zO,.bool (uX c d g fa fb),zN]):=Z (k.out.set_ 1 (.bool (uX c d g fa fb)));have n:Hid (aT _ _ _ #[zO,.bool (uX c d g fa fb),zN]):=Z (l.out.set_ 2 zN);have A:=k.out.cell;have B:=l.out.cell;have r:=n.out.cell;have p:=Z (bD (cC1 o.out hb1) (show w.heap.size<=w.heap.size+1+1 by omega) zO (.bool (uX c d g fa fb)) zN);clear hb1;go_wp2;exact aF (v:=.tuple #[.agg #[zO,.bool (uX c d g fa fb),zN],zT]) (by simp[results,Tryz.results160,go_sem,r]) rfl ⟨0,_,none,0,0,true,rfl,⟨fun _=>⟨by simp[Rg.size],rfl⟩,fun _=>rfl⟩,fun _=>uB.nil _ _,p.out⟩
end Go.Proofs.YtnnmlhmffnfjfaaGreat
