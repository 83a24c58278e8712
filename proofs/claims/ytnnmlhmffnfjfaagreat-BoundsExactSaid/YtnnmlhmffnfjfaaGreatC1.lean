/- Texts on which the walk stands. -/
import Derived.WalkKit
import Derived.WalkSpells
import Derived.WalkLawsBesides
import Derived.Deep.Draws
import Derived.Deep.AppendLies
import Derived.Lib.Hide
import Derived.Lib.Bytealg
import Derived.Test.YtnnmlhmffnfjfaaGreatRows
import Derived.BigQuiet
import Derived.Deep.QuietTactic
import Derived.Maps.AppendAt
import Derived.OrdersHeld
import Derived.Laws.AppendOwnNone
open Go renaming wpQuiet_nil → aA, bodyPost_ret → aF
open Go.RowKit.Below renaming refl → aB, setCell → bC, alloc → cG
open Nat renaming le_refl → aD, lt_or_ge → cJ
open Bool renaming and_eq_true → aI, eq_iff_iff → bV
open List renaming getElem?_eq_getElem → aN, flatMap_append → aP, eq_nil_of_length_eq_zero → aR, drop_eq_nil_of_le → aU, length_cons → bL
set_option maxHeartbeats 2000000
set_option linter.unusedVariables false
set_option maxRecDepth 100000
namespace Go.Proofs.YtnnmlhmffnfjfaaGreat
open Go.RowKit
structure Vl where
 k:Int
 i:Int
 t:ByteArray
 deriving DecidableEq
structure Iv where
 f:Vl
 t:Vl
 o:Bool
 deriving DecidableEq
def Vl.cs (v:Vl):List Value:=[.int .i64 v.k,.int .i64 v.i,.string v.t]
def Iv.cs (x:Iv):List Value:=[.int .i64 x.f.k,.int .i64 x.f.i,.string x.f.t,.int .i64 x.t.k,.int .i64 x.t.i,.string x.t.t,.bool x.o]
def bT (v:Vl):Bool :=
 if v.k=1∨v.k=2 then (v.i == 0)&&v.t.toList.isEmpty
 else if v.k=3 then (v.i == 0 || v.i == 1)&&v.t.toList.isEmpty
 else if v.k=4 then v.t.toList.isEmpty
 else if v.k=5 then (v.i == 0)&&decide (v.t.size≤64)
 else false
def dN:List UInt8→List UInt8→Int
 |[],[]=>0
 |[],_::_ => -1
 |_::_,[]=>1
 |a::x,b::y=>if a<b then -1 else if b<a then 1 else dN x y
def bZ (a b:Vl):Int :=
 if a.k<b.k then -1 else if b.k<a.k then 1
 else if a.i<b.i then -1 else if b.i<a.i then 1
 else dN a.t.toList b.t.toList
theorem aZ1:∀a b:List UInt8,Lib.compareBytes a b=dN a b
 |[],[]=>rfl
 |[],_::_=>rfl
 |_::_,[]=>rfl
 |
  a::x,b::y=>by
  unfold Lib.compareBytes dN;rw[aZ1 x y]
theorem wV:∀a b:List UInt8,Op.bytesLess a b=decide (dN a b<0)
 |[],[]=>by simp[Op.bytesLess,dN]
 |[],_::_=>by simp[Op.bytesLess,dN]
 |_::_,[]=>by simp[Op.bytesLess,dN]
 |
  a::x,b::y=>by
  have g:=wV x y;unfold Op.bytesLess dN;by_cases c:a<b
  . simp[c]
  . by_cases d:b<a
    . have:a≠b:=fun e=>(by subst e;exact c d);simp[c,d,this]
    . have:a=b:=UInt8.le_antisymm (UInt8.not_lt.1 d) (UInt8.not_lt.1 c);simp[this,g]
theorem pM:∀a b:List UInt8,dN a b = -1\/dN a b=0\/dN a b=1
 |[],[]=>by simp[dN]
 |[],_::_=>by simp[dN]
 |_::_,[]=>by simp[dN]
 |
  a::x,b::y=>by
  have c:=pM x y;unfold dN;split
  . simp
  . split
    . simp
    . exact c
theorem aK6:∀a b:List UInt8,dN b a = - dN a b
 |[],[]=>by simp[dN]
 |[],_::_=>by simp[dN]
 |_::_,[]=>by simp[dN]
 |
  a::x,b::y=>by
  have e:=aK6 x y;unfold dN;by_cases c:a<b
  . have d:¬b<a:=UInt8.lt_asymm c;simp[c,d]
  . by_cases d:b<a
    . simp[c,d]
    . simp[c,d,e]
theorem oL:∀a b:List UInt8,dN a b=0↔a=b
 |[],[]=>by simp[dN]
 |[],_::_=>by simp[dN]
 |_::_,[]=>by simp[dN]
 |
  a::x,b::y=>by
  have g:=oL x y;unfold dN;by_cases c:a<b
  . have:a≠b:=fun e=>(by subst e;exact UInt8.lt_irrefl _ c);simp[c,this]
  . by_cases d:b<a
    . have:a≠b:=fun e=>(by subst e;exact c d);simp[c,d,this]
    . have:a=b:=UInt8.le_antisymm (UInt8.not_lt.1 d) (UInt8.not_lt.1 c);simp[this,g]
theorem nD (a b:ByteArray):a=b↔a.toList=b.toList:=by
 constructor
 . intro e;rw[e]
 . intro e;rw[ByteArray.toList_eq,ByteArray.toList_eq]at e;exact ByteArray.ext (Array.toList_inj.1 e)
theorem gI (a b:Vl):bZ a b=0↔a=b:=by
 obtain⟨k,i,t⟩:=a;obtain⟨e,d,c⟩:=b;unfold bZ;simp only[Vl.mk.injEq,nD];have:=oL t.toList c.toList
 repeat' split
 all_goals first|omega|skip
 rw[this];constructor
 . intro h;exact⟨by omega,by omega,h⟩
 . intro h;exact h.2.2
theorem aD1 (a b:Vl):bZ a b = -1\/bZ a b=0\/bZ a b=1:=by
 have:=pM a.t.toList b.t.toList;unfold bZ
 repeat' split
 all_goals omega
theorem dD (a b:Vl):bZ b a = - bZ a b:=by
 have:=aK6 a.t.toList b.t.toList;unfold bZ
 repeat' split
 all_goals omega
def vS (a b:Int):Int:=if a<b then -1 else if b<a then 1 else 0
theorem lD (a:Int):vS a a=0:=by simp[vS]
theorem sI (a:List UInt8):dN a a=0:=(oL a a).2 rfl
theorem sF (k i b a:Int)(t c:ByteArray):bZ ⟨k,i,t⟩ ⟨b,a,c⟩=if vS k b≠0 then vS k b else if vS i a≠0 then vS i a else dN t.toList c.toList:=by
 unfold bZ vS;simp only
 repeat' split
 all_goals first|rfl|omega
theorem less_t {a b:List UInt8}(h:Op.bytesLess a b=true):dN a b = -1:=by
 rw[wV]at h;have:=pM a b;simp only[decide_eq_true_eq]at h;omega
theorem less_f {a b:List UInt8}(h:Op.bytesLess a b=false)(c:(!a == b)=true):dN a b=1:=by
 rw[wV]at h;have d:=pM a b;have g:dN a b≠0:=by intro e;rw[oL]at e;subst e;simp at c
 simp only[decide_eq_false_iff_not]at h;omega
theorem less_e {a b:List UInt8}(c:(!a == b)=false):dN a b=0:=by
 simp only[Bool.not_eq_false',beq_iff_eq]at c;exact(oL a b).2 c
theorem hN {a b:Int}(h:a=b):Ending.returned (.int .i64 a)=.returned (.int .i64 b):=by rw[h]
theorem bR {a b:Bool}(h:a=b):Ending.returned (.bool a)=.returned (.bool b):=by rw[h]
def bE:Vl:=⟨0,0,⟨#[]⟩⟩
def okI (p:Option Iv) (x:Iv) (last:Bool):Bool :=
 bT x.f&&(match p with|none=>true|some y=>decide (bZ y.t x.f<0)) &&
  (if x.o then last&&decide (x.t=bE)else bT x.t&&decide (bZ x.f x.t<0))
def cL:Option Iv→List Iv→Bool
 |_,[]=>true
 |p,x::r=>okI p x r.isEmpty&&cL (some x) r
theorem gD (p:Option Iv)(x:Iv)(r:List Iv):cL p (x::r)=(okI p x r.isEmpty&&cL (some x) r):=rfl
def cM (l:List Iv):Bool:=decide (l.length≤64)&&cL none l
def mT (l:List Iv):Nat→Option Iv
 |0=>none
 |k+1=>l[k]?
theorem wB {t:ByteArray}:t=⟨#[]⟩↔t.toList=[]:=by
 rw[nD,ByteArray.toList_eq ⟨#[]⟩]
def aM3 (p:Option Iv) (v:Vl):Bool:=match p with|none=>true|some y=>decide (bZ y.t v<0)
theorem bV8 (p:Option Iv)(j i e d:Int)(k g:ByteArray)(m l:Bool):okI p ⟨⟨j,i,k⟩,⟨e,d,g⟩,m⟩ l =
 (bT ⟨j,i,k⟩&&aM3 p ⟨j,i,k⟩&&(if m then l&&(decide (e=0)&&decide (d=0)&&decide (g.toList=[]))else bT ⟨e,d,g⟩&&decide (bZ ⟨j,i,k⟩ ⟨e,d,g⟩<0))):=by
 have h:decide ((⟨e,d,g⟩:Vl)=bE)=(decide (e=0)&&decide (d=0)&&decide (g.toList=[])):=by
  rw[bV];simp only[bE,Vl.mk.injEq,wB,decide_eq_true_eq,aI];constructor
  . rintro⟨a,b,c⟩;exact⟨⟨a,b⟩,c⟩
  . rintro⟨⟨a,b⟩,c⟩;exact⟨a,b,c⟩
 unfold okI aM3;simp only[h]
theorem aU6 {l:List Iv}{k:Nat}{x:Iv}(a:l[k]?=some x)(h:cL none l=cL (mT l k) (l.drop k)) :
 cL none l=(okI (mT l k) x (decide (k+1=l.length))&&cL (mT l (k+1)) (l.drop (k+1))):=by
 have c:k<l.length:=(List.getElem?_eq_some_iff.1 a).1;have b:l[k]=x:=(List.getElem?_eq_some_iff.1 a).2;rw[h,List.drop_eq_getElem_cons c,b,gD];have:(l.drop (k+1)).isEmpty=decide (k+1=l.length):=by rw[bV];simp;omega
 rw[this];have e:mT l (k+1)=some x:=a;rw[e]
theorem pkO:(∀ (f:Nat→Oper) (a:Nat) (l:List Nat),List.map f (a :: l)=f a :: List.map f l)∧(∀ f:Nat→Oper,List.map f []=[])∧(∀ (l:List Oper) (i:Nat),l.toArray[i]? = l[i]?)∧(∀ (a:Oper) (l:List Oper),(a :: l)[0]? = some a)∧(∀ (a:Oper) (l:List Oper) (i:Nat),(a :: l)[i+1]? = l[i]?)∧(∀ a b:Oper,(some a).getD b=a):=⟨fun _ _ _=>rfl,fun _=>rfl,fun _ _=>by simp,fun _ _=>rfl,fun _ _ _=>by simp,fun _ _=>rfl⟩
theorem zH {p:Prop} (h:p):Hid p:=Lib.hid h
theorem Z {p:Prop}(h:p):Hid p:=Lib.hid h
theorem zE {α:Type} (x:α):∃ z,Hid (x=z):=⟨_,Lib.hid rfl⟩
structure ZO
structure ZN
structure ZS
structure ZF
structure ZT
structure ZR
structure ZV
def zO:ZO:={}
def zN:ZN:={}
def zS:ZS:={}
def zF:ZF:={}
def zT:ZT:={}
def zR:ZR:={}
def zV:ZV:={}
instance:Coe World Nat:=⟨fun w=>w.heap.size⟩
instance:Coe Int Value:=⟨fun x=>.int .i64 x⟩
instance:Coe ByteArray Value:=⟨fun x=>.string x⟩
instance:Coe ZO Value:=⟨fun _=>.int .i64 0⟩
instance:Coe ZN Value:=⟨fun _=>.slice none 0 0⟩
instance:Coe ZS Value:=⟨fun _=>.string ⟨#[]⟩⟩
instance:Coe ZF Value:=⟨fun _=>.bool false⟩
instance:Coe ZT Value:=⟨fun _=>.bool true⟩
instance:Coe ZR (Array Value):=⟨fun _=>#[.int .i64 0,.bool false,.slice none 0 0]⟩
instance:Coe ZV (Array Value):=⟨fun _=>#[.int .i64 0,.int .i64 0,.string ⟨#[]⟩]⟩
theorem jY (v:Vl)(w:World) :
 Calls Tryz.prog 125 #[.agg #[v.k,v.i,v.t]] w fun e w'=>e=.returned (.bool (bT v))/\Below w w w':=by
 obtain⟨k,i,t⟩:=v;go_enter Tryz.func125,Tryz.ntmps125;go_wp2;all_goals
  go_ret;refine⟨?_,by repeat(first|exact aB _ _|apply Below.drew|refine cG ?_ (by simp) _)⟩;simp_all[bT];try omega
theorem kV (v:Vl)(w:World) :
 Calls Tryz.prog 175 #[.agg #[v.k,v.i,v.t]] w fun e w'=>e=.returned (.bool (bT v))/\Below w w w':=by
 obtain⟨k,i,t⟩:=v;go_enter Tryz.func175,Tryz.ntmps175;go_wp2;all_goals
  go_ret;refine⟨?_,by repeat(first|exact aB _ _|apply Below.drew|refine cG ?_ (by simp) _)⟩;simp_all[bT];try omega
theorem aD3 (a b:Int)(w:World) :
 Calls Tryz.prog 154 #[a,b] w fun e w'=>e=.returned (.int .i64 (vS a b))/\w=w':=by
 go_enter Tryz.func154,Tryz.ntmps154;go_wp2;all_goals
  go_ret;refine⟨?_,rfl⟩;simp_all[vS];try(rw[if_neg (by omega),if_neg (by omega)])
theorem vR (a b:Int)(w:World) :
 Calls Tryz.prog 155 #[a,b] w fun e w'=>e=.returned (.int .i64 (vS a b))/\w=w':=by
 go_enter Tryz.func155,Tryz.ntmps155;go_wp2;all_goals
  go_ret;refine⟨?_,rfl⟩;simp_all[vS];try(rw[if_neg (by omega),if_neg (by omega)])
theorem aD2 (a b:ByteArray)(w:World) :
 Calls Tryz.prog 156 #[a,b] w fun e w'=>e=.returned (.int .i64 (dN a.toList b.toList))/\w=w':=by
 go_enter Tryz.func156,Tryz.ntmps156;go_wp2;rw[run_callFunc_extern Tryz.func239 (by kernel_rfl) (by kernel_rfl) (by kernel_rfl) (e:=Extern.BytealgCompare.compare) (by kernel_rfl),Lib.run_compareString];simp only[Result.andThen];rw[Oper.upon_value];go_wp2;go_ret;exact⟨hN (by rw[aZ1,ByteArray.toList_eq,ByteArray.toList_eq]),rfl⟩
theorem eN (a b:Vl)(w:World) :
 Calls Tryz.prog 112 #[.agg #[a.k,a.i,a.t],.agg #[b.k,b.i,b.t]] w fun e w'=>e=.returned (.int .i64 (bZ a b))/\Below w w w':=by
 obtain⟨k,i,t⟩:=a;obtain⟨d,c,g⟩:=b;go_enter Tryz.func112,Tryz.ntmps112;go_wp2;all_goals
  go_ret;refine⟨hN ?_,by repeat(first|exact aB _ _|apply Below.drew|refine cG ?_ (by simp) _)⟩;simp only[bZ];first
   |(have hb:=less_t ‹_›;rw[hb];repeat' split)
   |(have hb:=less_f ‹_› ‹_›;rw[hb];repeat' split)
   |(have hb:=less_e ‹_›;rw[hb];repeat' split)
   |(repeat' split)
  all_goals omega
theorem eT (a b:Vl)(w:World) :
 Calls Tryz.prog 93 #[.agg #[a.k,a.i,a.t],.agg #[b.k,b.i,b.t]] w fun e w'=>e=.returned (.int .i64 (bZ a b))/\Below w w w':=by
 obtain⟨k,i,t⟩:=a;obtain⟨d,c,g⟩:=b;go_enter Tryz.func93,Tryz.ntmps93;go_wp2_with (first
  |(go_at_call 154;refine(aD3 _ _ _).mono ?_;rintro e w' ⟨rfl,rfl⟩)
  |(go_at_call 155;refine(vR _ _ _).mono ?_;rintro e w' ⟨rfl,rfl⟩)
  |(go_at_call 156;refine(aD2 _ _ _).mono ?_;rintro e w' ⟨rfl,rfl⟩))
 all_goals
  go_ret;refine⟨hN ?_,by repeat(first|exact aB _ _|apply Below.drew|refine cG ?_ (by simp) _)⟩;rw[sF];simp_all[lD,sI]
def dW (w w':World):Prop:=∀a,(w.cell? a).isSome=true→w'.cell? a=w.cell? a
theorem gS {w:World}{a:Addr}(h:(w.cell? a).isSome=true):a.block<w.heap.size:=by
 unfold World.cell? at h;rcases cJ a.block w.heap.size with c|b
 . exact c
 . rw[Array.getElem?_eq_none b]at h;simp at h
theorem dW.refl (w:World):dW w w:=fun _ _=>rfl
theorem dW.trans {a b c:World}(h:dW a b)(k:dW b c):dW a c:=fun x d=>by
 have e:=h x d;rw[<- e]at d ⊢;exact k x d
theorem aC {w w':World}(hb:Below w w w'):dW w w':=fun _ h=>hb.cell (gS h)
theorem bL4 {w w':World}(hb:Below w w w'):∀a,(w.cell? a).isSome=true->w'.cell? a=w.cell? a:=aC hb
theorem cC1 {a b c:World}(h:Below a a b)(hb:Below b b c):Below a a c:=h.trans (hb.mono h.size)
theorem dW.drew {w w':World}(h:dW w w'):dW w w'.drew:=h
theorem dW.drewN {w w':World}(h:dW w w')(n:Nat):dW w (w'.drewN n):=h
theorem aM (w:World)(o:Obj):dW w (w.alloc o):=fun a h=>World.cell?_alloc_lt w o a (gS h)
theorem dW.alloc {w w':World}(h:dW w w')(o:Obj):dW w (w'.alloc o):=h.trans (aM _ _)
structure Later (w:World) where
 to:World
 below:Below w.heap.size w to
instance (w:World):Nonempty (Later w):=⟨⟨w,aB _ _⟩⟩
instance (w:World):Inhabited (Later w):=⟨⟨w,aB _ _⟩⟩
def after (w:World) (x:Later w):World:=x.to
theorem bK {w:World}(x:Later w)(a:Addr)(h:(w.cell? a).isSome=true):(after w x).cell? a=w.cell? a:=x.below.cell (gS h)
section
variable {P:Program} {w:World}
theorem lK {ops:Array Oper}{C:World->Prop}{Q Q':Act->Prop}(b:∀a,Q a->Q' a):∀(l:List Oper) (a:Act),wpQuiet P ops C Q l a->wpQuiet P ops C Q' l a
 |[],a,h=>b a h
 |
  o::rest,a,h=>by
  unfold wpQuiet at h ⊢;split
  . rename_i c;rw[if_pos c]at h;exact Oper.quiet_mono (fun a' d=>lK b rest a' d) h
  . rename_i c;rw[if_neg c]at h;exact lK b rest _ h
theorem mA {id:Nat}{Q:Exit->Act->World->Prop}{a:Act}{l:List Oper}(e:P.follows .mixedOrders=true)(d:Region.lexB .any l.toArray=true)
 (h:wpQuiet P l.toArray (fun W=>∃x:Later w,W=after w x) (fun a'=>∀W,Below w w W->Q .normal a' W) l a):(Code.region id l.toArray true).wp P Q a w :=
 wp_region_quiet (C:=fun W=>∃x:Later w,W=after w x) e d ⟨⟨{ w with drawn:=w.drawn+1 },(aB _ _).drew⟩,rfl⟩
  (by
   have c:=lK (Q':=fun a'=>∀W,(∃x:Later w,W=after w x)->Q .normal a' W) (fun a' b W ⟨x,hx⟩=>b W (by rw[hx];exact x.below)) l a h;simpa using c)
theorem aA7 {f:FuncId}{args:Array Value}{x:Later w}{v:Value}
 (h:Calls P f args (after w x) fun e w'=>e=.returned v/\Below (after w x).heap.size (after w x) w'):Calls P f args (after w x) fun e b=>e=.returned v/\∃y:Later w,b=after w y :=
 h.mono fun _ w' ⟨a,hb⟩=>⟨a,⟨w',x.below.trans (hb.mono x.below.size)⟩,rfl⟩
end
def Sl {α:Type} (sz:Nat) (cs:α→List Value) (w:World) (A:Option Addr) (n:Nat) (l:List α):Prop :=
 l.length=n∧(0<n→∃b o,A=some ⟨b,o,none⟩∧∀(k:Nat) (x:α),l[k]?=some x→∀(j:Nat) (u:Value),(cs x)[j]?=some u→w.cell? ⟨b,o+k*sz+j,none⟩=some u)
section
variable {α:Type} {sz:Nat} {cs:α→List Value} {w w':World} {A:Option Addr} {n:Nat} {l:List α}
theorem Sl.len (h:Sl sz cs w A n l):l.length=n:=h.1
theorem Sl.keep (h:Sl sz cs w A n l)(a:dW w w'):Sl sz cs w' A n l:=by
 refine⟨h.1,fun c=>?_⟩;obtain⟨b,o,e,hc⟩:=h.2 c;refine⟨b,o,e,fun k x g j u d=>?_⟩;have:=hc k x g j u d;rw[a _ (by rw[this];rfl)];exact this
theorem Sl.nil:Sl sz cs w A 0 ([]:List α):=⟨rfl,fun h=>absurd h (by omega)⟩
theorem Sl.at {k:Nat}(h:Sl sz cs w A n l)(a:k<n):∃b o x,A=some ⟨b,o,none⟩/\l[k]?=some x/\∀(j:Nat) (u:Value),(cs x)[j]?=some u->w.cell? ⟨b,o+k*sz+j,none⟩=some u:=by
 obtain⟨b,o,e,hc⟩:=h.2 (by omega);have c:=h.1;exact⟨b,o,l[k]'(by omega),e,aN _,hc k _ (aN _)⟩
end
theorem pK {α:Type}{sz:Nat}{cs:α->List Value}(a:∀x,(cs x).length=sz):∀(l:List α) (k:Nat) (x:α) (j:Nat) (u:Value),l[k]?=some x->(cs x)[j]?=some u->(l.flatMap cs)[k*sz+j]?=some u
 |[],k,x,j,u,h,_=>by simp at h
 |
  y::l,0,x,j,u,h,hu=>by
  simp only[List.getElem?_cons_zero,Option.some.injEq]at h;subst h;have b:j<(cs y).length:=(List.getElem?_eq_some_iff.1 hu).1;rw[List.flatMap_cons,Nat.zero_mul,Nat.zero_add,List.getElem?_append_left b,hu]
 |
  y::l,k+1,x,j,u,h,hu=>by
  simp only[List.getElem?_cons_succ]at h;have c:=pK a l k x j u h hu;rw[List.flatMap_cons,List.getElem?_append_right (by rw[a,Nat.succ_mul];omega),a,<- c];congr 1;rw[Nat.succ_mul];omega
theorem hV {α:Type}{sz:Nat}{cs:α->List Value}(a:∀x,(cs x).length=sz)(l:List α):(l.flatMap cs).length=l.length*sz:=by
 induction l with
 |nil=>simp
 |cons x l ih=>rw[List.flatMap_cons,List.length_append,ih,a,bL,Nat.succ_mul];omega
theorem cC3 {α:Type}{sz:Nat}{cs:α->List Value}{w:World}{base:Nat}{e:TypeId}{A:Option Addr}{n c:Nat}{l:List α}(d:∀x,(cs x).length=sz)(i:l.length=n)
 (h:w.ownsRow base e sz (.slice A n c) n (l.flatMap cs)):Sl sz cs w A n l:=by
 refine⟨i,fun m=>?_⟩;obtain⟨g,r,p,_,s⟩:=h.form m;have a:A=some ⟨g,0,none⟩:=by injection p
 subst a;refine⟨g,0,rfl,fun k x q j u o=>?_⟩;have hc:=h.cells (g:=g) rfl (k*sz+j) u (pK d l k x j u q o);have b:(⟨g,0,none⟩:Addr).add (k*sz+j)=⟨g,0+k*sz+j,none⟩:=by unfold Addr.add;split<;>simp_all
 rw[b]at hc;exact hc
theorem Vl.cs_len (x:Vl):(Vl.cs x).length=3:=rfl
theorem Iv.cs_len (x:Iv):(Iv.cs x).length=7:=rfl
theorem aM9 (v:Vl):∀u∈Vl.cs v,u.oneCell'=true:=by simp[Vl.cs,Value.oneCell']
theorem iL (v:Iv):∀u∈Iv.cs v,u.oneCell'=true:=by simp[Iv.cs,Value.oneCell']
theorem jN {w:World}{base:Nat}{e:TypeId}{size n:Nat}{v:Value}{b:List Value}(h:w.ownsRow base e size v n b):∀k,v.ownBlock=some k->base<=k:=by
 rcases h.2 with⟨rfl,_⟩|⟨g,c,d,rfl,i,_⟩
 . intro k a;simp[Value.ownBlock]at a
 . intro k a;simp only[Value.ownBlock,Option.some.injEq]at a;omega
theorem qU {W w':World}{o:Obj}{a:Option Nat}(h:(W.alloc o).grownBy w' a):W.grownBy w' a :=
 ⟨h.os,h.tape,h.output,Nat.le_trans (by simp) h.size,fun k b c=>(h.block k (by simp;omega) c).trans (Below.heap_alloc W o k b)⟩
theorem bH {P:Program}{ops:Array Oper}{rest:List Oper}{o:Oper}{a:Act}{Q:Exit->Act->World->Prop}(D:o.guard=none)(s x:Operand)(t:TypeId)
 (F:o.op=.call { callee:=.builtin .append,args:=#[s,x],argTypes:=#[t,t] })
 (base:Nat)(e:TypeId)(i:TypeInfo)(z:Value)(size bytes:Nat)(L:P.underlying t=some (.slice e))(hi:P.info? e=some i)(N:i.zero=some z)
 (J:i.size=size)(y:i.bytes=bytes)(O:z.cells.size=size)(K:0<size)
 (v:Value)(n:Nat)(d:List Value)(I:a.eval s=v)(W:World)(b:Array Value)(k:W.ownsRow base e size v n d)(H:Nat)(p:W.heap.size=H)
 (M:a.eval x=.slice (some ⟨H,0,none⟩) 1 1)(B:b.toList.length=1*size)(l:∀u∈b.toList,u.oneCell'=true)
 (m:n+1<=maxLen)(A:(n+1)*bytes<=140737488355328)(r:base<=W.heap.size)
 (h:∀g c w',w'.ownsRow base e size (.slice (some ⟨g,0,none⟩) (n+1) c) (n+1) (d++b.toList)->W.grownBy w' v.ownBlock->Below base W w'->(v.ownBlock=some g\/g=H+1)->g<w'.heap.size ->
  wpList P ops Q rest (a.put o.dst (.slice (some ⟨g,0,none⟩) (n+1) c)) w'):wpList P ops Q (o::rest) a (W.alloc (.cells b e)):=by
 subst p;refine wpList_append_lies _ D s x t F base e i z size bytes L hi N J y O K v n d I (k.alloc _) ⟨W.heap.size,0,none⟩ 1 1 b.toList M B (World.news_of_block (heap_alloc_new W _)) l (by omega) m A (by simp;omega) (W.heap.size+1) (by simp) ?_;intro g c w' G C q E;have j:=qU C;exact h g c w' G j ((aB _ _).grown j r (jN k)) q E
theorem Sl.lt {α:Type}{sz:Nat}{cs:α->List Value}{w:World}{A:Option Addr}{n:Nat}{l:List α}(i:∀x,(cs x).length=sz)(k:0<sz)(h:Sl sz cs w A n l)(j:0<n):∀b o,A=some ⟨b,o,none⟩->b<w.heap.size:=by
 intro b o g;obtain⟨b',m,x,c,p,hc⟩:=h.at j;rw[g]at c;injection c with h1;injection h1 with h1 h2;have d:0<(cs x).length:=by rw[i];exact k
 have e:=hc 0 _ (aN d);have:=gS (w:=w) (a:=⟨b',m+0*sz+0,none⟩) (by rw[e];rfl);simp only at this;omega
theorem fJ {w w':World}{base:Nat}{e:TypeId}{size n:Nat}{v:Value}{i:List Value}(h:w.ownsRow base e size v n i)(hb:∀g,base<=g->g<w.heap.size->v.ownBlock=some g->w'.heap[g]?=w.heap[g]?):w'.ownsRow base e size v n i:=by
 refine⟨h.1,?_⟩;rcases h.2 with l|⟨g,j,k,d,c,a,r⟩
 . exact .inl l
 . have m:g<w.heap.size:=by
    rcases cJ g w.heap.size with b|b
    . exact b
    . rw[Array.getElem?_eq_none b]at a;cases a
   exact .inr ⟨g,j,k,d,c,by rw[hb g c m (by rw[d];rfl)];exact a,r⟩
structure IvAt (w:World) (b p:Nat) (x:Iv):Prop where
 c0:w.cell? ⟨b,p,none⟩=some (.int .i64 x.f.k)
 c1:w.cell? ⟨b,p+1,none⟩=some (.int .i64 x.f.i)
 c2:w.cell? ⟨b,p+2,none⟩=some (.string x.f.t)
 c3:w.cell? ⟨b,p+3,none⟩=some (.int .i64 x.t.k)
 c4:w.cell? ⟨b,p+4,none⟩=some (.int .i64 x.t.i)
 c5:w.cell? ⟨b,p+5,none⟩=some (.string x.t.t)
 c6:w.cell? ⟨b,p+6,none⟩=some (.bool x.o)
structure VlAt (w:World) (b p:Nat) (x:Vl):Prop where
 c0:w.cell? ⟨b,p,none⟩=some (.int .i64 x.k)
 c1:w.cell? ⟨b,p+1,none⟩=some (.int .i64 x.i)
 c2:w.cell? ⟨b,p+2,none⟩=some (.string x.t)
theorem IvAt.of {w:World}{b p:Nat}{x:Iv}(h:∀(j:Nat) (u:Value),(Iv.cs x)[j]?=some u->w.cell? ⟨b,p+j,none⟩=some u):IvAt w b p x :=
 ⟨h 0 _ rfl,h 1 _ rfl,h 2 _ rfl,h 3 _ rfl,h 4 _ rfl,h 5 _ rfl,h 6 _ rfl⟩
theorem VlAt.of {w:World}{b p:Nat}{x:Vl}(h:∀(j:Nat) (u:Value),(Vl.cs x)[j]?=some u->w.cell? ⟨b,p+j,none⟩=some u):VlAt w b p x :=
 ⟨h 0 _ rfl,h 1 _ rfl,h 2 _ rfl⟩
theorem aW {w w':World}(b:dW w w'){a:Addr}{v:Value}(h:w.cell? a=some v):w'.cell? a=some v:=by
 rw[b a (by rw[h];rfl),h]
theorem VlAt.keep {w w':World}{b p:Nat}{x:Vl}(h:VlAt w b p x)(a:dW w w'):VlAt w' b p x :=
 ⟨aW a h.c0,aW a h.c1,aW a h.c2⟩
theorem IvAt.keep {w w':World}{b p:Nat}{x:Iv}(h:IvAt w b p x)(a:dW w w'):IvAt w' b p x :=
 ⟨aW a h.c0,aW a h.c1,aW a h.c2,aW a h.c3,aW a h.c4,aW a h.c5,aW a h.c6⟩
theorem IvAt.to_ {w:World}{b p:Nat}{x:Iv}(h:IvAt w b p x):VlAt w b (p+3) x.t:=⟨h.c3,h.c4,h.c5⟩
theorem IvAt.from_ {w:World}{b p:Nat}{x:Iv}(h:IvAt w b p x):VlAt w b p x.f:=⟨h.c0,h.c1,h.c2⟩
theorem jO (w:World)(cs:Array Value)(T:TypeId)(j:Nat):(w.alloc (.cells cs T)).cell? ⟨w,j,none⟩=cs[j]? :=
 cell_of_row _ _ _ _ _ _ (heap_alloc_new w _)
theorem IvAt.new (w:World)(T:TypeId)(x:Iv):IvAt (w.alloc (.cells #[x.f.k,x.f.i,x.f.t,x.t.k,x.t.i,x.t.t,.bool x.o] T)) w 0 x :=
 ⟨by rw[jO];rfl,by rw[jO];rfl,by rw[jO];rfl,by rw[jO];rfl,by rw[jO];rfl,by rw[jO];rfl,by rw[jO];rfl⟩
theorem VlAt.new (w:World)(T:TypeId)(x:Vl):VlAt (w.alloc (.cells #[x.k,x.i,x.t] T)) w 0 x :=
 ⟨by rw[jO];rfl,by rw[jO];rfl,by rw[jO];rfl⟩
def aT (w:World) (b:Nat) (T:TypeId) (cs:Array Value):Prop:=w.heap[b]?=some (.cells cs T (0,0))
theorem aT.new (w:World)(T:TypeId)(cs:Array Value):aT (w.alloc (.cells cs T)) w T cs:=heap_alloc_new w _
theorem aT.lt {w:World}{b:Nat}{T:TypeId}{cs:Array Value}(h:aT w b T cs):b<w.heap.size:=by
 rcases cJ b w.heap.size with c|a
 . exact c
 . unfold aT at h;rw[Array.getElem?_eq_none a]at h;cases h
theorem aT.cell {w:World}{b:Nat}{T:TypeId}{cs:Array Value}(h:aT w b T cs):∀j,w.cell? ⟨b,j,none⟩=cs[j]?:=fun j=>cell_of_row w b j cs T (0,0) h
theorem aT.free {w:World}{b:Nat}{T:TypeId}{cs:Array Value}(h:aT w b T cs):∀j,w.frozen? ⟨b,j,none⟩=false:=fun j=>by
 unfold aT at h;simp[World.frozen?,h]
theorem aT.below {w w':World}{b:Nat}{T:TypeId}{cs:Array Value}(h:aT w b T cs)(hb:Below w w w'):aT w' b T cs:=(hb.block b h.lt).trans h
theorem aT.alloc {w:World}{b:Nat}{T:TypeId}{cs:Array Value}(h:aT w b T cs)(o:Obj):aT (w.alloc o) b T cs:=(Below.heap_alloc w o b h.lt).trans h
theorem aT.drew {w:World}{b:Nat}{T:TypeId}{cs:Array Value}(h:aT w b T cs):aT w.drew b T cs:=h
theorem aT.set_ {w:World}{b:Nat}{T:TypeId}{cs:Array Value}(h:aT w b T cs)(i:Nat)(u:Value):aT (w.setCell ⟨b,i,none⟩ u) b T (cs.setIfInBounds i u):=by
 unfold aT at h ⊢;simp[World.setCell,Array.getElem?_modify,h]
theorem aT.far {w:World}{b:Nat}{T:TypeId}{cs:Array Value}(h:aT w b T cs){p:Addr}(a:b≠p.block)(u:Value):aT (w.setCell p u) b T cs:=(Below.heap_setCell w p u b a).trans h
theorem aT.grown {w w':World}{b:Nat}{T:TypeId}{cs:Array Value}{a:Option Nat}(h:aT w b T cs)(c:w.grownBy w' a)(d:some b≠a):aT w' b T cs:=(c.block b h.lt d).trans h
theorem jH {w:World}{base:Nat}{e:TypeId}{size n:Nat}{v:Value}{c:List Value}(h:w.ownsRow base e size v n c):some w.heap.size≠v.ownBlock:=by
 rcases h.2 with⟨rfl,_⟩|⟨g,d,a,rfl,_,b,_⟩
 . simp[Value.ownBlock]
 . have:g<w.heap.size:=aT.lt (T:=e) (cs:=a) b;simp only[Value.ownBlock,ne_eq,Option.some.injEq];omega
theorem aV {w:World}{b:Nat}{T:TypeId}{cs:Array Value}{i:Nat}{u:Value}(h:aT w b T cs)(a:cs[i]?=some u):w.cell? ⟨b,i,none⟩=some u:=by rw[h.cell,a]
abbrev kH (w:World) (A:Option Addr) (n:Nat) (l:List Iv):Prop:=Sl 7 Iv.cs w A n l
abbrev qA (w:World) (A:Option Addr) (n:Nat) (l:List Vl):Prop:=Sl 3 Vl.cs w A n l
def aM4:Op→Bool
 |.move _|.assign _|.pick _ _ _|.build _ _|.load _ _|.binOp _ _ _ _ _|.unOp _ _ _|.slice _ _ _ _ _|.fieldAddr _ _ _|.field _ _ _|.indexAddr _ _ _|.index _ _ _|.extract _ _|.convert _ _ _|.lookup _ _ _ _|.nilCheck _=>true
 |
  .call c=>match c.callee with
  |.builtin .len=>true
  |.builtin .min=>true
  |.builtin .max=>true
  |_=>false
 |_=>false
def hZ (r:Result Next):Prop:=match r with
 |.ok (.value _) _=>True
 |.ok _ _=>False
 |.halt _ _=>True
theorem gives_v (s:Sem Value)(P:Program)(w:World):hZ ((do pure (Next.value (<- s)):Sem Next).run P w):=by
 rw[Sem.run_bind];generalize s.run P w=r;cases r with
 |ok x w'=>simp[Result.andThen,hZ]
 |halt x w'=>simp[Result.andThen,hZ]
theorem aB5 {α:Type}(s:Sem α)(f:α->Sem Next)(P:Program)(w:World)(h:∀a w',hZ ((f a).run P w')):hZ ((s >>= f).run P w):=by
 rw[Sem.run_bind];generalize s.run P w=r;cases r with
 |ok x w'=>exact h x w'
 |halt x w'=>simp[Result.andThen,hZ]
theorem tU (r:Result Value):hZ (r.andThen fun a w'=>Result.ok (Next.value a) w'):=by
 cases r with
 |ok x w'=>simp[Result.andThen,hZ]
 |halt x w'=>simp[Result.andThen,hZ]
theorem nM (o:Oper)(h:aM4 o.op=true)(d:Operand->Value)(P:Program)(w:World):hZ ((execOp d o).run P w):=by
 unfold execOp;cases ho:o.op<;>rw[ho]at h<;>simp only[aM4,Bool.false_eq_true]at h;case call c =>
  obtain⟨callee,args,argTypes⟩:=c;simp only at h;split at h
  . simp only[resolve,invoke,builtin,Sem.run_bind,Sem.run_pure,Result.andThen_ok];exact tU _
  . simp only[resolve,invoke,builtin,Sem.run_bind,Sem.run_pure,Result.andThen_ok];exact tU _
  . simp only[resolve,invoke,builtin,Sem.run_bind,Sem.run_pure,Result.andThen_ok];exact tU _
  . cases h
 case nilCheck x =>
  simp only;split
  . simp[runtimePanic,goPanic,hZ,go_sem]
  . simp[runtimePanic,goPanic,hZ,go_sem]
  . simp[runtimePanic,goPanic,hZ,go_sem]
  . split
    . simp[runtimePanic,goPanic,hZ,go_sem]
    . repeat(refine aB5 _ _ P _ (fun _ _=>?_))
      first|(simp[hZ];done)|(split<;>(repeat(refine aB5 _ _ P _ (fun _ _=>?_)))<;>simp[hZ])
    . simp[hZ]
  . simp[hZ]
 case move x=>simp[hZ]
 case assign x=>simp[hZ]
 case pick c a b =>
  rw[Sem.run_bind];generalize (asBool (d c)).run P w=r;cases r with
  |ok x w'=>simp[Result.andThen,hZ]
  |halt x w'=>simp[Result.andThen,hZ]
 all_goals exact gives_v _ P w
abbrev cls (w:World):World→Prop:=fun W=>∃x:Later w,W=after w x
theorem cls_iff {w W:World}:cls w W↔Below w w W:=⟨fun⟨x,h⟩=>by rw[h];exact x.below,fun h=>⟨⟨W,h⟩,rfl⟩⟩
section
variable {P:Program} {ops:Array Oper} {Q:Exit→Act→World→Prop} {md:Region.Mode}
def sZ (P:Program) (md:Region.Mode) (ops:Array Oper) (Q:Exit→Act→World→Prop):Nat→Array Bool→Act→World→Prop
 |0,listed,a,w=>Region.ready md ops listed=[]∧Q .normal a w
 |
  fuel+1,listed,a,w =>
  (Region.ready md ops listed=[]→Q .normal a w) ∧
  ∀i∈Region.ready md ops listed,wpOp P ops Q i (fun a' w'=>Below w.heap.size w w'∧sZ P md ops Q fuel (listed.setIfInBounds i true) a' w') a w
theorem yR:∀(fuel:Nat) (b:Array Bool) (a:Act) (w:World),sZ P md ops Q fuel b a w->wpAny P md ops Q fuel b a w
 |0,_,_,_,h=>h
 |fuel+1,_,_,_,h=>⟨h.1,fun i hi=>wpOp_mono (fun a' w' c=>yR fuel _ a' w' c.2) (h.2 i hi)⟩
theorem cC6 {o:Oper}{v:Value}{a:Act}{S b:World->Prop}(c:∀W,b W->S W)(h:YieldsIf P ops S o v a):YieldsIf P ops b o v a :=
 h.imp (fun⟨e,hv⟩=>⟨e,fun W d=>hv W (c W d)⟩) id
theorem uF {i:Nat}{n:Oper}{v:Value}(hi:ops[i]?=some n)(C:∀(j:Nat) (o:Oper) cs b,ops[j]?=some o->o.op≠.select cs b)
 (F:∀c a w,Q (.panic c) (a.put n.dst v) w->Q (.panic c) a w) :
 ∀
  (fuel:Nat) (d:Array Bool) (a:Act) (w:World),
  (∀j p,ops[j]?=some p->j≠i->d.getD j true=false->(∀e∈p.after,Region.binds md e=true->e.on≠i)->n.apart ops p=true) ->
  i∈Region.ready md ops d->YieldsIf P ops (fun W=>Below w w W) n v a ->
  sZ P md ops Q fuel (d.setIfInBounds i true) (a.put n.dst v) w->sZ P md ops Q (fuel+1) d a w:=by
 intro fuel
 induction fuel with
 |
  zero =>
  intro d a w _ m t H;refine⟨fun h=>(by rw[h]at m;cases m),fun j s=>?_⟩;by_cases g:j=i
  . subst g;exact t.wpOp hi (aB _ _) ⟨aB _ _,H⟩
  . have:=ready_mono s g;rw[H.1]at this;cases this
 |
  succ fuel ih =>
  intro d a w z m t H;refine⟨fun h=>(by rw[h]at m;cases m),fun j s=>?_⟩;by_cases g:j=i
  . subst g;exact t.wpOp hi (aB _ _) ⟨aB _ _,H⟩
  . have l:=H.2 j (ready_mono s g);obtain⟨B,p,x,I⟩:=mem_ready.1 s;have R:∀e∈p.after,Region.binds md e=true->e.on≠i:=fun e J hb K=>by
     have l:=I e J hb;have y:=(mem_ready.1 m).1;rw[K]at l;rcases cJ i d.size with u|u
     . simp[u]at y l;rw[y]at l;cases l
     . simp[Array.getElem?_eq_none u]at l
    have E:=wpOp_putIf x (z j p x g B R) (fun cs b=>C i n cs b hi) (fun cs b=>C j p cs b x) F t l;have L:∀k q,ops[k]?=some q->k≠i->(d.setIfInBounds j true).getD k true=false ->
     (∀e∈q.after,Region.binds md e=true->e.on≠i)->n.apart ops q=true:=fun k q M N D O=>by
     refine z k q M N ?_ O;by_cases A:j=k
     . subst A;exact B
     . rw[getD_set_ne true A]at D;exact D
    refine wpOp_mono (fun a' w' r=>⟨r.2.1,ih (d.setIfInBounds j true) a' w' L (ready_mono m (Ne.symm g)) (cC6 (fun W G=>cC1 r.2.1 G) r.1) ?_⟩) E;rw[Array.setIfInBounds_comm _ _ g];exact r.2.2
def eS (ops : Array Oper) (i : Nat) : Oper := (ops[i]?).getD ⟨none, .move (.const (.bool false)), 0, "", #[], none⟩
def dE (ops:Array Oper) (l:List Nat):List Oper:=l.map (eS ops)
theorem cP : (∀ (f : Nat → Oper) (a : Nat) (l : List Nat), List.map f (a :: l) = f a :: List.map f l) ∧ (∀ f : Nat → Oper, List.map f [] = []) ∧ (∀ (l : List Oper) (i : Nat), l.toArray[i]? = l[i]?) ∧ (∀ (a : Oper) (l : List Oper), (a :: l)[0]? = some a) ∧ (∀ (a : Oper) (l : List Oper) (i : Nat), (a :: l)[i + 1]? = l[i]?) ∧ (∀ a b : Oper, (some a).getD b = a) ∧ (∀ (o : Array Oper) (l : List Nat), dE o l = l.map (eS o)) ∧ (∀ (o : Array Oper) (i : Nat), eS o i = (o[i]?).getD ⟨none, .move (.const zF), 0, "", #[], none⟩) := ⟨fun _ _ _ => rfl, fun _ => rfl, fun _ _ => by simp, fun _ _ => rfl, fun _ _ _ => by simp, fun _ _ => rfl, fun _ _ => rfl, fun _ _ => rfl⟩
def bG5 (P:Program) (ops:Array Oper) (Q:Exit→Act→World→Prop):List (List Nat×Nat)→List Nat→Act→World→Prop
 |[],last,a,w=>wpQuiet P ops (cls w) (fun a'=>Q .normal a' w) (dE ops last) a
 |(qs,e)::r,last,a,w=>wpQuiet P ops (cls w) (fun a'=>wpOp P ops Q e (fun a'' w'=>Below w.heap.size w w'∧bG5 P ops Q r last a'' w') a' w) (dE ops qs) a
def kJ (ops:Array Oper) (i:Nat):Bool:=match ops[i]? with
 |some o=>aM4 o.op
 |none=>false
def pQ (ops:Array Oper):List Nat→Array Bool→Option (Array Bool)
 |[],listed=>some listed
 |i::r,listed=>if kJ ops i&&(Region.ready .any ops listed).contains i&&Region.free .any ops listed i then pQ ops r (listed.setIfInBounds i true)else none
def pP (ops:Array Oper):List (List Nat×Nat)→List Nat→Array Bool→Bool
 |
  [],last,listed=>match pQ ops last listed with
  |some l=>(Region.ready .any ops l).isEmpty
  |none=>false
 |
  (qs,e)::r,last,listed=>match pQ ops qs listed with
  |some l=>(Region.ready .any ops l == [e])&&pP ops r last (l.setIfInBounds e true)
  |none=>false
theorem nG (j:Region.noSelect ops=true)(g:∀c a d v w,Q (.panic c) (Act.put a d v) w->Q (.panic c) a w){K:Act->Prop}{w:World}{fuel:Nat}{l':Array Bool}
 (l:∀a,K a->sZ P .any ops Q fuel l' a w) :
 ∀(p:List Nat) (b:Array Bool) (a:Act),pQ ops p b=some l'->wpQuiet P ops (cls w) K (dE ops p) a->sZ P .any ops Q (p.length+fuel) b a w
 |
  [],b,a,hc,h=>by
  simp only[pQ,Option.some.injEq]at hc;subst hc;simp only[List.length_nil,Nat.zero_add];exact l a h
 |
  i::r,b,a,hc,h=>by
  unfold pQ at hc;split at hc
  . rename_i q;simp only[aI]at q;obtain⟨⟨m,t⟩,s⟩:=q;cases hi:ops[i]? with
    |none=>simp[kJ,hi]at m
    |
     some o =>
     simp only[kJ,hi]at m;have E:dE ops (i::r)=o::dE ops r:=(by simp[dE,eS,hi]);rw[E]at h;unfold wpQuiet at h;have D:(i::r).length+fuel=(r.length+fuel)+1:=(by simp;omega);rw[D];by_cases k:Region.wanted o (yielded ops a.tmps)=true
     . rw[if_pos k]at h;obtain⟨v,z,A⟩:=h;refine uF hi (Region.noSelect_spec j) (fun c a w=>g c a _ _ w) _ b a w (Region.free_spec hi s) (by simpa using t) (v:=v) (.inl ⟨k,fun W B=>?_⟩) (nG j g l r _ _ hc A);have e:=z W (cls_iff.2 B);have C:=nM o m a.eval P W;unfold Oper.quietAt at e;generalize (execOp a.eval o).run P W=F at *;cases F with
       |
        ok n w' =>
        cases n<;>simp only[Oper.quietUpon]at e<;>simp only[hZ]at C;obtain⟨u,y⟩:=e;rw[u,y]
       |halt x w'=>simp only[Oper.quietUpon]at e
     . rw[if_neg k]at h;exact uF hi (Region.noSelect_spec j) (fun c a w=>g c a _ _ w) _ b a w (Region.free_spec hi s) (by simpa using t) (v:=undef) (.inr ⟨by simpa using k,rfl⟩) (nG j g l r _ _ hc h)
  . cases hc
def tH:List (List Nat×Nat)→List Nat→Nat
 |[],last=>last.length
 |(qs,_)::r,last=>qs.length+(tH r last+1)
theorem bH6 (n:Region.noSelect ops=true)(k:∀c a d v w,Q (.panic c) (Act.put a d v) w->Q (.panic c) a w)(b:List Nat) :
 ∀(o:List (List Nat×Nat)) (g:Array Bool) (a:Act) (w:World),pP ops o b g=true->bG5 P ops Q o b a w->sZ P .any ops Q (tH o b) g a w
 |
  [],g,a,w,hc,h=>by
  unfold pP at hc;split at hc
  . rename_i l m;exact nG n k (fuel:=0) (fun a' j=>⟨by simpa using hc,j⟩) b g a m h
  . cases hc
 |
  (qs,e)::r,g,a,w,hc,h=>by
  unfold pP at hc;split at hc
  . rename_i l m;simp only[aI,beq_iff_eq]at hc;refine nG n k (fuel:=tH r b+1) (fun a' j=>?_) qs g a m h;refine⟨fun p=>(by rw[hc.1]at p;cases p),fun i hi=>?_⟩;rw[hc.1]at hi;have s:i=e:=(by simpa using hi);subst s;exact wpOp_mono (fun q w' ⟨hb,h''⟩=>⟨hb,bH6 n k b r _ q w' hc.2 h''⟩) j
  . cases hc
theorem gN {o:Oper}{e:Nat}{K:Act->World->Prop}{a:Act}{w:World}(g:ops[e]?=some o)(h:wpList P ops (Exit.then K Q) [o] a w):wpOp P ops Q e K a w:=by
 unfold wpOp;rw[g];simp only;unfold wpList at h;split
 . rename_i b;rw[if_pos b]at h;rcases h with h|⟨c,d⟩
   . left;unfold Oper.wp at h ⊢;generalize (execOp a.eval o).run P w=r at *;cases r with
     |
      ok n w' =>
      cases n<;>simp only[Oper.upon]at h ⊢ <;> exact h
     |halt x w'=>cases x<;>simp only[Oper.upon]at h ⊢;exact h
   . exact .inr ⟨c,d⟩
 . rename_i b;rw[if_neg b]at h;exact h
def bA (P:Program) (ops:Array Oper) (Q:Exit→Act→World→Prop):List (List Oper×Oper)→List Oper→Act→World→Prop
 |[],last,a,w=>wpQuiet P ops (fun W=>∃x:Later w,W=after w x) (fun a'=>Q .normal a' w) last a
 |(qs,e)::r,last,a,w=>wpQuiet P ops (fun W=>∃x:Later w,W=after w x) (fun a'=>wpList P ops (Exit.then (fun a'' w'=>Below w.heap.size w w'∧bA P ops Q r last a'' w') Q) [e] a' w) qs a
def bS (ops:Array Oper):List (List Nat×Nat)→List (List Oper×Oper)
 |[]=>[]
 |(qs,e)::r=>(dE ops qs,eS ops e)::bS ops r
theorem sS (b:List Nat):∀(c:List (List Nat×Nat)) (a:Act) (w:World),c.all (fun s=>decide (s.2<ops.size))=true->bA P ops Q (bS ops c) (dE ops b) a w->bG5 P ops Q c b a w
 |[],a,w,_,h=>h
 |
  (qs,e)::r,a,w,hl,h=>by
  simp only[List.all_cons,aI,decide_eq_true_eq]at hl;have i:ops[e]?=some (eS ops e):=by unfold eS;rw[Array.getElem?_eq_getElem hl.1];rfl
  unfold bS bA at h;unfold bG5;refine lK (fun a' g=>?_) _ _ h;refine wpOp_mono (fun d w' ⟨hb,h''⟩=>⟨hb,sS b r d w' hl.2 h''⟩) (gN i g)
theorem aZ {id:Nat}{a:Act}{w:World}{l:List Oper}(b:List (List Nat×Nat))(e:List Nat)
 (h:bA P l.toArray Q (bS l.toArray b) (dE l.toArray e) a w.drew)
 (j:P.follows .mixedOrders=true:=by kernel_rfl)
 (hc:(Region.noSelect l.toArray&&(pP l.toArray b e (Array.replicate l.toArray.size false)&&(decide (tH b e=l.toArray.size)&&b.all (fun s=>decide (s.2<l.toArray.size)))))=true:=by kernel_rfl)
 (i:∀c a d v w,Q (.panic c) (Act.put a d v) w->Q (.panic c) a w:=by intro _ _ d _ _ h;cases d<;>exact h) :
 (Code.region id l.toArray true).wp P Q a w:=by
 simp only[aI,decide_eq_true_eq]at hc;refine wp_region_any j ?_;have g:=bH6 hc.1 i e b _ a _ hc.2.1 (sS e b a _ hc.2.2.2 h);rw[hc.2.2.1]at g;exact yR _ _ _ _ g
end
structure But (S:Nat→Prop) (w w':World):Prop where
 os:w'.os=w.os
 tape:w'.tape=w.tape
 output:w'.output=w.output
 size:w.heap.size≤w'.heap.size
 block:∀ k,k<w.heap.size→¬ S k→w'.heap[k]? = w.heap[k]?
theorem But.refl (S:Nat->Prop)(w:World):But S w w:=⟨rfl,rfl,rfl,aD _,fun _ _ _=>rfl⟩
theorem But.trans {S:Nat->Prop}{a b c:World}(h:But S a b)(k:But S b c):But S a c :=
 ⟨k.os.trans h.os,k.tape.trans h.tape,k.output.trans h.output,Nat.le_trans h.size k.size,fun i hi d=>(k.block i (Nat.lt_of_lt_of_le hi h.size) d).trans (h.block i hi d)⟩
theorem But.of_below {S:Nat->Prop}{a b:World}(h:Below a a b):But S a b:=⟨h.os,h.tape,h.output,h.size,fun k c _=>h.block k c⟩
theorem But.set {S:Nat->Prop}(w:World){p:Addr}(a:S p.block)(u:Value):But S w (w.setCell p u) :=
 ⟨rfl,rfl,rfl,by simp[World.setCell],fun k _ b=>Below.heap_setCell w p u k (fun e=>b (e ▸ a))⟩
theorem But.alloc {S:Nat->Prop}(w:World)(o:Obj):But S w (w.alloc o):=But.of_below ((aB _ _).alloc (aD _) _)
theorem But.drew {S:Nat->Prop}{w w':World}(h:But S w w'):But S w w'.drew:=⟨h.os,h.tape,h.output,h.size,h.block⟩
theorem But.below {S:Nat->Prop}{B:Nat}{w0 w w':World}(h:But S w w')(hb:Below B w0 w)(c:B<=w.heap.size)(a:∀k,S k->B<=k):Below B w0 w' :=
 hb.trans ⟨h.os,h.tape,h.output,h.size,fun k d=>h.block k (by omega) (fun b=>by have:=a k b;omega)⟩
theorem aT.but {S:Nat->Prop}{w w':World}{b:Nat}{T:TypeId}{cs:Array Value}(h:aT w b T cs)(hb:But S w w')(a:¬S b):aT w' b T cs:=(hb.block b h.lt a).trans h
theorem uP (c b pk a:Int)(e d:ByteArray)(w:World):(binOp .eql 59 (.agg #[c,b,e]) (.agg #[pk,a,d])).run Tryz.prog w =
 .ok (.bool (decide ((⟨c,b,e⟩:Vl)=⟨pk,a,d⟩))) w:=by
 have h:decide ((⟨c,b,e⟩:Vl)=⟨pk,a,d⟩)=((c == pk)&&((b == a)&&(e.toList == d.toList))):=by rw[bV];simp only[Vl.mk.injEq,nD,decide_eq_true_eq,aI,beq_iff_eq]
 rw[h];by_cases h1:(c == pk)=true
 . by_cases h2:(b == a)=true
   . simp[go_sem,h1,h2];split<;>simp_all
   . simp[go_sem,h1,h2]
 . simp[go_sem,h1]
theorem iY {a b x y:Bool}(c:a=x)(d:b=y):Ending.returned (.tuple #[.bool a,.bool b])=.returned (.tuple #[.bool x,.bool y]):=by rw[c,d]
theorem vI {w:World}{a p:Addr}{v u:Value}(h:w.cell? a=some v)(b:a.block≠p.block):(w.setCell p u).cell? a=some v:=by
 rw[World.cell?_setCell_other w p a u (fun e=>b (by rw[e]))];exact h
theorem aN7:(Tryz.prog.info? 59).map (fun i=>(i.zero,i.size,i.bytes))=some (some (.agg #[.int .i64 0,.int .i64 0,.string ⟨#[]⟩]),3,32):=by kernel_rfl
theorem cU {α:Type}{l:List α}{k:Nat}{x:α}(h:l[k]?=some x):l.take (k+1)=l.take k++[x]:=by
 rw[List.take_add_one,h];rfl
theorem eL {α:Type}{l:List α}{k:Nat}{x:α}(h:l[k]?=some x):l.drop k=x::l.drop (k+1):=by
 have a:=(List.getElem?_eq_some_iff.1 h).1;rw[List.drop_eq_getElem_cons a,(List.getElem?_eq_some_iff.1 h).2]
theorem lF (b o j:Nat):(⟨b,o,none⟩:Addr).add j=⟨b,o+j,none⟩:=by unfold Addr.add;split<;>simp_all
theorem aC0 {α:Type}{sz:Nat}{cs:α->List Value}(b:∀x,(cs x).length=sz)(e:0<sz)(l:List α)(j:Nat)(u:Value)(h:(l.flatMap cs)[j]?=some u):∃x,l[j / sz]?=some x/\(cs x)[j % sz]?=some u:=by
 have g:j<l.length*sz:=by have:=(List.getElem?_eq_some_iff.1 h).1;rwa [hV b]at this
 have c:j / sz<l.length:=(Nat.div_lt_iff_lt_mul e).2 g;have d:j % sz<(cs l[j / sz]).length:=by rw[b];exact Nat.mod_lt _ e
 refine⟨l[j / sz],aN c,?_⟩;have a:=pK b l (j / sz) _ (j % sz) _ (aN c) (aN d);rw[Nat.mul_comm,Nat.div_add_mod]at a;rw[h]at a;rw[aN d];exact a.symm
theorem fG {α:Type}{cs:α->List Value}{P:Program}(w:World){ops:Array Oper}{rest:List Oper}{o:Oper}{a:Act}{Q:Exit->Act->World->Prop}(L:o.guard=none)(s x:Operand)(t:TypeId)
 (N:o.op=.call { callee:=.builtin .append,args:=#[s,x],argTypes:=#[t,t] })
 (base:Nat)(e:TypeId)(i:TypeInfo)(z:Value)(size bytes:Nat)(S:P.underlying t=some (.slice e))(hi:P.info? e=some i)(b0:i.zero=some z)
 (a7:i.size=size)(a1:i.bytes=bytes)(b1:z.cells.size=size)(R:0<size)
 (v:Value)(n:Nat)(V:List α)(O:a.eval s=v)(k:w.ownsRow base e size v n (V.flatMap cs))
 (A:Option Addr)(m c:Nat)(l:List α)(T:a.eval x=.slice A m c)(C:Sl size cs w A m l)(a5:A=none->m=0/\c=0)(a8:∀q,A=some q->q.spot=none)(K:∀y,(cs y).length=size)(X:∀y,∀u∈cs y,u.oneCell'=true)
 (a0:n+m<=maxLen)(a2:(n+m)*bytes<=140737488355328)(J:base<=w.heap.size)
 (h:∀A' c' w',w'.ownsRow base e size (.slice A' (n+m) c') (n+m) ((V++l).flatMap cs)->w.grownBy w' v.ownBlock->Below base w w'->((Value.slice A' (n+m) c').ownBlock=v.ownBlock\/(Value.slice A' (n+m) c').ownBlock=some w.heap.size)->(A'=none->n+m=0/\c'=0) ->
  wpList P ops Q rest (a.put o.dst (.slice A' (n+m) c')) w'):wpList P ops Q (o::rest) a w:=by
 cases A with
 |
  none =>
  obtain⟨rfl,rfl⟩:=a5 rfl;have a6:l=[]:=aR C.len;subst a6;refine wpList_append_own_none L s x t N base e i size S hi v n _ O k T ?_;rcases k.2 with⟨rfl,rfl⟩|⟨g,D,W,rfl,_,a3,r⟩
  . exact h none 0 w (by simpa using k) (World.grownBy.refl w _) (aB _ _) (.inl rfl) (fun _=>⟨rfl,rfl⟩)
  . exact h (some ⟨g,0,none⟩) D w (by simpa using k) (World.grownBy.refl w _) (aB _ _) (.inl rfl) (fun h=>by cases h)
 |
  some q =>
  obtain⟨b,b2,b3⟩:=q;obtain rfl:b3=none:=a8 _ rfl;refine wpList_append_own_at w L s x t N base e i z size bytes S hi b0 a7 a1 b1 R v n _ O k ⟨b,b2,none⟩ m c (l.flatMap cs) T (by rw[hV K,C.len]) (fun j u p=>?_) (fun u p=>?_) a0 a2 J ?_
  . obtain⟨y,U,a9⟩:=aC0 K R l j u p;have a4:0<m:=(by have H:=(List.getElem?_eq_some_iff.1 U).1;rw[C.len]at H;exact Nat.lt_of_le_of_lt (Nat.zero_le _) H);obtain⟨b',b8,E,hc⟩:=C.2 a4;injection E with E;injection E with e1 e2;subst e1 e2;have Y:=hc _ y U _ u a9;rw[lF,<- Y,Nat.add_assoc,Nat.mul_comm,Nat.div_add_mod]
  . rw[List.mem_flatMap]at p;obtain⟨y,_,p⟩:=p;exact X y u p
  . intro b4 w' d F _ B;have I:=(aB base w).grown F J (jN k);rw[<- aP]at d;rcases d.2 with⟨G,M⟩|⟨g,D,W,G,b5,a3,b7,b6,r⟩
    . have:b4=.slice none (n+m) 0:=(by rw[G,M]);rw[this]at d B ⊢;exact h none 0 w' d F I B (fun _=>⟨M,rfl⟩)
    . rw[G]at d B ⊢;exact h (some ⟨g,0,none⟩) D w' d F I B (fun h=>by cases h)
theorem gG {α:Type}{cs:α->List Value}{P:Program}(w:World){ops:Array Oper}{rest:List Oper}{o:Oper}{a:Act}{Q:Exit->Act->World->Prop}(J:o.guard=none)(s x:Operand)(t:TypeId)
 (L:o.op=.call { callee:=.builtin .append,args:=#[s,x],argTypes:=#[t,t] })
 (base:Nat)(e:TypeId)(i:TypeInfo)(z:Value)(size bytes:Nat)(O:P.underlying t=some (.slice e))(hi:P.info? e=some i)(a7:i.zero=some z)
 (a5:i.size=size)(Y:i.bytes=bytes)(a8:z.cells.size=size)(N:0<size)
 (v:Value)(n:Nat)(T:List α)(M:a.eval s=v)(d:w.ownsRow base e size v n (T.flatMap cs))
 (A:Option Addr)(m c:Nat)(l:List α)(R:a.eval x=.slice A m c)(q:Sl size cs w A m l)(a3:A=none->m=0/\c=0)(I:∀y,(cs y).length=size)(V:∀y,∀u∈cs y,u.oneCell'=true)
 (X:n+m<=maxLen)(a0:(n+m)*bytes<=140737488355328)(H:base<=w.heap.size)
 (h:∀A' c' w',w'.ownsRow base e size (.slice A' (n+m) c') (n+m) ((T++l).flatMap cs)->w.grownBy w' v.ownBlock->Below base w w'->((Value.slice A' (n+m) c').ownBlock=v.ownBlock\/(Value.slice A' (n+m) c').ownBlock=some w.heap.size)->(A'=none->n+m=0/\c'=0) ->
  wpList P ops Q rest (a.put o.dst (.slice A' (n+m) c')) w'):wpList P ops Q (o::rest) a w:=by
 cases A with
 |
  none =>
  obtain⟨rfl,rfl⟩:=a3 rfl;have a4:l=[]:=aR q.len;subst a4;refine wpList_append_own_none J s x t L base e i size O hi v n _ M d R ?_;rcases d.2 with⟨rfl,rfl⟩|⟨g,B,U,rfl,_,a1,r⟩
  . exact h none 0 w (by simpa using d) (World.grownBy.refl w _) (aB _ _) (.inl rfl) (fun _=>⟨rfl,rfl⟩)
  . exact h (some ⟨g,0,none⟩) B w (by simpa using d) (World.grownBy.refl w _) (aB _ _) (.inl rfl) (fun h=>by cases h)
 |
  some ad =>
  refine wpList_append_own_at w J s x t L base e i z size bytes O hi a7 a5 Y a8 N v n _ M d ad m c (l.flatMap cs) R (by rw[hV I,q.len]) (fun j u k=>?_) (fun u k=>?_) X a0 H ?_
  . obtain⟨y,S,a6⟩:=aC0 I N l j u k;have a2:0<m:=(by have F:=(List.getElem?_eq_some_iff.1 S).1;rw[q.len]at F;exact Nat.lt_of_le_of_lt (Nat.zero_le _) F);obtain⟨b',b3,C,hc⟩:=q.2 a2;injection C with C;subst C;have W:=hc _ y S _ u a6;rw[lF,<- W,Nat.add_assoc,Nat.mul_comm,Nat.div_add_mod]
  . rw[List.mem_flatMap]at k;obtain⟨y,_,k⟩:=k;exact V y u k
  . intro a9 w' b D _ p;have G:=(aB base w).grown D H (jN d);rw[<- aP]at b;rcases b.2 with⟨E,K⟩|⟨g,B,U,E,b0,a1,b2,b1,r⟩
    . have:a9=.slice none (n+m) 0:=(by rw[E,K]);rw[this]at b p ⊢;exact h none 0 w' b D G p (fun _=>⟨K,rfl⟩)
    . rw[E]at b p ⊢;exact h (some ⟨g,0,none⟩) B w' b D G p (fun h=>by cases h)
theorem Sl.but {α:Type}{sz:Nat}{cs:α->List Value}{w w':World}{A:Option Addr}{n:Nat}{l:List α}{S:Nat->Prop}(h:Sl sz cs w A n l)(hb:But S w w')(i:0<n->∀b o,A=some ⟨b,o,none⟩->¬S b):Sl sz cs w' A n l:=by
 refine⟨h.1,fun d=>?_⟩;obtain⟨b,o,e,hc⟩:=h.2 d;refine⟨b,o,e,fun k x p j u m=>?_⟩;have c:=hc k x p j u m;have g:=gS (w:=w) (a:=⟨b,o+k*sz+j,none⟩) (by rw[c];rfl);rw[World.cell?_of_block (w:=w) (hb.block b g (i d b o e))];exact c
theorem cB {P:Program}{ops:Array Oper}{rest:List Oper}{o:Oper}{a:Act}{Q:Exit->Act->World->Prop}(C:o.guard=none)(s x:Operand)(t:TypeId)
 (E:o.op=.call { callee:=.builtin .append,args:=#[s,x],argTypes:=#[t,t] })
 (base:Nat)(e:TypeId)(i:TypeInfo)(z:Value)(size bytes:Nat)(K:P.underlying t=some (.slice e))(hi:P.info? e=some i)(M:i.zero=some z)
 (I:i.size=size)(y:i.bytes=bytes)(N:z.cells.size=size)(J:0<size)
 (v:Value)(n:Nat)(d:List Value)(G:a.eval s=v)(W:World)(b:Array Value)(k:W.ownsRow base e size v n d)(H:Nat)(p:W.heap.size=H)
 (L:a.eval x=.slice (some ⟨H,0,none⟩) 1 1)(B:b.toList.length=1*size)(l:∀u∈b.toList,u.oneCell'=true)
 (m:n+1<=maxLen)(A:(n+1)*bytes<=140737488355328)(r:base<=W.heap.size)
 (h:∀g c w',w'.ownsRow base e size (.slice (some ⟨g,0,none⟩) (n+1) c) (n+1) (d++b.toList)->(W.alloc (.cells b e)).grownBy w' v.ownBlock->Below base W w'->(v.ownBlock=some g\/g=H+1)->g<w'.heap.size ->
  wpList P ops Q rest (a.put o.dst (.slice (some ⟨g,0,none⟩) (n+1) c)) w'):wpList P ops Q (o::rest) a (W.alloc (.cells b e)):=by
 subst p;refine wpList_append_lies _ C s x t E base e i z size bytes K hi M I y N J v n d G (k.alloc _) ⟨W.heap.size,0,none⟩ 1 1 b.toList L B (World.news_of_block (heap_alloc_new W _)) l (by omega) m A (by simp;omega) (W.heap.size+1) (by simp) ?_;intro g c w' F j q D;exact h g c w' F j ((aB _ _).grown (qU j) r (jN k)) q D
theorem cC5 {S:Nat->Prop}{w w':World}{b:Option Nat}(a:w.grownBy w' b)(c:∀k,b=some k->S k):But S w w' :=
 ⟨a.os,a.tape,a.output,a.size,fun k d g=>a.block k d (fun e=>g (c k e.symm))⟩
theorem Sl.take {α:Type}{sz:Nat}{cs:α->List Value}{w:World}{A:Option Addr}{n:Nat}{l:List α}(h:Sl sz cs w A n l)(m:Nat)(g:m<=n):Sl sz cs w A m (l.take m):=by
 have d:=h.1;refine⟨by simp;omega,fun c=>?_⟩;obtain⟨b,o,e,hc⟩:=h.2 (by omega);refine⟨b,o,e,fun k x a=>hc k x ?_⟩;rw[List.getElem?_take]at a;split at a
 . exact a
 . cases a
theorem aD5:∀a b c:List UInt8,dN a b<=0->dN b c<=0->dN a c<=0
 |[],_,[],_,_=>by simp[dN]
 |[],_,_::_,_,_=>by simp[dN]
 |_::_,[],_,h,_=>by simp[dN]at h
 |_::_,_::_,[],_,h=>by simp[dN]at h
 |
  a::x,b::y,c::z,h1,h2=>by
  have d:=aD5 x y z;simp only[dN,UInt8.lt_iff_toNat_lt]at h1 h2 ⊢
  repeat' split at h1
  all_goals(repeat' split at h2)
  all_goals(repeat' split)
  all_goals first|omega|exact d h1 h2
theorem iD {a b c:Vl}(d:bZ a b<=0)(e:bZ b c<=0):bZ a c<=0:=by
 have g:=aD5 a.t.toList b.t.toList c.t.toList;unfold bZ at d e ⊢
 repeat' split at d
 all_goals(repeat' split at e)
 all_goals(repeat' split)
 all_goals first|omega|exact g d e
theorem eH (a:Vl):bZ a a=0:=(gI a a).2 rfl
theorem nQ {a b c:Vl}(d:bZ a b<=0)(i:bZ b c<0):bZ a c<0:=by
 rcases Int.lt_or_le (bZ a c) 0 with h|h
 . exact h
 . have e:=dD a c;have g:=dD b c;have:=iD (a:=c) (b:=a) (c:=b) (by omega) d;omega
theorem fQ {a b c:Vl}(i:bZ a b<0)(d:bZ b c<=0):bZ a c<0:=by
 rcases Int.lt_or_le (bZ a c) 0 with h|h
 . exact h
 . have e:=dD a c;have g:=dD a b;have:=iD (a:=b) (b:=c) (c:=a) d (by omega);omega
theorem cV {a b c:Vl}(e:bZ a b<0)(d:bZ b c<0):bZ a c<0:=nQ (by omega) d
theorem mL {a b:Vl}(h:¬bZ a b<=0):bZ b a<0:=by have:=dD a b;omega
theorem gZ {a b:Vl}(h:bZ b a<0):¬bZ a b<=0:=by have:=dD a b;omega
def xL (x:Iv) (v:Vl):Bool:=decide (bZ x.f v≤0)&&(x.o || decide (bZ v x.t<0))
def eP (l:List Iv) (v:Vl):Bool:=l.any (xL · v)
def aW6 (l:List Iv) (v:Vl):Bool:=bT v&&cM l&&eP l v
theorem bJ7 {l:List Iv}{k:Nat}{x:Iv}{v:Vl}{r:Bool}(a:l[k]?=some x)(h:eP (l.drop k) v=r):r=(xL x v || eP (l.drop (k+1)) v):=by
 rw[<- h,eL a];simp[eP]
theorem nJ:(Tryz.prog.info? 187).map (fun i=>(i.zero,i.size,i.bytes))=some (some (.agg #[.int .i64 0,.int .i64 0,.string ⟨#[]⟩,.int .i64 0,.int .i64 0,.string ⟨#[]⟩,.bool false]),7,72):=by kernel_rfl
def cR:List Iv→List Vl
 |[]=>[]
 |x::r=>if x.o then x.f::cR r else x.f::x.t::cR r
theorem rL (l:List Iv)(x:Iv):cR (l++[x])=cR l++(if x.o then [x.f]else [x.f,x.t]):=by
 induction l with
 |nil=>simp only[List.nil_append,cR]
 |
  cons y l ih =>
  simp only[List.cons_append,cR,ih];split<;>simp
theorem oA (l:List Iv):(cR l).length<=2*l.length:=by
 induction l with
 |nil=>simp[cR]
 |
  cons y l ih =>
  simp only[cR];split<;>simp only[bL]<;>omega
set_option maxRecDepth 8000 in
theorem pD (A:Option Addr)(n c:Nat)(l:List Iv)(w:World)(hn:n<=64)(hs:kH w A n l) :
 Calls Tryz.prog 272 #[.slice A n c] w fun e w'=>∃(A':Option Addr) (c':Nat),e=.returned (.slice A' (cR l).length c')/\qA w' A' (cR l).length (cR l)/\Below w w w':=by
 have I:=Z hs;have a4:=hs.len;clear hs;obtain⟨C,hi,y,z,B⟩:=info_parts aN7;go_enter Tryz.func272,Tryz.ntmps272;go_wp2_with (at_make;refine wpList_make_own w rfl _ _ _ rfl w 59 C _ 3 Tryz.underlying52 hi y z .i64 .i64 _ (2*n) rfl rfl (by omega) (by rw[B];omega) (by simp only[maxLen];omega) (aD _) ?_;intro V S hg);have P:Below w w V:=(aB _ _).grown hg (aD _) (by simp);clear hg;go_loopw [3,12] (fun v i wr=>∃(k:Nat) (A':Option Addr) (m c':Nat) (q:List Vl),k<=n/\i=.int .i64 (k:Int)/\v=.slice A' m c'/\Hid (q=cR (l.take k))/\m<=2*k/\wr.ownsRow w 59 3 (.slice A' m c') m (q.flatMap Vl.cs)/\Hid (q.length=m)/\Below w w wr) (fun _ i _=>n-(intOf i).toNat);case atStart=>exact⟨0,_,_,_,[],by omega,rfl,rfl,by simp[Hid,cR],by omega,S,rfl,P⟩
 case round =>
  obtain⟨k,A',m,c',q,hk,rfl,rfl,hq,hm,s,t,hb⟩:=hrel;by_cases hlt:k<n
  . obtain⟨b,o,x,rfl,hx,hc⟩:=(I.out.keep (aC hb)).at hlt;have D:=Z (cU hx);obtain⟨⟨j,d,p⟩,⟨G,F,H⟩,a⟩:=x;obtain⟨J,c1,c2,K,L,M,N⟩:=IvAt.of hc;dsimp only at J c1 c2 K L M N;clear hx hc;have hsz:=hb.size;go_wp2_with (first
     |(at_builtin;refine bH (by rfl) (.tmp 16) (.tmp 19) _ (by rfl) w.heap.size 59 C _ 3 32 Tryz.underlying52 hi y z B (by rfl) (by omega) (.slice A' m c') m _ (by rfl) _ _ (s.alloc _) (wr.heap.size+1) (by simp) (by rfl) (by rfl) (aM9 ⟨j,d,p⟩) (by simp only[maxLen];omega) (by omega) (by simp;omega) ?_;intro g O W E R r a0 a5;have a2:=(aT.grown (aT.new wr _ _) R (jH s)).cell;have U:=r.size)
     |(at_builtin;refine bH (by rfl) (.tmp 24) (.tmp 27) _ (by rfl) w.heap.size 59 C _ 3 32 Tryz.underlying52 hi y z B (by rfl) (by omega) (.slice (some ⟨g,0,none⟩) (m+1) O) (m+1) _ (by rfl) _ _ E W.heap.size (by rfl) (by rfl) (by rfl) (aM9 ⟨G,F,H⟩) (by simp only[maxLen];omega) (by omega) (by simp at U;omega) ?_;intro Y X w3 T a3 Q a1 a6))
    . go_roundw;case rel =>
       refine⟨k+1,_,m+1+1,_,q++[⟨j,d,p⟩,⟨G,F,H⟩],by omega,by go_num,rfl,?_,by omega,?_,?_,?_⟩
       . show _=_;have u:a=false:=(by simpa using ‹(!a)=true›);rw[D.out,rL,<- hq.out,if_neg (by simp[u])]
       . simpa[aP,Vl.cs]using T
       . show _=_;have:=t.out;simp;omega
       . exact((hb.alloc hb.size _).trans r).trans Q
      case measure=>simp[intOf];omega
    . go_roundw;case rel =>
       refine⟨k+1,_,m+1,_,q++[⟨j,d,p⟩],by omega,by go_num,rfl,?_,by omega,?_,?_,?_⟩
       . show _=_;have u:a=true:=(by simpa using ‹(!a)=false›);rw[D.out,rL,<- hq.out,if_pos (by simp[u])]
       . simpa[aP,Vl.cs]using E
       . show _=_;have:=t.out;simp;omega
       . exact(hb.alloc hb.size _).trans r
      case measure=>simp[intOf];omega
  . go_wp2;go_ret;obtain rfl:k=n:=(by omega);have hq1:q=cR l:=(by rw[hq.out,List.take_of_length_le (by omega)]);subst hq1;obtain rfl:(cR l).length=m:=t.out;exact⟨A',c',rfl,cC3 Vl.cs_len rfl s,hb⟩
structure MCap (w:World) (gi gj ga gb:Nat) (i j:Nat) (A B:Option Addr) (n m ca cb:Nat):Prop where
 hi:aT w gi 3 #[.int .i64 i]
 hj:aT w gj 3 #[.int .i64 j]
 ha:aT w ga 52 #[.slice A n ca]
 hb:aT w gb 52 #[.slice B m cb]
def cW:List Vl→List Vl→Vl
 |[],[]=>bE
 |x::_,[]=>x
 |[],y::_=>y
 |x::_,y::_=>if bZ x y<0 then x else y
theorem bD3 (w:World)(C D u z i j:Nat)(A B:Option Addr)(n m ca cb:Nat)(c d:List Vl)(hc:MCap w C D u z i j A B n m ca cb)
 (E:qA w A n c)(F:qA w B m d)(hi:i<n)(hj:j<m)(hn:n<=1000)(hm:m<=1000) :
 Calls Tryz.prog 273 #[.pointer (some ⟨D,0,none⟩),.pointer (some ⟨z,0,none⟩),.pointer (some ⟨C,0,none⟩),.pointer (some ⟨u,0,none⟩)] w fun e w' =>
  e=.returned (.agg #[.int .i64 (cW (c.drop i) (d.drop j)).k,.int .i64 (cW (c.drop i) (d.drop j)).i,.string (cW (c.drop i) (d.drop j)).t])/\Below w w w':=by
 obtain⟨b,o,x,rfl,hx,K⟩:=E.at hi;obtain⟨b',o',y,rfl,hy,M⟩:=F.at hj;have r:Hid (cW (c.drop i) (d.drop j)=if bZ x y<0 then x else y):=by rw[eL hx,eL hy];rfl
 obtain⟨R,Q,S⟩:=x;obtain⟨U,T,V⟩:=y;obtain⟨g,c1,c2⟩:=VlAt.of K;obtain⟨l,p,q⟩:=VlAt.of M;dsimp only at g c1 c2 l p q;have e1:=aV hc.hi (i:=0) rfl;have e2:=aV hc.hj (i:=0) rfl;have e3:=aV hc.ha (i:=0) rfl;have s:=aV hc.hb (i:=0) rfl;clear hx hy K M E F hc;have X:decide (i<n)=true:=by simp[hi]
 have Y:((j:Int) == (m:Int))=false:=by simp;omega
 generalize N:cW (c.drop i) (d.drop j)=L at *;clear N;go_enter Tryz.func273,Tryz.ntmps273;go_wp2;have G:Below w w (w.alloc (.cells zV 59)):=(aB _ _).alloc (aD _) _;have O:=aT.new w 59 zV;generalize w.alloc (.cells zV 59)=W at *;have a:=aC G;replace g:=aW a g;replace c1:=aW a c1;replace c2:=aW a c2;replace l:=aW a l;replace p:=aW a p;replace q:=aW a q;replace e1:=aW a e1;replace e2:=aW a e2;replace e3:=aW a e3;replace s:=aW a s;clear a;refine aZ [([0,1,2,3,4,5,6,7,8,9,10,11,12,13,14,15,16,17],18)] [19,20,21] ?_;simp only[bS,cP];have P:=@bK W.drew;unfold bA;repeat(go_big_quiet_step (fail))
 refine aA ?_;go_wp2_with (first|(go_at_call 93;refine(eT ⟨_,_,_⟩ ⟨_,_,_⟩ _).mono ?_;rintro e w1 ⟨rfl,hb1⟩));refine⟨hb1,?_⟩;clear P;have H:=cC1 G.drew hb1;have I:=O.drew.below hb1;have a0:=bL4 hb1;unfold bA;repeat(go_big_quiet_step (fail))
 refine aA ?_;have J:=I.cell;have a1:=I.free;go_wp2
 . refine aF (v:=.agg #[R,Q,S]) (by simp[results,Tryz.results273,go_sem,J]) rfl ⟨?_,?_⟩
   . rw[r.out,if_pos ‹_›]
   . repeat(first|exact H|refine bC ?_ (by simp) _)
 . refine aF (v:=.agg #[U,T,V]) (by simp[results,Tryz.results273,go_sem,J]) rfl ⟨?_,?_⟩
   . rw[r.out,if_neg (by omega)]
   . repeat(first|exact H|refine bC ?_ (by simp) _)
theorem least_a (w:World)(s u q r i j:Nat)(A B:Option Addr)(n m ca cb:Nat)(d c:List Vl)(hc:MCap w s u q r i j A B n m ca cb)
 (y:qA w A n d)(z:qA w B m c)(hi:i<n)(hj:j=m)(hn:n<=1000)(hm:m<=1000) :
 Calls Tryz.prog 273 #[.pointer (some ⟨u,0,none⟩),.pointer (some ⟨r,0,none⟩),.pointer (some ⟨s,0,none⟩),.pointer (some ⟨q,0,none⟩)] w fun e w' =>
  e=.returned (.agg #[.int .i64 (cW (d.drop i) (c.drop j)).k,.int .i64 (cW (d.drop i) (c.drop j)).i,.string (cW (d.drop i) (c.drop j)).t])/\Below w w w':=by
 obtain⟨b,o,x,rfl,hx,D⟩:=y.at hi;have E:Hid (cW (d.drop i) (c.drop j)=x):=by have h0:c.drop j=[]:=aU (by rw[z.len];omega);rw[h0,eL hx];rfl
 obtain⟨J,I,K⟩:=x;obtain⟨g,c1,c2⟩:=VlAt.of D;dsimp only at g c1 c2;have e1:=aV hc.hi (i:=0) rfl;have e2:=aV hc.hj (i:=0) rfl;have e3:=aV hc.ha (i:=0) rfl;have p:=aV hc.hb (i:=0) rfl;clear hx D y z hc;have N:decide (i<n)=true:=by simp[hi]
 have O:((j:Int) == (m:Int))=true:=by simp;omega
 have M:=Z hj;clear hj;generalize F:cW (d.drop i) (c.drop j)=L at *;clear F;go_enter Tryz.func273,Tryz.ntmps273;go_wp2;have C:Below w w (w.alloc (.cells zV 59)):=(aB _ _).alloc (aD _) _;have l:=aT.new w 59 zV;generalize w.alloc (.cells zV 59)=W at *;have a:=aC C;replace g:=aW a g;replace c1:=aW a c1;replace c2:=aW a c2;replace e1:=aW a e1;replace e2:=aW a e2;replace e3:=aW a e3;replace p:=aW a p;clear a;refine aZ [([0,1,2,3,4,5,6,7,8,9,10,11,12,13,14,15,16,17],18)] [19,20,21] ?_;simp only[bS,cP];have H:=@bK W.drew;unfold bA;repeat(go_big_quiet_step (fail))
 refine aA ?_;go_wp2;refine⟨aB _ _,?_⟩;clear H;have P:=l.drew;unfold bA;repeat(go_big_quiet_step (fail))
 refine aA ?_;have G:=l.cell;have Q:=l.free;go_wp2;refine aF (v:=.agg #[J,I,K]) (by simp[results,Tryz.results273,go_sem,G]) rfl ⟨?_,?_⟩
 . rw[E.out]
 . repeat(first|exact C|refine Below.drew ?_|refine bC ?_ (by simp) _)
theorem least_b (w:World)(s u q r i j:Nat)(A B:Option Addr)(n m ca cb:Nat)(b c:List Vl)(hc:MCap w s u q r i j A B n m ca cb)
 (x:qA w A n b)(z:qA w B m c)(hi:i=n)(hj:j<m)(hn:n<=1000)(hm:m<=1000) :
 Calls Tryz.prog 273 #[.pointer (some ⟨u,0,none⟩),.pointer (some ⟨r,0,none⟩),.pointer (some ⟨s,0,none⟩),.pointer (some ⟨q,0,none⟩)] w fun e w' =>
  e=.returned (.agg #[.int .i64 (cW (b.drop i) (c.drop j)).k,.int .i64 (cW (b.drop i) (c.drop j)).i,.string (cW (b.drop i) (c.drop j)).t])/\Below w w w':=by
 obtain⟨b',o',y,rfl,hy,D⟩:=z.at hj;have E:Hid (cW (b.drop i) (c.drop j)=y):=by have h0:b.drop i=[]:=aU (by rw[x.len];omega);rw[h0,eL hy];rfl
 obtain⟨J,I,K⟩:=y;obtain⟨d,g,l⟩:=VlAt.of D;dsimp only at d g l;have e1:=aV hc.hi (i:=0) rfl;have e2:=aV hc.hj (i:=0) rfl;have e3:=aV hc.ha (i:=0) rfl;have p:=aV hc.hb (i:=0) rfl;clear hy D x z hc;have N:decide (i<n)=false:=by simp;omega
 have M:=Z hi;clear hi;have O:((j:Int) == (m:Int))=false:=by simp;omega
 generalize F:cW (b.drop i) (c.drop j)=L at *;clear F;go_enter Tryz.func273,Tryz.ntmps273;go_wp2;have C:Below w w (w.alloc (.cells zV 59)):=(aB _ _).alloc (aD _) _;have o:=aT.new w 59 zV;generalize w.alloc (.cells zV 59)=W at *;have a:=aC C;replace d:=aW a d;replace g:=aW a g;replace l:=aW a l;replace e1:=aW a e1;replace e2:=aW a e2;replace e3:=aW a e3;replace p:=aW a p;clear a;refine aZ [([0,1,2,3,4,5,6,7,8,9,10,11,12,13,14,15,16,17],18)] [19,20,21] ?_;simp only[bS,cP];have H:=@bK W.drew;unfold bA;repeat(go_big_quiet_step (fail))
 refine aA ?_;go_wp2;refine⟨aB _ _,?_⟩;clear H;have P:=o.drew;unfold bA;repeat(go_big_quiet_step (fail))
 refine aA ?_;have G:=o.cell;have Q:=o.free;go_wp2;refine aF (v:=.agg #[J,I,K]) (by simp[results,Tryz.results273,go_sem,G]) rfl ⟨?_,?_⟩
 . rw[E.out]
 . repeat(first|exact C|refine Below.drew ?_|refine bC ?_ (by simp) _)
theorem aH7 (w:World)(g l c d i j:Nat)(A B:Option Addr)(n m o p:Nat)(a b:List Vl)(hc:MCap w g l c d i j A B n m o p)
 (r:qA w A n a)(s:qA w B m b)(hi:i<=n)(z:j<=m)(y:i<n\/j<m)(v:n<=1000)(u:m<=1000) :
 Calls Tryz.prog 273 #[.pointer (some ⟨l,0,none⟩),.pointer (some ⟨d,0,none⟩),.pointer (some ⟨g,0,none⟩),.pointer (some ⟨c,0,none⟩)] w fun e w' =>
  e=.returned (.agg #[.int .i64 (cW (a.drop i) (b.drop j)).k,.int .i64 (cW (a.drop i) (b.drop j)).i,.string (cW (a.drop i) (b.drop j)).t])/\Below w w w':=by
 rcases cJ i n with q|q
 . rcases cJ j m with x|x
   . exact bD3 w g l c d i j A B n m o p a b hc r s q x v u
   . exact least_a w g l c d i j A B n m o p a b hc r s q (by omega) v u
 . exact least_b w g l c d i j A B n m o p a b hc r s (by omega) (by omega) v u
def dH (la:List Vl) (p:Vl):Bool:=match la with
 |[]=>false
 |x::_=>decide (x=p)
def oN (i:Nat) (q:Bool):Nat:=i+(if q then 1 else 0)
def rF (w:World) (gi gj ga gb i j:Nat) (A B:Option Addr) (n m ca cb:Nat) (q1 q2:Bool) (e:Ending) (w':World):Prop :=
 e=.returned (.tuple #[.bool (oN i q1 % 2 == 1),.bool (oN j q2 % 2 == 1)])∧MCap w' gi gj ga gb (oN i q1) (oN j q2) A B n m ca cb∧But (fun k=>k=gi∨k=gj) w w'
theorem MCap.lt {w:World}{c d a b i j:Nat}{A B:Option Addr}{n m e g:Nat}(h:MCap w c d a b i j A B n m e g):c<w.heap.size/\d<w.heap.size/\a<w.heap.size/\b<w.heap.size:=⟨h.hi.lt,h.hj.lt,h.ha.lt,h.hb.lt⟩
theorem MCap.alloc {w:World}{e g c d i j:Nat}{A B:Option Addr}{n m a b:Nat}(h:MCap w e g c d i j A B n m a b)(o:Obj):MCap (w.alloc o) e g c d i j A B n m a b:=⟨h.hi.alloc o,h.hj.alloc o,h.ha.alloc o,h.hb.alloc o⟩
theorem MCap.below {w w':World}{e g c d i j:Nat}{A B:Option Addr}{n m a b:Nat}(h:MCap w e g c d i j A B n m a b)(hb:Below w w w'):MCap w' e g c d i j A B n m a b:=⟨h.hi.below hb,h.hj.below hb,h.ha.below hb,h.hb.below hb⟩
theorem MCap.grown {w w':World}{g k d e i j:Nat}{A B:Option Addr}{n m l o:Nat}(h:MCap w g k d e i j A B n m l o){a:Option Nat}(b:w.grownBy w' a)(c:some g≠a/\some k≠a/\some d≠a/\some e≠a):MCap w' g k d e i j A B n m l o :=
 ⟨h.hi.grown b c.1,h.hj.grown b c.2.1,h.ha.grown b c.2.2.1,h.hb.grown b c.2.2.2⟩
theorem pW (i:Nat):((i:Int) % 2 == 1)=(oN i false % 2 == 1):=by
 rw[bV];simp[oN];omega
theorem aH3 (i:Nat):(((i:Int)+1) % 2 == 1)=(oN i true % 2 == 1):=by
 rw[bV];simp[oN];omega
theorem MCap.drew {w:World}{e g c d i j:Nat}{A B:Option Addr}{n m a b:Nat}(h:MCap w e g c d i j A B n m a b):MCap w.drew e g c d i j A B n m a b:=⟨h.hi,h.hj,h.ha,h.hb⟩
theorem MCap.setI {w:World}{a b c d i j:Nat}{A B:Option Addr}{n m e g:Nat}(h:MCap w a b c d i j A B n m e g)(o:a≠b)(k:c≠a/\c≠b)(l:d≠a/\d≠b) :
 MCap (w.setCell ⟨a,0,none⟩ (.int .i64 ((i:Int)+1))) a b c d (i+1) j A B n m e g :=
 ⟨h.hi.set_ 0 (.int .i64 ((i:Int)+1)),h.hj.far (p:=⟨a,0,none⟩) (Ne.symm o) _,h.ha.far (p:=⟨a,0,none⟩) k.1 _,h.hb.far (p:=⟨a,0,none⟩) l.1 _⟩
theorem MCap.setJ {w:World}{b a c d i j:Nat}{A B:Option Addr}{n m e g:Nat}(h:MCap w b a c d i j A B n m e g)(o:b≠a)(k:c≠b/\c≠a)(l:d≠b/\d≠a) :
 MCap (w.setCell ⟨a,0,none⟩ (.int .i64 ((j:Int)+1))) b a c d i (j+1) A B n m e g :=
 ⟨h.hi.far (p:=⟨a,0,none⟩) o _,h.hj.set_ 0 (.int .i64 ((j:Int)+1)),h.ha.far (p:=⟨a,0,none⟩) k.2 _,h.hb.far (p:=⟨a,0,none⟩) l.2 _⟩
theorem aY2 (w:World)(a c s v i j:Nat)(A B:Option Addr)(n m ca cb:Nat)(X Y:List Vl)(p:Vl)(hc:MCap w a c s v i j A B n m ca cb)
 (a2:qA w A n X)(a5:qA w B m Y)(hi:i<n)(hj:j<m)(hn:n<=1000)(hm:m<=1000)(V:a≠c)
 (a6:0<n->∀b o,A=some ⟨b,o,none⟩->b≠a/\b≠c)(a7:0<m->∀b o,B=some ⟨b,o,none⟩->b≠a/\b≠c)(T:s≠a/\s≠c)(U:v≠a/\v≠c) :
 Calls Tryz.prog 274 #[.agg #[p.k,p.i,p.t],.pointer (some ⟨a,0,none⟩),.pointer (some ⟨s,0,none⟩),.pointer (some ⟨c,0,none⟩),.pointer (some ⟨v,0,none⟩)] w fun e w' =>
  rF w a c s v i j A B n m ca cb (dH (X.drop i) p) (dH (Y.drop j) p) e w':=by
 obtain⟨b,o,x,rfl,hx,a8⟩:=a2.at hi;have a0:dH (X.drop i) p=decide (x=p):=by rw[eL hx];rfl
 obtain⟨b7,b8⟩:=a6 (by omega) _ _ rfl;obtain⟨b1,b0,b2⟩:=x;obtain⟨b',o',y,rfl,hy,a9⟩:=a5.at hj;have HB:dH (Y.drop j) p=decide (y=p):=by rw[eL hy];rfl
 obtain⟨R,b9⟩:=a7 (by omega) _ _ rfl;obtain⟨b4,b3,b5⟩:=y;obtain⟨pk,D,E⟩:=p;rw[a0,HB];clear a0 HB;obtain⟨L,c1,c2⟩:=VlAt.of a8;dsimp only at L c1 c2;have c0:=uP b1 b0 pk D b2 E;generalize decide ((⟨b1,b0,b2⟩:Vl)=⟨pk,D,E⟩)=q1 at *;have g1:decide (i<n)=true:=by simp[hi]
 have c4:i<=1000:=by omega
 clear hx a8;obtain⟨G,H,I⟩:=VlAt.of a9;dsimp only at G H I;have c3:=uP b4 b3 pk D b5 E;generalize decide ((⟨b4,b3,b5⟩:Vl)=⟨pk,D,E⟩)=q2 at *;have g2:decide (j<m)=true:=by simp[hj]
 have c5:j<=1000:=by omega
 clear hy a9;clear a2 a5 a6 a7;go_enter Tryz.func274,Tryz.ntmps274;go_wp2;have N:=(aT.new w 59 #[pk,D,E]);have K:=aM w (.cells #[pk,D,E] 59);have b6:w.heap.size≠a/\w.heap.size≠c:=⟨by have:=hc.hi.lt;omega,by have:=hc.hj.lt;omega⟩;replace L:=aW K L;replace c1:=aW K c1;replace c2:=aW K c2;replace G:=aW K G;replace H:=aW K H;replace I:=aW K I;have C:=hc.alloc (.cells #[pk,D,E] 59);have O:But (fun k=>k=a\/k=c) w (w.alloc (.cells #[pk,D,E] 59)):=But.alloc _ _;generalize w.alloc (.cells #[pk,D,E] 59)=W at *;generalize hwz:w.heap.size=z at *;clear hwz K hc;have Q:=N.cell;have a1:=aV C.hi (i:=0) rfl;have r:=aV C.hj (i:=0) rfl;have a3:=aV C.ha (i:=0) rfl;have a4:=aV C.hb (i:=0) rfl;have q:=@bK W.drew;refine aZ [] [0,1,2,3,4,5,6,7,8,9,10,11] ?_;simp only[bS,cP];unfold bA;repeat(go_big_quiet_step (fail))
 refine aA ?_;clear q;clear Q;cases q1
 . go_wp2;have g:MCap W.drew a c s v i j _ _ n m ca cb:=C.drew;have M:=O.drew;have Q:=N.drew.cell;replace G:W.drew.cell? _=_:=G;replace H:W.drew.cell? _=_:=H;replace I:W.drew.cell? _=_:=I;clear a1 r a3 a4 N C O;clear L c1 c2;generalize W.drew=l at *;have a1:=aV g.hi (i:=0) rfl;have r:=aV g.hj (i:=0) rfl;have a3:=aV g.ha (i:=0) rfl;have a4:=aV g.hb (i:=0) rfl;have q:=@bK l.drew;refine aZ [] [0,1,2,3,4,5,6,7,8,9,10,11] ?_;simp only[bS,cP];unfold bA;repeat(go_big_quiet_step (fail))
   refine aA ?_;clear q;cases q2
   . go_wp2;have d:MCap l.drew a c s v _ j _ _ n m ca cb:=g.drew;have J:=M.drew;clear a1 r a3 a4;generalize l.drew=F at *;have a1:=aV d.hi (i:=0) rfl;have r:=aV d.hj (i:=0) rfl;have a3:=aV d.ha (i:=0) rfl;have a4:=aV d.hb (i:=0) rfl;have q:=@bK F.drew;refine aZ [] [0,1,2,3,4,5,6,7] ?_;simp only[bS,cP];unfold bA;repeat(go_big_quiet_step (fail))
     refine aA ?_;clear q;go_wp2;go_ret2;refine⟨?_,d.drew,J.drew⟩;exact iY (pW i) (pW j)
   . have P:=g.hj.free 0;go_wp2;have d:MCap (l.setCell ⟨c,0,none⟩ (.int .i64 ((j:Int)+1))).drew a c s v _ (j+1) _ _ n m ca cb:=(g.setJ V T U).drew;have J:=(M.trans (But.set (S:=fun k=>k=a\/k=c) l (p:=⟨c,0,none⟩) (.inr rfl) (.int .i64 ((j:Int)+1)))).drew;clear a1 r a3 a4 P;generalize (l.setCell ⟨c,0,none⟩ (.int .i64 ((j:Int)+1))).drew=F at *;have a1:=aV d.hi (i:=0) rfl;have r:=aV d.hj (i:=0) rfl;have a3:=aV d.ha (i:=0) rfl;have a4:=aV d.hb (i:=0) rfl;have q:=@bK F.drew;refine aZ [] [0,1,2,3,4,5,6,7] ?_;simp only[bS,cP];unfold bA;repeat(go_big_quiet_step (fail))
     refine aA ?_;clear q;go_wp2;go_ret2;refine⟨?_,d.drew,J.drew⟩;exact iY (pW i) (aH3 j)
 . have f1:=C.hi.free 0;go_wp2;have g:MCap (W.setCell ⟨a,0,none⟩ (.int .i64 ((i:Int)+1))).drew a c s v (i+1) j _ _ n m ca cb:=(C.setI V T U).drew;have M:=(O.trans (But.set (S:=fun k=>k=a\/k=c) W (p:=⟨a,0,none⟩) (.inl rfl) (.int .i64 ((i:Int)+1)))).drew;have Q:=(N.far (p:=⟨a,0,none⟩) b6.1 (.int .i64 ((i:Int)+1))).drew.cell;replace G:(W.setCell ⟨a,0,none⟩ (.int .i64 ((i:Int)+1))).drew.cell? _=_:=vI (p:=⟨a,0,none⟩) (u:=.int .i64 ((i:Int)+1)) G R;replace H:(W.setCell ⟨a,0,none⟩ (.int .i64 ((i:Int)+1))).drew.cell? _=_:=vI (p:=⟨a,0,none⟩) (u:=.int .i64 ((i:Int)+1)) H R;replace I:(W.setCell ⟨a,0,none⟩ (.int .i64 ((i:Int)+1))).drew.cell? _=_:=vI (p:=⟨a,0,none⟩) (u:=.int .i64 ((i:Int)+1)) I R;clear a1 r a3 a4 N C O f1;clear L c1 c2;generalize (W.setCell ⟨a,0,none⟩ (.int .i64 ((i:Int)+1))).drew=l at *;have a1:=aV g.hi (i:=0) rfl;have r:=aV g.hj (i:=0) rfl;have a3:=aV g.ha (i:=0) rfl;have a4:=aV g.hb (i:=0) rfl;have q:=@bK l.drew;refine aZ [] [0,1,2,3,4,5,6,7,8,9,10,11] ?_;simp only[bS,cP];unfold bA;repeat(go_big_quiet_step (fail))
   refine aA ?_;clear q;cases q2
   . go_wp2;have d:MCap l.drew a c s v _ j _ _ n m ca cb:=g.drew;have J:=M.drew;clear a1 r a3 a4;generalize l.drew=F at *;have a1:=aV d.hi (i:=0) rfl;have r:=aV d.hj (i:=0) rfl;have a3:=aV d.ha (i:=0) rfl;have a4:=aV d.hb (i:=0) rfl;have q:=@bK F.drew;refine aZ [] [0,1,2,3,4,5,6,7] ?_;simp only[bS,cP];unfold bA;repeat(go_big_quiet_step (fail))
     refine aA ?_;clear q;go_wp2;go_ret2;refine⟨?_,d.drew,J.drew⟩;exact iY (aH3 i) (pW j)
   . have P:=g.hj.free 0;go_wp2;have d:MCap (l.setCell ⟨c,0,none⟩ (.int .i64 ((j:Int)+1))).drew a c s v _ (j+1) _ _ n m ca cb:=(g.setJ V T U).drew;have J:=(M.trans (But.set (S:=fun k=>k=a\/k=c) l (p:=⟨c,0,none⟩) (.inr rfl) (.int .i64 ((j:Int)+1)))).drew;clear a1 r a3 a4 P;generalize (l.setCell ⟨c,0,none⟩ (.int .i64 ((j:Int)+1))).drew=F at *;have a1:=aV d.hi (i:=0) rfl;have r:=aV d.hj (i:=0) rfl;have a3:=aV d.ha (i:=0) rfl;have a4:=aV d.hb (i:=0) rfl;have q:=@bK F.drew;refine aZ [] [0,1,2,3,4,5,6,7] ?_;simp only[bS,cP];unfold bA;repeat(go_big_quiet_step (fail))
     refine aA ?_;clear q;go_wp2;go_ret2;refine⟨?_,d.drew,J.drew⟩;exact iY (aH3 i) (aH3 j)
theorem aY3 (w:World)(a c l q i j:Nat)(A B:Option Addr)(n m ca cb:Nat)(L M:List Vl)(p:Vl)(hc:MCap w a c l q i j A B n m ca cb)
 (O:qA w A n L)(P:qA w B m M)(hi:i<n)(hj:j=m)(hn:n<=1000)(hm:m<=1000)(a5:a≠c)
 (Q:0<n->∀b o,A=some ⟨b,o,none⟩->b≠a/\b≠c)(Y:0<m->∀b o,B=some ⟨b,o,none⟩->b≠a/\b≠c)(a0:l≠a/\l≠c)(a2:q≠a/\q≠c) :
 Calls Tryz.prog 274 #[.agg #[p.k,p.i,p.t],.pointer (some ⟨a,0,none⟩),.pointer (some ⟨l,0,none⟩),.pointer (some ⟨c,0,none⟩),.pointer (some ⟨q,0,none⟩)] w fun e w' =>
  rF w a c l q i j A B n m ca cb (dH (L.drop i) p) (dH (M.drop j) p) e w':=by
 obtain⟨b,o,x,rfl,hx,R⟩:=O.at hi;have N:dH (L.drop i) p=decide (x=p):=by rw[eL hx];rfl
 obtain⟨a7,a8⟩:=Q (by omega) _ _ rfl;obtain⟨U,T,V⟩:=x;have HB:dH (M.drop j) p=false:=by rw[aU (by rw[P.len];omega)];rfl
 obtain⟨pk,y,C⟩:=p;rw[N,HB];clear N HB;obtain⟨D,c1,c2⟩:=VlAt.of R;dsimp only at D c1 c2;have a9:=uP U T pk y V C;generalize decide ((⟨U,T,V⟩:Vl)=⟨pk,y,C⟩)=q1 at *;have g1:decide (i<n)=true:=by simp[hi]
 have b0:i<=1000:=by omega
 clear hx R;have g2:decide (j<m)=false:=by simp;omega
 have b1:j<=1000:=by omega
 clear hj;clear O P Q Y;go_enter Tryz.func274,Tryz.ntmps274;go_wp2;have E:=(aT.new w 59 #[pk,y,C]);have G:=aM w (.cells #[pk,y,C] 59);have a6:w.heap.size≠a/\w.heap.size≠c:=⟨by have:=hc.hi.lt;omega,by have:=hc.hj.lt;omega⟩;replace D:=aW G D;replace c1:=aW G c1;replace c2:=aW G c2;have r:=hc.alloc (.cells #[pk,y,C] 59);have F:But (fun k=>k=a\/k=c) w (w.alloc (.cells #[pk,y,C] 59)):=But.alloc _ _;generalize w.alloc (.cells #[pk,y,C] 59)=W at *;generalize hwz:w.heap.size=z at *;clear hwz G hc;have K:=E.cell;have a1:=aV r.hi (i:=0) rfl;have u:=aV r.hj (i:=0) rfl;have a3:=aV r.ha (i:=0) rfl;have a4:=aV r.hb (i:=0) rfl;have s:=@bK W.drew;refine aZ [] [0,1,2,3,4,5,6,7,8,9,10,11] ?_;simp only[bS,cP];unfold bA;repeat(go_big_quiet_step (fail))
 refine aA ?_;clear s;clear K;cases q1
 . go_wp2;have d:MCap W.drew a c l q i j _ _ n m ca cb:=r.drew;have I:=F.drew;have K:=E.drew.cell;clear a1 u a3 a4 E r F;clear D c1 c2;generalize W.drew=v at *;have a1:=aV d.hi (i:=0) rfl;have u:=aV d.hj (i:=0) rfl;have a3:=aV d.ha (i:=0) rfl;have a4:=aV d.hb (i:=0) rfl;have s:=@bK v.drew;refine aZ [] [0,1,2,3,4,5,6,7,8,9,10,11] ?_;simp only[bS,cP];unfold bA;repeat(go_big_quiet_step (fail))
   refine aA ?_;clear s;go_wp2;have g:MCap v.drew a c l q _ j _ _ n m ca cb:=d.drew;have J:=I.drew;clear a1 u a3 a4;generalize v.drew=H at *;have a1:=aV g.hi (i:=0) rfl;have u:=aV g.hj (i:=0) rfl;have a3:=aV g.ha (i:=0) rfl;have a4:=aV g.hb (i:=0) rfl;have s:=@bK H.drew;refine aZ [] [0,1,2,3,4,5,6,7] ?_;simp only[bS,cP];unfold bA;repeat(go_big_quiet_step (fail))
   refine aA ?_;clear s;go_wp2;go_ret2;refine⟨?_,g.drew,J.drew⟩;exact iY (pW i) (pW j)
 . have X:=r.hi.free 0;go_wp2;have d:MCap (W.setCell ⟨a,0,none⟩ (.int .i64 ((i:Int)+1))).drew a c l q (i+1) j _ _ n m ca cb:=(r.setI a5 a0 a2).drew;have I:=(F.trans (But.set (S:=fun k=>k=a\/k=c) W (p:=⟨a,0,none⟩) (.inl rfl) (.int .i64 ((i:Int)+1)))).drew;have K:=(E.far (p:=⟨a,0,none⟩) a6.1 (.int .i64 ((i:Int)+1))).drew.cell;clear a1 u a3 a4 E r F X;clear D c1 c2;generalize (W.setCell ⟨a,0,none⟩ (.int .i64 ((i:Int)+1))).drew=v at *;have a1:=aV d.hi (i:=0) rfl;have u:=aV d.hj (i:=0) rfl;have a3:=aV d.ha (i:=0) rfl;have a4:=aV d.hb (i:=0) rfl;have s:=@bK v.drew;refine aZ [] [0,1,2,3,4,5,6,7,8,9,10,11] ?_;simp only[bS,cP];unfold bA;repeat(go_big_quiet_step (fail))
   refine aA ?_;clear s;go_wp2;have g:MCap v.drew a c l q _ j _ _ n m ca cb:=d.drew;have J:=I.drew;clear a1 u a3 a4;generalize v.drew=H at *;have a1:=aV g.hi (i:=0) rfl;have u:=aV g.hj (i:=0) rfl;have a3:=aV g.ha (i:=0) rfl;have a4:=aV g.hb (i:=0) rfl;have s:=@bK H.drew;refine aZ [] [0,1,2,3,4,5,6,7] ?_;simp only[bS,cP];unfold bA;repeat(go_big_quiet_step (fail))
   refine aA ?_;clear s;go_wp2;go_ret2;refine⟨?_,g.drew,J.drew⟩;exact iY (aH3 i) (pW j)
theorem aY4 (w:World)(c a g l i j:Nat)(A B:Option Addr)(n m ca cb:Nat)(K L:List Vl)(p:Vl)(hc:MCap w c a g l i j A B n m ca cb)
 (N:qA w A n K)(O:qA w B m L)(hi:i=n)(hj:j<m)(hn:n<=1000)(hm:m<=1000)(a6:c≠a)
 (a0:0<n->∀b o,A=some ⟨b,o,none⟩->b≠c/\b≠a)(T:0<m->∀b o,B=some ⟨b,o,none⟩->b≠c/\b≠a)(a2:g≠c/\g≠a)(a5:l≠c/\l≠a) :
 Calls Tryz.prog 274 #[.agg #[p.k,p.i,p.t],.pointer (some ⟨c,0,none⟩),.pointer (some ⟨g,0,none⟩),.pointer (some ⟨a,0,none⟩),.pointer (some ⟨l,0,none⟩)] w fun e w' =>
  rF w c a g l i j A B n m ca cb (dH (K.drop i) p) (dH (L.drop j) p) e w':=by
 have M:dH (K.drop i) p=false:=by rw[aU (by rw[N.len];omega)];rfl
 obtain⟨b',o',y,rfl,hy,U⟩:=O.at hj;have HB:dH (L.drop j) p=decide (y=p):=by rw[eL hy];rfl
 obtain⟨a7,a8⟩:=T (by omega) _ _ rfl;obtain⟨X,V,Y⟩:=y;obtain⟨pk,s,u⟩:=p;rw[M,HB];clear M HB;have g1:decide (i<n)=false:=by simp;omega
 have b0:i<=1000:=by omega
 clear hi;obtain⟨D,E,F⟩:=VlAt.of U;dsimp only at D E F;have a9:=uP X V pk s Y u;generalize decide ((⟨X,V,Y⟩:Vl)=⟨pk,s,u⟩)=q2 at *;have g2:decide (j<m)=true:=by simp[hj]
 have b1:j<=1000:=by omega
 clear hy U;clear N O a0 T;go_enter Tryz.func274,Tryz.ntmps274;go_wp2;have J:=(aT.new w 59 #[pk,s,u]);have G:=aM w (.cells #[pk,s,u] 59);have b2:w.heap.size≠c/\w.heap.size≠a:=⟨by have:=hc.hi.lt;omega,by have:=hc.hj.lt;omega⟩;replace D:=aW G D;replace E:=aW G E;replace F:=aW G F;have C:=hc.alloc (.cells #[pk,s,u] 59);have P:But (fun k=>k=c\/k=a) w (w.alloc (.cells #[pk,s,u] 59)):=But.alloc _ _;generalize w.alloc (.cells #[pk,s,u] 59)=W at *;generalize hwz:w.heap.size=z at *;clear hwz G hc;have R:=J.cell;have a1:=aV C.hi (i:=0) rfl;have x:=aV C.hj (i:=0) rfl;have a3:=aV C.ha (i:=0) rfl;have a4:=aV C.hb (i:=0) rfl;have r:=@bK W.drew;refine aZ [] [0,1,2,3,4,5,6,7,8,9,10,11] ?_;simp only[bS,cP];unfold bA;repeat(go_big_quiet_step (fail))
 refine aA ?_;clear r;clear R;go_wp2;have q:MCap W.drew c a g l i j _ _ n m ca cb:=C.drew;have Q:=P.drew;have R:=J.drew.cell;replace D:W.drew.cell? _=_:=D;replace E:W.drew.cell? _=_:=E;replace F:W.drew.cell? _=_:=F;clear a1 x a3 a4 J C P;generalize W.drew=v at *;have a1:=aV q.hi (i:=0) rfl;have x:=aV q.hj (i:=0) rfl;have a3:=aV q.ha (i:=0) rfl;have a4:=aV q.hb (i:=0) rfl;have r:=@bK v.drew;refine aZ [] [0,1,2,3,4,5,6,7,8,9,10,11] ?_;simp only[bS,cP];unfold bA;repeat(go_big_quiet_step (fail))
 refine aA ?_;clear r;cases q2
 . go_wp2;have d:MCap v.drew c a g l _ j _ _ n m ca cb:=q.drew;have I:=Q.drew;clear a1 x a3 a4;generalize v.drew=H at *;have a1:=aV d.hi (i:=0) rfl;have x:=aV d.hj (i:=0) rfl;have a3:=aV d.ha (i:=0) rfl;have a4:=aV d.hb (i:=0) rfl;have r:=@bK H.drew;refine aZ [] [0,1,2,3,4,5,6,7] ?_;simp only[bS,cP];unfold bA;repeat(go_big_quiet_step (fail))
   refine aA ?_;clear r;go_wp2;go_ret2;refine⟨?_,d.drew,I.drew⟩;exact iY (pW i) (pW j)
 . have f2:=q.hj.free 0;go_wp2;have d:MCap (v.setCell ⟨a,0,none⟩ (.int .i64 ((j:Int)+1))).drew c a g l _ (j+1) _ _ n m ca cb:=(q.setJ a6 a2 a5).drew;have I:=(Q.trans (But.set (S:=fun k=>k=c\/k=a) v (p:=⟨a,0,none⟩) (.inr rfl) (.int .i64 ((j:Int)+1)))).drew;clear a1 x a3 a4 f2;generalize (v.setCell ⟨a,0,none⟩ (.int .i64 ((j:Int)+1))).drew=H at *;have a1:=aV d.hi (i:=0) rfl;have x:=aV d.hj (i:=0) rfl;have a3:=aV d.ha (i:=0) rfl;have a4:=aV d.hb (i:=0) rfl;have r:=@bK H.drew;refine aZ [] [0,1,2,3,4,5,6,7] ?_;simp only[bS,cP];unfold bA;repeat(go_big_quiet_step (fail))
   refine aA ?_;clear r;go_wp2;go_ret2;refine⟨?_,d.drew,I.drew⟩;exact iY (pW i) (aH3 j)
theorem aY5 (w:World)(a c d g i j:Nat)(A B:Option Addr)(n m ca cb:Nat)(D E:List Vl)(p:Vl)(hc:MCap w a c d g i j A B n m ca cb)
 (G:qA w A n D)(H:qA w B m E)(hi:i=n)(hj:j=m)(hn:n<=1000)(hm:m<=1000)(V:a≠c)
 (O:0<n->∀b o,A=some ⟨b,o,none⟩->b≠a/\b≠c)(P:0<m->∀b o,B=some ⟨b,o,none⟩->b≠a/\b≠c)(S:d≠a/\d≠c)(T:g≠a/\g≠c) :
 Calls Tryz.prog 274 #[.agg #[p.k,p.i,p.t],.pointer (some ⟨a,0,none⟩),.pointer (some ⟨d,0,none⟩),.pointer (some ⟨c,0,none⟩),.pointer (some ⟨g,0,none⟩)] w fun e w' =>
  rF w a c d g i j A B n m ca cb (dH (D.drop i) p) (dH (E.drop j) p) e w':=by
 have F:dH (D.drop i) p=false:=by rw[aU (by rw[G.len];omega)];rfl
 have HB:dH (E.drop j) p=false:=by rw[aU (by rw[H.len];omega)];rfl
 obtain⟨pk,u,v⟩:=p;rw[F,HB];clear F HB;have Q:decide (i<n)=false:=by simp;omega
 have U:i<=1000:=by omega
 clear hi;have R:decide (j<m)=false:=by simp;omega
 have X:j<=1000:=by omega
 clear hj;clear G H O P;go_enter Tryz.func274,Tryz.ntmps274;go_wp2;have C:=(aT.new w 59 #[pk,u,v]);have N:=aM w (.cells #[pk,u,v] 59);have Y:w.heap.size≠a/\w.heap.size≠c:=⟨by have:=hc.hi.lt;omega,by have:=hc.hj.lt;omega⟩;have l:=hc.alloc (.cells #[pk,u,v] 59);have I:But (fun k=>k=a\/k=c) w (w.alloc (.cells #[pk,u,v] 59)):=But.alloc _ _;generalize w.alloc (.cells #[pk,u,v] 59)=W at *;generalize hwz:w.heap.size=z at *;clear hwz N hc;have J:=C.cell;have a1:=aV l.hi (i:=0) rfl;have x:=aV l.hj (i:=0) rfl;have a3:=aV l.ha (i:=0) rfl;have a4:=aV l.hb (i:=0) rfl;have s:=@bK W.drew;refine aZ [] [0,1,2,3,4,5,6,7,8,9,10,11] ?_;simp only[bS,cP];unfold bA;repeat(go_big_quiet_step (fail))
 refine aA ?_;clear s;clear J;go_wp2;have q:MCap W.drew a c d g i j _ _ n m ca cb:=l.drew;have L:=I.drew;have J:=C.drew.cell;clear a1 x a3 a4 C l I;generalize W.drew=y at *;have a1:=aV q.hi (i:=0) rfl;have x:=aV q.hj (i:=0) rfl;have a3:=aV q.ha (i:=0) rfl;have a4:=aV q.hb (i:=0) rfl;have s:=@bK y.drew;refine aZ [] [0,1,2,3,4,5,6,7,8,9,10,11] ?_;simp only[bS,cP];unfold bA;repeat(go_big_quiet_step (fail))
 refine aA ?_;clear s;go_wp2;have r:MCap y.drew a c d g _ j _ _ n m ca cb:=q.drew;have M:=L.drew;clear a1 x a3 a4;generalize y.drew=K at *;have a1:=aV r.hi (i:=0) rfl;have x:=aV r.hj (i:=0) rfl;have a3:=aV r.ha (i:=0) rfl;have a4:=aV r.hb (i:=0) rfl;have s:=@bK K.drew;refine aZ [] [0,1,2,3,4,5,6,7] ?_;simp only[bS,cP];unfold bA;repeat(go_big_quiet_step (fail))
 refine aA ?_;clear s;go_wp2;go_ret2;refine⟨?_,r.drew,M.drew⟩;exact iY (pW i) (pW j)
theorem vM (w:World)(a c d g i j:Nat)(A B:Option Addr)(n m l q:Nat)(r s:List Vl)(p:Vl)(hc:MCap w a c d g i j A B n m l q)
 (v:qA w A n r)(x:qA w B m s)(hi:i<=n)(I:j<=m)(G:n<=1000)(F:m<=1000)(E:a≠c)
 (y:0<n->∀b o,A=some ⟨b,o,none⟩->b≠a/\b≠c)(z:0<m->∀b o,B=some ⟨b,o,none⟩->b≠a/\b≠c)(C:d≠a/\d≠c)(D:g≠a/\g≠c) :
 Calls Tryz.prog 274 #[.agg #[p.k,p.i,p.t],.pointer (some ⟨a,0,none⟩),.pointer (some ⟨d,0,none⟩),.pointer (some ⟨c,0,none⟩),.pointer (some ⟨g,0,none⟩)] w fun e w' =>
  rF w a c d g i j A B n m l q (dH (r.drop i) p) (dH (s.drop j) p) e w':=by
 rcases cJ i n with H|H
 . rcases cJ j m with u|u
   . exact aY2 w a c d g i j A B n m l q r s p hc v x H u G F E y z C D
   . exact aY3 w a c d g i j A B n m l q r s p hc v x H (by omega) G F E y z C D
 . rcases cJ j m with u|u
   . exact aY4 w a c d g i j A B n m l q r s p hc v x (by omega) u G F E y z C D
   . exact aY5 w a c d g i j A B n m l q r s p hc v x (by omega) (by omega) G F E y z C D
end Go.Proofs.YtnnmlhmffnfjfaaGreat
