/- Texts on which the walk stands. -/
import Derived.Test.YtnnmlhmffnfjfaaGreatC2
import Derived.Lib.ConvBytes
import Derived.Lib.SlBytesRow
open Go renaming wpQuiet_nil → aA, bodyPost_ret → aF
open Go.RowKit.Below renaming refl → aB, setCell → bC, alloc → cG
open Nat renaming le_refl → aD, le_trans → bI, add_zero → bX, zero_add → cA
open Go.World renaming cell?_setCell_other → aE
open List renaming mem_of_getElem? → aJ, mem_cons → aK, getElem?_cons_zero → aL, flatMap_append → aP, mem_cons_self → aQ, eq_nil_of_length_eq_zero → aR, mem_cons_of_mem → aS, drop_eq_nil_of_le → aU, length_cons → bL, mem_singleton → bU
set_option maxHeartbeats 4000000
set_option linter.unusedVariables false
set_option maxRecDepth 100000
namespace Go.Proofs.YtnnmlhmffnfjfaaGreat
section
open Go.RowKit
def fC (t:List UInt8):Nat→Nat
 |0=>0
 |n+1=>if t.getD n 0=255 then fC t n else n+1
def upT (t:ByteArray) (n:Nat):ByteArray:=⟨(t.data.toList.take (n-1)++[t.data.toList.getD (n-1) 0+1]).toArray⟩
def iG (t:ByteArray):Vl×Bool :=
 if t.size<64 then (⟨5,0,t++⟨#[0]⟩⟩,true)
 else if fC t.data.toList t.size=0 then (bE,false)else (⟨5,0,upT t (fC t.data.toList t.size)⟩,true)
theorem oG {t:ByteArray}{j:Nat}(a:j<t.size):t.data.toList.getD j 0=t[j]:=by
 have h:j<t.data.toList.length:=by simpa using a
 rw[List.getD_eq_getElem?_getD,List.getElem?_eq_getElem h];simp;rfl
theorem bH0 {t:ByteArray}{j:Nat}(a:j<t.size)(b:t[j]=255):fC t.data.toList (j+1)=fC t.data.toList j:=by
 show(if t.data.toList.getD j 0=255 then _ else _)=_;rw[oG a,if_pos b]
theorem bH1 {t:ByteArray}{j:Nat}(a:j<t.size)(b:¬t[j]=255):fC t.data.toList (j+1)=j+1:=by
 show(if t.data.toList.getD j 0=255 then _ else _)=_;rw[oG a,if_neg b]
theorem aL4 {t:ByteArray}{j:Nat}(a:j<t.size):(upT t (j+1)).size=j+1:=by
 show(List.toArray (t.data.toList.take (j+1-1)++[t.data.toList.getD (j+1-1) 0+1])).size=_;have h:t.data.size=t.size:=rfl;simp;omega
theorem up_get {t:ByteArray}{j i:Nat}(a:j<t.size)(hi:i<(upT t (j+1)).size):(upT t (j+1))[i]=if h:i<j then t[i]else t[j]+1:=by
 have c:i<j+1:=by rw[aL4 a]at hi;exact hi
 show(List.toArray (t.data.toList.take (j+1-1)++[t.data.toList.getD (j+1-1) 0+1]))[i]'_=_;have b:(t.data.toList.take j).length=j:=by have h:t.data.size=t.size:=rfl;simp;omega
 simp only[Nat.add_sub_cancel,oG a];rw[List.getElem_toArray];by_cases h:i<j
 . rw[List.getElem_append_left (by rw[b];exact h)];simp[h];rfl
 . rw[List.getElem_append_right (by rw[b];omega)];simp[h]
theorem bF7 (w:World)(t:ByteArray)(j:Nat)(g:j<t.size):∃(b:Nat) (a:World),
 (convert 9 22 (.string (t.extract 0 (j+1)))).run Tryz.prog w=.ok (.slice (some ⟨w,0,none⟩) (j+1) b) a /\
 (∀i (h:i<j+1),a.cell? ⟨w,i,none⟩=some (.int .u8 (t[i].toNat)))/\(∀i,i<j+1->a.frozen? ⟨w,i,none⟩=false)/\Below w w a/\a.heap.size=w.heap.size+1:=by
 have d:(t.extract 0 (j+1)).size=j+1:=by simp;omega
 refine⟨grownCap w (j+1) 0 5,Lib.bytesWorld w 5 (t.extract 0 (j+1)),?_,?_,?_,?_,?_⟩
 . have h:=Lib.run_convert_string_bytes (P:=Tryz.prog) w 9 22 5 (t.extract 0 (j+1)) Tryz.underlying9 Tryz.underlying22 Tryz.underlying5;rw[d]at h;exact h
 . intro i h;rw[Lib.bytesWorld_cell _ _ _ _ (by omega),oG (by omega)];have e:(t.extract 0 (j+1))[i]'(by omega)=t[i]:=(by rw[ByteArray.getElem_extract];simp);rw[e]
 . intro i h;have hc:j+1<=(Lib.bytesCells w 5 (t.extract 0 (j+1))).size:=(by simp[Lib.bytesCells,-ByteArray.size_extract];have:(t.extract 0 (j+1)).data.size=(t.extract 0 (j+1)).size:=rfl;omega);simp[World.frozen?,Lib.bytesWorld_at_new];omega
 . refine⟨?_,?_,?_,by rw[Lib.bytesWorld_size];omega,fun k c=>Lib.bytesWorld_at_old _ _ _ k c⟩
   . simp[Lib.bytesWorld,World.freeze,World.alloc,World.drew,-World.alloc_eq,-World.drew_eq]
   . simp[Lib.bytesWorld,World.freeze,World.alloc,World.drew,-World.alloc_eq,-World.drew_eq]
   . simp[Lib.bytesWorld,World.freeze,World.alloc,World.drew,-World.alloc_eq,-World.drew_eq]
 . exact Lib.bytesWorld_size _ _ _
theorem bF8 {W:World}{G:Nat}{t:ByteArray}{j:Nat}(a:j<t.size)(d:∀i (h:i<j+1),W.cell? ⟨G,i,none⟩=some (.int .u8 (t[i].toNat)))(g:(t[j].toNat:Int)<255)(b:Nat) :
 (convert 22 9 (.slice (some ⟨G,0,none⟩) (j+1) b)).run Tryz.prog (W.setCell ⟨G,j,none⟩ (.int .u8 ((t[j].toNat:Int)+1)))=.ok (.string (upT t (j+1))) (W.setCell ⟨G,j,none⟩ (.int .u8 ((t[j].toNat:Int)+1))):=by
 have h:=Lib.run_convert_whole (P:=Tryz.prog) (W.setCell ⟨G,j,none⟩ (.int .u8 ((t[j].toNat:Int)+1))) 22 5 9 Tryz.underlying22 Tryz.underlying5 Tryz.underlying9 G 0 (upT t (j+1)) ?_ b
 . rw[aL4 a]at h;exact h
 . intro i hi;have c:i<j+1:=(by rw[aL4 a]at hi;exact hi);rw[up_get a hi,cA];by_cases h:i<j
   . rw[aE _ _ _ _ (fun e=>by have:=congrArg Addr.off e;simp at this;omega),d i c];simp[h]
   . have e:i=j:=(by omega);subst e;have:=d i c;rw[World.cell?_setCell_same _ _ _ this];simp;omega
theorem aN3 (t:ByteArray)(w:World)(ht:t.size<=64):Calls Tryz.prog 260 #[t] w fun e w' =>
 e=.returned (.tuple #[.agg #[.int .i64 (iG t).1.k,.int .i64 (iG t).1.i,.string (iG t).1.t],.bool (iG t).2])/\Below w w w':=by
 generalize hf:iG t=r;have d:=Z hf;clear hf;by_cases hs:t.size<64
 . go_enter Tryz.func260,Tryz.ntmps260;go_wp2;refine aF (v:=.tuple #[.agg #[(5:Int),zO,.string (t++⟨#[0]⟩)],zT]) (by simp[results,Tryz.results260,go_sem]) rfl ⟨?_,?_⟩
   . rw[<- d.out];simp[iG,hs]
   . repeat(first|exact aB _ _|apply Below.drew|refine bC ?_ (by simp) _|refine cG ?_ (by simp) _)
 . have b:=aT.new w 59 zV;have o:=(aB w w).alloc (aD _) (.cells zV 59);go_enter Tryz.func260,Tryz.ntmps260;go_wp2;have p:=b.cell;have F:=b.free;generalize w.alloc (.cells zV 59)=W at *;go_loop [4] (fun i=>∃k:Nat,k<=t.size/\i=.int .i64 (k:Int)/\Hid (fC t.data.toList k=fC t.data.toList t.size)) (fun i=>(intOf i).toNat);case atStart=>exact⟨t.size,by omega,rfl,Z rfl⟩
   case round =>
    obtain⟨k,hk,rfl,n⟩:=hrel;rcases k with _|j
    . go_wp2;show bodyPost _ _ _ _ _ _;refine aF (v:=.tuple #[.agg zV,zF]) (by simp[results,Tryz.results260,go_sem,p]) rfl ⟨?_,?_⟩
      . rw[<- d.out];have:=n.out;have z:fC t.data.toList 0=0:=rfl;simp[iG,hs,<- this,z,bE]
      . repeat(first|exact o|apply Below.drew|refine bC ?_ (by simp) _|refine cG ?_ (by simp) _)
    . have hj:j<t.size:=(by omega);by_cases a:(t[j].toNat:Int)=255
      . have B:((t[j].toNat:Int) == 255)=true:=(by simp[a]);have g:Hid (fC t.data.toList j=fC t.data.toList t.size):=(by show _=_;rw[<- n.out];have hu:t[j]=255:=(by apply UInt8.toNat_inj.1;show t[j].toNat=255;omega);exact(bH0 hj hu).symm);clear a;go_wp2;go_round;case rel=>exact⟨j,by omega,by go_num,g⟩
        case measure=>simp[intOf]
      . have B:((t[j].toNat:Int) == 255)=false:=(by simp[a]);have g:Hid (fC t.data.toList t.size=j+1):=(by show _=_;rw[<- n.out];have hu:¬t[j]=255:=(by intro hu;apply a;rw[hu];rfl);exact bH1 hj hu);have hlt:(t[j].toNat:Int)<255:=(by have:=t[j].toNat_lt;omega);clear a;obtain⟨y,l,M,c,s,m,I⟩:=bF7 W t j hj;have E:=(b.below m).cell;have J:=(b.below m).free;have K:=c j (by omega);have L:=s j (by omega);have H:=Z c;have u:=b.lt;have N:=bF8 (W:=l) (G:=W.heap.size) hj c hlt y;have D:∀q,(l.setCell ⟨W,j,none⟩ (.int .u8 ((t[j].toNat:Int)+1))).cell? ⟨w,q,none⟩=(zV:Array Value)[q]?:=fun q=>(by rw[aE _ _ _ _ (fun e=>by have:=congrArg Addr.block e;simp at this;omega)];exact E q);have C:Below w w (l.setCell ⟨W,j,none⟩ (.int .u8 ((t[j].toNat:Int)+1))):=(o.trans (m.mono (Nat.le_of_lt u))).setCell (Nat.le_of_lt u) _;have x:Hid (upT t (j+1)=r.1.t/\r.1.k=5/\r.1.i=0/\r.2=true):=(by show _/\_;rw[<- d.out];simp[iG,hs,g.out]);clear c s p F;generalize W.heap.size=G at *
        set_option maxRecDepth 20000 in
        go_wp2_with fail;show bodyPost _ _ _ _ _ _;refine aF (v:=.tuple #[.agg #[(5:Int),zO,.string (upT t (j+1))],zT]) (by simp[results,Tryz.results260,go_sem,D]) rfl ⟨?_,?_⟩
        . obtain⟨e1,e2,e3,A⟩:=x.out;rw[e1,e2,e3,A]
        . repeat(first|exact C|apply Below.drew|refine bC ?_ (by simp) _|refine cG ?_ (by simp) _)
theorem hE {k i:Int}{t:ByteArray}(h:bT ⟨k,i,t⟩=true):k=1\/k=2\/k=3\/k=4\/k=5:=by
 unfold bT at h
 grind
theorem oU {i:Int}{t:ByteArray}(h:bT ⟨5,i,t⟩=true):t.size<=64:=by
 simp[bT]at h;exact h.2
def dF (v:Vl):Vl×Bool :=
 if bT v then
  if v.k=3∧v.i=0 then (⟨3,1,⟨#[]⟩⟩,true)
  else if v.k=4∧v.i<9223372036854775807 then (⟨4,wrap64 (v.i+1),⟨#[]⟩⟩,true)
  else if v.k=5 then iG v.t
  else eG (v.k+1)
 else (bE,false)
theorem wK {i:Int}{t:ByteArray}(b:bT ⟨4,i,t⟩=true)(a:¬i<9223372036854775807):dF ⟨4,i,t⟩=(⟨5,0,⟨#[]⟩⟩,true):=by
 unfold dF;rw[if_pos b,if_neg (by simp),if_neg (fun h=>a h.2),if_neg (by simp)];simp[eG]
theorem bW8 (v:Vl)(w:World):Calls Tryz.prog 219 #[.agg #[v.k,v.i,v.t]] w fun e w' =>
 e=.returned (.tuple #[.agg #[.int .i64 (dF v).1.k,.int .i64 (dF v).1.i,.string (dF v).1.t],.bool (dF v).2])/\Below w w w':=by
 generalize hf:dF v=r;have g:=Z hf;clear hf;obtain⟨k,i,t⟩:=v;dsimp only;have u:=aT.new w 59 #[k,i,t];have q:=(aB w w).alloc (aD _) (.cells #[k,i,t] 59);have n:=aT.new (w.alloc (.cells #[k,i,t] 59)) 59 zV;have x:=u.below ((aB _ _).alloc (aD _) (.cells zV 59));have s:=q.alloc (by simp) (.cells zV 59);have hsz:((w.alloc (.cells #[k,i,t] 59)).alloc (.cells zV 59)).heap.size=w.heap.size+2:=by simp
 have z:(w.alloc (.cells #[k,i,t] 59)).heap.size=w.heap.size+1:=by simp
 rw[z]at n;go_enter Tryz.func219,Tryz.ntmps219;go_wp2_with fail;generalize ((w.alloc (.cells #[k,i,t] 59)).alloc (.cells zV 59))=W at *;refine(jY ⟨k,i,t⟩ _).mono ?_;rintro e C ⟨rfl,hb1⟩;have x1:=(x.below hb1).cell;have a:=(n.below hb1);have o:=a.cell;have F:=a.free;have j:=cC1 s hb1;have E:w.heap.size+2<=C.heap.size:=hsz ▸ hb1.size;clear u q n x s hb1 hsz;cases hv:bT ⟨k,i,t⟩
 . have b:=Z hv;clear hv;go_wp2;show bodyPost _ _ _ _ _ _;refine aF (v:=.tuple #[.agg zV,zF]) (by simp[results,Tryz.results219,go_sem,o]) rfl ⟨?_,?_⟩
   . rw[<- g.out];simp[dF,b.out,bE]
   . repeat(first|exact j|apply Below.drew|refine bC ?_ (by simp) _|refine cG ?_ (by simp) _)
 . have hk:k=1\/k=2\/k=3\/k=4\/k=5:=hE hv;have b:=Z hv;clear hv;rcases hk with rfl|rfl|rfl|rfl|rfl
   . go_wp2_with fail;refine(lB 2 _).mono ?_;rintro e l ⟨rfl,hb2⟩;have e2:eG 2=(⟨2,0,⟨#[]⟩⟩,true):=(by decide);rw[e2];have d:=(a.below hb2).cell;have m:=(a.below hb2).free;have c:=cC1 j hb2;go_wp2;show bodyPost _ _ _ _ _ _;refine aF (v:=.tuple #[.agg #[(2:Int),zO,zS],zT]) (by simp[results,Tryz.results219,go_sem,d]) rfl ⟨?_,?_⟩
     . rw[<- g.out];simp[dF,b.out,eG]
     . repeat(first|exact c|apply Below.drew|refine bC ?_ (by simp) _|refine cG ?_ (by simp) _)
   . go_wp2_with fail;refine(lB 3 _).mono ?_;rintro e l ⟨rfl,hb2⟩;have e2:eG 3=(⟨3,0,⟨#[]⟩⟩,true):=(by decide);rw[e2];have d:=(a.below hb2).cell;have m:=(a.below hb2).free;have c:=cC1 j hb2;go_wp2;show bodyPost _ _ _ _ _ _;refine aF (v:=.tuple #[.agg #[(3:Int),zO,zS],zT]) (by simp[results,Tryz.results219,go_sem,d]) rfl ⟨?_,?_⟩
     . rw[<- g.out];simp[dF,b.out,eG]
     . repeat(first|exact c|apply Below.drew|refine bC ?_ (by simp) _|refine cG ?_ (by simp) _)
   . by_cases h0:i=0
     . subst h0;go_wp2;show bodyPost _ _ _ _ _ _;refine aF (v:=.tuple #[.agg #[(3:Int),(1:Int),zS],zT]) (by simp[results,Tryz.results219,go_sem,o]) rfl ⟨?_,?_⟩
       . rw[<- g.out];simp[dF,b.out]
       . repeat(first|exact j|apply Below.drew|refine bC ?_ (by simp) _|refine cG ?_ (by simp) _)
     . have D:(i == 0)=false:=(by simp[h0]);go_wp2_with fail;refine(lB 4 _).mono ?_;rintro e l ⟨rfl,hb2⟩;have e2:eG 4=(⟨4,(-9223372036854775808),⟨#[]⟩⟩,true):=(by decide);rw[e2];have d:=(a.below hb2).cell;have m:=(a.below hb2).free;have c:=cC1 j hb2;go_wp2;show bodyPost _ _ _ _ _ _;refine aF (v:=.tuple #[.agg #[(4:Int),.int .i64 (-9223372036854775808),zS],zT]) (by simp[results,Tryz.results219,go_sem,d]) rfl ⟨?_,?_⟩
       . rw[<- g.out];simp[dF,b.out,eG,gV,h0]
       . repeat(first|exact c|apply Below.drew|refine bC ?_ (by simp) _|refine cG ?_ (by simp) _)
   . by_cases hlt:i<9223372036854775807
     . go_wp2;show bodyPost _ _ _ _ _ _;refine aF (v:=.tuple #[.agg #[(4:Int),.int .i64 (wrap64 (i+1)),zS],zT]) (by simp[results,Tryz.results219,go_sem,o]) rfl ⟨?_,?_⟩
       . rw[<- g.out];simp[dF,b.out,hlt]
       . repeat(first|exact j|apply Below.drew|refine bC ?_ (by simp) _|refine cG ?_ (by simp) _)
     . have y:=Z hlt;go_wp2_with fail;refine(lB 5 _).mono ?_;rintro e l ⟨rfl,hb2⟩;have e2:eG 5=(⟨5,0,⟨#[]⟩⟩,true):=(by decide);rw[e2];have d:=(a.below hb2).cell;have m:=(a.below hb2).free;have c:=cC1 j hb2;go_wp2;show bodyPost _ _ _ _ _ _;refine aF (v:=.tuple #[.agg #[(5:Int),zO,zS],zT]) (by simp[results,Tryz.results219,go_sem,d]) rfl ⟨?_,?_⟩
       . rw[<- g.out];rw[wK b.out (by have:=y.out;omega)]
       . repeat(first|exact c|apply Below.drew|refine bC ?_ (by simp) _|refine cG ?_ (by simp) _)
   . have hs:t.size<=64:=oU b.out;obtain⟨⟨⟨nk,A,B⟩,nb⟩,p⟩:=zE (iG t);go_wp2_with fail;refine(aN3 t _ hs).mono ?_;rintro e l ⟨rfl,hb2⟩;rw[p.out];have d:=(a.below hb2).cell;have m:=(a.below hb2).free;have c:=cC1 j hb2;go_wp2;show bodyPost _ _ _ _ _ _;refine aF (v:=.tuple #[.agg #[nk,A,B],.bool nb]) (by simp[results,Tryz.results219,go_sem,d]) rfl ⟨?_,?_⟩
     . rw[<- g.out];simp[dF,b.out,p.out]
     . repeat(first|exact c|apply Below.drew|refine bC ?_ (by simp) _|refine cG ?_ (by simp) _)
theorem aN1 {S:Nat->Prop}{W:World}{G:Nat}{b:UInt8}(hc:W.cell? ⟨G,0,none⟩=some (.int .u8 (b.toNat:Int)))(a:¬S G)(x:LaterS S W) :
 (convert 22 9 (.slice (some ⟨G,0,none⟩) 1 1)).run Tryz.prog (dG S W x)=.ok (.string ⟨#[b]⟩) (dG S W x):=by
 have h:=Lib.run_convert_whole (P:=Tryz.prog) (dG S W x) 22 5 9 Tryz.underlying22 Tryz.underlying5 Tryz.underlying9 G 0 ⟨#[b]⟩ ?_ 1
 . exact h
 . intro i hi;have:i=0:=(by have:(⟨#[b]⟩:ByteArray).size=1:=rfl;omega);subst this;rw[hC x _ (by rw[hc];rfl) a,hc];rfl
theorem up_eq {t:ByteArray}{j:Nat}(a:j<t.size):t.extract 0 j++⟨#[t[j]+1]⟩=upT t (j+1):=by
 apply ByteArray.ext;apply Array.toList_inj.1;show _=t.data.toList.take (j+1-1)++[t.data.toList.getD (j+1-1) 0+1];rw[Nat.add_sub_cancel,oG a];simp
theorem bN9 (v:Vl)(w:World):Calls Tryz.prog 263 #[.agg #[v.k,v.i,v.t]] w fun e w' =>
 e=.returned (.tuple #[.agg #[.int .i64 (dF v).1.k,.int .i64 (dF v).1.i,.string (dF v).1.t],.bool (dF v).2])/\Below w w w':=by
 generalize hf:dF v=r;have d:=Z hf;clear hf;obtain⟨k,i,t⟩:=v;dsimp only;have A:=aT.new w 59 #[k,i,t];have y:=(aB w w).alloc (aD _) (.cells #[k,i,t] 59);have q:=aT.new (w.alloc (.cells #[k,i,t] 59)) 59 zV;have B:=A.below ((aB _ _).alloc (aD _) (.cells zV 59));have z:=y.alloc (by simp) (.cells zV 59);have hsz:((w.alloc (.cells #[k,i,t] 59)).alloc (.cells zV 59)).heap.size=w.heap.size+2:=by simp
 have K:(w.alloc (.cells #[k,i,t] 59)).heap.size=w.heap.size+1:=by simp
 rw[K]at q;go_enter Tryz.func263,Tryz.ntmps263;go_wp2_with fail;generalize ((w.alloc (.cells #[k,i,t] 59)).alloc (.cells zV 59))=W at *;refine(kV ⟨k,i,t⟩ _).mono ?_;rintro e c ⟨rfl,hb1⟩;have x1:=(B.below hb1).cell;have u:=(q.below hb1);have l:=u.cell;have Q:=u.free;have g:=cC1 z hb1;have O:w.heap.size+2<=c.heap.size:=hsz ▸ hb1.size;clear A y q B z hb1 hsz;cases hv:bT ⟨k,i,t⟩
 . have a:=Z hv;clear hv;go_wp2;show bodyPost _ _ _ _ _ _;refine aF (v:=.tuple #[.agg zV,zF]) (by simp[results,Tryz.results263,go_sem,l]) rfl ⟨?_,?_⟩
   . rw[<- d.out];simp[dF,a.out,bE]
   . repeat(first|exact g|apply Below.drew|refine bC ?_ (by simp) _|refine cG ?_ (by simp) _)
 . have hk:k=1\/k=2\/k=3\/k=4\/k=5:=hE hv;have a:=Z hv;clear hv;rcases hk with rfl|rfl|rfl|rfl|rfl
   . go_wp2;show bodyPost _ _ _ _ _ _;refine aF (v:=.tuple #[.agg #[(2:Int),zO,zS],zT]) (by simp[results,Tryz.results263,go_sem,l]) rfl ⟨?_,?_⟩
     . rw[<- d.out];simp[dF,a.out,eG]
     . repeat(first|exact g|apply Below.drew|refine bC ?_ (by simp) _|refine cG ?_ (by simp) _)
   . go_wp2;show bodyPost _ _ _ _ _ _;refine aF (v:=.tuple #[.agg #[(3:Int),zO,zS],zT]) (by simp[results,Tryz.results263,go_sem,l]) rfl ⟨?_,?_⟩
     . rw[<- d.out];simp[dF,a.out,eG]
     . repeat(first|exact g|apply Below.drew|refine bC ?_ (by simp) _|refine cG ?_ (by simp) _)
   . by_cases h0:i=0
     . subst h0;go_wp2;show bodyPost _ _ _ _ _ _;refine aF (v:=.tuple #[.agg #[(3:Int),(1:Int),zS],zT]) (by simp[results,Tryz.results263,go_sem,l]) rfl ⟨?_,?_⟩
       . rw[<- d.out];simp[dF,a.out]
       . repeat(first|exact g|apply Below.drew|refine bC ?_ (by simp) _|refine cG ?_ (by simp) _)
     . have N:(i == 0)=false:=(by simp[h0]);go_wp2;show bodyPost _ _ _ _ _ _;refine aF (v:=.tuple #[.agg #[(4:Int),.int .i64 (-9223372036854775808),zS],zT]) (by simp[results,Tryz.results263,go_sem,l]) rfl ⟨?_,?_⟩
       . rw[<- d.out];simp[dF,a.out,eG,gV,h0]
       . repeat(first|exact g|apply Below.drew|refine bC ?_ (by simp) _|refine cG ?_ (by simp) _)
   . by_cases hlt:i<9223372036854775807
     . go_wp2;show bodyPost _ _ _ _ _ _;refine aF (v:=.tuple #[.agg #[(4:Int),.int .i64 (wrap64 (i+1)),zS],zT]) (by simp[results,Tryz.results263,go_sem,l]) rfl ⟨?_,?_⟩
       . rw[<- d.out];simp[dF,a.out,hlt]
       . repeat(first|exact g|apply Below.drew|refine bC ?_ (by simp) _|refine cG ?_ (by simp) _)
     . have C:=Z hlt;go_wp2;show bodyPost _ _ _ _ _ _;refine aF (v:=.tuple #[.agg #[(5:Int),zO,zS],zT]) (by simp[results,Tryz.results263,go_sem,l]) rfl ⟨?_,?_⟩
       . rw[<- d.out];rw[wK a.out (by have:=C.out;omega)]
       . repeat(first|exact g|apply Below.drew|refine bC ?_ (by simp) _|refine cG ?_ (by simp) _)
   . have ht:t.size<=64:=oU a.out;by_cases hs:t.size<64
     . have n:=Z hs;go_wp2;show bodyPost _ _ _ _ _ _;refine aF (v:=.tuple #[.agg #[(5:Int),zO,.string (t++⟨#[0]⟩)],zT]) (by simp[results,Tryz.results263,go_sem,l]) rfl ⟨?_,?_⟩
       . rw[<- d.out];simp[dF,a.out,iG,n.out]
       . repeat(first|exact g|apply Below.drew|refine bC ?_ (by simp) _|refine cG ?_ (by simp) _)
     . have n:=Z hs;go_wp2;go_loop [4] (fun i=>∃k:Nat,k<=t.size/\i=.int .i64 (k:Int)/\Hid (fC t.data.toList k=fC t.data.toList t.size)) (fun i=>(intOf i).toNat);case atStart=>exact⟨t.size,by omega,rfl,Z rfl⟩
       case round =>
        obtain⟨k,hk,rfl,s⟩:=hrel;rcases k with _|j
        . go_wp2;show bodyPost _ _ _ _ _ _;refine aF (v:=.tuple #[.agg zV,zF]) (by simp[results,Tryz.results263,go_sem,l]) rfl ⟨?_,?_⟩
          . rw[<- d.out];have:=s.out;have E:fC t.data.toList 0=0:=rfl;simp[dF,a.out,iG,n.out,<- this,E,bE]
          . repeat(first|exact g|apply Below.drew|refine bC ?_ (by simp) _|refine cG ?_ (by simp) _)
        . have hj:j<t.size:=(by omega);by_cases m:(t[j].toNat:Int)=255
          . have F:((t[j].toNat:Int) == 255)=true:=(by simp[m]);have o:Hid (fC t.data.toList j=fC t.data.toList t.size):=(by show _=_;rw[<- s.out];have hu:t[j]=255:=(by apply UInt8.toNat_inj.1;show t[j].toNat=255;omega);exact(bH0 hj hu).symm);clear m;go_wp2;go_round;case rel=>exact⟨j,by omega,by go_num,o⟩
            case measure=>simp[intOf]
          . have F:((t[j].toNat:Int) == 255)=false:=(by simp[m]);have o:Hid (fC t.data.toList t.size=j+1):=(by show _=_;rw[<- s.out];have hu:¬t[j]=255:=(by intro hu;apply m;rw[hu];rfl);exact bH1 hj hu);have hlt:(t[j].toNat:Int)<255:=(by have:=t[j].toNat_lt;omega);clear m;have I:((t[j]+1).toNat:Int)=(t[j].toNat:Int)+1:=(by rw[UInt8.toNat_add];simp;omega);have P:=fun(x:LaterS (fun k=>k=w.heap.size+1) ((c.alloc (.cells #[.int .u8 ((t[j].toNat:Int)+1)] 5)).drew))=>aN1 (S:=fun k=>k=w.heap.size+1) (W:=(c.alloc (.cells #[.int .u8 ((t[j].toNat:Int)+1)] 5)).drew) (G:=c.heap.size) (b:=t[j]+1) (by rw[I];exact(aT.new c 5 #[.int .u8 ((t[j].toNat:Int)+1)]).cell 0) (by show ¬c.heap.size=w.heap.size+1;omega) x;have D:Hid (t.extract 0 j++⟨#[t[j]+1]⟩=upT t (j+1)):=up_eq hj;have z3:aT ((c.alloc (.cells #[.int .u8 ((t[j].toNat:Int)+1)] 5)).drew) (w.heap.size+1) 59 zV:=u.below (((aB _ _).alloc (aD _) _).drew);have L:=z3.cell;have R:=z3.free
            set_option maxRecDepth 20000 in
            go_wp2_with fail;have J:=@hC (fun k=>k=w.heap.size+1) c.drew;refine gJ (fun k=>k=w.heap.size+1) [([0,1,2,3,4,5,6,7,8,9,10],11),([12,13,14],15)] [16] ?_;simp only[bS,cP];unfold dI
            set_option maxRecDepth 20000 in
            repeat(go_big_quiet_step (fail))
            refine aA ?_;clear J;go_wp2_with fail;have H:Below w w (c.alloc (.cells #[.int .u8 ((t[j].toNat:Int)+1)] 5)).drew:=(g.alloc (by omega) _).drew;refine⟨But.of_below (((aB _ c.drew).alloc (aD _) _)),?_⟩;generalize (c.alloc (.cells #[.int .u8 ((t[j].toNat:Int)+1)] 5)).drew=M at *;unfold dI;repeat(go_big_quiet_step (fail))
            refine aA ?_;go_wp2_with fail;refine⟨((But.set (S:=fun k=>k=w.heap.size+1) _ (p:=⟨w.heap.size+1,0,none⟩) rfl _).trans (But.set (S:=fun k=>k=w.heap.size+1) _ (p:=⟨w.heap.size+1,1,none⟩) rfl _)).trans (But.set (S:=fun k=>k=w.heap.size+1) _ (p:=⟨w.heap.size+1,2,none⟩) rfl _),?_⟩;unfold dI;repeat(go_big_quiet_step (fail))
            refine aA ?_;go_wp2_with fail;show bodyPost _ _ _ _ _ _;refine aF (v:=.tuple #[.agg #[(5:Int),zO,.string (t.extract 0 j++⟨#[t[j]+1]⟩)],zT]) (by simp[results,Tryz.results263,go_sem,L]) rfl ⟨?_,?_⟩
            . rw[<- d.out,D.out];simp[dF,a.out,iG,n.out,o.out]
            . repeat(first|exact H|apply Below.drew|refine bC ?_ (by simp) _|refine cG ?_ (by simp) _)
def gL (v:Vl):Bool:=bT v&&decide (3≤v.k)
theorem zU (v:Vl)(w:World):Calls Tryz.prog 91 #[.agg #[v.k,v.i,v.t]] w fun e w'=>e=.returned (.bool (gL v))/\Below w w w':=by
 obtain⟨k,i,t⟩:=v;obtain⟨r,a⟩:=zE (gL ⟨k,i,t⟩);rw[a.out];go_enter Tryz.func91,Tryz.ntmps91;go_wp2_with fail;refine(jY ⟨k,i,t⟩ _).mono ?_;rintro e n ⟨rfl,hb1⟩;have o:=((aT.new w 59 #[k,i,t]).below hb1).cell;have c:Below w w n:=cC1 ((aB _ _).alloc (aD _) _) hb1;obtain⟨q,b⟩:=zE (bT ⟨k,i,t⟩);rw[b.out];cases q
 . go_wp2;go_ret;exact⟨bR (by rw[<- a.out];simp[gL,b.out]),c⟩
 . have hk:=hE b.out;have j:=Z hk;clear hk;by_cases h1:k=1
   . have l:(k != 1)=false:=(by simp[h1]);have d:=Z h1;clear h1;go_wp2;go_ret;exact⟨bR (by rw[<- a.out];simp[gL,d.out]),c⟩
   . have l:(k != 1)=true:=(by simp[h1]);have d:=Z h1;clear h1;by_cases h2:k=2
     . have m:(k != 2)=false:=(by simp[h2]);have g:=Z h2;clear h2;go_wp2;go_ret;exact⟨bR (by rw[<- a.out];simp[gL,g.out]),c⟩
     . have m:(k != 2)=true:=(by simp[h2]);have g:=Z h2;clear h2;go_wp2;go_ret;exact⟨bR (by
        rw[<- a.out];have h3:3<=k:=(by have:=j.out;have:=d.out;have:=g.out;omega);simp[gL,b.out,h3]),c⟩
theorem wG (v:Vl)(w:World):Calls Tryz.prog 205 #[.agg #[v.k,v.i,v.t]] w fun e w'=>e=.returned (.bool (gL v))/\Below w w w':=by
 obtain⟨k,i,t⟩:=v;obtain⟨r,b⟩:=zE (gL ⟨k,i,t⟩);rw[b.out];go_enter Tryz.func205,Tryz.ntmps205;go_wp2_with fail;refine(kV ⟨k,i,t⟩ _).mono ?_;rintro e d ⟨rfl,hb1⟩;have g:=((aT.new w 59 #[k,i,t]).below hb1).cell;have c:Below w w d:=cC1 ((aB _ _).alloc (aD _) _) hb1;obtain⟨q,a⟩:=zE (bT ⟨k,i,t⟩);rw[a.out];cases q
 . go_wp2;go_ret;exact⟨bR (by rw[<- b.out];simp[gL,a.out]),c⟩
 . by_cases h1:3<=k
   . go_wp2;go_ret;exact⟨bR (by rw[<- b.out];simp[gL,a.out,h1]),c⟩
   . go_wp2;go_ret;exact⟨bR (by rw[<- b.out];simp[gL,a.out]),c⟩
end
section
open Go.RowKit
set_option maxRecDepth 100000
open Pd
def wC:Od:=⟨0,0,bE⟩
def iC (l:List Int):Bool:=l.all fun k=>decide (3≤k∧k≤5)
def dJ (cols ps:List Int) (o:Od):Int :=
 if o.k=3 then (if o.ix=0∧gL o.v=true then o.v.k else 0)
 else if o.k=1 then (if 0≤o.ix∧o.ix<(cols.length:Int)∧o.v=bE then cols.getD o.ix.toNat 0 else 0)
 else if o.k=2 then (if 0≤o.ix∧o.ix<(ps.length:Int)∧o.v=bE then ps.getD o.ix.toNat 0 else 0)
 else 0
def iJ (h:Nd):Bool:=decide (h.cm=0∧h.l=wC∧h.r=wC)
def fK (cols ps:List Int) (h:Nd) (n:Nat):Bool :=
 if h.op=3 then decide (n=0∧(1≤h.cm∧h.cm≤6)∧dJ cols ps h.l≠0∧dJ cols ps h.l=dJ cols ps h.r)
 else if h.op=1∨h.op=2 then decide (n=0)&&iJ h
 else if h.op=6 then decide (n=1)&&iJ h
 else if h.op=4∨h.op=5 then iJ h
 else false
def fH (cols ps:List Int):Pd→Bool
 |.nil _=>true
 |.cons a t=>(fK cols ps a.h a.len&&fH cols ps a)&&fH cols ps t
def dB (cols ps:List Int) (p:Pd):Bool:=fK cols ps p.h p.len&&fH cols ps p
theorem oV {cols ps:List Int}:∀ {p:Pd},fH cols ps p=true↔∀q∈p.args,dB cols ps q=true
 |.nil _=>by simp[fH,args]
 |
  .cons a t=>by
  rw[fH,Bool.and_eq_true,oV (p:=t)];simp[args,dB]
namespace Pd
def depth:Pd→Nat
 |nil _=>1
 |cons a t=>max (a.depth+1) t.depth
theorem wS:∀p:Pd,1<=p.depth
 |nil _=>aD _
 |cons a t=>by have:=wS t;simp only[depth];omega
end Pd
def hK (cols ps:List Int) (p:Pd):Int:=if (iC cols&&iC ps)=true then (if p.nodes≤24∧p.depth≤8 then (if dB cols ps p=true then 0 else 50)else 2)else 1
def smA:Nat→Int→Pd→Option Int
 |_,b,.nil _=>some b
 |
  l,b,.cons a t=>match (if b-1<0∨8<l then none else smA (l+1) (b-1) a)with
  |none=>none
  |some b'=>smA l b' t
def smB (l:Nat) (b:Int) (p:Pd):Option Int:=if b-1<0∨8<l then none else smA (l+1) (b-1) p
theorem aL6:∀(p:Pd) (l:Nat) (b:Int),l<=9->0<=b->smA l b p=if (p.nodes:Int)-1<=b/\p.depth+l<=10 then some (b-((p.nodes:Int)-1))else none
 |
  .nil h,l,b,hl,hb=>by
  have d:(Pd.nil h).nodes=1:=rfl;have c:(Pd.nil h).depth=1:=rfl;rw[d,c,if_pos (by omega)];simp[smA]
 |
  .cons a t,l,b,hl,hb=>by
  have j:=eA a;have m:=eA t;have k:=wS a;have d:(Pd.cons a t).nodes=a.nodes+t.nodes:=rfl;have c:(Pd.cons a t).depth=max (a.depth+1) t.depth:=rfl;rw[d,c];unfold smA;by_cases e:b-1<0\/8<l
  . rw[if_pos e,if_neg (by omega)]
  . rw[if_neg e,aL6 a (l+1) (b-1) (by omega) (by omega)];by_cases g:(a.nodes:Int)-1<=b-1/\a.depth+(l+1)<=10
    . rw[if_pos g];show smA l _ t=_;rw[aL6 t l _ hl (by omega)];by_cases i:(t.nodes:Int)-1<=b-1-((a.nodes:Int)-1)/\t.depth+l<=10
      . rw[if_pos i,if_pos (by omega)];congr 1;omega
      . rw[if_neg i,if_neg (by omega)]
    . rw[if_neg g];show none=_;rw[if_neg (by omega)]
theorem smB_eq (p:Pd):(smB 1 24 p).isSome=decide (p.nodes<=24/\p.depth<=8):=by
 have:=eA p;unfold smB;rw[if_neg (by omega),aL6 p (1+1) (24-1) (by omega) (by omega)];by_cases h:p.nodes<=24/\p.depth<=8
 . rw[if_pos (by omega),decide_eq_true h];rfl
 . rw[if_neg (by omega),decide_eq_false h];rfl
def oQ (row ps:List Vl) (o:Od):Vl :=
 if o.k=3 then o.v
 else if o.k=1 then (if 0≤o.ix∧o.ix<(row.length:Int)then row.getD o.ix.toNat bE else bE)
 else if o.k=2 then (if 0≤o.ix∧o.ix<(ps.length:Int)then ps.getD o.ix.toNat bE else bE)
 else bE
def hA (cm:Int) (c:Int):Bool:=if cm=1 then decide (c=0)else if cm=2 then decide (c≠0)else if cm=3 then decide (c<0)else if cm=4 then decide (c≤0)else if cm=5 then decide (0<c)else if cm=6 then decide (0≤c)else false
def gT (cm:Int) (a b:Vl):Bool:=gL a&&gL b&&decide (a.k=b.k)&&hA cm (bZ a b)
def mK (row ps:List Vl) (h:Nd) (x:Bool×Bool×Bool):Bool :=
 if h.op=1 then true else if h.op=3 then gT h.cm (oQ row ps h.l) (oQ row ps h.r)else if h.op=4 then x.1 else if h.op=5 then x.2.1 else if h.op=6 then x.2.2 else false
def dZ (row ps:List Vl):Pd→Bool×Bool×Bool
 |.nil _=>(true,false,false)
 |.cons a t=>(mK row ps a.h (dZ row ps a)&&(dZ row ps t).1,mK row ps a.h (dZ row ps a) || (dZ row ps t).2.1,!mK row ps a.h (dZ row ps a))
def dV (row ps:List Vl) (p:Pd):Bool:=mK row ps p.h (dZ row ps p)
theorem bD8 (b ps:List Vl):∀p:Pd,(dZ b ps p).2.2=match p.args with|[]=>false|a::_ => !dV b ps a
 |.nil _=>rfl
 |.cons a t=>rfl
end
section
open Go.RowKit
def gQ:List Vl→List Vl→Int
 |[],[]=>0
 |[],_::_ => -1
 |_::_,[]=>1
 |x::xs,y::ys=>if bZ x y≠0 then bZ x y else gQ xs ys
theorem sU (A B:Option Addr)(n m ca cb:Nat)(a b:List Vl)(w:World)(o:qA w A n a)(p:qA w B m b)(hn:n<=9223372036854775807)(hm:m<=9223372036854775807) :
 Calls Tryz.prog 58 #[.slice A n ca,.slice B m cb] w fun e w'=>e=.returned (.int .i64 (gQ a b))/\Below w w w':=by
 have F:=Z o;have HB:=Z p;have I:=Z o.len;have J:=Z p.len;clear o p;generalize hr:gQ a b=r;have G:Hid (gQ (a.drop 0) (b.drop 0)=r):=by show _=_;simpa using hr
 clear hr;go_enter Tryz.func58,Tryz.ntmps58;go_wp2;go_loopw [5] (fun i wr=>∃k:Nat,k<=n/\k<=m/\i=.int .i64 (k:Int)/\Hid (gQ (a.drop k) (b.drop k)=r)/\Below w w wr) (fun i _=>n-(intOf i).toNat);case atStart=>exact⟨0,by omega,by omega,rfl,G,aB _ _⟩
 case round =>
  obtain⟨k,hk,a0,rfl,d,hb⟩:=hrel;by_cases hlt:k<n/\k<m
  . obtain⟨z,C⟩:=hlt;have j:decide (k<n)=true:=(by simp[z]);have O:decide (k<m)=true:=(by simp[C]);obtain⟨b1,o1,x,rfl,hx,D⟩:=(F.out.keep (aC hb)).at z;obtain⟨b2,o2,y,rfl,hy,E⟩:=(HB.out.keep (aC hb)).at C;have t:Hid (r=if bZ x y≠0 then bZ x y else gQ (a.drop (k+1)) (b.drop (k+1))):=(by show _=_;rw[<- d.out,eL hx,eL hy];rfl);obtain⟨U,T,V⟩:=x;obtain⟨X,W,Y⟩:=y;obtain⟨K,c1,c2⟩:=VlAt.of D;obtain⟨L,M,N⟩:=VlAt.of E;dsimp only at K c1 c2 L M N;clear hx hy D E;obtain⟨v,g⟩:=zE (bZ ⟨U,T,V⟩ ⟨X,W,Y⟩);go_wp2;have Q:=@bK wr.drew;refine aZ [([0,1,2,3,4,5,6,7],8)] [9] ?_;simp only[bS,cP];unfold bA;repeat(go_big_quiet_step (fail))
    refine aA ?_;clear Q;go_wp2_with (first|(go_at_call 112;refine(eN ⟨_,_,_⟩ ⟨_,_,_⟩ _).mono ?_;rintro e w1 ⟨rfl,hb1⟩;rw[g.out]));refine⟨hb1,?_⟩;have u:=cC1 hb.drew hb1;unfold bA;repeat(go_big_quiet_step (fail))
    refine aA ?_;by_cases hv:v=0
    . have P:(v != 0)=false:=(by simp[hv]);have H:=Z hv;clear hv;go_wp2;go_roundw;case rel=>exact⟨k+1,by omega,by omega,by go_num,(by show _=_;have:=t.out;rw[g.out,if_neg (by simp[H.out])]at this;exact this.symm),u⟩
      case measure=>simp[intOf];omega
    . have P:(v != 0)=true:=(by simp[hv]);go_wp2;go_ret;exact⟨hN (by rw[t.out,g.out,if_pos hv]),u⟩
  . have R:(k=n/\k=m)\/(k=n/\k<m)\/(k<n/\k=m):=(by omega);have q:=I.out;have s:=J.out;rcases R with⟨h1,h2⟩|⟨h1,h2⟩|⟨h1,h2⟩
    . have j:decide (k<n)=false:=(by simp;omega);have c:Hid (r=0):=(by show _=_;rw[<- d.out,aU (by omega),aU (by omega)];rfl);obtain rfl:n=m:=(by omega);have H1:=Z h1;clear h1 h2 q s hlt;go_wp2;go_ret;exact⟨hN c.out.symm,hb⟩
    . have j:decide (k<n)=false:=(by simp;omega);have c:Hid (r = -1):=(by show _=_;have e1:a.drop k=[]:=aU (by omega);rw[<- d.out,e1,List.drop_eq_getElem_cons (l:=b) (i:=k) (by omega)];rfl);have S:n<m:=(by omega);clear h1 h2 q s hlt;go_wp2;go_ret;exact⟨hN c.out.symm,hb⟩
    . have j:decide (k<n)=true:=(by simp;omega);have O:decide (k<m)=false:=(by simp;omega);have c:Hid (r=1):=(by show _=_;have e1:b.drop k=[]:=aU (by omega);rw[<- d.out,e1,List.drop_eq_getElem_cons (l:=a) (i:=k) (by omega)];rfl);have S:m<n:=(by omega);clear h1 h2 q s hlt;go_wp2;go_ret;exact⟨hN c.out.symm,hb⟩
abbrev Hd:=Option Addr×Nat×Nat
abbrev eY:=Hd×List Vl
def iF (p:eY):List Value:=[.slice p.1.1 p.1.2.1 p.1.2.2]
structure RowOk (w:World) (p:eY):Prop where
 rd:qA w p.1.1 p.1.2.1 p.2
 nl:p.1.1=none→p.1.2.1=0∧p.1.2.2=0
 le:p.1.2.1≤p.1.2.2
 mx:p.1.2.2≤9223372036854775807
theorem RowOk.keep {w a:World}{p:eY}(h:RowOk w p)(b:dW w a):RowOk a p:=⟨h.rd.keep b,h.nl,h.le,h.mx⟩
structure RowsS (w:World) (A:Option Addr) (n:Nat) (ps:List eY):Prop where
 sl:Sl 1 iF w A n ps
 ok:∀ p∈ps,RowOk w p
theorem RowsS.keep {w b:World}{A:Option Addr}{n:Nat}{ps:List eY}(h:RowsS w A n ps)(a:dW w b):RowsS b A n ps:=⟨h.sl.keep a,fun p c=>(h.ok p c).keep a⟩
theorem rN {w:World}{base:Nat}{e:TypeId}{size n:Nat}{A:Option Addr}{c:Nat}{j:List Value}(h:w.ownsRow base e size (.slice A n c) n j):(A=none->n=0/\c=0)/\(∀a,A=some a->a.spot=none)/\n<=c:=by
 rcases h.2 with⟨b,d⟩|⟨g,k,l,b,_,_,i,_⟩
 . injection b with h1 h2 h3;subst h1 h3;exact⟨fun _=>⟨d,rfl⟩,fun a h=>(by cases h),by omega⟩
 . injection b with h1 h2 h3;subst h1 h3;exact⟨fun h=>(by cases h),fun a h=>(by injection h with h;rw[<- h]),i⟩
theorem aY1 (p:eY)(w:World)(hp:RowOk w p)(hn:p.1.2.1<=4398046511104) :
 Calls Tryz.prog 53 #[.slice p.1.1 p.1.2.1 p.1.2.2] w fun e w'=>∃(A':Option Addr) (c':Nat),e=.returned (.slice A' p.1.2.1 c')/\w'.ownsRow w 59 3 (.slice A' p.1.2.1 c') p.1.2.1 (p.2.flatMap Vl.cs)/\Below w w w':=by
 obtain⟨⟨A,n,c⟩,r⟩:=p;obtain⟨k,hi,g,i,j⟩:=info_parts aN7;have a:=Z hp;clear hp;dsimp only at hn ⊢;go_enter Tryz.func53,Tryz.ntmps53;go_wp2_with (at_builtin;refine gG (cs:=Vl.cs) w (by rfl) _ (.tmp 3) _ (by rfl) w 59 k _ 3 32 Tryz.underlying53 hi g i j (by rfl) (by omega) zN 0 [] (by rfl) ⟨by simp,.inl ⟨rfl,rfl⟩⟩ A n c r (by rfl) a.out.rd a.out.nl Vl.cs_len aM9 (by simp only[maxLen];omega) (by omega) (aD _) ?_;intro A1 c1 q b m d l o;simp only[cA,List.nil_append]at b);go_ret;exact⟨A1,c1,rfl,b,d⟩
def fS:List eY→List eY→List eY
 |[],b=>b
 |x::a,[]=>x::a
 |x::a,y::b=>if gQ x.2 y.2≤0 then x::fS a (y::b)else y::fS (x::a) b
termination_by a b=>a.length+b.length
theorem bD1 (a:List eY):fS a []=a:=by cases a<;>simp[fS]
theorem iU (x:eY)(a:List eY)(y:eY)(b:List eY):fS (x::a) (y::b)=if gQ x.2 y.2<=0 then x::fS a (y::b)else y::fS (x::a) b:=by rw[fS]
theorem tP:∀(a b:List eY) (p:eY),p∈fS a b↔p∈a\/p∈b
 |[],b,p=>by simp[fS]
 |x::a,[],p=>by simp[fS]
 |
  x::a,y::b,p=>by
  rw[iU];split
  . rw[aK,tP a (y::b) p];simp only[aK];grind
  . rw[aK,tP (x::a) b p];simp only[aK];grind
termination_by a b=>a.length+b.length
theorem tR:∀(a b:List eY),(fS a b).length=a.length+b.length
 |[],b=>by simp[fS]
 |x::a,[]=>by simp[fS]
 |
  x::a,y::b=>by
  rw[iU];split
  . rw[bL,tR a (y::b)];simp;omega
  . rw[bL,tR (x::a) b];simp;omega
termination_by a b=>a.length+b.length
def hL (ps:List eY):List eY :=
 if h:ps.length<2 then ps else fS (hL (ps.take (ps.length / 2))) (hL (ps.drop (ps.length / 2)))
termination_by ps.length
decreasing_by
 . simp;omega
 . simp;omega
theorem nE {ps:List eY}(h:ps.length<2):hL ps=ps:=by rw[hL];simp[h]
theorem oY {ps:List eY}(h:2<=ps.length):hL ps=fS (hL (ps.take (ps.length / 2))) (hL (ps.drop (ps.length / 2))):=by
 rw[hL,dif_neg (by omega)]
theorem wE (ps:List eY):(hL ps).length=ps.length:=by
 induction h:ps.length using Nat.strongRecOn generalizing ps with
 |
  _ n ih =>
  subst h;by_cases a:ps.length<2
  . rw[nE a]
  . rw[oY (by omega),tR,ih _ (by simp;omega) (ps.take (ps.length / 2)) rfl,ih _ (by simp;omega) (ps.drop (ps.length / 2)) rfl];simp;omega
theorem rJ (ps:List eY)(p:eY):p∈hL ps↔p∈ps:=by
 induction h:ps.length using Nat.strongRecOn generalizing ps with
 |
  _ n ih =>
  subst h;by_cases a:ps.length<2
  . rw[nE a]
  . rw[oY (by omega),tP,ih _ (by simp;omega) (ps.take (ps.length / 2)) rfl,ih _ (by simp;omega) (ps.drop (ps.length / 2)) rfl];rw[<- List.mem_append,List.take_append_drop]
theorem Sl.drop {α:Type}{sz:Nat}{cs:α->List Value}{w:World}{b o n:Nat}{l:List α}(h:Sl sz cs w (some ⟨b,o,none⟩) n l)(k:Nat)(g:k<=n):Sl sz cs w (some ⟨b,o+k*sz,none⟩) (n-k) (l.drop k):=by
 have m:=h.1;refine⟨by simp;omega,fun d=>?_⟩;obtain⟨b',p,e,hc⟩:=h.2 (by omega);injection e with e;injection e with e1 e2;subst e1 e2;refine⟨b,o+k*sz,rfl,fun i x a j u c=>?_⟩;rw[List.getElem?_drop]at a;have:=hc (k+i) x a j u c;rw[<- this,Nat.add_mul];congr 2;omega
theorem vB:(Tryz.prog.info? 53).map (fun i=>(i.zero,i.size,i.bytes))=some (some (.slice none 0 0),1,24):=by kernel_rfl
theorem kL (p:eY):∀u∈iF p,u.oneCell'=true:=by simp[iF,Value.oneCell']
def bA0 (w:World) (n:Nat) (R:List eY) (e:Ending) (w':World):Prop :=
 ∃(A':Option Addr) (c':Nat),e=.returned (.slice A' n c')∧w'.ownsRow w.heap.size 53 1 (.slice A' n c') n (R.flatMap iF)∧Below w.heap.size w w'
theorem uH (A:Option Addr)(n c:Nat)(ps:List eY)(w:World)(hs:RowsS w A n ps)(a:A=none->n=0/\c=0)(d:∀ad,A=some ad->ad.spot=none)(u:n<=c)(r:c<=9223372036854775807)(h2:n<2) :
 Calls Tryz.prog 276 #[.slice A n c] w fun e w'=>bA0 w n (hL ps) e w':=by
 obtain⟨p,hi,l,m,o⟩:=info_parts vB;have j:=Z hs;have g:=Z a;have i:=Z d;have hr:hL ps=ps:=nE (by have:=hs.sl.len;omega);clear hs a d;rw[hr];go_enter Tryz.func276,Tryz.ntmps276;go_wp2_with (at_builtin;refine fG (cs:=iF) w (by rfl) _ (.tmp 9) _ (by rfl) w 53 p _ 1 24 Tryz.underlying100 hi l m o (by rfl) (by omega) zN 0 [] (by rfl) ⟨by simp,.inl ⟨rfl,rfl⟩⟩ A n c ps (by rfl) j.out.sl g.out i.out (fun _=>rfl) kL (by simp only[maxLen];omega) (by omega) (aD _) ?_;intro A1 c1 v b s k q t;simp only[cA,List.nil_append]at b);go_ret;exact⟨A1,c1,rfl,b,k⟩
structure SPart (w:World) (A:Option Addr) (n c:Nat) (l:List eY):Prop where
 rd:RowsS w A n l
 nl:A=none→n=0∧c=0
 sp:∀ ad,A=some ad→ad.spot=none
 le:n≤c
 mx:c≤9223372036854775807
theorem SPart.keep {w a:World}{A:Option Addr}{n c:Nat}{l:List eY}(h:SPart w A n c l)(b:dW w a):SPart a A n c l:=⟨h.rd.keep b,h.nl,h.sp,h.le,h.mx⟩
theorem SPart.tail {w:World}{b o n c:Nat}{p:eY}{l:List eY}(h:SPart w (some ⟨b,o,none⟩) n c (p::l)):SPart w (if c=1 then some ⟨b,o,none⟩else some ⟨b,o+1,none⟩) (n-1) (c-1) l:=by
 have a:=h.rd.sl.len;have i:=h.le;simp only[bL]at a;refine⟨⟨?_,fun q d=>h.rd.ok q (aS _ d)⟩,fun e=>?_,fun g e=>?_,by omega,by have:=h.mx;omega⟩
 . split
   . obtain rfl:l=[]:=aR (by omega);rw[show n-1=0 by omega];exact Sl.nil
   . have:=h.rd.sl.drop 1 (by omega);simpa using this
 . split at e<;>cases e
 . split at e<;>(injection e with e;rw[<- e])
structure SState (w2:World) (R:List eY) (la lb lo:List eY) (Aa:Option Addr) (na ca:Nat) (Ab:Option Addr) (nb cb:Nat) (Ao:Option Addr) (no co:Nat) (wr:World):Prop where
 a:SPart w2 Aa na ca la
 b:SPart w2 Ab nb cb lb
 own:wr.ownsRow w2.heap.size 53 1 (.slice Ao no co) no (lo.flatMap iF)
 len:lo.length=no
 run:lo ++ fS la lb=R
 bel:Below w2.heap.size w2 wr
def SRel (w2:World) (R:List eY) (n:Nat) (x y z:Value) (wr:World):Prop :=
 ∃(la lb lo:List eY) (Aa:Option Addr) (na ca:Nat) (Ab:Option Addr) (nb cb:Nat) (Ao:Option Addr) (no co:Nat),x=.slice Aa na ca∧y=.slice Ab nb cb∧z=.slice Ao no co∧na+nb+no=n∧SState w2 R la lb lo Aa na ca Ab nb cb Ao no co wr
def pX:Value→Nat|.slice _ n _=>n|_=>0
theorem jU {w:World}{base a:Nat}{e:TypeId}{size n:Nat}{v:Value}{b:List Value}(h:w.ownsRow base e size v n b)(hb:a<=base):w.ownsRow a e size v n b:=by
 refine⟨h.1,?_⟩;rcases h.2 with i|⟨g,c,d,j,k,r⟩
 . exact .inl i
 . exact .inr ⟨g,c,d,j,by omega,r⟩
theorem aS4 {d:World}{R:List eY}{p:eY}{i m lo:List eY}{t:Option Addr}{o u:Nat}{e:Option Addr}{a g:Nat}{x:Option Addr}{c y n:Nat}{D:World}
 (r:SState d R (p::i) m lo t o u e a g x c y D)(F:o+a+c=n)(A:fS (p::i) m=p::fS i m)(k:Option Addr)(j l:Nat)(C:SPart d k j l i)(E:j+1=o)(v q:Nat)(s:World)
 (B:s.ownsRow d 53 1 (.slice (some ⟨v,0,none⟩) (c+1) q) (c+1) (lo.flatMap iF++iF p))(z:Below d d s) :
 SRel d R n (.slice k j l) (.slice e a g) (.slice (some ⟨v,0,none⟩) (c+1) q) s/\pX (.slice k j l)+pX (.slice e a g)<pX (.slice t o u)+pX (.slice e a g):=by
 refine⟨⟨i,m,lo++[p],k,j,l,e,a,g,_,c+1,q,rfl,rfl,rfl,by omega,⟨C,r.b,?_,by simp[r.len],?_,z⟩⟩,by simp only[pX];omega⟩
 . rw[aP];simpa using B
 . rw[<- r.run,A];simp
theorem aS3 {d:World}{R:List eY}{q:eY}{m i lo:List eY}{e:Option Addr}{b g:Nat}{t:Option Addr}{o u:Nat}{x:Option Addr}{c y n:Nat}{D:World}
 (r:SState d R m (q::i) lo e b g t o u x c y D)(F:b+o+c=n)(A:fS m (q::i)=q::fS m i)(k:Option Addr)(j l:Nat)(C:SPart d k j l i)(E:j+1=o)(v p:Nat)(s:World)
 (B:s.ownsRow d 53 1 (.slice (some ⟨v,0,none⟩) (c+1) p) (c+1) (lo.flatMap iF++iF q))(z:Below d d s) :
 SRel d R n (.slice e b g) (.slice k j l) (.slice (some ⟨v,0,none⟩) (c+1) p) s/\pX (.slice e b g)+pX (.slice k j l)<pX (.slice e b g)+pX (.slice t o u):=by
 refine⟨⟨m,i,lo++[q],e,b,g,k,j,l,_,c+1,p,rfl,rfl,rfl,by omega,⟨r.a,C,?_,by simp[r.len],?_,z⟩⟩,by simp only[pX];omega⟩
 . rw[aP];simpa using B
 . rw[<- r.run,A];simp
theorem bB5 (N:Nat):∀(A:Option Addr) (n c:Nat) (ps:List eY) (w:World),n<=N->RowsS w A n ps->(A=none->n=0/\c=0)->(∀ad,A=some ad->ad.spot=none)->n<=c->c<=9223372036854775807->n<=1000000 ->
 Calls Tryz.prog 276 #[.slice A n c] w fun e w'=>bA0 w n (hL ps) e w':=by
 induction N with
 |
  zero =>
  intro A n c ps w f0 hs a7 b0 c0 a6 hn;exact uH A n c ps w hs a7 b0 c0 a6 (by omega)
 |
  succ N ih =>
  intro A n c ps w f0 hs a7 b0 c0 a6 hn;rcases Nat.lt_or_ge n 2 with h2|h2
  . exact uH A n c ps w hs a7 b0 c0 a6 h2
  obtain⟨M,hi,J,K,L⟩:=info_parts vB;have b5:=Z ih;have s:=Z hs;have e6:=Z hs.sl.len;clear ih hs a7 b0;obtain⟨b,o,x,rfl,hx,g0⟩:=s.out.sl.at (show 0<n by omega);clear hx g0;have d1:n / 2<=n:=by omega
  have H1:Hid (RowsS w (some ⟨b,o,none⟩) (n / 2) (ps.take (n / 2))):=⟨s.out.sl.take _ d1,fun p hp=>s.out.ok p (List.mem_of_mem_take hp)⟩;have H2:Hid (RowsS w (some ⟨b,o+n / 2,none⟩) (n-n / 2) (ps.drop (n / 2))):=⟨by have:=s.out.sl.drop (n / 2) d1;simpa using this,fun p hp=>s.out.ok p (List.mem_of_mem_drop hp)⟩;have e5:Hid (fS (hL (ps.take (n / 2))) (hL (ps.drop (n / 2)))=hL ps):=by show _=_;have hl:=e6.out;rw[oY (ps:=ps) (by omega),hl]
  generalize hL ps=R at *;go_enter Tryz.func276,Tryz.ntmps276;go_wp2;have I:=@bK w.drew;refine aZ [([0,1,2,3,4,6,7,8,9,10],5),([],11)] [12,13] ?_;simp only[bS,cP];unfold bA;repeat(go_big_quiet_step (fail))
  refine aA ?_;clear I;go_wp2_with (first|(go_at_call 276;refine(b5.out _ _ _ (ps.take (n / 2)) _ (by omega) (H1.out.keep (dW.refl _).drew) (fun h=>by cases h) (fun ad h=>by injection h with h;rw[<- h]) (by omega) a6 (by omega)).mono ?_;rintro e w1 ⟨A1,c1,rfl,a8,hb1⟩));refine⟨hb1,?_⟩;unfold bA;refine aA ?_;go_wp2_with (first|(go_at_call 276;refine(b5.out _ _ _ (ps.drop (n / 2)) _ (by omega) (H2.out.keep ((dW.refl _).drew.trans (aC hb1))) (fun h=>by cases h) (fun ad h=>by injection h with h;rw[<- h]) (by omega) (by omega) (by omega)).mono ?_;rintro e j ⟨A2,c2,rfl,a9,hb2⟩));refine⟨hb2,?_⟩;unfold bA;repeat(go_big_quiet_step (fail))
  refine aA ?_;have P:=cC1 ((aB _ w).drew) (cC1 hb1 hb2);have a2:SPart j A1 (n / 2) c1 (hL (ps.take (n / 2))):=by
   obtain⟨f1,f2,f3⟩:=rN a8;refine⟨⟨(cC3 (cs:=iF) (fun _=>rfl) (by rw[wE,H1.out.sl.len]) a8).keep (aC hb2),fun p hp=>?_⟩,f1,f2,f3,?_⟩
   . exact(s.out.ok p (List.mem_of_mem_take ((rJ _ _).1 hp))).keep (aC P)
   . rcases a8.2 with⟨hv,_⟩|⟨g,e7,e8,hv,_,_,_,hm,_⟩
     . injection hv with _ _ h3;omega
     . injection hv with _ _ h3;simp only[maxLen]at hm;omega
  have a3:SPart j A2 (n-n / 2) c2 (hL (ps.drop (n / 2))):=by
   obtain⟨f1,f2,f3⟩:=rN a9;refine⟨⟨cC3 (cs:=iF) (fun _=>rfl) (by rw[wE,H2.out.sl.len]) a9,fun p hp=>?_⟩,f1,f2,f3,?_⟩
   . exact(s.out.ok p (List.mem_of_mem_drop ((rJ _ _).1 hp))).keep (aC P)
   . rcases a9.2 with⟨hv,_⟩|⟨g,e7,e8,hv,_,_,_,hm,_⟩
     . injection hv with _ _ h3;omega
     . injection hv with _ _ h3;simp only[maxLen]at hm;omega
  have e3:=Z a2;have e4:=Z a3;clear a2 a3 a8 a9 hb1 hb2;generalize hL (ps.take (n / 2))=g3 at *;generalize hL (ps.drop (n / 2))=g4 at *;clear b5 H1 H2 s;go_wp2_with (at_make;refine wpList_make_own j rfl _ _ _ rfl j 53 M _ 1 Tryz.underlying100 hi J K .i64 .i64 _ n rfl rfl (by omega) (by rw[L];omega) (by simp only[maxLen];omega) (aD _) ?_;intro w3 f9 d0);have e9:Below j j w3:=(aB _ _).grown d0 (aD _) (by simp);clear d0;go_loopw [3,4,5] (fun x y z wr=>SRel j R n x y z wr) (fun x y _ _=>pX x+pX y);case atStart=>exact⟨g3,g4,[],A1,n / 2,c1,A2,n-n / 2,c2,_,0,n,rfl,rfl,rfl,by omega,⟨e3.out,e4.out,f9,rfl,by simpa using e5.out,e9⟩⟩
  case round =>
   obtain⟨t,Q,lo,Aa,na,ca,Ab,nb,cb,C,i,F,rfl,rfl,rfl,d6,hM⟩:=hrel;have d:=Z hM;have g7:=hM.a.le;have g9:=hM.b.le;have g8:=hM.a.mx;have h6:=hM.b.mx;have D:=Z d6;have h8:i<=1000000:=(by omega);clear hM d6;by_cases c8:0<na/\0<nb
   . obtain⟨b7,b9⟩:=c8;have g1:decide (0<na)=true:=(by simp[b7]);have g2:decide (0<nb)=true:=(by simp[b9]);have a1:=aC d.out.bel;obtain⟨b1,o1,p,rfl,hp,d2⟩:=d.out.a.rd.sl.at b7;obtain⟨b2,o2,q,rfl,hq,d4⟩:=d.out.b.rd.sl.at b9;have e1:=aW a1 (d2 0 _ rfl);have e2:=aW a1 (d4 0 _ rfl);simp only[Nat.zero_mul,bX]at e1 e2;obtain⟨d7,rfl⟩:∃d7,t=p::d7:=by
      cases t with
      |nil=>simp at hp
      |cons x l=>simp only[aL,Option.some.injEq]at hp;exact⟨l,by rw[hp]⟩
     obtain⟨d8,rfl⟩:∃d8,Q=q::d8:=by
      cases Q with
      |nil=>simp at hq
      |cons x l=>simp only[aL,Option.some.injEq]at hq;exact⟨l,by rw[hq]⟩
     have d3:=(d.out.a.rd.ok p (aQ)).keep a1;have d5:=(d.out.b.rd.ok q (aQ)).keep a1;have h4:b1<j.heap.size:=Sl.lt (cs:=iF) (sz:=1) (fun _=>rfl) (by omega) d.out.a.rd.sl b7 b1 o1 rfl;have h5:b2<j.heap.size:=Sl.lt (cs:=iF) (sz:=1) (fun _=>rfl) (by omega) d.out.b.rd.sl b9 b2 o2 rfl;obtain⟨⟨p1,p2,p3⟩,d9⟩:=p;obtain⟨⟨q1,q2,q3⟩,e0⟩:=q;dsimp only[iF]at e1 e2;have b3:=Z d3;have b4:=Z d5;obtain⟨v,T⟩:=zE (gQ d9 e0);clear hp hq d2 d4 d3 d5 a1;go_wp2;have I:=@bK wr.drew;refine aZ [([0,1,2,3,4,5],6)] [7] ?_;simp only[bS,cP];unfold bA;repeat(go_big_quiet_step (fail))
     refine aA ?_;clear I;go_wp2_with (first|(go_at_call 58;refine(sU p1 q1 p2 q2 p3 q3 d9 e0 _ (b3.out.rd.keep (dW.refl _).drew) (b4.out.rd.keep (dW.refl _).drew) (by have:=b3.out.le;have:=b3.out.mx;dsimp only at *;omega) (by have:=b4.out.le;have:=b4.out.mx;dsimp only at *;omega)).mono ?_;rintro e u ⟨rfl,W⟩;rw[T.out]));refine⟨W,?_⟩;unfold bA;repeat(go_big_quiet_step (fail))
     refine aA ?_;have b6:dW wr u:=(dW.refl _).drew.trans (aC W);replace e1:=aW b6 e1;replace e2:=aW b6 e2;have a4:=Z (cC1 d.out.bel.drew W);have c6:Hid (u.ownsRow j 53 1 (.slice C i F) i (lo.flatMap iF)):=fJ (d.out.own.drew) (fun g _ hl _=>W.block g hl);obtain⟨S,c7,g5,g6⟩:∃S:Nat->Prop,Hid (∀k,(Value.slice C i F).ownBlock=some k->S k)/\¬S b1/\¬S b2:=⟨fun k=>(Value.slice C i F).ownBlock=some k,fun _ h=>h,fun h=>by have:=jN d.out.own b1 h;omega,fun h=>by have:=jN d.out.own b2 h;omega⟩;clear W b6;rcases Int.lt_or_le 0 v with hv|hv
     . go_wp2;rcases(show cb=1\/1<cb from by omega)with Y|Y
       all_goals
        have I:=@hC S u.drew;refine gJ S [([0,1,2,3,6,7],4),([],5)] [8,9] ?_;simp only[bS,cP];unfold dI;first
         |(
          obtain rfl:=Y;repeat(go_big_quiet_step (fail)))
         |(repeat(go_big_quiet_step (fail)))
        refine aA ?_;clear I;go_wp2_with fail;refine⟨But.alloc _ _,?_⟩;unfold dI;refine aA ?_;go_wp2_with (at_builtin;refine cB (by rfl) (.tmp 50) (.tmp 54) _ (by rfl) j 53 M _ 1 24 Tryz.underlying100 hi J K L (by rfl) (by omega) (.slice C i F) i _ (by rfl) u.drew _ c6.out.drew u (by rfl) (by rfl) (by rfl) (kL ((q1,q2,q3),[])) (by simp only[maxLen];omega) (by omega) (by have:=a4.out.size;simpa using this) ?_;intro V U r m a0 H b8 f6);refine⟨cC5 a0 c7.out,?_⟩;unfold dI;repeat(go_big_quiet_step (fail))
        refine aA ?_;go_wp2;have ht:=d.out.b.tail;have X:Below j j r:=a4.out.drew.trans H;first
         |exact aS3 d.out D.out (by rw[iU];simp only[T.out];rw[if_neg (by omega)]) _ _ _ (by rw[if_neg (by omega)]at ht;exact ht) (by omega) V U r m X
         |(
          obtain rfl:nb=1:=(by omega);exact aS3 d.out D.out (by rw[iU];simp only[T.out];rw[if_neg (by omega)]) _ _ _ (by rw[if_pos rfl]at ht;exact ht) (by omega) V U r m X)
     . go_wp2;rcases(show ca=1\/1<ca from by omega)with Y|Y
       all_goals
        have I:=@hC S u.drew;refine gJ S [([0,1,2,3,6,7],4),([],5)] [8,9] ?_;simp only[bS,cP];unfold dI;first
         |(
          obtain rfl:=Y;repeat(go_big_quiet_step (fail)))
         |(repeat(go_big_quiet_step (fail)))
        refine aA ?_;clear I;go_wp2_with fail;refine⟨But.alloc _ _,?_⟩;unfold dI;refine aA ?_;go_wp2_with (at_builtin;refine cB (by rfl) (.tmp 42) (.tmp 46) _ (by rfl) j 53 M _ 1 24 Tryz.underlying100 hi J K L (by rfl) (by omega) (.slice C i F) i _ (by rfl) u.drew _ c6.out.drew u (by rfl) (by rfl) (by rfl) (kL ((p1,p2,p3),[])) (by simp only[maxLen];omega) (by omega) (by have:=a4.out.size;simpa using this) ?_;intro V U r m a0 H b8 f6);refine⟨cC5 a0 c7.out,?_⟩;unfold dI;repeat(go_big_quiet_step (fail))
        refine aA ?_;go_wp2;have ht:=d.out.a.tail;have X:Below j j r:=a4.out.drew.trans H;first
         |exact aS4 d.out D.out (by rw[iU];simp only[T.out];rw[if_pos hv]) _ _ _ (by rw[if_neg (by omega)]at ht;exact ht) (by omega) V U r m X
         |(
          obtain rfl:na=1:=(by omega);exact aS4 d.out D.out (by rw[iU];simp only[T.out];rw[if_pos hv]) _ _ _ (by rw[if_pos rfl]at ht;exact ht) (by omega) V U r m X)
   . have hk:=aC d.out.bel;have a2:=d.out.a.keep hk;have a3:=d.out.b.keep hk;have O:=Z a2;have a5:=Z a3;have c9:Hid ((lo++t)++Q=R):=by
      show _=_;rw[<- d.out.run];have h1:=d.out.a.rd.sl.len;have h2:=d.out.b.rd.sl.len;rcases Nat.eq_zero_or_pos na with h0|h0
      . obtain rfl:t=[]:=aR (by omega);simp[fS]
      . obtain rfl:Q=[]:=aR (by omega);simp[bD1]
     have hsz:=d.out.bel.size;have h7:na+nb+i<=1000000:=(by have:=D.out;omega);clear hk a2 a3;have c4:=Z d.out.own;rcases Nat.eq_zero_or_pos na with h0|h0
     . have g1:decide (0<na)=false:=(by simp;omega);have H0:=Z h0;clear h0;go_wp2_with (first
        |(at_builtin;refine fG (cs:=iF) wr (by rfl) (.tmp 58) (.tmp 59) _ (by rfl) j.heap.size 53 M _ 1 24 Tryz.underlying100 hi J K L (by rfl) (by omega) (.slice C i F) i lo (by rfl) c4.out Aa na ca t (by rfl) O.out.rd.sl O.out.nl O.out.sp (fun _=>rfl) kL (by simp only[maxLen];omega) (by omega) hsz ?_;intro A5 c5 w5 c3 f5 G f4 f7)
        |(at_builtin;refine fG (cs:=iF) w5 (by rfl) (.tmp 60) (.tmp 61) _ (by rfl) j.heap.size 53 M _ 1 24 Tryz.underlying100 hi J K L (by rfl) (by omega) (.slice A5 (i+na) c5) (i+na) (lo++t) (by rfl) c3 Ab nb cb Q (by rfl) (d.out.b.rd.keep (aC (d.out.bel.trans G))).sl a5.out.nl a5.out.sp (fun _=>rfl) kL (by simp only[maxLen];omega) (by omega) (bI hsz G.size) ?_;intro B E r m a0 H b8 f8))
       go_ret;have hs:=D.out;rw[c9.out,show i+na+nb=n by omega]at m;have hr:Ending.returned (Value.slice B (i+na+nb) E)=.returned (.slice B n E):=(by rw[show i+na+nb=n by omega]);exact⟨B,E,hr,jU m P.size,cC1 P ((d.out.bel.trans G).trans H)⟩
     . have g1:decide (0<na)=true:=(by simp[h0]);have g2:decide (0<nb)=false:=(by simp;omega);clear c8;go_wp2_with (first
        |(at_builtin;refine fG (cs:=iF) wr (by rfl) (.tmp 58) (.tmp 59) _ (by rfl) j.heap.size 53 M _ 1 24 Tryz.underlying100 hi J K L (by rfl) (by omega) (.slice C i F) i lo (by rfl) c4.out Aa na ca t (by rfl) O.out.rd.sl O.out.nl O.out.sp (fun _=>rfl) kL (by simp only[maxLen];omega) (by omega) hsz ?_;intro A5 c5 w5 c3 f5 G f4 f7)
        |(at_builtin;refine fG (cs:=iF) w5 (by rfl) (.tmp 60) (.tmp 61) _ (by rfl) j.heap.size 53 M _ 1 24 Tryz.underlying100 hi J K L (by rfl) (by omega) (.slice A5 (i+na) c5) (i+na) (lo++t) (by rfl) c3 Ab nb cb Q (by rfl) (d.out.b.rd.keep (aC (d.out.bel.trans G))).sl a5.out.nl a5.out.sp (fun _=>rfl) kL (by simp only[maxLen];omega) (by omega) (bI hsz G.size) ?_;intro B E r m a0 H b8 f8))
       go_ret;have hs:=D.out;rw[c9.out,show i+na+nb=n by omega]at m;have hr:Ending.returned (Value.slice B (i+na+nb) E)=.returned (.slice B n E):=(by rw[show i+na+nb=n by omega]);exact⟨B,E,hr,jU m P.size,cC1 P ((d.out.bel.trans G).trans H)⟩
def vA (acc:List (List Vl)) (r:List Vl):Bool:=match acc.getLast? with
 |none=>true
 |some x=>decide (gQ x r≠0)
def mF:List (List Vl)→List (List Vl)→List (List Vl)
 |acc,[]=>acc
 |acc,r::l=>if vA acc r then mF (acc++[r]) l else mF acc l
def aR3 (ps:List eY):List (List Vl):=mF [] ((hL ps).map (·.2))
def jL (w:World) (base:Nat) (q:eY):Prop:=w.ownsRow base 59 3 (.slice q.1.1 q.1.2.1 q.1.2.2) q.1.2.1 (q.2.flatMap Vl.cs)∧q.2.length=q.1.2.1
theorem jL.ok {w:World}{base:Nat}{q:eY}(h:jL w base q):RowOk w q:=by
 obtain⟨b,j,c⟩:=rN h.1;refine⟨cC3 Vl.cs_len h.2 h.1,b,c,?_⟩;rcases h.1.2 with⟨a,_⟩|⟨g,e,i,a,_,_,_,d,_⟩
 . injection a with _ _ h3;omega
 . injection a with _ _ h3;simp only[maxLen]at d;omega
theorem jL.grown {w i:World}{base:Nat}{q:eY}(h:jL w base q){j:Nat}{v:Value}{n size:Nat}{p:List Value}(o:w.ownsRow j 53 size v n p)(k:w.grownBy i v.ownBlock):jL i base q:=by
 refine⟨fJ h.1 (fun g _ m a=>k.block g m (fun e=>?_)),h.2⟩;rcases h.1.2 with⟨c,_⟩|⟨x,r,t,c,_,l,_⟩
 . rw[c]at a;simp[Value.ownBlock]at a
 . rw[c]at a;simp only[Value.ownBlock,Option.some.injEq]at a;rcases o.2 with⟨d,_⟩|⟨y,s,u,d,_,b,_⟩
   . rw[d]at e;simp[Value.ownBlock]at e
   . rw[d]at e;simp only[Value.ownBlock,Option.some.injEq]at e;rw[<- a]at e;subst e;rw[l]at b;injection b with b;injection b with _ ht;exact absurd ht (by decide)
theorem jL.below {w a:World}{base:Nat}{q:eY}(h:jL w base q)(hb:Below w w a):jL a base q:=⟨fJ h.1 (fun g _ b _=>hb.block g b),h.2⟩
structure TState (w1:World) (R:List (List Vl)) (ps:List eY) (k:Nat) (qs:List eY) (Ao:Option Addr) (no co:Nat) (wr:World):Prop where
 own:wr.ownsRow w1.heap.size 53 1 (.slice Ao no co) no (qs.flatMap iF)
 len:qs.length=no
 kle:no≤k
 rows:∀ q∈qs,jL wr w1.heap.size q
 run:mF (qs.map (·.2)) ((ps.drop k).map (·.2))=R
 bel:Below w1.heap.size w1 wr
def TRel (w1:World) (R:List (List Vl)) (ps:List eY) (n:Nat) (x i:Value) (wr:World):Prop :=
 ∃(k:Nat) (qs:List eY) (Ao:Option Addr) (no co:Nat),k≤n∧i=.int .i64 (k:Int)∧x=.slice Ao no co∧TState w1 R ps k qs Ao no co wr
def aQ1 (w:World) (R:List (List Vl)) (e:Ending) (w':World):Prop :=
 ∃(qs:List eY) (A':Option Addr) (c':Nat),e=.returned (.slice A' R.length c')∧qs.map (·.2)=R∧w'.ownsRow w.heap.size 53 1 (.slice A' R.length c') R.length (qs.flatMap iF)∧(∀q∈qs,jL w' w.heap.size q)∧Below w.heap.size w w'
theorem aQ1.rows {w b:World}{R:List (List Vl)}{e:Ending}(h:aQ1 w R e b):∃(a:List eY) (A':Option Addr) (c':Nat),e=.returned (.slice A' R.length c')/\a.map (·.2)=R/\RowsS b A' R.length a/\Below w w b:=by
 obtain⟨a,A',c',d,c,g,i,j⟩:=h;exact⟨a,A',c',d,c,⟨cC3 (cs:=iF) (fun _=>rfl) (by rw[<- c];simp) g,fun q k=>(i q k).ok⟩,j⟩
theorem bT9 (A:Option Addr)(n c:Nat)(ps:List eY)(w:World)(hs:RowsS w A n ps)(b1:A=none->n=0/\c=0)(b8:∀ad,A=some ad->ad.spot=none)(d4:n<=c)(d2:c<=9223372036854775807)(hn:n<=1000000)(b7:∀p∈ps,p.1.2.1<=4398046511104) :
 Calls Tryz.prog 265 #[.slice A n c] w fun e w'=>aQ1 w (aR3 ps) e w':=by
 obtain⟨i0,hi,c0,c2,c3⟩:=info_parts vB;have M:=Z hs;have a1:=Z b1;have a3:=Z b8;have a7:=Z hs.sl.len;have c7:=Z (fun p (hp:p∈hL ps)=>b7 p ((rJ ps p).1 hp));clear hs b1 b8 b7;have c6:Hid (mF [] ((hL ps).map (·.2))=aR3 ps):=rfl;have a8:Hid ((hL ps).length=n):=by show _=_;rw[wE,a7.out]
 generalize aR3 ps=R at *;go_enter Tryz.func265,Tryz.ntmps265;go_wp2_with fail;refine(bB5 n A n c ps _ (aD _) M.out a1.out a3.out d4 d2 hn).mono ?_;rintro e t ⟨A1,c1,rfl,b2,hb1⟩;have b9:RowsS t A1 n (hL ps):=⟨cC3 (cs:=iF) (fun _=>rfl) a8.out b2,fun p hp=>(M.out.ok p ((rJ _ _).1 hp)).keep (aC hb1)⟩;have a6:=Z b9;clear b9 b2 M a1 a3 a7;generalize hL ps=I at *;go_wp2;go_loopw [3,9] (fun x i wr=>TRel t R I n x i wr) (fun _ i _=>n-(intOf i).toNat);case atStart=>exact⟨0,[],none,0,0,by omega,rfl,rfl,⟨⟨by simp,.inl ⟨rfl,rfl⟩⟩,rfl,by omega,by simp,by simpa using c6.out,aB _ _⟩⟩
 case round =>
  obtain⟨k,qs,G,d,z,hk,rfl,rfl,S⟩:=hrel;have a:=Z S;have d8:d<=k:=S.kle;clear S;by_cases hlt:k<n
  . have T:=aC a.out.bel;obtain⟨b,o,p,rfl,hp,b3⟩:=a6.out.sl.at hlt;have e1:=aW T (b3 0 _ rfl);simp only[Nat.mul_one,bX]at e1;have W:p∈I:=aJ hp;have b4:=(a6.out.ok p W).keep T;have X:=c7.out p W;have C:Hid (R=if vA (qs.map (·.2)) p.2 then mF (qs.map (·.2)++[p.2]) ((I.drop (k+1)).map (·.2))else mF (qs.map (·.2)) ((I.drop (k+1)).map (·.2))):=(by show _=_;rw[<- a.out.run,eL hp];rfl);obtain⟨⟨p1,j,p3⟩,l⟩:=p;dsimp only[iF]at e1 X C;have y:=Z b4;clear hp b3 W b4 T;have hwz:=a.out.bel.size;obtain⟨a0,H⟩:=zE (vA (qs.map (·.2)) l);rw[H.out]at C;rcases Nat.eq_zero_or_pos d with h0|h0
    . have g0:((d:Int) == 0)=true:=(by simp[h0]);have J:Hid (a0=true):=(by show _=_;rw[<- H.out];obtain rfl:qs=[]:=aR (by have:=a.out.len;omega);rfl);have H0:=Z h0;clear h0;go_wp2_with fail;refine(aY1 ((p1,j,p3),l) _ y.out X).mono ?_;rintro e u ⟨m,r,rfl,U,s⟩;have D:=fJ a.out.own (fun g _ hl _=>s.block g hl);have Y:t.heap.size<=u.heap.size:=bI a.out.bel.size s.size;have K:Hid (jL u t ((m,j,r),l)):=⟨jU U a.out.bel.size,(y.out).rd.len⟩;go_wp2_with (at_builtin;refine cB (by rfl) (.tmp 27) (.tmp 30) _ (by rfl) t 53 i0 _ 1 24 Tryz.underlying100 hi c0 c2 c3 (by rfl) (by omega) (.slice G d z) d _ (by rfl) u _ D u (by rfl) (by rfl) (by rfl) (kL ((m,j,r),[])) (by simp only[maxLen];omega) (by omega) Y ?_;intro g6 P w6 V E Q d1 d3);go_roundw;case rel =>
       refine⟨k+1,qs++[((m,j,r),l)],_,d+1,P,by omega,by go_num,rfl,⟨?_,by simp[a.out.len],by omega,?_,?_,(a.out.bel.trans (s.mono a.out.bel.size)).trans Q⟩⟩
       . rw[aP];simpa[iF]using V
       . intro q hq;have F:=D.alloc (.cells #[.slice m j r] 53);rw[List.mem_append,bU]at hq;rcases hq with hq|rfl
         . exact((((a.out.rows) q hq).below s).below ((aB _ _).alloc (aD _) _)).grown F E
         . exact(K.out.below ((aB _ _).alloc (aD _) _)).grown F E
       . have:=C.out;rw[if_pos J.out]at this;rw[this];simp
      case measure=>simp[intOf];omega
    . have g0:((d:Int) == 0)=false:=(by simp;omega);obtain⟨c8,d5,q,d0,hq,b5⟩:=(cC3 (cs:=iF) (fun _=>rfl) a.out.len a.out.own).at (show d-1<d by omega);subst d0;have e2:=b5 0 _ rfl;simp only[Nat.mul_one,bX]at e2;have b6:=(a.out.rows q (aJ hq)).ok;have N:Hid (vA (qs.map (·.2)) l=decide (gQ q.2 l≠0)):=(by show _=_;unfold vA;rw[List.getLast?_eq_getElem?,List.getElem?_map,List.length_map,a.out.len,hq];rfl);obtain⟨⟨q1,q2,q3⟩,c4⟩:=q;dsimp only[iF]at e2 N;have L:=Z b6;clear hq b5 b6;obtain⟨v,O⟩:=zE (gQ c4 l);have d9:(1:Int)<=(d:Int):=(by omega);go_wp2_with fail;refine(sU q1 p1 q2 j q3 p3 c4 l _ L.out.rd y.out.rd (by have:=L.out.le;have:=L.out.mx;dsimp only at *;omega) (by have:=y.out.le;have:=y.out.mx;dsimp only at *;omega)).mono ?_;rintro e w2 ⟨rfl,hb2⟩;rw[O.out];have a2:=Z (fJ a.out.own (fun g _ hl _=>hb2.block g hl));have a5:Hid (∀q∈qs,jL w2 t q):=fun q hq=>(a.out.rows q hq).below hb2;have B:=Z (a.out.bel.trans (hb2.mono a.out.bel.size));have a4:=Z (y.out.keep (aC hb2));by_cases hv:v=0
      . have c9:(v != 0)=false:=(by simp[hv]);have c5:Hid (a0=false):=(by show _=_;rw[<- H.out,N.out,O.out];simp[hv]);have d7:=Z hv;clear hv;go_wp2;go_roundw;case rel=>refine⟨k+1,qs,_,d,z,by omega,by go_num,rfl,⟨a2.out,a.out.len,by omega,a5.out,?_,B.out⟩⟩;have:=C.out;rw[c5.out]at this;simpa using this.symm
        case measure=>simp[intOf];omega
      . have c9:(v != 0)=true:=(by simp[hv]);have J:Hid (a0=true):=(by show _=_;rw[<- H.out,N.out,O.out];simp[hv]);go_wp2_with fail;refine(aY1 ((p1,j,p3),l) _ a4.out X).mono ?_;rintro e u ⟨m,r,rfl,U,s⟩;have D:=fJ a2.out (fun g _ hl _=>s.block g hl);have Y:t.heap.size<=u.heap.size:=bI B.out.size s.size;have K:Hid (jL u t ((m,j,r),l)):=⟨jU U B.out.size,(a4.out).rd.len⟩;go_wp2_with (at_builtin;refine cB (by rfl) (.tmp 27) (.tmp 30) _ (by rfl) t 53 i0 _ 1 24 Tryz.underlying100 hi c0 c2 c3 (by rfl) (by omega) (.slice (some ⟨c8,d5,none⟩) d z) d _ (by rfl) u _ D u (by rfl) (by rfl) (by rfl) (kL ((m,j,r),[])) (by simp only[maxLen];omega) (by omega) Y ?_;intro g6 P w6 V E Q d1 d3);go_roundw;case rel =>
         refine⟨k+1,qs++[((m,j,r),l)],_,d+1,P,by omega,by go_num,rfl,⟨?_,by simp[a.out.len],by omega,?_,?_,(B.out.trans (s.mono B.out.size)).trans Q⟩⟩
         . rw[aP];simpa[iF]using V
         . intro q hq;have F:=D.alloc (.cells #[.slice m j r] 53);rw[List.mem_append,bU]at hq;rcases hq with hq|rfl
           . exact((((a5.out) q hq).below s).below ((aB _ _).alloc (aD _) _)).grown F E
           . exact(K.out.below ((aB _ _).alloc (aD _) _)).grown F E
         . have:=C.out;rw[if_pos J.out]at this;rw[this];simp
        case measure=>simp[intOf];omega
  . have d6:=a;go_wp2;go_ret;obtain rfl:k=n:=(by omega);have b0:qs.map (·.2)=R:=(by rw[<- a.out.run,aU (by have:=a8.out;omega)];rfl);have a9:R.length=d:=(by rw[<- b0];simp[a.out.len]);have hr:Ending.returned (Value.slice G d z)=.returned (.slice G R.length z):=(by rw[a9]);refine⟨qs,G,z,hr,b0,?_,fun q hq=>⟨jU (a.out.rows q hq).1 hb1.size,(a.out.rows q hq).2⟩,cC1 hb1 a.out.bel⟩;rw[a9];exact jU a.out.own hb1.size
def oC:List (List Vl)→List (List Vl)→List (List Vl)
 |[],b=>b
 |x::a,[]=>x::a
 |x::a,y::b=>if gQ x y≤0 then x::oC a (y::b)else y::oC (x::a) b
termination_by a b=>a.length+b.length
theorem rT (x:List Vl)(a:List (List Vl))(y:List Vl)(b:List (List Vl)):oC (x::a) (y::b)=if gQ x y<=0 then x::oC a (y::b)else y::oC (x::a) b:=by rw[oC]
def qC (l:List (List Vl)):List (List Vl) :=
 if h:l.length<2 then l else oC (qC (l.take (l.length / 2))) (qC (l.drop (l.length / 2)))
termination_by l.length
decreasing_by
 . simp;omega
 . simp;omega
theorem tQ:∀(a b:List eY),(fS a b).map (·.2)=oC (a.map (·.2)) (b.map (·.2))
 |[],b=>by simp[fS,oC]
 |x::a,[]=>by simp[fS,oC]
 |
  x::a,y::b=>by
  rw[iU,List.map_cons,List.map_cons,rT];split
  . rw[List.map_cons,tQ a (y::b)];rfl
  . rw[List.map_cons,tQ (x::a) b];rfl
termination_by a b=>a.length+b.length
theorem bM8 (ps:List eY):(hL ps).map (·.2)=qC (ps.map (·.2)):=by
 induction h:ps.length using Nat.strongRecOn generalizing ps with
 |
  _ n ih =>
  subst h;by_cases a:ps.length<2
  . rw[nE a,qC];simp[a]
  . rw[oY (by omega),tQ,ih _ (by simp;omega) (ps.take (ps.length / 2)) rfl,ih _ (by simp;omega) (ps.drop (ps.length / 2)) rfl]
    conv=>rhs;rw[qC]
    simp[a]
def sP (l:List (List Vl)):List (List Vl):=mF [] (qC l)
theorem bH5 (ps:List eY):aR3 ps=sP (ps.map (·.2)):=by unfold aR3 sP;rw[bM8]
theorem qP:∀(a b:List (List Vl)) (r:List Vl),r∈oC a b↔r∈a\/r∈b
 |[],b,r=>by simp[oC]
 |x::a,[],r=>by simp[oC]
 |
  x::a,y::b,r=>by
  rw[rT];split
  . rw[aK,qP a (y::b) r];simp only[aK];grind
  . rw[aK,qP (x::a) b r];simp only[aK];grind
termination_by a b=>a.length+b.length
theorem tD {l:List (List Vl)}(h:l.length<2):qC l=l:=by rw[qC];simp[h]
theorem wD {l:List (List Vl)}(h:2<=l.length):qC l=oC (qC (l.take (l.length / 2))) (qC (l.drop (l.length / 2))):=by
 rw[qC,dif_neg (by omega)]
theorem aR2 (l:List (List Vl))(r:List Vl):r∈qC l↔r∈l:=by
 induction h:l.length using Nat.strongRecOn generalizing l with
 |
  _ n ih =>
  subst h;by_cases a:l.length<2
  . rw[tD a]
  . rw[wD (by omega),qP,ih _ (by simp;omega) (l.take (l.length / 2)) rfl,ih _ (by simp;omega) (l.drop (l.length / 2)) rfl];rw[<- List.mem_append,List.take_append_drop]
theorem wT:∀(l b:List (List Vl)) (r:List Vl),r∈mF b l->r∈b\/r∈l
 |[],b,r,h=>.inl h
 |
  x::l,b,r,h=>by
  unfold mF at h;split at h
  . rcases wT l _ r h with a|a
    . rw[List.mem_append,bU]at a;rcases a with a|rfl
      . exact .inl a
      . exact .inr aQ
    . exact .inr (aS _ a)
  . rcases wT l _ r h with a|a
    . exact .inl a
    . exact .inr (aS _ a)
theorem aA5:∀(a b:List (List Vl)),(oC a b).length=a.length+b.length
 |[],b=>by simp[oC]
 |x::a,[]=>by simp[oC]
 |
  x::a,y::b=>by
  rw[rT];split
  . rw[bL,aA5 a (y::b)];simp;omega
  . rw[bL,aA5 (x::a) b];simp;omega
termination_by a b=>a.length+b.length
theorem bT0 (l:List (List Vl)):(qC l).length=l.length:=by
 induction h:l.length using Nat.strongRecOn generalizing l with
 |
  _ n ih =>
  subst h;by_cases a:l.length<2
  . rw[tD a]
  . rw[wD (by omega),aA5,ih _ (by simp;omega) (l.take (l.length / 2)) rfl,ih _ (by simp;omega) (l.drop (l.length / 2)) rfl];simp;omega
theorem wU:∀(l a:List (List Vl)),(mF a l).length<=a.length+l.length
 |[],a=>by simp[mF]
 |
  x::l,a=>by
  unfold mF;split
  . have:=wU l (a++[x]);simp at this ⊢;omega
  . have:=wU l a;simp at this ⊢;omega
theorem aR6 (l:List (List Vl)):(sP l).length<=l.length:=by
 have:=wU (qC l) [];rw[bT0]at this;simpa[sP]using this
theorem aR4 (l:List (List Vl))(r:List Vl)(h:r∈sP l):r∈l:=by
 rcases wT _ _ r h with a|a
 . simp at a
 . exact(aR2 l r).1 a
theorem aG3 (c:List Vl):∃L:List Vl,L.map (fun v=>[v])=sP (c.map fun v=>[v]):=by
 refine⟨(sP (c.map fun v=>[v])).map (fun r=>r.headD bE),?_⟩;rw[List.map_map]
 conv=>rhs;rw[<- List.map_id (sP (c.map fun v=>[v]))]
 apply List.map_congr_left;intro r a;have:=aR4 _ r a;rw[List.mem_map]at this;obtain⟨v,_,rfl⟩:=this;rfl
theorem sH:∀a b:List Vl,gQ b a = - gQ a b
 |[],[]=>by simp[gQ]
 |[],_::_=>by simp[gQ]
 |_::_,[]=>by simp[gQ]
 |
  x::a,y::b=>by
  have c:=sH a b;have:=dD x y;simp only[gQ]
  repeat' split
  all_goals omega
theorem aK5:∀a b:List Vl,gQ a b=0↔a=b
 |[],[]=>by simp[gQ]
 |[],_::_=>by simp[gQ]
 |_::_,[]=>by simp[gQ]
 |
  x::a,y::b=>by
  have c:=aK5 a b;have:=gI x y;simp only[gQ,List.cons.injEq];split
  . constructor
    . intro h;omega
    . rintro⟨h,_⟩;exact absurd (this.2 h) (by omega)
  . rw[c];constructor
    . intro h;exact⟨this.1 (by omega),h⟩
    . intro h;exact h.2
theorem pL:∀a b c:List Vl,gQ a b<=0->gQ b c<=0->gQ a c<=0
 |[],_,[],_,_=>by simp[gQ]
 |[],_,_::_,_,_=>by simp[gQ]
 |_::_,[],_,h,_=>by simp[gQ]at h
 |_::_,_::_,[],_,h=>by simp[gQ]at h
 |
  x::a,y::b,z::c,h1,h2=>by
  have d:=pL a b c;simp only[gQ]at h1 h2 ⊢;have e:=@iD x y z;have g:=@nQ x y z;have i:=@fQ x y z
  repeat' split at h1
  all_goals(repeat' split at h2)
  all_goals(repeat' split)
  all_goals first|(exact d h1 h2)|omega
theorem aF4 {a b c:List Vl}(i:gQ a b<0)(d:gQ b c<=0):gQ a c<0:=by
 rcases Int.lt_or_le (gQ a c) 0 with h|h
 . exact h
 . have e:=sH a c;have g:=sH a b;have:=pL b c a d (by omega);omega
abbrev upR (l:List (List Vl)):Prop:=l.Pairwise (fun a b=>gQ a b≤0)
abbrev ascR (l:List (List Vl)):Prop:=l.Pairwise (fun a b=>gQ a b<0)
theorem aN4:∀(a b:List (List Vl)),upR a->upR b->upR (oC a b)
 |[],b,_,h=>by simpa[oC]using h
 |x::a,[],h,_=>by simpa[oC]using h
 |
  x::a,y::b,h1,h2=>by
  rw[rT];have k1:=List.pairwise_cons.1 h1;have k2:=List.pairwise_cons.1 h2;split
  . rename_i hc;refine List.pairwise_cons.2 ⟨fun r hr=>?_,aN4 a (y::b) k1.2 h2⟩;rcases(qP _ _ _).1 hr with h|h
    . exact k1.1 r h
    . rcases List.mem_cons.1 h with rfl|h
      . exact hc
      . exact pL _ _ _ hc (k2.1 r h)
  . rename_i hc;have hyx:gQ y x<=0:=(by have:=sH x y;omega);refine List.pairwise_cons.2 ⟨fun r hr=>?_,aN4 (x::a) b h1 k2.2⟩;rcases(qP _ _ _).1 hr with h|h
    . rcases List.mem_cons.1 h with rfl|h
      . exact hyx
      . exact pL _ _ _ hyx (k1.1 r h)
    . exact k2.1 r h
termination_by a b=>a.length+b.length
theorem bH2 (l:List (List Vl)):upR (qC l):=by
 induction h:l.length using Nat.strongRecOn generalizing l with
 |
  _ n ih =>
  subst h;by_cases a:l.length<2
  . rw[tD a]
    match l,a with
    |[],_=>exact List.Pairwise.nil
    |[x],_=>exact List.pairwise_singleton _ _
  . rw[wD (by omega)];exact aN4 _ _ (ih _ (by simp;omega) _ rfl) (ih _ (by simp;omega) _ rfl)
theorem aB2 (a:List (List Vl))(x r:List Vl):vA (a++[x]) r=decide (gQ x r≠0):=by
 simp[vA]
theorem sE:∀(l c:List (List Vl)),ascR c->upR l->(∀x∈c,∀y∈l,gQ x y<=0)->ascR (mF c l)/\∀r,r∈c\/r∈l->r∈mF c l
 |[],c,h,_,_=>⟨h,fun r j=>j.elim id (fun h=>by cases h)⟩
 |
  y::l,c,h1,h2,h3=>by
  have n:=List.pairwise_cons.1 h2;unfold mF;by_cases d:vA c y=true
  . rw[if_pos d];have q:∀x∈c,gQ x y<0:=by
     intro x e;have m:c≠[]:=List.ne_nil_of_mem e;obtain⟨i,z,rfl⟩:∃i z,c=i++[z]:=⟨_,_,(List.dropLast_concat_getLast m).symm⟩;rw[aB2]at d;have g:=h3 z (by simp) y (by simp);have s:gQ z y<0:=(by have:=of_decide_eq_true d;omega);rcases List.mem_append.1 e with h|h
     . have:=(List.pairwise_append.1 h1).2.2 x h z (by simp);exact aF4 this g
     . have:x=z:=(by simpa using h);rw[this];exact s
    have p:ascR (c++[y]):=List.pairwise_append.2 ⟨h1,List.pairwise_singleton _ _,fun a o b hb=>by
     have:b=y:=(by simpa using hb);rw[this];exact q a o⟩
    have k:=sE l (c++[y]) p n.2 (fun x e z g=>by
     rcases List.mem_append.1 e with h|h
     . exact h3 x h z (aS _ g)
     . have:x=y:=(by simpa using h);rw[this];exact n.1 z g)
    refine⟨k.1,fun r j=>k.2 r ?_⟩;rcases j with h|h
    . exact .inl (List.mem_append_left _ h)
    . rcases List.mem_cons.1 h with rfl|h
      . exact .inl (by simp)
      . exact .inr h
  . rw[if_neg d];have k:=sE l c h1 n.2 (fun x e z g=>h3 x e z (aS _ g));refine⟨k.1,fun r j=>k.2 r ?_⟩;rcases j with h|h
    . exact .inl h
    . rcases List.mem_cons.1 h with rfl|h
      . left;by_cases m:c=[]
        . subst m;simp[vA]at d
        . obtain⟨i,z,rfl⟩:∃i z,c=i++[z]:=⟨_,_,(List.dropLast_concat_getLast m).symm⟩;rw[aB2]at d;have:gQ z r=0:=(by simpa using d);rw[<- (aK5 z r).1 this];simp
      . exact .inr h
theorem aR7 (l:List (List Vl)):ascR (sP l):=(sE (qC l) [] List.Pairwise.nil (bH2 l) (fun x h=>by cases h)).1
theorem aR5 (l:List (List Vl))(r:List Vl):r∈sP l↔r∈l:=by
 constructor
 . exact aR4 l r
 . intro h;exact(sE (qC l) [] List.Pairwise.nil (bH2 l) (fun x h=>by cases h)).2 r (.inr ((aR2 l r).2 h))
def iR (v:Vl):Prop:=gV≤v.i∧v.i≤9223372036854775807
def cB0 (w:World) (g:Nat) (e:Ending) (w':World):Prop:=(∃x:Int,(gV≤x∧x≤9223372036854775807)∧e=.returned (.int .i64 x))∧CaseAt w' g∧But (· = g) w w'
theorem xJ (g:Nat)(w:World)(hc:CaseAt w g) :
 Calls Tryz.prog 146 #[.pointer (some ⟨g,0,none⟩)] w fun e w'=>cB0 w g e w':=by
 go_enter Tryz.func146,Tryz.ntmps146;go_wp2_with fail;refine(gE g 12 _ hc (by omega) (by omega)).mono ?_;rintro e d ⟨⟨x,b,c,rfl⟩,a,hb1⟩;go_wp2;all_goals
  go_ret;refine⟨⟨_,?_,rfl⟩,a,hb1⟩;unfold gV;constructor<;>omega
def SomeW (w:World) (g:Nat) (e:Ending) (w':World):Prop:=(∃v:Vl,bT v=true∧iR v∧e=.returned (.agg #[.int .i64 v.k,.int .i64 v.i,.string v.t]))∧CaseAt w' g∧But (· = g) w w'
theorem bA6 (g:Nat)(k:Int)(w:World)(hc:CaseAt w g)(hk:k=3\/k=4\/k=5) :
 Calls Tryz.prog 89 #[.pointer (some ⟨g,0,none⟩),k] w fun e w'=>SomeW w g e w':=by
 have hlt:=hc.lt;have j:=hc.below ((aB _ _).alloc (aD _) (.cells zV 59));have i:=aT.new w 59 zV;have d:But (· = g) w (w.alloc (.cells zV 59)):=But.alloc _ _;rcases hk with rfl|rfl|rfl
 . go_enter Tryz.func89,Tryz.ntmps89;go_wp2_with fail;refine(gE g 2 _ j (by omega) (by omega)).mono ?_;rintro e n ⟨⟨x,q,r,rfl⟩,c,hb1⟩;have a:=i.but hb1 (by omega);have b:=a.cell;have l:=a.free;go_wp2;refine aF (v:=.agg #[(3:Int),x,zS]) (by simp[results,Tryz.results89,go_sem,b]) rfl ⟨⟨⟨3,x,⟨#[]⟩⟩,?_,⟨by unfold gV;simp;omega,by simp;omega⟩,rfl⟩,?_,?_⟩
   . have:x=0\/x=1:=(by omega);rcases this with rfl|rfl<;>decide +kernel
   . exact lY c a (by omega) _ _ _
   . exact(((d.trans hb1).setNew (p:=⟨w,0,none⟩) (by simp) _).setNew (p:=⟨w,1,none⟩) (by simp) _).setNew (p:=⟨w,2,none⟩) (by simp) _
 . go_enter Tryz.func89,Tryz.ntmps89;go_wp2_with fail;refine(xJ g _ j).mono ?_;rintro e n ⟨⟨x,m,rfl⟩,c,hb1⟩;have o:=Z m;clear m;have a:=i.but hb1 (by omega);have b:=a.cell;have l:=a.free;go_wp2;refine aF (v:=.agg #[(4:Int),x,zS]) (by simp[results,Tryz.results89,go_sem,b]) rfl ⟨⟨⟨4,x,⟨#[]⟩⟩,?_,o.out,rfl⟩,?_,?_⟩
   . simp[bT,ByteArray.toList_eq]
   . exact lY c a (by omega) _ _ _
   . exact(((d.trans hb1).setNew (p:=⟨w,0,none⟩) (by simp) _).setNew (p:=⟨w,1,none⟩) (by simp) _).setNew (p:=⟨w,2,none⟩) (by simp) _
 . go_enter Tryz.func89,Tryz.ntmps89;go_wp2_with fail;refine(aR0 g _ j).mono ?_;rintro e n ⟨⟨x,hx,rfl⟩,c,hb1⟩;have a:=i.but hb1 (by omega);have b:=a.cell;have l:=a.free;go_wp2;refine aF (v:=.agg #[(5:Int),zO,x]) (by simp[results,Tryz.results89,go_sem,b]) rfl ⟨⟨⟨5,0,x⟩,?_,⟨by unfold gV;simp,by simp⟩,rfl⟩,?_,?_⟩
   . simp[bT];omega
   . exact lY c a (by omega) _ _ _
   . exact(((d.trans hb1).setNew (p:=⟨w,0,none⟩) (by simp) _).setNew (p:=⟨w,1,none⟩) (by simp) _).setNew (p:=⟨w,2,none⟩) (by simp) _
theorem cA6 (g:Nat)(w:World)(hc:CaseAt w g) :
 Calls Tryz.prog 52 #[.pointer (some ⟨g,0,none⟩)] w fun e w'=>SomeW w g e w':=by
 have hlt:=hc.lt;have q:=hc.below ((aB _ _).alloc (aD _) (.cells zV 59));have o:=aT.new w 59 zV;have d:But (· = g) w (w.alloc (.cells zV 59)):=But.alloc _ _;go_enter Tryz.func52,Tryz.ntmps52;go_wp2_with fail;refine(gE g 5 _ q (by omega) (by omega)).mono ?_;rintro e y ⟨⟨x,s,u,rfl⟩,l,hb1⟩;have a:=o.but hb1 (by omega);have b:=a.cell;have j:=a.free;by_cases h3:1+x<3
 . go_wp2;refine aF (v:=.agg #[.int .i64 (1+x),zO,zS]) (by simp[results,Tryz.results52,go_sem,b]) rfl ⟨⟨⟨1+x,0,⟨#[]⟩⟩,?_,⟨by unfold gV;simp,by simp⟩,rfl⟩,?_,?_⟩
   . have:x=0\/x=1:=(by omega);rcases this with rfl|rfl<;>decide +kernel
   . exact lY l a (by omega) _ _ _
   . exact(((d.trans hb1).setNew (p:=⟨w,0,none⟩) (by simp) _).setNew (p:=⟨w,1,none⟩) (by simp) _).setNew (p:=⟨w,2,none⟩) (by simp) _
 . clear b j;go_wp2_with fail;refine(bA6 g (1+x) _ l (by omega)).mono ?_;rintro e z ⟨⟨v,hv,hr,rfl⟩,r,hb2⟩;have m:=Z hr;have n:=Z hv;clear hr hv;have c:=a.but hb2 (by omega);have b:=c.cell;have j:=c.free;go_wp2;refine aF (v:=.agg #[v.k,v.i,v.t]) (by simp[results,Tryz.results52,go_sem,b]) rfl ⟨⟨v,n.out,m.out,rfl⟩,?_,?_⟩
   . exact lY r c (by omega) _ _ _
   . exact((((d.trans hb1).trans hb2).setNew (p:=⟨w,0,none⟩) (by simp) _).setNew (p:=⟨w,1,none⟩) (by simp) _).setNew (p:=⟨w,2,none⟩) (by simp) _
end
end Go.Proofs.YtnnmlhmffnfjfaaGreat
