/- words become a command. -/
import Derived.WideKeyEntry
import Derived.Maps.OwnSet
import Derived.BigRegion
import Derived.Test.YtmddhediccmhbaaGreatDoorA09
set_option linter.all false
set_option maxHeartbeats 400000000
set_option maxRecDepth 100000
namespace Go.Proofs.YtmddhediccmhbaaGreatDoor
open Go.RowKit
open Tryz
open And renaming intro→VJ
open _root_.Array renaming toList_modify→YZ
open Lib renaming hid→VH
open List renaming length_append→VK
open List renaming length_cons→VM
open List renaming length_eq_zero_iff→XV
open List renaming mem_cons_self→V6
open List renaming take_of_length_le→V2
open MapKept renaming run_getObj_map→XH
open MapKept renaming run_setObj_map→XI
open Nat renaming le_refl→VN
open Nat renaming zero_le→VQ
open Option renaming getD→XE
open Option renaming isSome→Xq
open Result renaming andThen→Yz
open Tryz renaming prog→VI
variable {w w' U:World}{k n m g:Nat}{v u z v0 v2:Value}{e:Int}{s:ByteArray}{b:Bool}{t T:TypeId}{a:UInt8}{E:List Value}{O:Option Addr}{F:Array Value}{P:Program}
section
open Go.RowKit Go.Lib Go.Sort
open Lx(Bytes)
def mP(x y:Px.Fl):Int:=(x.1.toNat:Int)-y.1.toNat
theorem qz(x y:Px.Fl):ltOf mP x y=decide (x.1<y.1):=by unfold ltOf mP;rw[Bool.eq_iff_iff,decide_eq_true_eq,decide_eq_true_eq,Px.cX];omega
theorem Gy:SWO (ltOf mP)where
 irrefl x:=by rw[qz];simp
 trans x y z h1 h2:=by rw[qz]at*;simp only[decide_eq_true_eq,Px.cX]at*;omega
 ntrans x y z h1 h2:=by rw[qz]at*;simp only[decide_eq_false_iff_not,Px.cX]at*;omega
theorem GR(x y:Px.Fl)(w:World):Calls VI 100 #[.agg #[.int .u8 x.1.toNat,ah x.2],.agg #[.int .u8 y.1.toNat,ah y.2]] w fun e w'=>e=.returned (.int .i64 (mP x y))/\∃q i,w'=grow (w.drewN q) i:=by
 have c:(x.1.toNat:Int)<256:=by have :=x.1.toNat_lt;omega
 have f:(y.1.toNat:Int)<256:=by have :=y.1.toNat_lt;omega
 have d:0<=(x.1.toNat:Int):=by omega
 have h:0<=(y.1.toNat:Int):=by omega
 unfold mP;simp only[ah];generalize(x.1.toNat:Int)=a at c d⊢;generalize(y.1.toNat:Int)=b at f h⊢;go_enter func100,ntmps100;go_wp2_with fail;go_ret;exact⟨rfl,0,_,by rw[alloc_eq_grow,alloc_eq_grow,grow_grow];rfl⟩
theorem qY:∀(l:List Px.Fl)(i:Nat)(h:i<l.length),(bN l)[i*2]?=some (.int .u8 l[i].1.toNat)/\(bN l)[i*2+1]?=some (ah l[i].2)|x::l,0,_=>⟨rfl,rfl⟩|x::l,i+1,h=>by have :=qY l i (by simpa using h);have e:bN (x::l)=.int .u8 x.1.toNat::ah x.2::bN l:=rfl;rw[e,show(i+1)*2=i*2+2 by omega];simpa using this
theorem jS:∀l:List Px.Fl,(bN l).length=l.length*2|[]=>rfl|x::l=>by have e:bN (x::l)=fL x++bN l:=rfl;rw[e,VK,jS l,VM];show 2+_=_;omega
theorem zZ(l:List Px.Fl):flatK fL 2 l.toArray=(bN l).toArray:=by
 apply Array.ext;. simp[jS]
 ·intro t b f;have i:t<l.length*2:=by simpa using b
  have e:t/2<l.length:=by omega
  have d:=get_flatK fL 2 l.toArray t (by simpa using i);rw[getElem!_pos _ t b]at d;rw[d];have c:=qY l (t/2) e;have h:l.toArray[t/2]! =l[t/2]:=by rw[getElem!_pos _ _ (by simpa using e)];simp
  rw[h];have a:t%2=0∨t%2=1:=by omega
  apply Option.some.inj;rw[<-Array.getElem?_eq_getElem f,List.getElem?_toArray];rcases a with a|a;. have c1:=c.1;rw[show t/2*2=t by omega]at c1;rw[a,c1];rfl
  ·have c2:=c.2;rw[show t/2*2+1=t by omega]at c2;rw[a,c2];rfl
theorem As{e:Array Obj}{b:Nat×Nat}(a:Array Value)(c:w.heap[g]?=some (.cells F t b)):(grow (putRow id (Sort.ahead w k) g 0 a) e).heap[g]?=some (.cells (putCells id 0 a F) t b):=by have d:g<w.heap.size:=(Array.getElem?_eq_some_iff.1 c).1;rw[heap_grow_old _ _ (by simpa using d)];simp[putRow,mapBlock,Sort.ahead,Array.getElem?_modify,c,onCells]
theorem Al{c:Array Obj}(F:Array Value):w.grownBy (grow (putRow id (Sort.ahead w n) g 0 F) c) (some g):=by refine⟨rfl,rfl,rfl,by simp,fun k a b=>?_⟩;rw[heap_grow_old _ _ (by simpa using a)];have :g≠k:=fun e=>b (by rw[e]);simp[putRow,mapBlock,Sort.ahead,Array.getElem?_modify,this]
theorem En(a:Array Value)(F:List Value)(h:F.length<=a.size):(putCells id 0 F.toArray a).toList.take F.length=F:=by
 apply List.ext_getElem?;intro j;by_cases b:j<F.length;. rw[List.getElem?_take_of_lt b,Array.getElem?_toList];simp[putCells,b,show j<a.size by omega]
 ·rw[List.getElem?_take_eq_none (by omega),List.getElem?_eq_none (by omega)]
theorem JH{l:List Px.Fl}(b:w.heap[g]?=some (.cells F t (0,0)))(f:F.toList.take (l.length*2)=bN l):HoldsK fL 2 w g 0 l.toArray:=by
 unfold HoldsK;rw[zZ];intro j d;have c:j<l.length*2:=by rw[<-jS];simpa using d
 refine⟨?_,by simp[World.frozen?,b]⟩;have a:(F.toList.take (l.length*2))[j]?=(bN l)[j]?:=by rw[f]
 rw[List.getElem?_take_of_lt c]at a;simp only[World.cell?,b,Nat.zero_add];simp only[Option.isSome_none,Bool.false_eq_true,if_false];rw[<-Array.getElem?_toList,a];have e:j<(bN l).length:=by rw[jS];exact c
 simp[e]
theorem Se{B:Nat}{A:Option Addr}{a m:List Px.Fl}(r:w.ownsRow B 125 2 (.slice A a.length k) a.length (bN a))(t:a.Perm m)(N:Px.aH m)(M:a.length<4611686018427387904):Calls VI 99 #[.slice A a.length k,.func (.func 100) #[] #[]] w fun e d=>e=.returned (.tuple #[])/\d.ownsRow B 125 2 (.slice A m.length k) m.length (bN m)/\w.grownBy d (Value.slice A a.length k).ownBlock:=by
 have q:=t.length_eq;rcases r.2 with⟨e,F⟩|⟨g,P,D,e,J,f,Q,G,l,H⟩;. injection e with e1 e2 e3;subst e1 e3;obtain rfl:a=[]:=XV.1 F;obtain rfl:m=[]:=XV.1 (by rw[<-q];rfl);refine(show Calls VI 99 _ _ _ from AnyF.slices_SortFunc_none Tryz.D7 none 0 _ w).mono ?_;rintro e d⟨rfl,rfl⟩;exact⟨rfl,r,⟨rfl,rfl,rfl,VN _,fun _ _ _=>rfl⟩⟩
 ·injection e with e1 e2 e3;subst e1 e3;have E:∀args w,(callFunc 100 args).run VI w=.ok (.enter 100 args) w:=enters_of func100 (by kernel_rfl) rfl;have I:=JH f H;have o:=AnyQ.slices_SortFunc Tryz.D7 2 isAgg125 sizeOf125 fL (fun _=>rfl) (fun x v C=>by simp[fL]at C;rcases C with rfl|rfl<;>rfl) mP Gy 100 #[] g 0 k a.toArray w E (fun _ _ _ _ x y=>GR x y _) I (Array.getElem?_eq_some_iff.1 f).1 (by simpa using M);change Calls VI 99 _ _ _ at o;refine o.mono ?_;rintro e d⟨rfl,b,n,S,u,O,rfl⟩;have z:b.size=a.length:=by simpa using u.1
  have K:b.toList=m:=by
   refine Px.Sh ?_ N ?_;. have c:=u.2.2;simp only[Array.toList_extract,List.size_toArray]at c;refine List.Perm.trans ?_ t;rw[List.extract_eq_take_drop,List.extract_eq_take_drop]at c;simp only[List.drop_zero,Nat.sub_zero]at c;rwa[V2 (by simp[z]),V2 (VN _)]at c
   ·rw[List.pairwise_iff_getElem];intro i j p h L;have :=O i j (VQ _) L (by rw[List.size_toArray,<-z];simpa using h);rw[qz,decide_eq_false_iff_not]at this;simp at p h;rw[getElem!_pos b j h,getElem!_pos b i p]at this;simpa using this
  obtain rfl:b=m.toArray:=by rw[<-K]
  refine⟨rfl,?_,?_⟩;. unfold sortWorldK putRowK;rw[zZ];refine⟨by rw[jS],.inr ⟨g,k,_,rfl,J,As _ f,by omega,G,by simp[putCells,l],?_⟩⟩;rw[<-jS];exact En D _ (by rw[jS,l,<-q];omega)
  ·unfold sortWorldK putRowK;exact Al _
open Go.Maps Go.WideElems Go.ChangeShapes Go.WideShapes Go.MapKept Go.ChangeMaps
theorem It{H:Type}{e:TypeId}{D:DataW H}{R:Value->Option (DataW H×List MemPlace)}(K:Keyed P T)(y:P.underlying t=some (.map T e))(h:w.ownsMap P T R k n D)(Y:n<maxLen){key val:Value}{S:Lit}{d:DataW H}{ps:List MemPlace}(m:keyOf P T key=some S)(hv:R val=some (d,ps))(hz:∀u:World,(zeroValue e).run P u=.ok v u):∃(v0:Value)(U:Nat)(w1 w2:World),(Instr.mapEntry t (.map (some k)) key).run P w=.ok (.tuple #[v0,goInt U]) w1/\(Instr.entryStore t (.map (some k)) (goInt U) val).run P w1=.ok () w2/\w.grownBy w1 (some k)/\w1.heap.size=w.heap.size/\w2.ownsMap P T R k (n+1) (D.put S d)/\w.grownBy w2 (some k):=by
 obtain⟨V,C,O,L⟩:=h.update K y Y m hv;obtain⟨es,b,f,F,hs,rfl⟩:=h;have M:∀o,w.grownBy (setBlock w k o) (some k):=fun o=>⟨rfl,rfl,rfl,by simp[setBlock],fun i _ hi=>heap_setBlock_other f _ (fun e=>hi (by rw[e]))⟩;have Q:∀o,(setBlock w k o).heap.size=w.heap.size:=fun o=>by simp[setBlock]
 obtain⟨s1,s2,_⟩:=F.stamped;rcases K.find w m es.toList F.keys with⟨r,p⟩|⟨j,q,r,p,A⟩
 ·have I:(Instr.mapUpdate t (.map (some k)) key val).run P w=.ok () (setBlock w k (.map (es.push ⟨key,val,b⟩) (b+1))):=by simp[Instr.mapUpdate,run_underlying y,XH f,K.check w false m,r,XI _ f,Yz,setBlock]
  rw[I]at C;obtain rfl:setBlock w k (.map (es.push ⟨key,val,b⟩) (b+1))=V:=by injection C
  refine⟨v,b,setBlock w k (.map (es.push ⟨key,v,b⟩) (b+1)),_,?_,?_,M _,Q _,O,L⟩;. simp[Instr.mapEntry,run_underlying y,XH f,K.check w false m,r,hz,XI _ f,Yz,setBlock]
  ·have z:(setBlock w k (.map (es.push ⟨key,v,b⟩) (b+1))).heap[k]?=some (.map (es.push ⟨key,v,b⟩) (b+1)):=heap_setBlock_same f _;have E:(es.push ⟨key,v,b⟩).findIdx? (fun e=>((e.born:Nat):Int)==((b:Nat):Int))=some es.size:=by rw[findIdx_arr];refine findIdx_born (l:=(es.push ⟨key,v,b⟩).toList) (j:=es.size) (e0:=⟨key,v,b⟩) ?_ (by simp);simp only[Array.toList_push,List.map_append,List.map_cons,List.map_nil];refine List.nodup_append.2 ⟨s2,by simp,fun a W c X e1=>?_⟩;simp only[List.mem_singleton]at X;obtain⟨x,hx,rfl⟩:=List.mem_map.1 W;have :=s1 x hx;omega
   have G:(es.push ⟨key,v,b⟩).modify es.size (fun e=>{e with val:=val})=es.push ⟨key,val,b⟩:=by apply Array.ext';rw[YZ,Array.toList_push,Array.toList_push,<-Array.length_toList,modify_last]
   have J:setBlock (setBlock w k (.map (es.push ⟨key,v,b⟩) (b+1))) k (.map (es.push ⟨key,val,b⟩) (b+1))=setBlock w k (.map (es.push ⟨key,val,b⟩) (b+1)):=by simp[setBlock]
   simp only[Instr.entryStore,Sem.run_bind,XH z,Result.andThen_ok];simp[asInt,asIntOf,goInt,E,G,XI _ z,Yz];exact J
 ·have N:es[j]?=some q:=by simpa using p
  have Z:es.modify j (fun e=>{e with key:=key})=es:=by
   apply Array.ext';rw[YZ,modify_eq_set _ _ _ _ p];have :({q with key:=key}:MapEntry)=q:=by rw[<-A]
   rw[this];exact set_self _ _ _ p
  have I:(Instr.mapUpdate t (.map (some k)) key val).run P w=.ok () (setBlock w k (.map (es.modify j (fun l=>{l with key:=key,val:=val})) b)):=by simp[Instr.mapUpdate,run_underlying y,XH f,K.check w false m,r,N,A,K.stays w m,XI _ f,Yz,setBlock]
  rw[I]at C;obtain rfl:setBlock w k (.map (es.modify j (fun l=>{l with key:=key,val:=val})) b)=V:=by injection C
  refine⟨q.val,q.born,setBlock w k (.map es b),_,?_,?_,M _,Q _,O,L⟩;. simp[Instr.mapEntry,run_underlying y,XH f,K.check w false m,r,N,A,K.stays w m,Z,XI _ f,Yz,setBlock]
  ·have z:(setBlock w k (.map es b)).heap[k]?=some (.map es b):=heap_setBlock_same f _;have E:es.findIdx? (fun e=>((e.born:Nat):Int)==((q.born:Nat):Int))=some j:=by rw[findIdx_arr];exact findIdx_born s2 p
   have G:es.modify j (fun e=>{e with val:=val})=es.modify j (fun l=>{l with key:=key,val:=val}):=by apply Array.ext';rw[YZ,YZ,modify_eq_set _ _ _ _ p,modify_eq_set _ _ _ _ p,<-A]
   have J:setBlock (setBlock w k (.map es b)) k (.map (es.modify j (fun l=>{l with key:=key,val:=val})) b)=setBlock w k (.map (es.modify j (fun l=>{l with key:=key,val:=val})) b):=by simp[setBlock]
   simp only[Instr.entryStore,Sem.run_bind,XH z,Result.andThen_ok];simp[asInt,asIntOf,goInt,E,G,XI _ z,Yz];exact J
end
section
open Go.RowKit Go.Maps
open Lx(Bytes)
theorem A.law:Keyed VI 5:=int_keyed underlying5
theorem A.uD(c:UInt8):keyOf VI 5 (.int .u8 c.toNat)=some (Px.key c):=keyOf_int_mk underlying5 (by have :=c.toNat_lt;exact WalkArith.wf_u8 (by omega))
abbrev lB(w:World)(M:Nat)(m:List Px.Fl)(D:DataW Unit):Prop:=Px.dP VI 5 (plainElem (H:=Unit) VI 9) w M m D
abbrev eT(r:Px.Row):Array Value:=#[ah r.name,ah r.others,ah r.flags,.int .i64 r.few,.int .i64 r.ay]
theorem lB.still{m:List Px.Fl}{D:DataW Unit}(h:lB w k m D)(a:aa ab w w'):lB w' k m D:=Px.dP.kept h (a.block k h.lt id)
structure kq(w wr:World)(r:Px.Row)(R:Option (List Px.PW×List Px.Fl))(v:Value)(l:List Px.PW)(m:List Px.Fl)(D:DataW Unit):Prop where
 words:aU w v l
 spec:Px.aM r l.length l m=R
 map:lB wr (w.heap.size+1) m D
 row:ad wr w.heap.size 143 (eT r)
 turns:aa ab w wr
structure dn(w wr:World)(r:Px.Row)(R:Option (List Px.PW×List Px.Fl))(N:Nat)(t:Bytes)(v:Value)(l:List Px.PW)(m:List Px.Fl)(D:DataW Unit):Prop where
 words:aU w v l
 spec:(match Px.bD r t l m with|none=>none|some x=>Px.aM r x.1.length x.1 x.2)=R
 map:lB wr (w.heap.size+1) m D
 row:ad wr w.heap.size 143 (eT r)
 turns:aa ab w wr
 le:l.length<=N
 small:t.length<=maxLen
theorem dn.still{w c b:World}{r:Px.Row}{R:Option (List Px.PW×List Px.Fl)}{N:Nat}{t:Bytes}{v:Value}{l:List Px.PW}{m:List Px.Fl}{D:DataW Unit}(h:dn w c r R N t v l m D)(a:aa ab c b):dn w b r R N t v l m D:=⟨h.words,h.spec,h.map.still a,a.blk h.row id,h.turns.same a,h.le,h.small⟩
theorem kq.flag{r:Px.Row}{R:Option (List Px.PW×List Px.Fl)}{x:Px.PW}{l:List Px.PW}{m:List Px.Fl}{D:DataW Unit}(h:kq w w' r R v (x::l) m D)(d:Px.cE x=true)(b:¬x.text.tail=[45])(hw:aU w u l):dn w w' r R l.length x.text.tail u l m D:=by
 refine⟨hw,?_,h.map,h.row,h.turns,VN _,?_⟩;. have a:=h.spec;simp only[VM,Px.aM,d,if_true,b,if_false]at a;rw[<-a];cases c:Px.bD r x.text.tail l m with|none=>rfl|some y=>have e:=Px.rC (l':=y.1) (m':=y.2) c;exact Px.ug _ _ _ _ (VN _) e
 ·have :=h.words.small x V6;rw[List.length_tail];omega
theorem kq.dash{r:Px.Row}{R:Option (List Px.PW×List Px.Fl)}{x:Px.PW}{l:List Px.PW}{m:List Px.Fl}{D:DataW Unit}(h:kq w w' r R v (x::l) m D)(c:Px.cE x=true)(b:x.text.tail=[45]):some (l,m)=R:=by have a:=h.spec;simp only[VM,Px.aM,c,if_true,b]at a;exact a
theorem dn.done{r:Px.Row}{R:Option (List Px.PW×List Px.Fl)}{t:Bytes}{l:List Px.PW}{m:List Px.Fl}{D:DataW Unit}(h:dn w w' r R k t v l m D)(a:t=[]):kq w w' r R v l m D:=by subst a;exact⟨h.words,h.spec,h.map,h.row,h.turns⟩
theorem dn.none_{r:Px.Row}{R:Option (List Px.PW×List Px.Fl)}{t:Bytes}{l:List Px.PW}{m:List Px.Fl}{D:DataW Unit}(h:dn w w' r R k (a::t) v l m D)(c:Px.aJ r a=none):R=none:=by have b:=h.spec;simp only[Px.bD,c]at b;exact b.symm
theorem dn.Ku{r:Px.Row}{R:Option (List Px.PW×List Px.Fl)}{m:List Px.Fl}{D:DataW Unit}(h:dn w w' r R k [a] v [] m D)(c:Px.aJ r a=some true):R=none:=by have b:=h.spec;simp only[Px.bD,c]at b;exact b.symm
theorem dn.bare{r:Px.Row}{R:Option (List Px.PW×List Px.Fl)}{t:Bytes}{l:List Px.PW}{m:List Px.Fl}{D:DataW Unit}(h:dn w w' r R k (a::t) v l m D)(f:Px.aJ r a=some false)(i:U.ownsMap VI 5 (plainElem (H:=Unit) VI 9) (w.heap.size+1) (m.length+1) (D.put (Px.key a) (.lit (.string []))))(c:w'.grownBy U (some (w.heap.size+1))):dn w U r R k t v l (Px.bo (a,[]) m) (D.put (Px.key a) (.lit (.string []))):=by have d:=h.spec;simp only[Px.bD,f]at d;exact⟨h.words,d,Px.dP.put h.map A.law i,h.row.grown c (by simp),h.turns.grown c fun b j e=>by injection e with e;omega,h.le,by have :=h.small;rw[VM]at this;omega⟩
theorem dn.full{r:Px.Row}{R:Option (List Px.PW×List Px.Fl)}{u:Bytes}{l:List Px.PW}{m:List Px.Fl}{D:DataW Unit}(h:dn w w' r R k (a::u) v l m D)(f:Px.aJ r a=some true)(j:u≠[])(i:U.ownsMap VI 5 (plainElem (H:=Unit) VI 9) (w.heap.size+1) (m.length+1) (D.put (Px.key a) (.lit (.string u))))(c:w'.grownBy U (some (w.heap.size+1))):dn w U r R k [] v l (Px.bo (a,u) m) (D.put (Px.key a) (.lit (.string u))):=by have d:=h.spec;cases u with|nil=>exact absurd rfl j|cons n u=>simp only[Px.bD,f]at d;exact⟨h.words,d,Px.dP.put h.map A.law i,h.row.grown c (by simp),h.turns.grown c fun b o e=>by injection e with e;omega,h.le,VQ _⟩
theorem dn.next{r:Px.Row}{R:Option (List Px.PW×List Px.Fl)}{y:Px.PW}{l:List Px.PW}{m:List Px.Fl}{D:DataW Unit}(h:dn w w' r R k [a] v (y::l) m D)(f:Px.aJ r a=some true)(i:U.ownsMap VI 5 (plainElem (H:=Unit) VI 9) (w.heap.size+1) (m.length+1) (D.put (Px.key a) (.lit (.string y.text))))(c:w'.grownBy U (some (w.heap.size+1)))(hw:aU w u l):dn w U r R k [] u l (Px.bo (a,y.text) m) (D.put (Px.key a) (.lit (.string y.text))):=by have d:=h.spec;simp only[Px.bD,f]at d;exact⟨hw,d,Px.dP.put h.map A.law i,h.row.grown c (by simp),h.turns.grown c fun b j e=>by injection e with e;omega,by have :=h.le;rw[VM]at this;omega,VQ _⟩
theorem kq.plain{r:Px.Row}{R:Option (List Px.PW×List Px.Fl)}{x:Px.PW}{l:List Px.PW}{m:List Px.Fl}{D:DataW Unit}(h:kq w w' r R v (x::l) m D)(b:Px.cE x=false):some (x::l,m)=R:=by have a:=h.spec;simp only[VM,Px.aM,b]at a;exact a
theorem A.Uk(w:World):(zeroValue 9).run VI w=.ok (.string ⟨#[]⟩) w:=by kernel_rfl
theorem D5(h:0<s.size):sl s=s[0]::sl (s.extract 1 s.size):=by
 have a:0<(sl s).length:=by rw[aL];exact h
 have e:sl (s.extract 1 s.size)=(sl s).drop 1:=by simp[sl];exact V2 (by rw[List.length_tail];simp)
 rw[e];have :=List.drop_eq_getElem_cons a;rw[List.drop_zero]at this;rw[this];rfl
theorem pJ(h:s.size=0):sl s=[]:=XV.1 (by rw[<-h];exact aL s)
theorem A.J0:(VI.info? 125).map (fun i=>(i.zero,i.size,i.bytes))=some (some (.agg #[.int .u8 0,.string ⟨#[]⟩]),2,24):=by kernel_rfl
structure jd(w wr:World)(it:Nat)(m:List Px.Fl)(D:DataW Unit)(left:Lit->Bool)(cnt:Nat)(acc:List Px.Fl)(v:Value):Prop where
 iter:wr.ranges VI 5 (plainElem (H:=Unit) VI 9) (w.heap.size+1) it m.length D left cnt
 kE:Px.dB D m left acc
 own:wr.ownsRow (it+1) 125 2 v acc.length (bN acc)
 few:acc.length+cnt<=256
 turns:aa ab w wr
 low:w.heap.size+1<it
 size:it+1<=wr.heap.size
 agree:Px.cJ D m
 sorted:Px.aH m
structure sX(w wr:World)(it:Nat)(m:List Px.Fl)(D:DataW Unit)(left:Lit->Bool)(cnt:Nat)(acc acc':List Px.Fl)(v:Value):Prop where
 iter:wr.ranges VI 5 (plainElem (H:=Unit) VI 9) (w.heap.size+1) it m.length D left cnt
 kE:Px.dB D m left acc'
 own:wr.ownsRow (it+1) 125 2 v acc.length (bN acc)
 few:acc.length+1+cnt<=256
 turns:aa ab w wr
 low:w.heap.size+1<it
 size:it+1<=wr.heap.size
 agree:Px.cJ D m
 sorted:Px.aH m
theorem jd.start{w wc c:World}{m:List Px.Fl}{D:DataW Unit}(a:lB wc (w.heap.size+1) m D)(h:aa ab w wc)(f:c.ranges VI 5 (plainElem (H:=Unit) VI 9) (w.heap.size+1) wc.heap.size m.length D (Maps.has D) (Maps.size D))(d:wc.grownBy c none)(i:c.heap.size=wc.heap.size+1):jd w c wc.heap.size m D (Maps.has D) (Maps.size D) [] (.slice none 0 0):=by refine⟨f,Px.dB.start a.agree a.sorted,World.ownsRow_nil _ _ _ _,?_,h.grown d (fun b _ e=>by cases e),a.lt,by omega,a.agree,a.sorted⟩;have :=a.few;rw[a.size];simpa using this
def ou(w:World)(R:Option (List Px.PW×List Px.Fl))(e:Ending)(a:World):Prop:=aa ab w a/\match R with|none=>e=.returned (.tuple #[.slice none 0 0,.slice none 0 0,.bool false])|some (rest,m)=>∃b c,e=.returned (.tuple #[b,c,.bool true])/\a.ownsRow w.heap.size 125 2 b m.length (bN m)/\aU a c rest
theorem Tx(h:(Lit.int .u8 e).wf=true):0<=e/\e<=255:=by unfold Lit.wf at h;rw[Bool.and_eq_true,decide_eq_true_eq,decide_eq_true_eq]at h;exact⟨h.1,h.2⟩
theorem dX{B:Nat}{size:Nat}(h:w.ownsRow B t size v n E)(hB:k<=B):w.ownsRow k t size v n E:=by refine⟨h.1,h.2.imp id ?_⟩;rintro⟨g,a,b,c,d,rest⟩;exact⟨g,a,b,c,Nat.le_trans hB d,rest⟩
theorem jd.post{A:Option Addr}{a:List Px.Fl}{D:DataW Unit}{l:Lit->Bool}{c:List Px.Fl}{rest:List Px.PW}{s1:Value}(h:jd w w' k a D l m c (.slice A c.length n))(j:c.Perm a)(i:U.ownsRow (k+1) 125 2 (.slice A a.length n) a.length (bN a))(f:w'.grownBy U (Value.slice A c.length n).ownBlock)(hw:aU w s1 rest):ou w (some (rest,a)) (.returned (.tuple #[.slice A c.length n,s1,.bool true])) U:=by
 have d:aa ab w U:=h.turns.grown f fun b o e=>by have :=(h.own.lt b e).1;have :=h.low;omega
 refine⟨d,_,_,rfl,?_,hw.still d⟩;rw[j.length_eq];exact dX i (by have :=h.low;omega)
theorem jd.step{w n l:World}{d:Nat}{m:List Px.Fl}{D:DataW Unit}{f:Lit->Bool}{o j:Nat}{i:List Px.Fl}{v:Value}{a:UInt8}{c:ByteArray}(h:jd w n d m D f o i v)(r:f (.int .u8 a.toNat)=true)(u:∀z,D.atKey (.int .u8 a.toNat) z=.lit (.string c.data.toList))(t:l.ranges VI 5 (plainElem (H:=Unit) VI 9) (w.heap.size+1) d m.length D (fun z=>f z&&!z.sameKey (.int .u8 a.toNat)) j)(x:j<o)(k:n.grownBy l (some d)):sX w l d m D (fun z=>f z&&!z.sameKey (.int .u8 a.toNat)) j i (i++[(a,sl c)]) v:=by
 refine⟨t,h.kE.step h.agree h.sorted r u,?_,?_,h.turns.grown k fun b p e=>?_,h.low,?_,h.agree,h.sorted⟩;. exact((aa.refl (fun b=>b=d) n).grown k fun b p e=>by injection e with e;exact e.symm).own h.own fun g q e=>by have :=(h.own.lt g q).1;omega
 ·have :=h.few;omega
 ·injection e with e;have :=h.low;omega
 ·have :=h.size;have :=k.size;omega
theorem sX.push{m:List Px.Fl}{D:DataW Unit}{i:Lit->Bool}{c:List Px.Fl}{o:Obj}(h:sX w w' k m D i n c (c++[(a,sl s)]) v)(d:(w'.alloc o).grownBy U v.ownBlock)(r:U.ownsRow (k+1) 125 2 u (c.length+1) (bN c++[.int .u8 a.toNat,.string s])):jd w U k m D i n (c++[(a,sl s)]) u:=by
 have f:∀b,b<=k->some b≠v.ownBlock:=fun b p e=>by have :=(h.own.lt b e.symm).1;omega
 refine⟨(h.iter.alloc o).kept d (f _ (by have :=h.low;omega)) (f _ (VN _)),h.kE,?_,?_,(h.turns.alloc o).grown d fun b p e=>?_,h.low,?_,h.agree,h.sorted⟩
 ·have e:bN (c++[(a,sl s)])=bN c++[.int .u8 a.toNat,.string s]:=by simp[bN,fL,sl]
  rw[VK,e];exact r
 ·have :=h.few;rw[VK,List.length_singleton];omega
 ·have :=(h.own.lt b e).1;have :=h.low;omega
 ·have t:=h.size;have j:=d.size;simp[go_sem]at j;omega
theorem Jc(r:Px.Row)(a:List Px.PW):Px.aM r a.length a []=Px.flags r a:=Px.ug _ _ _ _ (VN _) (Nat.le_succ _)
theorem P4(r:Px.Row)(aA:r.flags.length<=1000)(v:Value)(M:List Px.PW)(hl:aU w v M):Calls VI 56 #[eH r,v] w (ou w (Px.flags r M)):=by
 have HL:=VH hl;have aY:=VH (fun(w:World)(c:UInt8)=>wQ w r c aA);clear hl aA;have HS:=VH (Jc r M);generalize Px.flags r M=R at HS⊢;have bf:= @run_makeMap VI;simp only[eH];go_enter func56,ntmps56;go_upto_block 0 with fail;clear bf;go_cut[1](fun s1 wx=>∃rest m D,R=some (rest,m)/\aU w s1 rest/\lB wx (w.heap.size+1) m D/\aa ab w wx)
 case first=>
  go_wp2_with fail;go_loopg[1]M.length(fun g v wr=>∃l m D,g=l.length/\kq w wr r R v l m D);case atStart=>exact⟨M,[],_,rfl,HL.out,HS.out,Px.dP.start (by have :=World.ownsMap_made (H:=Unit) (w.alloc (.cells (eT r) 143)) VI 5 (plainElem VI 9);rwa[show(w.alloc (.cells (eT r) 143)).heap.size=w.heap.size+1 by simp[go_sem]]at this),(ad.new w _ _).alloc _,((aa.refl _ w).alloc _).alloc _⟩
  case round=>
   obtain⟨l,m,D,rfl,i⟩:=hrel
   cases l with
   |nil=>obtain⟨A,c,rfl⟩:=i.words.nil;have a:=VH i;clear i;go_wp2_with fail;go_meet;exact⟨[],m,D,a.out.spec.symm,a.out.words,a.out.map,a.out.turns⟩
   |cons x l=>
    obtain⟨b,off,c,rfl,bt,bu,hb,x0,x1,x2,aQ⟩:=i.words.yU i.turns;simp only[ah]at x0;have a:=VH (VJ i aQ);clear i aQ;obtain⟨X,hX⟩:∃X:ByteArray,X=⟨x.text.toArray⟩:=⟨_,rfl⟩;have J:=VH (show sl X=x.text by rw[hX];rfl);rw[<-hX]at x0;clear hX
    cases S:x.block with
    |true=>
     rw[S]at x2;go_wp2_with fail;go_meet;have o:Px.cE x=false:=by simp[Px.cE,S]
     exact⟨x::l,m,D,(a.out.1.plain o).symm,a.out.1.words,a.out.1.map,a.out.1.turns⟩
    |false=>
     rw[S]at x2;have HB:=VH S;clear S;by_cases h1:1<X.size
     ·have a6:(1:Int)<(X.size:Int):=by omega
      have h0:0<X.size:=by omega
      have I:=VH (D5 h0);by_cases h2:(X[0].toNat:Int)=45
      ·have o:Px.cE x=true:=by
        rw[Px.cE,HB.out,<-J.out,I.out];have e:X[0]=45:=UInt8.toNat_inj.1 (by show X[0].toNat=45;omega);rw[e];have :1<(sl X).length:=by rw[aL];exact h1
        rw[I.out,VM]at this;simpa using this
       have H:=VH o;clear o;by_cases K:sl (X.extract 1 X.size)=[45]
       ·have ax:((X.extract 1 X.size).toList==[45])=true:=by rw[beq_iff_eq,aS];exact K
        have hd:=a.out.1.dash H.out (by rw[<-J.out,I.out];exact K);have HD:=VH hd;clear K hd;by_cases ag:c=0;. subst ag;obtain rfl:l=[]:=XV.1 (by omega);have hw:=a.out.2;rw[if_pos rfl]at hw;have P:=VH hw;clear hw;go_wp2_with fail;go_meet;exact⟨[],m,D,HD.out.symm,P.out,a.out.1.map,a.out.1.turns⟩
        ·have hw:=a.out.2;rw[if_neg ag]at hw;have P:=VH hw;clear hw;go_wp2_with fail;go_meet;exact⟨l,m,D,HD.out.symm,P.out,a.out.1.map,a.out.1.turns⟩
       ·have ax:((X.extract 1 X.size).toList==[45])=false:=by rw[beq_eq_false_iff_ne,aS];exact K
        have n:=a.out.1.flag H.out (by rw[<-J.out,I.out];exact K) a.out.2;rw[show x.text.tail=sl (X.extract 1 X.size)by rw[<-J.out,I.out];rfl]at n;have HI:=VH n;clear K n;go_upto_block 2 with fail;clear x0 x1 x2 ax;generalize(if c=0 then some (⟨b,off,none⟩:Addr)else some ⟨b,off+3,none⟩)=A1 at HI⊢;go_wp2_with fail;go_loopg[1,8](X.extract 1 X.size).size(fun g v t wr=>∃T F m1 G,t=.string T/\g=T.size/\dn w wr r R l.length (sl T) v F m1 G);case atStart=>exact⟨_,l,m,D,rfl,rfl,HI.out⟩
        case round=>
         obtain⟨T,F,m1,G,rfl,rfl,n⟩:=hrel;have aj:=VH n;by_cases hT:0<T.size
         ·have bb:T.toList.isEmpty=false:=by have :=aL T;rw[aS,List.isEmpty_eq_false_iff];intro e;rw[e]at this;simp at this;omega
          obtain⟨p0,p1,p2,p3,p4⟩:=ud n.row;simp only[ah]at p0 p1 p2;have hz:=n.row.lt;have ar:=n.map.lt;have ae:=VH (D5 hT);obtain⟨f,ba⟩:∃f,T[0]=f:=⟨_,rfl⟩;obtain⟨h,a_⟩:∃h,T.extract 1 T.size=h:=⟨_,rfl⟩;have bq:0<(T.size:Int):=by omega
          rw[ba,a_]at ae;clear n;go_wp2_with fail;refine(aY.out _ f).mono ?_;rintro e w1⟨rfl,Z⟩;have ak:=aj.out.still Z;rw[ae.out]at ak;have k:=VH ak;have br:T.size=h.size+1:=by have :=congrArg List.length ae.out;rwa[VM,aL,aL]at this
          clear p0 p1 p2 p3 p4 hz ar Z ak ae
          cases L:Px.aJ r f with
          |none=>have u:=VH L;clear L;simp only[Xq,XE];go_wp2_with fail;refine bodyPost_ret (results_tmp3 rfl _ _ _) rfl ?_;rw[k.out.none_ u.out];exact⟨k.out.turns,rfl⟩
          |some vb=>
           cases vb with
           |false=>
            have u:=VH L;clear L;simp only[Xq,XE];have C:=k.out.map.few;have q:m1.length<maxLen:=by simp only[maxLen];omega
            have d:=VH (VJ k.out.map.own (VJ q (VJ (A.uD f) (plainElem_string (H:=Unit) underlying9 (s:=⟨#[]⟩) (VQ _)))));clear C q;go_wp2_with(first|(at_mapUpdate;refine wpList_mapUpdate_own _ rfl _ _ _ 191 rfl 5 9 A.law underlying191 _ (w.heap.size+1) m1.length G rfl d.out.1 d.out.2.1 _ _ (Px.key f) rfl rfl d.out.2.2.1 _ [] d.out.2.2.2 ?_;intro w2 Y V;have z:=VH (VJ Y V);clear Y V));go_roundg h.size;case measure=>omega
            case rel=>exact⟨h,F,_,_,rfl,rfl,k.out.bare u.out z.out.1 z.out.2⟩
           |true=>
            have u:=VH L;clear L;simp only[Xq,XE];by_cases bp:0<h.size
            ·have bc:h.toList.isEmpty=false:=by have :=aL h;rw[aS,List.isEmpty_eq_false_iff];intro e;rw[e]at this;simp at this;omega
             have C:=k.out.map.few;have aN:=k.out.small;rw[VM,aL]at aN;have q:m1.length<maxLen:=by simp only[maxLen];omega
             have d:=VH (VJ k.out.map.own (VJ q (VJ (A.uD f) (plainElem_string (H:=Unit) underlying9 (s:=h) (by omega)))));clear C q aN;go_wp2_with(first|(at_mapUpdate;refine wpList_mapUpdate_own _ rfl _ _ _ 191 rfl 5 9 A.law underlying191 _ (w.heap.size+1) m1.length G rfl d.out.1 d.out.2.1 _ _ (Px.key f) rfl rfl d.out.2.2.1 _ [] d.out.2.2.2 ?_;intro w2 Y V;have z:=VH (VJ Y V);clear Y V));go_roundg 0;case measure=>omega
             case rel=>refine⟨⟨#[]⟩,F,_,_,rfl,rfl,k.out.full u.out ?_ z.out.1 z.out.2⟩;intro e;have :=aL h;rw[e]at this;simp at this;omega
            ·have bc:h.toList.isEmpty=true:=by rw[aS,pJ (by omega)];rfl
             have j:=k.out;rw[pJ (by omega:h.size=0)]at j
             cases F with
             |nil=>obtain⟨A4,c4,rfl⟩:=j.words.nil;have N:=VH j;clear j;go_wp2_with fail;refine bodyPost_ret (results_tmp3 rfl _ _ _) rfl ?_;rw[N.out.Ku u.out];exact⟨N.out.turns,rfl⟩
             |cons y l2=>
              obtain⟨b4,au,c4,rfl,bw,bx,bs,y0,y1,y2,aq⟩:=j.words.yU j.turns;obtain⟨A5,a7⟩:∃A5,(if c4=0 then some (⟨b4,au,none⟩:Addr)else some ⟨b4,au+3,none⟩)=A5:=⟨_,rfl⟩;rw[a7]at aq;have C:=j.map.few;have q:m1.length<maxLen:=by simp only[maxLen];omega
              obtain⟨v0,st,wA,wB,hE,Q,aD,bh,aI,aF⟩:=It (w:=w1.drew) A.law underlying191 (Px.dP.kept j.map rfl).own q (A.uD f) (plainElem_string (H:=Unit) underlying9 (s:=⟨y.text.toArray⟩) (by have :=j.words.small y V6;show y.text.toArray.size<=_;simpa using this)) A.Uk;have a':b4≠w.heap.size+1:=by omega
              have yA:wA.cell? ⟨b4,au,none⟩=some (ah y.text):=(aD.cell y0 (by simpa using a'));simp only[ah]at y0 yA;simp only[goInt]at hE Q;have N:=VH (VJ j aq);have HG:=VH (VJ aI aF);clear j aq y1 y2 aI aF aD bh C q;go_wp2_with fail;go_region;go_wp2_with fail;go_roundg h.size;case measure=>omega
              case rel=>
               have g:=HG.out.2;have hN:=N.out.1.next u.out HG.out.1 ⟨g.os,g.tape,g.output,g.size,g.block⟩ N.out.2;have a8:dn w wB r R l.length (sl h) (.slice A5 l2.length c4) l2 (Px.bo (f,y.text) m1) (G.put (Px.key f) (.lit (.string y.text))):=by rw[pJ (by omega:h.size=0)];exact hN
               exact⟨h,l2,_,_,rfl,rfl,a8⟩
         ·have bb:T.toList.isEmpty=true:=by rw[aS,pJ (by omega)];rfl
          clear n;go_wp2_with fail;go_roundg F.length;case measure=>have :=aj.out.le;rw[VM];omega
          case rel=>exact⟨F,m1,G,rfl,aj.out.done (pJ (by omega))⟩
      ·have bn:((X[0].toNat:Int)==45)=false:=by simpa using h2
       have o:Px.cE x=false:=by rw[Px.cE,<-J.out,I.out];have e:X[0]≠45:=fun e=>h2 (by rw[e];rfl);simp[e]
       have H:=VH o;clear o;go_wp2_with fail;go_meet;exact⟨x::l,m,D,(a.out.1.plain H.out).symm,a.out.1.words,a.out.1.map,a.out.1.turns⟩
     ·have a6:¬(1:Int)<(X.size:Int):=by omega
      have o:Px.cE x=false:=by
       have :¬1<(sl X).length:=by rw[aL];exact h1
       rw[Px.cE,<-J.out];simp[this]
      have H:=VH o;clear o;go_wp2_with fail;go_meet;exact⟨x::l,m,D,(a.out.1.plain H.out).symm,a.out.1.words,a.out.1.map,a.out.1.turns⟩
 case rest=>
  obtain⟨rest,m,D,rfl,hw,E,Z⟩:=hcut;have P:=VH hw;have z:=VH E;have HT:=VH Z;have aK:=E.own;have hM:=E.lt;obtain⟨i0,bd,bk,bl,ar⟩:=info_parts A.J0;clear hw E Z;go_wp2_with(first|(at_range;refine wpList_range_own _ rfl _ 191 rfl 5 9 A.law underlying191 _ (w.heap.size+1) m.length D rfl aK ?_;intro w0 aM aB ao;clear aK));go_frame;have Q:=jd.start z.out HT.out aM aB ao;generalize wc.heap.size=it at Q ao⊢;clear aM aB;have aV:=VH Q;clear Q ao hM;go_loopw[12](fun v wr=>∃aT aw p,jd w wr it m D aT aw p v)(fun _ wr=>wr.rangeLeft (w.heap.size+1) it);case atStart=>exact⟨_,_,_,aV.out⟩
  case round=>
   obtain⟨aT,aw,p,i⟩:=hrel;obtain⟨A0,a1,rfl⟩:=aE i.own;have a:=VH i;have ai:=i.iter;clear i;go_wp2_with(first|(at_next;refine wpList_next_ranges_is _ rfl _ rfl 5 9 .u8 A.law underlying5 underlying9 (w.heap.size+1) it m.length _ _ _ rfl ai ?_ ?_));. intro ag aG;have hp:=a.out.kE.perm a.out.sorted aG;have C:=a.out.few;have HP:=VH hp;have aO:=Se a.out.own hp a.out.sorted (by omega);have aW:=VH aO;clear hp aO aG ai ag C;go_wp2_with fail;refine aW.out.mono ?_;rintro e w'⟨rfl,W,U⟩;have d:=VH (VJ W U);clear W U;go_wp2_with fail;refine bodyPost_ret (results_tmp3 rfl _ _ _) rfl ?_;exact jd.post a.out HP.out d.out.1 d.out.2 P.out
   ·intro x c w1 aZ aR bj aH af an al aC bg bz;have bA:=Tx aR;obtain⟨f,rfl⟩:∃f:UInt8,x=(f.toNat:Int):=⟨UInt8.ofNat x.toNat,by rw[UInt8.toNat_ofNat'];omega⟩;have aP:=a.out.step aH af an al aC;have O:=VH aP;have av:=VH (VJ al (VJ ai an));clear ai aP aR bj aH af an al aC bg;have hO:=((aa.refl ab w1).alloc (.cells #[.int .u8 f.toNat,.string c] 125)).own O.out.own fun _ _=>id;have ay:=fC (size:=2) underlying50 (ad.new w1 125 #[.int .u8 f.toNat,.string c]) 1 1 rfl (by simp[Value.oneCell']);have hn:=O.out.few;have E:p.length+1<=maxLen:=by simp only[maxLen];omega
    have hy:((p.length+1)+(p.length+1+768)/4+512)*24<=281474976710656:=by omega
    have az:it+1<=(w1.alloc (.cells #[.int .u8 f.toNat,.string c] 125)).heap.size:=by have :=O.out.size;simp[go_sem];omega
    have d:=VH (VJ hO (VJ ay (VJ az (VJ E hy))));clear hO ay az E hy hn;go_wp2_with(first|(at_builtin;refine aX _ rfl (.tmp 105) (.tmp 109) _ _ rfl (it+1) 125 i0 _ 2 24 underlying50 bd bk bl ar rfl (.slice A0 p.length a1) p.length (bN p) rfl d.out.1 _ 1 _ rfl d.out.2.1 d.out.2.2.2.1 d.out.2.2.2.2 d.out.2.2.1 ?_;intro A1 bm w3 W U af;have HN:=VH (VJ U W);clear W U af));go_roundw;case rel=>exact⟨_,aZ,p++[(f,sl c)],O.out.push HN.out.1 HN.out.2⟩
    case measure=>have r3:=(O.out.push HN.out.1 HN.out.2).iter;rw[r3.left_eq,av.out.2.1.left_eq];exact av.out.1
end
section
open Lx(Bytes)
def E2:Value:=.agg #[.string ⟨#[]⟩,.slice none 0 0,.slice none 0 0,.int .i64 0]
abbrev sJ:Array Value:=#[.string ⟨#[]⟩,.slice none 0 0,.slice none 0 0,.int .i64 0]
theorem nr(w:World)(g:Nat)(v0 e v2 v3:Value)(h:ad w g 53 #[v0,e,v2,v3]):(loadVar 53 ⟨g,0,none⟩).run VI w=.ok (.agg #[v0,e,v2,v3]) w:=by have a:=h.cell 0;have b:=h.cell 1;have c:=h.cell 2;have d:=h.cell 3;clear h;simp at a b c d;simp[go_sem,a,b,c,d]
theorem r8{a0 a2 a3:Value}(h:ad w' w.heap.size t #[a0,v,a2,a3])(b:aa ab w w')(v0 a v2 v3:Value):ad ((((w'.setCell ⟨w.heap.size,0,none⟩ v0).setCell ⟨w.heap.size,1,none⟩ a).setCell ⟨w.heap.size,2,none⟩ v2).setCell ⟨w.heap.size,3,none⟩ v3) w.heap.size t #[v0,a,v2,v3]/\aa ab w ((((w'.setCell ⟨w.heap.size,0,none⟩ v0).setCell ⟨w.heap.size,1,none⟩ a).setCell ⟨w.heap.size,2,none⟩ v2).setCell ⟨w.heap.size,3,none⟩ v3):=⟨(((h.aj 0 v0).aj 1 a).aj 2 v2).aj 3 v3,(((b.setCell (.inr (VN _)) v0).setCell (.inr (VN _)) a).setCell (.inr (VN _)) v2).setCell (.inr (VN _)) v3⟩
theorem kM{v3:Value}(h:ad w k t #[v0,v,v2,v3]):w.cell? ⟨k,0,none⟩=some v0/\w.cell? ⟨k,1,none⟩=some v/\w.cell? ⟨k,2,none⟩=some v2/\w.cell? ⟨k,3,none⟩=some v3/\w.frozen? ⟨k,0,none⟩=false/\w.frozen? ⟨k,1,none⟩=false/\w.frozen? ⟨k,2,none⟩=false/\w.frozen? ⟨k,3,none⟩=false:=⟨h.cell 0,h.cell 1,h.cell 2,h.cell 3,h.frozen 0,h.frozen 1,h.frozen 2,h.frozen 3⟩
def FN(w:World)(R:Except Int Px.ag)(e:Ending)(b:World):Prop:=aa ab w b/\match R with|.error c=>e=.returned (.tuple #[E2,.int .i64 c])|.ok c=>∃a,e=.returned (.tuple #[a,.int .i64 0])/\pV b w.heap.size a c
theorem A.J6:(VI.info? 9).map (fun i=>(i.zero,i.size,i.bytes))=some (some (.string ⟨#[]⟩),1,16):=by kernel_rfl
structure kh(wc wr:World)(name:Bytes)(fv:Value)(line:Int)(rest:List Px.PW)(k:Nat)(av:Value):Prop where
 le:k<=rest.length
 blk:ad wr wc.heap.size 53 #[.string ⟨name.toArray⟩,fv,av,.int .i64 line]
 own:wr.ownsRow (wc.heap.size+1) 9 1 av k ((rest.take k).map fun x=>ah x.text)
 turns:aa ab wc wr
theorem kh.step{wc:World}{name:Bytes}{line:Int}{rest:List Px.PW}(h:kh wc w name v line rest k u)(a:k<rest.length)(m:s=⟨rest[k].text.toArray⟩)(d:aa ab w w')(j:w'.grownBy U u.ownBlock)(c:U.ownsRow (wc.heap.size+1) 9 1 z (k+1) (((rest.take k).map fun x=>ah x.text)++[.string s]))(i:ad U wc.heap.size 53 #[.string ⟨name.toArray⟩,v,u,.int .i64 line]):kh wc (U.setCell ⟨wc.heap.size,2,none⟩ z) name v line rest (k+1) z:=by
 have f:aa (af wc.heap.size) U (U.setCell ⟨wc.heap.size,2,none⟩ z):=(aa.refl (af wc.heap.size) U).setCell (p:=⟨wc.heap.size,2,none⟩) (.inl rfl) z;refine⟨a,i.aj 2 z,?_,?_⟩
 ·have e:((rest.take (k+1)).map fun x=>ah x.text)=((rest.take k).map fun x=>ah x.text)++[.string s]:=by rw[List.take_succ_eq_append_getElem a,List.map_append,m];rfl
  rw[e];refine f.own c fun g l e=>?_;have :=(c.lt g l).1;have n:g=wc.heap.size:=e;omega
 ·refine((h.turns.same d).grown j fun b o e=>?_).setCell (p:=⟨wc.heap.size,2,none⟩) (.inr (VN _)) z;have :=(h.own.lt b e).1;omega
theorem Ry{wr:World}{R:Nat}(v0 a v2 v3:Value):aa (af R) wr ((((wr.setCell ⟨R,0,none⟩ v0).setCell ⟨R,1,none⟩ a).setCell ⟨R,2,none⟩ v2).setCell ⟨R,3,none⟩ v3):=((((aa.refl (af R) wr).setCell (p:=⟨R,0,none⟩) (.inl rfl) v0).setCell (p:=⟨R,1,none⟩) (.inl rfl) a).setCell (p:=⟨R,2,none⟩) (.inl rfl) v2).setCell (p:=⟨R,3,none⟩) (.inl rfl) v3
theorem kh.cmd{wc:World}{r:Px.Row}{m:List Px.Fl}{d:Option Addr}{c6:Nat}{line:Int}{rest:List Px.PW}(h:kh wc w' r.name (.slice O m.length c6) line rest rest.length (.slice d rest.length k))(c:ad wc w.heap.size 53 sJ)(l:aa ab w wc)(f:wc.ownsRow w.heap.size 125 2 (.slice O m.length c6) m.length (bN m))(v0 j v2 v3:Value):pV ((((w'.setCell ⟨w.heap.size,0,none⟩ v0).setCell ⟨w.heap.size,1,none⟩ j).setCell ⟨w.heap.size,2,none⟩ v2).setCell ⟨w.heap.size,3,none⟩ v3) w.heap.size (.agg #[.string ⟨r.name.toArray⟩,.slice O m.length c6,.slice d rest.length k,.int .i64 line]) ⟨r.name,m,rest.map (·.text),line⟩:=by
 have i:=Ry (wr:=w') (R:=w.heap.size) v0 j v2 v3;refine⟨_,_,rfl,?_,?_⟩;. refine i.own (h.turns.own f fun _ _=>id) fun g a e=>?_;exact a_ f c (by decide) (by rw[a,e])
 ·have b:=h.own;rw[List.take_length]at b;rw[List.length_map,List.map_map];refine dX (i.own b fun g a e=>?_) (by have :=c.lt;omega);have o:=(b.lt g a).1;have p:=c.lt;have n:g=w.heap.size:=e;omega
theorem zR{r:Px.Row}:∀{n:Nat}{l:List Px.PW}{m:List Px.Fl}{a:List Px.PW}{b:List Px.Fl},Px.aM r n l m=some (a,b)->a.length<=l.length
|0,l,m,a,b,h=>by simp[Px.aM]at h;rw[h.1];exact VN _
|n+1,[],m,a,b,h=>by simp[Px.aM]at h;rw[h.1];exact VN _
|n+1,x::l,m,a,b,h=>by
  simp only[Px.aM]at h;split at h
  ·split at h;. simp at h;rw[<-h.1];simp
   ·split at h;. cases h
    ·rename_i e;have c:=zR h;have d:=Px.rC e;rw[VM];omega
  ·simp at h;rw[<-h.1];exact VN _
theorem Jd{r:Px.Row}{l:List Px.PW}{a:List Px.PW}{b:List Px.Fl}(h:Px.flags r l=some (a,b)):a.length<=l.length:=zR h
def qC(r:Px.Row)(line:Int):Option (List Px.PW×List Px.Fl)->Except Int Px.ag|none=>.error 9|some (rest,m)=>if(rest.length:Int)<r.few∨(0<=r.ay/\r.ay<rest.length)then .error 9 else .ok ⟨r.name,m,rest.map (·.text),line⟩
theorem Uc{x:Px.PW}{l:List Px.PW}(a:x.block=false)(b:Px.found x.text=none):Px.words (x::l)=.error 10:=by simp only[Px.words,a,b];rfl
def ox(w a:World)(R:Option (List Px.PW×List Px.Fl))(c d:Value)(b:Bool):Prop:=match R with|none=>b=false|some (rest,m)=>b=true/\a.ownsRow w.heap.size 125 2 c m.length (bN m)/\aU a d rest
theorem ox.bU{R:Option (List Px.PW×List Px.Fl)}(h:ox w' U R v u b)(c:w.heap.size<=w'.heap.size):ox w U R v u b:=by match R,h with|none,h=>exact h|some (rest,m),⟨a,h1,h2⟩=>exact⟨a,dX h1 c,h2⟩
theorem ou.TJ{R:Option (List Px.PW×List Px.Fl)}{e:Ending}(h:ou w R e w'):∃a c b,e=.returned (.tuple #[a,c,.bool b])/\aa ab w w'/\ox w w' R a c b:=by obtain⟨d,h⟩:=h;match R,h with|none,h=>exact⟨_,_,_,h,d,rfl⟩|some (rest,m),⟨a,c,f,h1,h2⟩=>exact⟨a,c,true,f,d,rfl,h1,h2⟩
theorem Ud{x:Px.PW}{l:List Px.PW}{r:Px.Row}(a:x.block=false)(b:Px.found x.text=some r):Px.words (x::l)=qC r x.line (Px.flags r l):=by simp only[Px.words,a,b,qC];cases Px.flags r l<;>rfl
theorem oV{s:Bytes}{r:Px.Row}:∀(t l:List Px.Row),(∀x∈l,x∈Px.table)->(∀x∈t,x∈Px.table)->Px.gr s t l=some r->r∈Px.table
|[],l,hl,_,h=>by match l,h with|[x],h=>simp[Px.gr]at h;exact h▸hl x V6
|x::t,l,hl,ht,h=>by
  simp only[Px.gr]at h;split at h;. injection h with h;exact h▸ht x V6
  ·refine oV t _ (fun y a=>?_) (fun y a=>ht y (List.mem_cons_of_mem _ a)) h;split at a
   ·rcases List.mem_append.1 a with a|a;. exact hl y a
    ·rw[List.mem_singleton.1 a];exact ht x V6
   ·exact hl y a
theorem Jk{s:Bytes}{r:Px.Row}(h:Px.found s=some r):r∈Px.table:=oV _ _ (fun _ a=>(List.not_mem_nil a).elim) (fun _ a=>a) h
theorem Jj{s:Bytes}{r:Px.Row}(h:Px.found s=some r):r.flags.length<=1000:=by have a:=List.all_eq_true.1 Px.CS r (Jk h);simp only[Bool.and_eq_true,decide_eq_true_eq]at a;omega
theorem Ub(an:b9 w)(v:Value)(l0:List Px.PW)(N:aU w v l0)(aP:l0.length<=10000000000):Calls VI 29 #[v] w (FN w (Px.words l0)):=by
 cases l0 with
 |nil=>obtain⟨A,c,rfl⟩:=N.nil;clear N an;go_enter func29,ntmps29;go_wp2_with fail;refine bodyPost_ret (results_cell_tmp results29 _ _ _ ⟨w.heap.size,0,none⟩ _ rfl (nr _ _ _ _ _ _ (ad.new w _ _))) rfl ?_;exact⟨(aa.refl _ w).alloc _,rfl⟩
 |cons x l=>
  obtain⟨b,off,c,rfl,aZ,a1,K,C,D,E,aF⟩:=N.cons;simp only[ah]at C;have HL:=VH (VJ N aF);have SP:=VH an;clear N aF an;obtain⟨X,hX⟩:∃X:ByteArray,X=⟨x.text.toArray⟩:=⟨_,rfl⟩;have HX:=VH (show sl X=x.text by rw[hX];rfl);rw[<-hX]at C;clear hX
  cases L:x.block with
  |true=>
   rw[L]at E;have he:Px.words (x::l)=.error 10:=by simp[Px.words,L]
   rw[he];clear he;go_enter func29,ntmps29;go_wp2_with fail;refine bodyPost_ret (results_cell_tmp results29 _ _ _ ⟨w.heap.size,0,none⟩ _ rfl (nr _ _ _ _ _ _ (ad.new w _ _))) rfl ?_;exact⟨(aa.refl _ w).alloc _,rfl⟩
  |false=>
   rw[L]at E;have HB:=VH L;clear L;go_enter func29,ntmps29;go_wp2_with fail;refine(uk (SP.out.still ((aa.refl _ _).alloc _)) X).mono ?_;rintro e w1⟨rfl,n⟩;have f:=n.blk (ad.new w 53 sJ) id;have J:=((aa.refl ab w).alloc (.cells sJ 53)).same n;have aq:=VH f;have ar:=VH J;have hz:=f.lt;obtain⟨O,P,Q,T,F,G,H,I⟩:=kM f;have C:=(J.cell (p:=⟨b,off,none⟩) K id).trans C;have aL:=VH D;have D:=(J.cell (p:=⟨b,off+1,none⟩) K id).trans D;have E:=(J.cell (p:=⟨b,off+2,none⟩) K id).trans E;clear n J f
   cases M:Px.found (sl X)with
   |none=>have ag:=VH M;clear M;simp only[mc,XE,Xq,xo,eH,ah];go_wp2_with fail;have S:=r8 aq.out ar.out (.string ⟨#[]⟩) (.slice none 0 0) (.slice none 0 0) (.int .i64 0);refine bodyPost_ret (results_cell_tmp results29 _ _ _ ⟨w.heap.size,0,none⟩ _ rfl (nr _ _ _ _ _ _ (S.1.alloc _))) rfl ?_;exact⟨S.2.alloc _,by rw[Uc HB.out (by rw[<-HX.out];exact ag.out)];rfl⟩
   |some r=>
    have ai:=VH (Ud (l:=l) HB.out (by rw[<-HX.out];exact M));have ag:=VH M;clear M;obtain⟨A5,aM⟩:∃A5,(if c=0 then some (⟨b,off,none⟩:Addr)else some ⟨b,off+3,none⟩)=A5:=⟨_,rfl⟩;have q:=HL.out.2;rw[aM]at q;have aA:r.flags.length<=1000:=Jj ag.out;have aI:=VH (fun(W:World)(h:aa ab w W)=>(P4 r aA _ l (q.still h)).mono fun e w' h=>ou.TJ h);clear q aA;simp only[mc,XE,Xq];simp only[eH,ah];go_upto_region 6 with fail;have Z:=VH (ar.out.alloc (.cells (eT r) 143));have aK:=VH (ad.new w1 143 (eT r));have aJ:=VH (aq.out.alloc (.cells (eT r) 143));go_cut[5,6,7](fun s5 s6 s7 z=>∃fv rv b,s5=.bool b/\s6=fv/\s7=rv/\aa ab w z/\ox w z (Px.flags r l) fv rv b/\ad z w1.heap.size 143 (eT r)/\ad z w.heap.size 53 sJ);case first=>clear C D E O P Q T F G H I hz;go_region_with(go_at_call 56;refine(aI.out _ (by first|exact Z.out.drewN 1|exact Z.out)).mono ?_;rintro e w3⟨fv,rv,bb,rfl,aD,aG⟩;have V:=VH (VJ aD aG);clear aD aG);all_goals go_wp2_with fail;go_meet;exact⟨fv,rv,bb,rfl,rfl,rfl,(Z.out.drewN 1).same V.out.1,V.out.2.bU (by have :=Z.out.size;exact this),V.out.1.blk aK.out id,V.out.1.blk aJ.out id⟩
    case rest=>
     obtain⟨s6,s7,bb,rfl,rfl,rfl,n,hv,af,f⟩:=hcut
     cases p:Px.flags r l with
     |none=>rw[p]at hv;have Y:=VH p;obtain rfl:bb=false:=hv;obtain⟨O,P,Q,T,F,G,H,I⟩:=kM f;have a:=VH (VJ f n);clear n f af p;go_wp2_with fail;have S:=r8 a.out.1 a.out.2 (.string ⟨#[]⟩) (.slice none 0 0) (.slice none 0 0) (.int .i64 0);refine bodyPost_ret (results_cell_tmp results29 _ _ _ ⟨w.heap.size,0,none⟩ _ rfl (nr _ _ _ _ _ _ S.1)) rfl ?_;exact⟨S.2,by rw[ai.out,Y.out];rfl⟩
     |some y=>
      obtain⟨rest,m⟩:=y;rw[p]at hv;have Y:=VH p;obtain⟨rfl,al,q⟩:=hv;obtain⟨A7,c7,e7,-⟩:=q.at_;subst e7;obtain⟨U,c6,rfl⟩:=aE al;obtain⟨q0,q1,q2,q3,q4⟩:=ud af;simp only[ah]at q0 q1 q2;have a6:(rest.length:Int)<=10000000000:=by have h1:=Jd p;simp only[VM]at aP;omega
      have a:=VH (VJ (VJ f n) (VJ af (VJ al q)));clear n f af p al q;go_upto_region 7 with fail;go_cut[60](fun aT z=>aT=.bool (decide ((rest.length:Int)<r.few∨(0<=r.ay/\r.ay<rest.length)))/\z=wc)
      case first=>
       by_cases h1:(rest.length:Int)<r.few;. go_wp2_with fail;go_meet;exact⟨by rw[decide_eq_true (.inl h1)],rfl⟩
       ·by_cases h2:0<=r.ay
        ·by_cases h3:r.ay<rest.length;. go_wp2_with fail;go_meet;exact⟨by rw[decide_eq_true (.inr ⟨h2,h3⟩)],rfl⟩
         ·go_wp2_with fail;go_meet;exact⟨by rw[decide_eq_false (by omega)],rfl⟩
        ·go_wp2_with fail;go_meet;exact⟨by rw[decide_eq_false (by omega)],rfl⟩
      case rest=>
       obtain⟨rfl,rfl⟩:=hcut;by_cases u:(rest.length:Int)<r.few∨(0<=r.ay/\r.ay<rest.length);. rw[decide_eq_true u];have HC:=VH u;obtain⟨O,P,Q,T,F,G,H,I⟩:=kM a.out.1.1;clear u q0 q1 q2 q3 q4;go_wp2_with fail;have S:=r8 a.out.1.1 a.out.1.2 (.string ⟨#[]⟩) (.slice none 0 0) (.slice none 0 0) (.int .i64 0);refine bodyPost_ret (results_cell_tmp results29 _ _ _ ⟨w.heap.size,0,none⟩ _ rfl (nr _ _ _ _ _ _ S.1)) rfl ?_;exact⟨S.2,by rw[ai.out,Y.out,qC,if_pos HC.out];rfl⟩
       ·rw[decide_eq_false u];have HC:=VH u;have D:=(a.out.1.2.cell (p:=⟨b,off+1,none⟩) K id).trans aL.out;have a_:b<wc.heap.size:=Nat.lt_of_lt_of_le K a.out.1.2.size;have a8:=a.out.2.1.lt;have a7:=a.out.1.1.lt;clear u q1 q2 q3 q4;go_wp2_with fail;go_region;have au:kh wc (wc.alloc (.cells #[.string ⟨r.name.toArray⟩,.slice U m.length c6,.slice none 0 0,.int .i64 x.line] 53)).drew r.name (.slice U m.length c6) x.line rest 0 (.slice none 0 0):=⟨VQ _,(ad.new wc _ _).drewN 1,World.ownsRow_nil _ _ _ _,((aa.refl _ _).alloc _).drewN 1⟩;have aH:=VH au;obtain⟨i0,aO,aQ,aR,aS⟩:=info_parts A.J6;clear au q0 O P Q T F G H I C D E;go_wp2_with fail;go_loopw[72](fun i wr=>∃(k:Nat)(av:Value),i=.int .i64 k/\kh wc wr r.name (.slice U m.length c6) x.line rest k av)(fun i _=>rest.length-(intOf i).toNat);case atStart=>exact⟨0,_,rfl,aH.out⟩
        case round=>
         obtain⟨k,av,rfl,d⟩:=hrel;obtain⟨A2,aj,rfl⟩:=aE d.own;have hk:=d.le;by_cases aB:k<rest.length
         ·obtain⟨bw,ow,rfl,ae,y0,y1,y2⟩:=a.out.2.2.2.cells k aB;have y0:=(d.turns.cell (p:=⟨bw,ow+k*3,none⟩) ae id).trans y0;have y1:=(d.turns.cell (p:=⟨bw,ow+k*3+1,none⟩) ae id).trans y1;have y2:=(d.turns.cell (p:=⟨bw,ow+k*3+2,none⟩) ae id).trans y2;have ba:bw<wr.heap.size:=Nat.lt_of_lt_of_le ae d.turns.size;have a':=d.blk.lt;obtain⟨d0,d1,d2,d3,g0,g1,g2,g3⟩:=kM d.blk;simp only[ah]at y0;obtain⟨j,ao⟩:∃j:ByteArray,j=⟨rest[k].text.toArray⟩:=⟨_,rfl⟩;rw[<-ao]at y0;have t:=VH (VJ d ao);have hO:=((aa.refl ab wr).alloc (.cells #[.string j,.int .i64 rest[k].line,.bool rest[k].block] 98)).alloc (.cells #[.string j] 9)|>.own d.own fun _ _=>id;have aw:=fC (size:=1) underlying51 (bP (w:=wr.alloc (.cells #[.string j,.int .i64 rest[k].line,.bool rest[k].block] 98)) (g:=wr.heap.size+1) (t:=9) (cs:=#[.string j]) (by simp[go_sem])) 1 1 rfl (by simp[Value.oneCell']);have hm:k+1<=maxLen:=by simp only[maxLen];omega
          have hy:((k+1)+(k+1+768)/4+512)*16<=281474976710656:=by omega
          have ax:wc.heap.size+1<=((wr.alloc (.cells #[.string j,.int .i64 rest[k].line,.bool rest[k].block] 98)).alloc (.cells #[.string j] 9)).heap.size:=by simp[go_sem];omega
          have az:=(d.blk.alloc (.cells #[.string j,.int .i64 rest[k].line,.bool rest[k].block] 98)).alloc (.cells #[.string j] 9);have aC:some wc.heap.size≠(Value.slice A2 k aj).ownBlock:=fun e=>by have :=(d.own.lt _ e.symm).1;omega
          have o:=VH (VJ (VJ hO (VJ aw (VJ ax (VJ hm hy)))) (VJ az aC));clear hO aw ax hm hy az aC d ao;go_wp2_with(first|(at_builtin;refine aX _ rfl (.tmp 77) (.tmp 80) _ _ rfl (wc.heap.size+1) 9 i0 _ 1 16 underlying51 aO aQ aR aS rfl (.slice A2 k aj) k _ rfl o.out.1.1 _ 1 _ rfl o.out.1.2.1 o.out.1.2.2.2.1 o.out.1.2.2.2.2 o.out.1.2.2.1 ?_;intro A3 aV w3 ho hg aN;have ak:=o.out.2.1.grown hg o.out.2.2;obtain⟨-,-,aW,-,-,-,aY,-⟩:=kM ak;have HN:=VH (VJ hg (VJ ho ak));clear ho hg aN ak));go_roundw;case rel=>exact⟨k+1,_,by go_num,t.out.1.step aB t.out.2 (((aa.refl ab wr).alloc _).alloc _) HN.out.1 HN.out.2.1 HN.out.2.2⟩
          case measure=>simp[intOf];omega
         ·obtain rfl:k=rest.length:=by omega
          obtain⟨d0,d1,d2,d3,-,-,-,-⟩:=kM d.blk;obtain⟨O,P,Q,T,F,G,H,I⟩:=kM (d.turns.blk a.out.1.1 id);have t:=VH d;clear d;go_wp2_with fail;have S:=r8 (t.out.turns.blk a.out.1.1 id) (a.out.1.2.same t.out.turns) (.string ⟨r.name.toArray⟩) (.slice U m.length c6) (.slice A2 rest.length aj) (.int .i64 x.line);refine bodyPost_ret (results_cell_tmp results29 _ _ _ ⟨w.heap.size,0,none⟩ _ rfl (nr _ _ _ _ _ _ S.1)) rfl ?_;exact⟨S.2,by rw[ai.out,Y.out,qC,if_neg HC.out];exact⟨_,rfl,kh.cmd t.out a.out.1.1 a.out.1.2 a.out.2.2.1 _ _ _ _⟩⟩
end
end Go.Proofs.YtmddhediccmhbaaGreatDoor
