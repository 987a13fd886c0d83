/- names, flags, conditions. -/
import Derived.Deep.LoopGhost
import Derived.Defers
import Derived.Recover
import Derived.Laws.Pointers
import Derived.StillTailTactics
import Derived.Deep.CutBlock
import Derived.Deep.DeepCutAuto
import Derived.Test.YtmddhediccmhbaaGreatDoorA02
import Derived.Test.YtmddhediccmhbaaGreatDoorA01
set_option linter.all false
set_option maxHeartbeats 400000000
set_option maxRecDepth 100000
namespace Go.Proofs.YtmddhediccmhbaaGreatDoor
open Go.RowKit
open Tryz
open And renaming intro→VJ
open Lib renaming hasPrefix→Xp
open Lib renaming hid→VH
open Lib renaming indexByte→Wo
open List renaming all_eq_true→Wj
open List renaming length_append→VK
open List renaming length_singleton→VY
open List renaming take_succ_eq_append_getElem→V4
open Nat renaming le_refl→VN
open Nat renaming zero_le→VQ
open Tryz renaming prog→VI
variable {w w' U:World}{k n m g:Nat}{v u z v0 v2:Value}{e r c:Int}{s x:ByteArray}{t:TypeId}{a:UInt8}{E:List Value}
section
open Lx(Bytes)
/-! a byte among the bytes of a constant -/
theorem oX(x c:UInt8)(l:Bytes):decide (0<=Wo (x::l) c)=(x==c||decide (0<=Wo l c)):=by
 have h:=Lib.indexByte_ge l c;simp only[Wo];by_cases e:x==c;. simp[e]
 ·simp only[e];by_cases a:Wo l c==-1;. simp only[a];have :=eq_of_beq a;simp[this]
  ·simp only[a];have :¬Wo l c=-1:=fun q=>a (by simp[q]);have b:0<=Wo l c:=by omega
   simp[b];omega
theorem Ay(c:UInt8):decide (0<=Wo [] c)=false:=by simp[Wo]
theorem Pn(b:UInt8)(r:Bytes):Lx.over (b::r)=decide (0<=Wo [32,9,10,59] b):=by rw[oX,oX,oX,oX,Ay];simp only[Lx.over,Bool.or_false,BEq.comm (a:=b)];simp only[Bool.or_assoc]
theorem Tj(b:UInt8):((b.toNat:Int)).toNat.toUInt8=b:=by simp
theorem oY(s:ByteArray)(l:Bytes)(c:s.data.toList=l)(b:UInt8)(w:World):Calls VI 90 #[.string s,.int .u8 b.toNat] w fun e w'=>e=.returned (.int .i64 (Wo l b))/\w=w':=(Tryz.strings_IndexByte s b.toNat w).mono fun e w'⟨a,hw⟩=>⟨by rw[a,Tj,c],hw.symm⟩
theorem ph{c:aG}{t:Bytes}(h:Ctx w c k v t):Calls VI 124 #[.pointer (some ⟨c.R,0,none⟩)] w fun e w'=>e=.returned (.bool (Lx.over ((sl c.s).drop k)))/\∃n,w'=w.drewN n:=by
 rcases hd:(sl c.s).drop k with _|⟨b,r⟩;. have a:=VH (l8 h hd);clear h hd;go_enter func124,ntmps124;go_wp2_with fail;refine a.out.mono ?_;rintro e d⟨rfl,n,rfl⟩;go_wp2_with fail;go_ret;exact⟨rfl,n,rfl⟩
 ·have a:=VH (jt h hd);have f:=VH (Pn b r);clear h hd;go_enter func124,ntmps124;go_wp2_with fail;refine a.out.mono ?_;rintro e d⟨rfl,n,rfl⟩;go_wp2_with fail;refine(oY _ _ rfl b _).mono ?_;rintro e d⟨rfl,rfl⟩;go_wp2_with fail;go_ret;refine⟨?_,n,rfl⟩;rw[f.out];rfl
open Lx(Bytes)
abbrev BN:ByteArray:=⟨#[97,98,99,100,101,102,103,104,105,106,107,108,109,110,111,112,113,114,115,116,117,118,119,120,121,122,65,66,67,68,69,70,71,72,73,74,75,76,77,78,79,80,81,82,83,84,85,86,87,88,89,90,95]⟩
theorem Nn:∀n:Fin 256,Lx.letter (UInt8.ofNat n)=decide (0<=Wo BN.data.toList (UInt8.ofNat n)):=by decide+kernel
theorem BM(b:UInt8):Lx.letter b=decide (0<=Wo BN.data.toList b):=by have :=Nn ⟨b.toNat,b.toNat_lt⟩;simpa using this
theorem JJ(b:Lx.letter a=true)(w:World):Calls VI 90 #[.string ⟨#[97,98,99,100,101,102,103,104,105,106,107,108,109,110,111,112,113,114,115,116,117,118,119,120,121,122,65,66,67,68,69,70,71,72,73,74,75,76,77,78,79,80,81,82,83,84,85,86,87,88,89,90,95]⟩,.int .u8 a.toNat] w fun e w'=>∃q:Int,0<=q/\e=.returned (.int .i64 q)/\w=w':=by rw[BM]at b;exact(oY _ _ rfl a w).mono fun e w'⟨c,hw⟩=>⟨_,of_decide_eq_true b,c,hw⟩
theorem JK(b:Lx.letter a=false)(w:World):Calls VI 90 #[.string ⟨#[97,98,99,100,101,102,103,104,105,106,107,108,109,110,111,112,113,114,115,116,117,118,119,120,121,122,65,66,67,68,69,70,71,72,73,74,75,76,77,78,79,80,81,82,83,84,85,86,87,88,89,90,95]⟩,.int .u8 a.toNat] w fun e w'=>∃q:Int,q<0/\e=.returned (.int .i64 q)/\w=w':=by rw[BM]at b;exact(oY _ _ rfl a w).mono fun e w'⟨c,hw⟩=>⟨_,Int.not_le.1 (of_decide_eq_false b),c,hw⟩
def scan(first:Bool)(l:Bytes):Bytes×Bytes:=if first then Lx.name l else Lx.more l
theorem Of(l:Bytes):(Lx.more l).1++(Lx.more l).2=l:=by induction l with|nil=>rfl|cons b r a=>simp only[Lx.more];split<;>simp[a]
theorem Cy(l:Bytes):(Lx.name l).1++(Lx.name l).2=l:=by cases l with|nil=>rfl|cons b r=>simp only[Lx.name];split<;>simp[Of]
theorem Rr(f:Bool):(scan f []).2=[]:=by cases f<;>rfl
theorem Rq{f:Bool}{r:Bytes}(b:Lx.letter a=true):(scan f (a::r)).2=(scan false r).2:=by cases f<;>simp[scan,Lx.name,Lx.more,b]
theorem Ro{r:Bytes}(b:Lx.digit a=true):(scan false (a::r)).2=(scan false r).2:=by simp[scan,Lx.more,b]
theorem Rp{r:Bytes}(b:Lx.letter a=false):(scan true (a::r)).2=a::r:=by simp[scan,Lx.name,b]
theorem DV{r:Bytes}(b:Lx.letter a=false)(c:Lx.digit a=false):(scan false (a::r)).2=a::r:=by simp[scan,Lx.more,b,c]
theorem Hu(b:UInt8):Lx.digit b=(decide (48<=(b.toNat:Int))&&decide ((b.toNat:Int)<=57)):=by simp only[Lx.digit];rw[Bool.eq_iff_iff];simp[UInt8.le_iff_toNat_le];omega
def xM(l:Bytes)(b ok:Value):Prop:=match l with|[]=>b=.int .u8 0/\ok=.bool false|x::_=>b=.int .u8 x.toNat/\ok=.bool true
theorem rU{c:aG}{t:Bytes}(h:Ctx w c k v t):Calls VI 87 #[.pointer (some ⟨c.R,0,none⟩)] w fun e w'=>∃b ok,xM ((sl c.s).drop k) b ok/\e=.returned (.tuple #[b,ok])/\∃n,w'=w.drewN n:=by
 rcases hd:(sl c.s).drop k with _|⟨b,r⟩;. exact(l8 h hd).mono fun e w'⟨a,d⟩=>⟨_,_,⟨rfl,rfl⟩,a,d⟩
 ·exact(jt h hd).mono fun e w'⟨a,d⟩=>⟨_,_,⟨rfl,rfl⟩,a,d⟩
def lD(w:World)(c:aG)(k:Nat)(a:Value)(t:Bytes)(j:Nat)(b:World):Prop:=k<=j/\Step w c a j t b a/\(Lx.name ((sl c.s).drop k)).2=(scan (decide (j=k)) ((sl c.s).drop j)).2
def xH(w:World)(c:aG)(k:Nat)(b:Value)(t:Bytes)(u:ByteArray)(a:Nat)(d:World):Prop:=sl u=(Lx.name ((sl c.s).drop k)).1/\(sl c.s).drop a=(Lx.name ((sl c.s).drop k)).2/\k<=a/\Step w c b a t d b
theorem rI{c:aG}{t:Bytes}(h:lD w c k v t n w')(i:(scan (decide (n=k)) ((sl c.s).drop n)).2=(sl c.s).drop n):xH w c k v t (c.s.extract k n) n w':=by
 obtain⟨f,j,a⟩:=h;rw[i]at a;refine⟨?_,a.symm,f,j⟩;have b:=Cy ((sl c.s).drop k);rw[a]at b;have d:(sl c.s).drop k=((sl c.s).drop k).take (n-k)++(sl c.s).drop n:=by have :=List.take_append_drop (n-k) ((sl c.s).drop k);rw[List.drop_drop,show k+(n-k)=n from by omega]at this;exact this.symm
 have e:(Lx.name ((sl c.s).drop k)).1=((sl c.s).drop k).take (n-k):=List.append_cancel_right (b.trans d);rw[e];simp[sl,ByteArray.data_extract,List.extract_eq_take_drop]
def Fs(w:World)(c:aG)(k:Nat)(a:Value)(t:Bytes)(g:Nat)(b ok:Value)(d:World):Prop:=∃j,c.s.size-j=g/\xM ((sl c.s).drop j) b ok/\lD w c k a t j d
theorem lD.drewN{w:World}{c:aG}{k:Nat}{a:Value}{t:Bytes}{j:Nat}{b:World}(h:lD w c k a t j b)(n:Nat):lD w c k a t j (b.drewN n):=⟨h.1,h.2.1.drewN n,h.2.2⟩
theorem Cw{c:aG}{t:Bytes}(h:lD w c k v t n w'){r:Bytes}(b:(sl c.s).drop n=a::r)(j:(scan (decide (n=k)) (a::r)).2=(scan false r).2)(e:¬a=10)(f:U=w'.setCell ⟨c.R,2,none⟩ (.int .i64 (n+1))):lD w c k v t (n+1) U:=by obtain⟨l,d,i⟩:=h;subst f;refine⟨by omega,d.trans (d.ctx.at_ (n+1) (by have :=cy b;omega) (by rw[np b,if_neg e];rfl)),?_⟩;rw[i,b,j,show decide (n+1=k)=false from by simp;omega,(dw b).2]
theorem Cv{c:aG}{t:Bytes}(h:Ctx w c k v t):Calls VI 140 #[.pointer (some ⟨c.R,0,none⟩)] w fun e w'=>∃u k',e=.returned (.string u)/\xH w c k v t u k' w':=by
 have L:=h.c2;have o:=VH (rU h);have H:=VH h;clear h;go_enter func140,ntmps140;go_wp2_with fail;refine o.out.mono ?_;rintro e z⟨b,ok,i,rfl,n,rfl⟩;clear o;have i:=VH i;go_wp2_with fail;go_loopg[4,5](c.s.size-k)(fun g b ok wr=>Fs w c k v t g b ok wr);case atStart=>exact⟨k,rfl,i.out,VN _,(Step.refl H.out).drewN n,by simp[scan]⟩
 case round=>
  clear i L;obtain⟨j,m,I,hrel⟩:=hrel;have E:=hrel.2.1;have L:=E.ctx.c2;have N:=E.ctx.f 2;have O:=E.ctx.c0;have S:=E.ctx.le;have V:=E.ctx.size;have Q:=hrel.1;have A:=VH (VJ m hrel);clear E hrel m;rcases hd:(sl c.s).drop j with _|⟨x,r⟩;. rw[hd]at I;obtain⟨rfl,rfl⟩:=I;have p:=VH hd;clear hd;go_wp2_with fail;go_quiet(fail);go_wp2_with fail;go_ret;exact⟨_,j,rfl,rI (A.out.2.drewN _) (by rw[p.out,Rr])⟩
  ·rw[hd]at I;obtain⟨rfl,rfl⟩:=I;have p:=VH hd;have T:=cy hd;clear hd;by_cases d:Lx.letter x=true
   ·have l:=fun w=>JJ d w;have a:=VH d;clear d;go_wp2_with fail;refine(l _).mono ?_;rintro e z⟨q,J,rfl,rfl⟩;clear l;go_wp2_with fail;obtain⟨m,hrel⟩:=A.out;have y:=Cw hrel p.out (by rw[Rq a.out]) (by intro e;subst e;have :=a.out;simp[Lx.letter]at this) rfl;have o:=VH (rU y.2.1.ctx);have G:=VH (VJ m y);clear m hrel y;refine o.out.mono ?_;rintro e z⟨b,ok,i,rfl,n,rfl⟩;clear o;have i:=VH i;go_wp2_with fail;go_roundg(c.s.size-(j+1));case measure=>have :=G.out.1;omega
    case rel=>exact⟨j+1,rfl,i.out,G.out.2.drewN n⟩
   ·have d:Lx.letter x=false:=by simpa using d
    have l:=fun w=>JK d w;by_cases D:j=k
    ·have a:=VH (VJ d D);have U:¬((k:Int)<(j:Int)):=by omega
     clear d D;go_wp2_with fail;refine(l _).mono ?_;rintro e z⟨q,J,rfl,rfl⟩;clear l;go_wp2_with fail;go_quiet(fail);go_wp2_with fail;go_ret;exact⟨_,j,rfl,rI (A.out.2.drewN _) (by rw[p.out,a.out.2,decide_eq_true rfl,Rp a.out.1])⟩
    ·have P:(k:Int)<(j:Int):=by omega
     have C:decide (j=k)=false:=by simp[D]
     have F:=Hu x;by_cases K:48<=(x.toNat:Int)
     ·by_cases M:(x.toNat:Int)<=57
      ·have a:=VH (VJ d (VJ C (show Lx.digit x=true from by rw[F];simp[K,M])));clear d C F D;go_wp2_with fail;refine(l _).mono ?_;rintro e z⟨q,J,rfl,rfl⟩;clear l;go_wp2_with fail;obtain⟨m,hrel⟩:=A.out;have y:=Cw hrel p.out (by rw[a.out.2.1];exact Ro a.out.2.2) (by intro e;subst e;simp at K) rfl;have o:=VH (rU y.2.1.ctx);have G:=VH (VJ m y);clear m hrel y;refine o.out.mono ?_;rintro e z⟨b,ok,i,rfl,n,rfl⟩;clear o;have i:=VH i;go_wp2_with fail;go_roundg(c.s.size-(j+1));case measure=>have :=G.out.1;omega
       case rel=>exact⟨j+1,rfl,i.out,G.out.2.drewN n⟩
      ·have a:=VH (VJ d (VJ C (show Lx.digit x=false from by rw[F];simp[M])));clear d C F D;go_wp2_with fail;refine(l _).mono ?_;rintro e z⟨q,J,rfl,rfl⟩;clear l;go_wp2_with fail;go_quiet(fail);go_wp2_with fail;go_ret;exact⟨_,j,rfl,rI (A.out.2.drewN _) (by rw[p.out,a.out.2.1,DV a.out.1 a.out.2.2])⟩
     ·have a:=VH (VJ d (VJ C (show Lx.digit x=false from by rw[F];simp[K])));clear d C F D;go_wp2_with fail;refine(l _).mono ?_;rintro e z⟨q,J,rfl,rfl⟩;clear l;go_wp2_with fail;go_quiet(fail);go_wp2_with fail;go_ret;exact⟨_,j,rfl,rI (A.out.2.drewN _) (by rw[p.out,a.out.2.1,DV a.out.1 a.out.2.2])⟩
open Lx(Bytes)
theorem Ctx.sq{c:aG}{t:Bytes}(h:Ctx w c k v t)(a:aa ab w w'):Step w c v k t w' v:=⟨⟨a.blk h.blk id,h.hB,h.size,h.le,a.own h.own fun _ _=>id,h.long,h.env.aC fun p hp=>a.cell (by have :=h.hB;have :=h.dx;omega) id⟩,a.mono fun _ _ e=>e.elim,fun _ b=>.inl b⟩
def tg(w:World)(es:List (ByteArray×ByteArray))(a:ByteArray)(i:Nat)(v:Value)(b:World):Prop:=∃u:ByteArray,v=.string u/\sl u=Lx.value (aB (es.take i)) (sl a)/\u.size<=ix/\aa ab w b
def FL(w:World)(es:List (ByteArray×ByteArray))(a:ByteArray)(v i:Value)(b:World):Prop:=∃n:Nat,i=.int .i64 n/\n<=es.length/\tg w es a n v b
theorem Iu{B:Nat}{ev:Value}{es:List (ByteArray×ByteArray)}(h:eh w B ev es):∃A a,ev=.slice A es.length a/\∀i,(hi:i<es.length)->∃b off,A=some ⟨b,off,none⟩/\b<B/\w.cell? ⟨b,off+i*2,none⟩=some (.string es[i].1)/\w.cell? ⟨b,off+i*2+1,none⟩=some (.string es[i].2):=by obtain⟨⟨A,a,f,e⟩,_,_⟩:=h;refine⟨A,a,f,fun i hi=>?_⟩;obtain⟨b,off,c,d,j⟩:=e (by omega);exact⟨b,off,c,d,j i hi⟩
theorem TO{es:List (ByteArray×ByteArray)}{nm:ByteArray}(h:k<es.length)(a:sl es[k].1=sl nm):Lx.value (aB (es.take (k+1))) (sl nm)=sl es[k].2:=by rw[V4 h];unfold aB Lx.value;rw[List.map_append,List.foldl_append];simp only[List.map_cons,List.map_nil,List.foldl_cons,List.foldl_nil,a,if_true]
theorem TM{es:List (ByteArray×ByteArray)}{nm:ByteArray}(h:k<es.length)(a:¬sl es[k].1=sl nm):Lx.value (aB (es.take (k+1))) (sl nm)=Lx.value (aB (es.take k)) (sl nm):=by rw[V4 h];unfold aB Lx.value;rw[List.map_append,List.foldl_append];simp only[List.map_cons,List.map_nil,List.foldl_cons,List.foldl_nil,a,if_false]
theorem ka(h:sl s=sl x):s=x:=ByteArray.ext (Array.toList_inj.1 h)
theorem mh(a:ByteArray):a.toList=sl a:=Lib.toList_data a
theorem SM(h:¬s=x):(s.toList==x.toList)=false:=by rw[beq_eq_false_iff_ne,mh,mh];exact fun e=>h (ka e)
theorem pR{c:aG}{t:Bytes}(h:Ctx w c k u t)(d:ByteArray):Calls VI 128 #[.pointer (some ⟨c.R,0,none⟩),.string d] w fun e w'=>∃v,e=.returned v/\tg w c.es d c.es.length v w':=by
 have x:=h.c1;have K:=h.env.few;have L:=VH h.env.small;unfold maxLen at K;obtain⟨A,M,z,y⟩:=Iu h.env;rw[z]at x;have H:=VH h;have F:=VH y;clear h y z;go_enter func128,ntmps128;go_wp2_with fail;go_loopw[5,13](fun v i wr=>FL w c.es d v i wr)(fun _ i _=>c.es.length-(intOf i).toNat);case atStart=>exact⟨0,rfl,VQ _,⟨#[]⟩,rfl,rfl,VQ _,aa.refl _ _⟩
 case round=>
  clear x;obtain⟨n,rfl,N,E,rfl,o,m,a⟩:=hrel;have f:=VH (VJ o (VJ m a));clear o m;by_cases l:n<c.es.length
  ·obtain⟨b,off,G,I,p,q⟩:=F.out n l;subst G;have hB:c.B<=w.heap.size:=by have :=H.out.hB;have :=H.out.dx;omega
   have p:=(a.cell (p:=⟨b,off+n*2,none⟩) (show b<_ by omega) id).trans p;have q:=(a.cell (p:=⟨b,off+n*2+1,none⟩) (show b<_ by omega) id).trans q;have r:=VH (TO (nm:=d) l);have C:=VH (TM (nm:=d) l);have D:=VH (L.out _ (List.getElem_mem l)).2;generalize c.es[n].1=key at p r C;generalize c.es[n].2=val at q r D;clear a;by_cases j:key=d
   ·subst j;go_wp2_with fail;go_roundw;case rel=>exact⟨n+1,by go_num,by omega,val,rfl,(r.out rfl).symm,D.out,f.out.2.2.alloc _⟩
    case measure=>simp[intOf];omega
   ·have I:(key.toList==d.toList)=false:=SM j;have J:=VH j;clear j;go_wp2_with fail;go_roundw;case rel=>exact⟨n+1,by go_num,by omega,E,rfl,f.out.1.trans (C.out fun e=>J.out (ka e)).symm,f.out.2.1,f.out.2.2.alloc _⟩
    case measure=>simp[intOf];omega
  ·clear a;go_wp2_with fail;go_ret;obtain⟨o,m,a⟩:=f.out;obtain rfl:n=c.es.length:=by omega
   exact⟨_,rfl,E,rfl,o,m,a⟩
end
section
open Lx(Bytes)
theorem results_cell_tmp{b:Func}{p d:Tmp}(h:b.results=#[.cell p t,.tmp d])(tmps:Array Value)(P:Program)(w:World)(a:Addr)(v:Value)(c:tmps.getD p undef=.pointer (some a))(e:(loadVar t a).run P w=.ok v w):(results b tmps).run P w=.ok (.tuple #[v,tmps.getD d undef]) w:=by simp only[results,h];simp only[Array.getD_eq_getD_getElem?]at c;simp[c,asAddr,e]
theorem nu(w:World)(g:Nat)(v0 f v2 v3 v4:Value)(h:ad w g 143 #[v0,f,v2,v3,v4]):(loadVar 143 ⟨g,0,none⟩).run VI w=.ok (.agg #[v0,f,v2,v3,v4]) w:=by have a:=h.cell 0;have b:=h.cell 1;have c:=h.cell 2;have d:=h.cell 3;have e:=h.cell 4;clear h;simp at a b c d e;simp[go_sem,a,b,c,d,e]
theorem nR{a0 a2 a3 a4:Value}(h:ad w' w.heap.size t #[a0,v,a2,a3,a4])(b:aa ab w w')(v0 a v2 v3 v4:Value):ad (((((w'.setCell ⟨w.heap.size,0,none⟩ v0).setCell ⟨w.heap.size,1,none⟩ a).setCell ⟨w.heap.size,2,none⟩ v2).setCell ⟨w.heap.size,3,none⟩ v3).setCell ⟨w.heap.size,4,none⟩ v4) w.heap.size t #[v0,a,v2,v3,v4]/\aa ab w (((((w'.setCell ⟨w.heap.size,0,none⟩ v0).setCell ⟨w.heap.size,1,none⟩ a).setCell ⟨w.heap.size,2,none⟩ v2).setCell ⟨w.heap.size,3,none⟩ v3).setCell ⟨w.heap.size,4,none⟩ v4):=⟨((((h.aj 0 v0).aj 1 a).aj 2 v2).aj 3 v3).aj 4 v4,((((b.setCell (.inr (VN _)) v0).setCell (.inr (VN _)) a).setCell (.inr (VN _)) v2).setCell (.inr (VN _)) v3).setCell (.inr (VN _)) v4⟩
def xo:Px.Row:=⟨[],[],[],0,0⟩
def mc(o:Option Px.Row):Px.Row:=o.getD xo
theorem TT{s:Bytes}(h:k<Px.table.length):Px.lu s (Px.table.drop k)=if Px.table[k].name=s then some Px.table[k]else Px.lu s (Px.table.drop (k+1)):=by rw[List.drop_eq_getElem_cons h];rfl
theorem sL(h:ad w k 143 #[.string ⟨#[]⟩,.string ⟨#[]⟩,.string ⟨#[]⟩,.int .i64 0,.int .i64 0]):w.cell? ⟨k,0,none⟩=some (.string ⟨#[]⟩)/\w.cell? ⟨k,1,none⟩=some (.string ⟨#[]⟩)/\w.cell? ⟨k,2,none⟩=some (.string ⟨#[]⟩)/\w.cell? ⟨k,3,none⟩=some (.int .i64 0)/\w.cell? ⟨k,4,none⟩=some (.int .i64 0)/\w.frozen? ⟨k,0,none⟩=false/\w.frozen? ⟨k,1,none⟩=false/\w.frozen? ⟨k,2,none⟩=false/\w.frozen? ⟨k,3,none⟩=false/\w.frozen? ⟨k,4,none⟩=false:=⟨h.cell 0,h.cell 1,h.cell 2,h.cell 3,h.cell 4,h.frozen 0,h.frozen 1,h.frozen 2,h.frozen 3,h.frozen 4⟩
structure FM(w wr:World)(s:Bytes)(k:Nat):Prop where
 le:k<=65
 spec:Px.lu s (Px.table.drop k)=Px.whole s
 res:ad wr w.heap.size 143 #[.string ⟨#[]⟩,.string ⟨#[]⟩,.string ⟨#[]⟩,.int .i64 0,.int .i64 0]
 cI:ad wr (w.heap.size+1) 143 (df Px.table).toArray
 turns:aa ab w wr
theorem EN(w:World)(s:ByteArray):Calls VI 102 #[.string s] w fun e w'=>e=.returned (.tuple #[eH (mc (Px.whole (sl s))),.bool (Px.whole (sl s)).isSome])/\aa ab w w':=by
 go_enter func102,ntmps102;go_wp2_with fail;refine(El _).mono ?_;rintro e K⟨rfl,rfl⟩;go_wp2_with fail;go_loopw[8](fun i wr=>∃k:Nat,i=.int .i64 k/\FM w wr (sl s) k)(fun i _=>65-(intOf i).toNat);case atStart=>exact⟨0,rfl,VQ _,rfl,(ad.new w _ _).alloc _,bP (by simp[go_sem]),((aa.refl _ w).alloc _).alloc _⟩
 case round=>
  obtain⟨k,rfl,b⟩:=hrel;have H:=b.le;by_cases m:k<65
  ·have y:=DN b.cI k m;obtain⟨-,c0,c1,c2,c3,c4⟩:=y;have I:=b.cI.lt;have J:=b.res.lt;have l:=VH (TT (s:=sl s) (k:=k) m);obtain⟨A,C,D,E,F,n,o,p,q,t⟩:=sL b.res;simp only[ah]at c0 c1 c2;have a:=VH b;clear b;generalize Px.table[k]=r at c0 c1 c2 c3 c4 l;have j:=VH (show sl ⟨r.name.toArray⟩=r.name from rfl);have f:=VH (show eH r=.agg #[.string ⟨r.name.toArray⟩,.string ⟨r.others.toArray⟩,.string ⟨r.flags.toArray⟩,.int .i64 r.few,.int .i64 r.ay]from rfl);generalize(⟨r.name.toArray⟩:ByteArray)=h at c0 j f;generalize(⟨r.others.toArray⟩:ByteArray)=z at c1 f;generalize(⟨r.flags.toArray⟩:ByteArray)=u at c2 f;by_cases d:h=s
   ·subst d;go_wp2_with fail;have S:=nR a.out.res a.out.turns (.string h) (.string z) (.string u) (.int .i64 r.few) (.int .i64 r.ay);refine bodyPost_ret (results_cell_tmp results102 _ _ _ ⟨w.heap.size,0,none⟩ _ rfl (nu _ _ _ _ _ _ _ (S.1.alloc _))) rfl ?_;have hw:Px.whole (sl h)=some r:=by rw[<-a.out.spec,l.out,if_pos j.out.symm]
    rw[hw];exact⟨by rw[<-f.out];rfl,S.2.alloc _⟩
   ·have G:(h.toList==s.toList)=false:=nY fun e=>d (mj e);have x:=VH d;clear d;go_wp2_with fail;go_roundw;case rel=>have c:=a.out.spec;rw[l.out,if_neg fun e=>x.out (mj (j.out.trans e))]at c;exact⟨k+1,by go_num,by omega,c,a.out.res.alloc _,a.out.cI.alloc _,a.out.turns.alloc _⟩
    case measure=>simp[intOf];omega
  ·obtain⟨A,C,D,E,F,n,o,p,q,t⟩:=sL b.res;have a:=VH b;clear b;go_wp2_with fail;have S:=nR a.out.res a.out.turns (.string ⟨#[]⟩) (.string ⟨#[]⟩) (.string ⟨#[]⟩) (.int .i64 0) (.int .i64 0);refine bodyPost_ret (results_cell_tmp results102 _ _ _ ⟨w.heap.size,0,none⟩ _ rfl (nu _ _ _ _ _ _ _ S.1)) rfl ?_;have c:=a.out.spec;rw[List.drop_eq_nil_of_le (show Px.table.length<=k by rw[show Px.table.length=65 from rfl];omega)]at c;rw[<-c];exact⟨rfl,S.2⟩
open Lx(Bytes)
def tq(r:Px.Row):Array Value:=((Px.alts r).map fun l=>Value.string ⟨l.toArray⟩).toArray
theorem IT{r:Px.Row}(d:r∈Px.table)(h:b9 w):Calls VI 74 #[.string ⟨r.others.toArray⟩] w fun e c=>∃g,e=.returned (.slice (some ⟨g,0,none⟩) (Px.alts r).length (Px.alts r).length)/\ad c g 9 (tq r)/\aa ab w c:=by
 have f:=Wj.1 Px.CS r d;have i:=Wj.1 Px.Pg r d;simp only[Bool.and_eq_true,decide_eq_true_eq]at f;refine(Tryz.strings_Fields ⟨r.others.toArray⟩ w ?_ (fun j b a=>?_) h).mono ?_;. show r.others.toArray.size<_;simp;omega
 ·have a:r.others[j]?=some b:=by simpa using a
  have :=Wj.1 i b (List.mem_of_getElem? a);simp only[decide_eq_true_eq]at this;exact this
 ·rintro e c⟨rfl,rfl⟩;exact⟨_,rfl,ad.new w _ _,(aa.refl _ w).alloc _⟩
theorem IN(r:Px.Row)(k:r∈Px.table)(s:ByteArray)(w:World)(g:Nat)(d:ad w g 9 (tq r)):Calls VI 97 #[.slice (some ⟨g,0,none⟩) (Px.alts r).length (Px.alts r).length,.string s] w fun e b=>e=.returned (.bool (decide (sl s∈Px.alts r)))/\w=b:=by
 have a:(Px.alts r).length<=9223372036854775807:=by have c:=Wj.1 Px.FU r k;simp only[decide_eq_true_eq]at c;omega
 refine(Tryz.slices_Contains_string g 0 (Px.alts r).length (Px.alts r).length ((Px.alts r).map fun l=>⟨l.toArray⟩) s _ (by simp) a (fun j f=>?_)).mono ?_
 ·rw[Nat.zero_add,d.cell];have h:j<(Px.alts r).length:=by simpa using f
  simp[tq,List.getD_eq_getElem?_getD,h]
 ·rintro e b⟨rfl,rfl⟩;refine⟨?_,rfl⟩;rw[List.take_of_length_le (by simp)];congr 2;rw[Bool.eq_iff_iff,Lib.containsS_iff,decide_eq_true_eq,List.mem_map];constructor;. rintro⟨l,a,rfl⟩;exact a
  ·intro i;exact⟨_,i,mj rfl⟩
theorem ud{v3 v4:Value}(h:ad w k t #[v0,v,v2,v3,v4]):w.cell? ⟨k,0,none⟩=some v0/\w.cell? ⟨k,1,none⟩=some v/\w.cell? ⟨k,2,none⟩=some v2/\w.cell? ⟨k,3,none⟩=some v3/\w.cell? ⟨k,4,none⟩=some v4:=⟨h.cell 0,h.cell 1,h.cell 2,h.cell 3,h.cell 4⟩
theorem Jn{s:Bytes}{acc:List Px.Row}(h:k<Px.table.length):Px.gr s (Px.table.drop k) acc=if Px.table[k].name=s∨s∈Px.alts Px.table[k]then some Px.table[k]else Px.gr s (Px.table.drop (k+1)) (if s≠[]/\s.isPrefixOf Px.table[k].name=true then acc++[Px.table[k]]else acc):=by rw[List.drop_eq_getElem_cons h];rfl
structure jH(w wr:World)(s:Bytes)(k:Nat)(v:Value)(acc:List Px.Row):Prop where
 le:k<=65
 spec:Px.gr s (Px.table.drop k) acc=Px.found s
 res:ad wr w.heap.size 143 #[.string ⟨#[]⟩,.string ⟨#[]⟩,.string ⟨#[]⟩,.int .i64 0,.int .i64 0]
 cI:ad wr (w.heap.size+1) 143 (df Px.table).toArray
 own:wr.ownsRow (w.heap.size+2) 143 5 v acc.length (df acc)
 few:acc.length<=k
 turns:aa ab w wr
theorem jH.still{s:Bytes}{b:List Px.Row}(h:jH w w' s k v b)(a:aa ab w' U):jH w U s k v b:=⟨h.le,h.spec,a.blk h.res id,a.blk h.cI id,a.own h.own fun _ _=>id,h.few,h.turns.same a⟩
theorem jH.lt{w c:World}{s:Bytes}{k:Nat}{v:Value}{a:List Px.Row}(h:jH w c s k v a){b:Nat}(e:v.ownBlock=some b):w.heap.size+2<=b:=(h.own.lt b e).1
theorem jH.push{w2:World}{s:Bytes}{a:List Px.Row}{r:Px.Row}{o:Obj}(h:jH w w2 s k v a)(f:k<65)(d:(w2.alloc o).grownBy w' v.ownBlock)(i:w'.ownsRow (w.heap.size+2) 143 5 u (a.length+1) (df a++nO r))(j:Px.gr s (Px.table.drop (k+1)) (a++[r])=Px.found s):jH w w' s (k+1) u (a++[r]):=by
 have c:=h.still ((aa.refl ab w2).alloc o);refine⟨f,j,c.res.grown d fun e=>?_,c.cI.grown d fun e=>?_,?_,?_,c.turns.grown d fun b m e=>?_⟩;. have :=h.lt e.symm;omega
 ·have :=h.lt e.symm;omega
 ·have e:df (a++[r])=df a++nO r:=by simp[df]
  rw[VK,e];exact i
 ·have :=h.few;rw[VK,VY];omega
 ·have :=h.lt e;omega
theorem Po{B:Nat}{A:Option Addr}{r:Px.Row}(h:w.ownsRow B 143 5 (.slice A 1 k) 1 (df [r])):∃g,A=some ⟨g,0,none⟩/\mE w g 0 r:=by
 rcases h.2 with⟨e,a⟩|⟨g,c,d,e,f,b,_⟩;. exact absurd a (by decide)
 ·injection e with e1 e2 e3;subst e1;refine⟨g,rfl,(Array.getElem?_eq_some_iff.1 b).1,?_,?_,?_,?_,?_⟩;all_goals(rw[h.cellAt _ (by decide)];rfl)
theorem uk(c:b9 w)(s:ByteArray):Calls VI 55 #[.string s] w fun e w'=>e=.returned (.tuple #[eH (mc (Px.found (sl s))),.bool (Px.found (sl s)).isSome])/\aa ab w w':=by
 have SP:=VH c;clear c;obtain⟨i0,aj,an,ao,aq⟩:=info_parts A.AG;go_enter func55,ntmps55;go_wp2_with fail;refine(El _).mono ?_;rintro e w1⟨rfl,rfl⟩;go_wp2_with fail;go_loopw[9,4](fun i v wr=>∃(k:Nat)(b:List Px.Row),i=.int .i64 k/\jH w wr (sl s) k v b)(fun i _ _=>65-(intOf i).toNat);case atStart=>exact⟨0,[],rfl,VQ _,rfl,(ad.new w _ _).alloc _,bP (by simp[go_sem]),World.ownsRow_nil _ _ _ _,VN _,((aa.refl _ w).alloc _).alloc _⟩
 case round=>
  obtain⟨k,b,rfl,f⟩:=hrel;have hk:=f.le;have hz:=f.cI.lt;have aw:=f.res.lt;obtain⟨r0,r1,r2,r3,r4,V,W,X,Y,Z⟩:=sL f.res;by_cases ag:k<65
  ·have ak:=DN f.cI k ag;have F:Px.table[k]∈Px.table:=List.getElem_mem _;obtain⟨-,c0,c1,c2,c3,c4⟩:=ak;simp only[ah]at c0 c1 c2;have p:=VH (Jn (s:=sl s) (k:=k) (acc:=b) ag);have Q:=VH (SP.out.still f.turns);have j:=VH f;clear f;generalize Px.table[k]=r at c0 c1 c2 c3 c4 p F;have O:=VH (fun(w:World)(h:b9 w)=>IT F h);have HC:=VH (IN r F s);have m:=VH (show sl ⟨r.name.toArray⟩=r.name from rfl);have y:=VH (show eH r=.agg #[.string ⟨r.name.toArray⟩,.string ⟨r.others.toArray⟩,.string ⟨r.flags.toArray⟩,.int .i64 r.few,.int .i64 r.ay]from rfl);have G:=VH (show nO r=[.string ⟨r.name.toArray⟩,.string ⟨r.others.toArray⟩,.string ⟨r.flags.toArray⟩,.int .i64 r.few,.int .i64 r.ay]from rfl);clear F;generalize(⟨r.name.toArray⟩:ByteArray)=d at c0 m y G;generalize(⟨r.others.toArray⟩:ByteArray)=q at c1 y G O;generalize(⟨r.flags.toArray⟩:ByteArray)=n at c2 y G;by_cases E:d=s
   ·subst E;go_wp2_with fail;have S:=nR j.out.res j.out.turns (.string d) (.string q) (.string n) (.int .i64 r.few) (.int .i64 r.ay);refine bodyPost_ret (results_cell_tmp results55 _ _ _ ⟨w.heap.size,0,none⟩ _ rfl (nu _ _ _ _ _ _ _ (S.1.alloc _))) rfl ?_;have hw:Px.found (sl d)=some r:=by rw[<-j.out.spec,p.out,if_pos (.inl m.out.symm)]
    rw[hw];exact⟨by rw[<-y.out];rfl,S.2.alloc _⟩
   ·have hb:(d.toList==s.toList)=false:=nY fun e=>E (mj e);have I:=VH E;clear E;go_wp2_with fail;refine(O.out _ ?_).mono ?_;. exact Q.out.still ((aa.refl _ _).alloc _)
    rintro e z⟨g,rfl,hB,H⟩;have P:=VH (H.blk (ad.new wr 143 #[.string d,.string q,.string n,.int .i64 r.few,.int .i64 r.ay]) id);have D:=j.out.still (((aa.refl _ wr).alloc _).same H);clear r0 r1 r2 r3 r4 V W X Y Z c0 c1 c2 c3 c4 Q H;obtain⟨p0,p1,p2,p3,p4⟩:=ud P.out;obtain⟨r0,r1,r2,r3,r4,V,W,X,Y,Z⟩:=sL D.res;have ax:=D.cI.lt;have az:=P.out.lt;have a:=VH D;have HB:=VH hB;clear D hB j;go_wp2_with fail;refine(HC.out _ _ HB.out).mono ?_;rintro e w3⟨rfl,rfl⟩;by_cases o:sl s∈Px.alts r
    ·rw[decide_eq_true o];have u:=VH o;clear o;go_wp2_with fail;have S:=nR a.out.res a.out.turns (.string d) (.string q) (.string n) (.int .i64 r.few) (.int .i64 r.ay);refine bodyPost_ret (results_cell_tmp results55 _ _ _ ⟨w.heap.size,0,none⟩ _ rfl (nu _ _ _ _ _ _ _ S.1)) rfl ?_;have hw:Px.found (sl s)=some r:=by rw[<-a.out.spec,p.out,if_pos (.inr u.out)]
     rw[hw];exact⟨by rw[<-y.out];rfl,S.2⟩
    ·rw[decide_eq_false o];have u:=VH o;clear o;by_cases L:s.toList.isEmpty=true
     ·have M:=VH L;go_wp2_with fail;go_roundw;case rel=>refine⟨k+1,b,by go_num,?_⟩;have c:=a.out.spec;rw[p.out,if_neg (by rw[<-m.out];rintro(e|e);exact I.out (mj e);exact u.out e),if_neg (by rw[<-aS,List.isEmpty_iff.1 M.out];simp)]at c;exact⟨by omega,c,a.out.res,a.out.cI,a.out.own,Nat.le_succ_of_le a.out.few,a.out.turns⟩
      case measure=>simp[intOf];omega
     ·have al:s.toList.isEmpty=false:=by simpa using L
      have M:=VH al;clear L;go_wp2_with fail;refine(Tryz.strings_HasPrefix d s z).mono ?_;rintro e z⟨rfl,rfl⟩;by_cases x:Xp d.data.toList s.data.toList=true
      ·rw[x];have J:=VH x;clear x;obtain⟨N,U,rfl⟩:=aE a.out.own;have hO:=((aa.refl ab z).alloc (.cells #[.string d,.string q,.string n,.int .i64 r.few,.int .i64 r.ay] 143)).own a.out.own fun _ _=>id;have hS:=fC (size:=5) underlying188 (ad.new z 143 #[.string d,.string q,.string n,.int .i64 r.few,.int .i64 r.ay]) 1 1 rfl (by simp[Value.oneCell']);have l:=a.out.few;have hm:b.length+1<=maxLen:=by simp only[maxLen];omega
       have hy:((b.length+1)+(b.length+1+768)/4+512)*64<=281474976710656:=by omega
       have ae:w.heap.size+2<=(z.alloc (.cells #[.string d,.string q,.string n,.int .i64 r.few,.int .i64 r.ay] 143)).heap.size:=by simp[go_sem];omega
       have t:=VH (VJ hO (VJ hS (VJ ae (VJ hm hy))));clear hO hS ae hm hy l;go_wp2_with(first|(at_builtin;refine aX _ rfl (.tmp 33) (.tmp 35) _ _ rfl (w.heap.size+2) 143 i0 _ 5 64 underlying188 aj an ao aq rfl (.slice N b.length U) b.length (df b) rfl t.out.1 _ 1 _ rfl t.out.2.1 t.out.2.2.2.1 t.out.2.2.2.2 t.out.2.2.1 ?_;intro A1 ar w3 ho hg ai;have C:=VH (VJ hg ho);clear ho hg ai));go_roundw;case rel=>refine⟨k+1,b++[r],by go_num,?_⟩;have c:=a.out.spec;rw[p.out,if_neg (by rw[<-m.out];rintro(e|e);exact I.out (mj e);exact u.out e),if_pos (by rw[<-m.out];exact⟨fun e=>(by have :=M.out;rw[aS,e]at this;cases this),J.out⟩)]at c;have h3:=a.out.push (by omega) C.out.1 (by rw[G.out];exact C.out.2) c;exact h3
       case measure=>simp[intOf];omega
      ·have K:Xp d.data.toList s.data.toList=false:=by simpa using x
       rw[K];have J:=VH K;clear x K;go_wp2_with fail;go_roundw;case rel=>refine⟨k+1,b,by go_num,?_⟩;have c:=a.out.spec;rw[p.out,if_neg (by rw[<-m.out];rintro(e|e);exact I.out (mj e);exact u.out e),if_neg (by rintro⟨-,e⟩;rw[<-m.out]at e;have :=J.out;unfold Xp at this;rw[show s.data.toList=sl s from rfl,show d.data.toList=sl d from rfl,e]at this;cases this)]at c;exact⟨by omega,c,a.out.res,a.out.cI,a.out.own,Nat.le_succ_of_le a.out.few,a.out.turns⟩
       case measure=>simp[intOf];omega
  ·have c:=f.spec;rw[List.drop_eq_nil_of_le (show Px.table.length<=k by rw[show Px.table.length=65 from rfl];omega)]at c;obtain⟨N,U,rfl⟩:=aE f.own;have j:=VH f;have T:=VH c;clear f c;by_cases l:b.length=1;. match b,l with|[r],_=>obtain⟨g,rfl,-,c0,c1,c2,c3,c4⟩:=Po j.out.own;simp only[ah,Nat.zero_add]at c0 c1 c2 c3 c4;simp only[VY];go_wp2_with fail;have S:=nR j.out.res j.out.turns (.string ⟨r.name.toArray⟩) (.string ⟨r.others.toArray⟩) (.string ⟨r.flags.toArray⟩) (.int .i64 r.few) (.int .i64 r.ay);refine bodyPost_ret (results_cell_tmp results55 _ _ _ ⟨w.heap.size,0,none⟩ _ rfl (nu _ _ _ _ _ _ _ S.1)) rfl ?_;rw[<-T.out];exact⟨rfl,S.2⟩
   ·have au:((b.length:Int)==1)=false:=by simpa using fun e=>l (by omega)
    have av:((b.length:Int)!=1)=true:=by simpa using fun e=>l (by omega)
    have af:Px.gr (sl s) [] b=none:=by match b,l with|[],_=>rfl|[_],h=>exact absurd rfl h|_::_::_,_=>rfl
    have C:=VH af;clear l af;go_wp2_with fail;have S:=nR j.out.res j.out.turns (.string ⟨#[]⟩) (.string ⟨#[]⟩) (.string ⟨#[]⟩) (.int .i64 0) (.int .i64 0);refine bodyPost_ret (results_cell_tmp results55 _ _ _ ⟨w.heap.size,0,none⟩ _ rfl (nu _ _ _ _ _ _ _ S.1)) rfl ?_;rw[<-T.out,C.out];exact⟨rfl,S.2⟩
open Lx(Bytes)
theorem AB(c:UInt8):∀l:Bytes,(Wo l c=-1/\Px.lj c l=none)∨∃i:Nat,Wo l c=i/\i<l.length/\Px.lj c l=some (decide ((l.drop (i+1)).head?=some 58))
|[]=>.inl ⟨rfl,rfl⟩
|x::l=>by
  simp only[Wo,Px.lj];by_cases e:x=c;. exact .inr ⟨0,by simp[e],by simp,by simp[e]⟩
  ·have b:(x==c)=false:=by simp[e]
   rcases AB c l with⟨a,d⟩|⟨i,a,d,f⟩;. left;simp[e,b,a,d]
   ·right;refine⟨i+1,?_,by simp;omega,?_⟩
    ·have :¬(i:Int)=-1:=by omega
     simp[b,a,this]
    ·simp[e,f]
theorem G5(l:Bytes):Xp l [58]=decide (l.head?=some 58):=by
 cases l with
 |nil=>rfl
 |cons x r=>
  unfold Xp;by_cases e:x=58;. simp[e]
  ·have a:(58==x)=false:=beq_false_of_ne fun q=>e q.symm;rw[List.isPrefixOf_cons_cons,a];simp[e]
theorem wQ(w:World)(r:Px.Row)(c:UInt8)(t:r.flags.length<=1000):Calls VI 98 #[eH r,.int .u8 c.toNat] w fun e w'=>e=.returned (.tuple #[.bool (Px.aJ r c).isSome,.bool ((Px.aJ r c).getD false)])/\aa ab w w':=by
 have p:=AB c r.flags;have d:=VH (fun w=>oY ⟨r.flags.toArray⟩ r.flags rfl c w);simp only[eH,ah];go_enter func98,ntmps98;rcases p with⟨b,h⟩|⟨i,b,h,k⟩
 ·rw[b]at d;have l:=VH h;clear b h;go_wp2_with fail;refine(d.out _).mono ?_;rintro e j⟨rfl,rfl⟩;go_wp2_with fail;refine bodyPost_ret (results_tmp2 rfl _ _ _) rfl ?_;have a:Px.aJ r c=none:=by unfold Px.aJ;rw[l.out];simp
  rw[a];exact⟨rfl,(aa.refl _ w).alloc _⟩
 ·rw[b]at d;have m:=VH k;clear b k;by_cases f:c=58;. subst f;have a:Px.aJ r 58=none:=rfl;rw[a];clear a;go_wp2_with fail;refine(d.out _).mono ?_;rintro e j⟨rfl,rfl⟩;go_wp2_with fail;refine bodyPost_ret (results_tmp2 rfl _ _ _) rfl ?_;exact⟨rfl,(aa.refl _ w).alloc _⟩
  ·have n:¬(c.toNat:Int)=58:=fun e=>f (UInt8.toNat_inj.1 (by show c.toNat=58;omega));have q:((c.toNat:Int)==58)=false:=by simpa using n
   have o:=VH f;clear f;go_wp2_with fail;refine(d.out _).mono ?_;rintro e j⟨rfl,rfl⟩;go_wp2_with fail;refine(Tryz.strings_HasPrefix _ _ _).mono ?_;rintro e j⟨rfl,rfl⟩;go_wp2_with fail;refine bodyPost_ret (results_tmp2 rfl _ _ _) rfl ?_;have a:Px.aJ r c=some (Xp (List.take (r.flags.length-(i+1)) (List.drop (i+1) r.flags)) [58]):=by unfold Px.aJ;rw[m.out,if_neg o.out,G5,List.take_of_length_le (by simp)]
   rw[a];exact⟨rfl,(aa.refl _ w).alloc _⟩
end
section
open Lx(Bytes)
theorem Kp{x:Px.PW}{l:List Px.PW}(a:x.block=false):Px.isDir (x::l)=(x.text==Px.jA||x.text==Px.lf||x.text==Px.lh||x.text==Px.nV):=by simp[Px.isDir,a]
theorem su{b c:Bytes}(a:sl s=b):(s.toList==c)=(b==c):=by rw[aS,a]
def Ko(d:Bool)(v:Value):Value:=if d then .iface 92 v else .iface 94 v
theorem Be{x:Px.PW}{l:List Px.PW}(h:aU w v (x::l)):Calls VI 26 #[v] w fun e w'=>e=.returned (Ko (Px.isDir (x::l)) v)/\w'=w:=by
 obtain⟨b,off,c,rfl,p,q,o,j,r,k,m⟩:=h.cons;clear m h;simp only[ah]at j;obtain⟨X,f⟩:∃X:ByteArray,X=⟨x.text.toArray⟩:=⟨_,rfl⟩;have d:sl X=x.text:=by rw[f];rfl
 rw[<-f]at j;clear f
 cases a:x.block with
 |true=>
  have i:Px.isDir (x::l)=false:=by simp[Px.isDir,a]
  rw[a]at k;rw[i];clear d i a;go_enter func26,ntmps26;go_wp2_with fail;go_ret;exact⟨rfl,rfl⟩
 |false=>rw[Kp a,<-su d,<-su d,<-su d,<-su d];rw[a]at k;clear d a;cases h1:X.toList==Px.jA with|true=>go_enter func26,ntmps26;go_wp2_with fail;go_ret;exact⟨rfl,rfl⟩|false=>cases h2:X.toList==Px.lf with|true=>go_enter func26,ntmps26;go_wp2_with fail;go_ret;exact⟨rfl,rfl⟩|false=>cases h3:X.toList==Px.lh with|true=>go_enter func26,ntmps26;go_wp2_with fail;go_ret;exact⟨rfl,rfl⟩|false=>cases n:X.toList==Px.nV with|true=>go_enter func26,ntmps26;go_wp2_with fail;go_ret;exact⟨rfl,rfl⟩|false=>go_enter func26,ntmps26;go_wp2_with fail;go_ret;exact⟨rfl,rfl⟩
open Lx(Bytes)
def qD(c:Px.au):List Value:=[.int .i64 c.line,.bool c.gT,.bool c.now,.bool c.jB,.bool c.last]
def iK(o:List Px.au):List Value:=o.flatMap qD
theorem lJ:∀l:List Px.au,(iK l).length=l.length*5|[]=>rfl|x::l=>by have e:iK (x::l)=qD x++iK l:=rfl;rw[e,VK,lJ l,List.length_cons];show 5+_=_;omega
theorem lI(o:List Px.au)(c:Px.au):iK (o++[c])=iK o++qD c:=by simp[iK]
structure aR(w:World)(K:Nat)(sv lv ov:Value)(o:List Px.au):Prop where
 blk:ad w K 87 #[sv,lv,ov]
 own:w.ownsRow (K+1) 100 5 ov o.length (iK o)
theorem aR.still{o:List Px.au}(h:aR w k v u z o)(a:aa ab w w'):aR w' k v u z o:=⟨a.blk h.blk id,a.own h.own fun _ _=>id⟩
theorem aR.last{w:World}{K:Nat}{m l e:Value}{o:List Px.au}{c:Px.au}(h:aR w K m l e (o++[c])):∃g cp,e=.slice (some ⟨g,0,none⟩) (o.length+1) cp/\K+1<=g/\g<w.heap.size/\w.cell? ⟨g,o.length*5,none⟩=some (.int .i64 c.line)/\w.cell? ⟨g,o.length*5+1,none⟩=some (.bool c.gT)/\w.cell? ⟨g,o.length*5+2,none⟩=some (.bool c.now)/\w.cell? ⟨g,o.length*5+3,none⟩=some (.bool c.jB)/\w.cell? ⟨g,o.length*5+4,none⟩=some (.bool c.last)/\∀i,w.frozen? ⟨g,i,none⟩=false:=by
 have b:=h.own;rw[VK,VY]at b;rcases b.2 with⟨_,j⟩|⟨g,f,n,rfl,k,d,_⟩;. exact absurd j (by omega)
 ·have a:∀i,i<5->w.cell? ⟨g,o.length*5+i,none⟩=(qD c)[i]?:=fun i hi=>by rw[b.cellAt _ (by omega),lI,List.getElem?_append_right (by rw[lJ];omega),lJ];congr 1;omega
  exact⟨g,f,rfl,k,(Array.getElem?_eq_some_iff.1 d).1,a 0 (by decide),a 1 (by decide),a 2 (by decide),a 3 (by decide),a 4 (by decide),fun i=>by simp[World.frozen?,d]⟩
theorem dY(h:ad w k t #[v0,v,v2]):w.cell? ⟨k,0,none⟩=some v0/\w.cell? ⟨k,1,none⟩=some v/\w.cell? ⟨k,2,none⟩=some v2/\w.frozen? ⟨k,2,none⟩=false:=⟨h.cell 0,h.cell 1,h.cell 2,h.frozen 2⟩
theorem wP(h:aR w k v u z []):Calls VI 28 #[.pointer (some ⟨k,0,none⟩)] w fun e w'=>e=.returned (.bool true)/\∃n,w'=w.drewN n:=by obtain⟨a,b,rfl⟩:=aE h.own;obtain⟨c0,c1,c2,-⟩:=dY h.blk;simp only[List.length_nil]at c2;clear h;go_enter func28,ntmps28;go_wp2_with fail;go_quiet(fail);go_wp2_with fail;go_ret;exact⟨rfl,_,rfl⟩
theorem Eo{o:List Px.au}{c:Px.au}(h:aR w k v u z (o++[c]))(r:o.length<=1000):Calls VI 28 #[.pointer (some ⟨k,0,none⟩)] w fun e w'=>e=.returned (.bool c.now)/\∃n,w'=w.drewN n:=by
 obtain⟨c0,c1,c2,-⟩:=dY h.blk;obtain⟨g,a,rfl,p,q,b,d,f,i,j,-⟩:=h.last;clear h;generalize o.length=n at*;have l:((n:Int)+1==0)=false:=by simp;omega
 have m:¬(n:Int)+1=0:=by omega
 go_enter func28,ntmps28;go_wp2_with fail;go_quiet(fail);go_wp2_with fail;go_ret;exact⟨rfl,_,rfl⟩
def og(e l:Int):List PanicEntry:=[{v:=.iface 82 (.agg #[.int .i64 e,.int .i64 l]),recovered:=false}]
theorem cZ(w:World)(e:Int)(p:Value):Calls VI 52 #[.bool true,.int .i64 e,p] w fun a w'=>a=.returned (.tuple #[])/\w=w':=by go_enter func52,ntmps52;go_wp2_with fail;go_end0;exact⟨rfl,rfl⟩
open Lx(Bytes)
theorem iQ{B:Nat}{size:Nat}(h:w.ownsRow B t size (.slice (some ⟨g,0,none⟩) k n) k E)(i:Nat)(v:Value):(w.setCell ⟨g,i,none⟩ v).ownsRow B t size (.slice (some ⟨g,0,none⟩) k n) k (E.set i v):=by
 refine⟨by rw[List.length_set];exact h.1,h.2.imp id ?_⟩;rintro⟨o,a,b,c,l,m,d,e,f,j⟩;injection c with e2 e3 e4;injection e2 with e2;injection e2 with e2;subst e2;refine⟨g,a,b.setIfInBounds i v,by rw[e4],l,?_,d,e,by simpa using f,?_⟩;. simp[World.setCell,Array.getElem?_modify,m]
 ·rw[Array.toList_setIfInBounds,List.take_set,j]
theorem set_tail(o:List Px.au)(L:List Value)(i:Nat)(v:Value):(iK o++L).set (o.length*5+i) v=iK o++L.set i v:=by rw[List.set_append_right _ _ (by rw[lJ];omega),lJ];congr 2;omega
def my(w:World)(K:Nat)(i f c:Value)(h:List Px.au)(e:Ending)(d:World):Prop:=e=.returned (.tuple #[])/\∃a,aR d K i f a h/\aa (fun b=>b=K∨c.ownBlock=some b) w d/\(a.ownBlock=c.ownBlock∨∃b,a.ownBlock=some b/\w.heap.size<=b)
theorem aR.wk{o:List Px.au}{c:Px.au}(h:aR w k v u (.slice (some ⟨g,0,none⟩) (m+1) n) (o++[c]))(q:o.length=m)(p:aa ab w w')(r:k+1<=g)(a b d:Bool):my w k v u (.slice (some ⟨g,0,none⟩) (m+1) n) (o++[⟨c.line,c.gT,a,b,d⟩]) (.returned (.tuple #[])) (((w'.setCell ⟨g,m*5+4,none⟩ (.bool d)).setCell ⟨g,m*5+2,none⟩ (.bool a)).setCell ⟨g,m*5+3,none⟩ (.bool b)):=by
 subst q;have i:=h.still p;have f:k≠g:=by omega
 refine⟨rfl,_,⟨((i.blk.an (p:=⟨g,_,none⟩) f _).an (p:=⟨g,_,none⟩) f _).an (p:=⟨g,_,none⟩) f _,?_⟩,?_,.inl rfl⟩;. have l:=i.own;rw[VK,VY]at l⊢;have j:=iQ (iQ (iQ l (o.length*5+4) (.bool d)) (o.length*5+2) (.bool a)) (o.length*5+3) (.bool b);rw[lI,set_tail,set_tail,set_tail]at j;rw[lI];exact j
 ·exact(((p.mono fun _ _ e=>e.elim).setCell (p:=⟨g,_,none⟩) (.inl (.inr rfl)) _).setCell (p:=⟨g,_,none⟩) (.inl (.inr rfl)) _).setCell (p:=⟨g,_,none⟩) (.inl (.inr rfl)) _
open Lx(Bytes)
structure dO(w:World)(M S:Nat)(deep steps:Int):Prop where
 mb:ad w M 221 #[.slice (some ⟨S,0,none⟩) 1 1,.int .i64 deep,.int .i64 steps]
 sc:ad w S 46 #[.slice none 0 0,.slice none 0 0]
 ne:M≠S
theorem dO.cells(h:dO w k n e r):w.cell? ⟨k,0,none⟩=some (.slice (some ⟨n,0,none⟩) 1 1)/\w.cell? ⟨k,1,none⟩=some (.int .i64 e)/\w.cell? ⟨k,2,none⟩=some (.int .i64 r)/\w.cell? ⟨n,0,none⟩=some (.slice none 0 0)/\w.cell? ⟨n,1,none⟩=some (.slice none 0 0)/\w.frozen? ⟨k,1,none⟩=false/\w.frozen? ⟨k,2,none⟩=false:=⟨h.mb.cell 0,h.mb.cell 1,h.mb.cell 2,h.sc.cell 0,h.sc.cell 1,h.mb.frozen 1,h.mb.frozen 2⟩
theorem dO.still(h:dO w k n e r)(a:aa ab w w'):dO w' k n e r:=⟨a.blk h.mb id,a.blk h.sc id,h.ne⟩
theorem dO.pG(h:dO w k n r c)(a:Int):dO (w.setCell ⟨k,2,none⟩ (.int .i64 a)) k n r a:=⟨h.mb.aj 2 _,h.sc.an (p:=⟨k,2,none⟩) (fun e=>h.ne e.symm) _,h.ne⟩
theorem dO.j_(h:dO w k n r c)(a:Int):dO (w.setCell ⟨k,1,none⟩ (.int .i64 a)) k n a c:=⟨h.mb.aj 1 _,h.sc.an (p:=⟨k,1,none⟩) (fun e=>h.ne e.symm) _,h.ne⟩
structure jJ(w w1:World):Prop where
 a:ad w1 (w.heap.size+1) 9 #[.string ⟨#[]⟩]
 b:ad w1 (w.heap.size+1+1) 3 #[.int .i64 0]
 c:ad w1 (w.heap.size+1+1+1) 30 #[.int .i64 0]
 turns:aa ab w w1
theorem jJ.only(h:jJ w w')(d:aa (af (w.heap.size+1+1+1+1+1)) w' U):jJ w U:=⟨d.blk h.a (fun e=>by have :w.heap.size+1=_:=e;omega),d.blk h.b (fun e=>by have :w.heap.size+1+1=_:=e;omega),d.blk h.c (fun e=>by have :w.heap.size+1+1+1=_:=e;omega),h.turns.trans d fun b f e=>by have :b=_:=e;omega⟩
theorem jJ.done(h:jJ w w')(d:aa ab ((((w'.setCell ⟨w.heap.size+1,0,none⟩ (.string ⟨#[]⟩)).setCell ⟨w.heap.size+1+1,0,none⟩ (.int .i64 e)).setCell ⟨w.heap.size+1+1+1,0,none⟩ (.int .i64 0)).drewN 1) U):U.cell? ⟨w.heap.size+1,0,none⟩=some (.string ⟨#[]⟩)/\U.cell? ⟨w.heap.size+1+1,0,none⟩=some (.int .i64 e)/\U.cell? ⟨w.heap.size+1+1+1,0,none⟩=some (.int .i64 0)/\aa ab w U:=by have f:=((h.a.aj 0 (.string ⟨#[]⟩)).an (p:=⟨w.heap.size+1+1,0,none⟩) (by dsimp only;omega) (.int .i64 e)).an (p:=⟨w.heap.size+1+1+1,0,none⟩) (by dsimp only;omega) (.int .i64 0);have i:=((h.b.an (p:=⟨w.heap.size+1,0,none⟩) (by dsimp only;omega) (.string ⟨#[]⟩)).aj 0 (.int .i64 e)).an (p:=⟨w.heap.size+1+1+1,0,none⟩) (by dsimp only;omega) (.int .i64 0);have c1:=((h.c.an (p:=⟨w.heap.size+1,0,none⟩) (by dsimp only;omega) (.string ⟨#[]⟩)).an (p:=⟨w.heap.size+1+1,0,none⟩) (by dsimp only;omega) (.int .i64 e)).aj 0 (.int .i64 0);refine⟨((d.blk (f.drewN 1) id).cell 0).trans rfl,((d.blk (i.drewN 1) id).cell 0).trans rfl,((d.blk (c1.drewN 1) id).cell 0).trans rfl,?_⟩;exact((((h.turns.setCell (p:=⟨w.heap.size+1,0,none⟩) (.inr (by dsimp only;omega)) _).setCell (p:=⟨w.heap.size+1+1,0,none⟩) (.inr (by dsimp only;omega)) _).setCell (p:=⟨w.heap.size+1+1+1,0,none⟩) (.inr (by dsimp only;omega)) _).drewN 1).same d
open Lx(Bytes)
theorem A.AD:(VI.info? 100).map (fun i=>(i.zero,i.size,i.bytes))=some (some (.agg #[.int .i64 0,.bool false,.bool false,.bool false,.bool false]),5,16):=by kernel_rfl
end
end Go.Proofs.YtmddhediccmhbaaGreatDoor
