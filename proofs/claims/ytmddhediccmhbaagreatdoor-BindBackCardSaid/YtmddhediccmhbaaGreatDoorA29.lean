/- floats are written. -/
import Derived.Lib.ItoaMem
import Derived.Test.YtmddhediccmhbaaGreatDoorA28
set_option linter.all false
set_option maxHeartbeats 400000000
set_option maxRecDepth 100000
namespace Go.Proofs.YtmddhediccmhbaaGreatDoor
open Go.RowKit
open Go.Proofs.Tryz
open And renaming intro→VJ
open _root_.Array renaming replicate→Wy
open IntKind renaming i64→VL
open IntWalk renaming i64_in→VR
open Lib renaming hid→VH
open Lib renaming nDigits→Wx
open List renaming append_assoc→Wh
open List renaming append_nil→Wl
open List renaming length_append→VK
open List renaming length_cons→VM
open List renaming length_nil→V9
open Nat renaming le_trans→VS
open Nat renaming lt_of_lt_of_le→VO
open Nat renaming zero_add→Wv
open Nat renaming zero_le→VQ
open Go.Proofs.Tryz renaming prog→VI
open Value renaming int→Xl
variable {w U:World}{k nd:Nat}{v:Value}{dp:Int}{l:List Nat}
theorem Ii:∃D:Nat->Nat,∀u,u<18446744073709551616->D u<18446744073709551616/\∀w,Calls VI 313 #[.int .u64 u,.int .u64 10] w fun e w'=>e=.returned (.int .u64 (D u:Nat))/\∃m,w'=w.drewN m:=⟨fun u=>if h:u<18446744073709551616 then Classical.choose (zk u h)else 0,fun u h=>by simp only[dif_pos h];exact Classical.choose_spec (zk u h)⟩
def jk(D:Nat->Nat)(u:Nat):Nat->Nat|0=>u|k+1=>jk D (D u) k
theorem zv{D:Nat->Nat}(h:∀u,u<18446744073709551616->D u<18446744073709551616):∀k u,u<18446744073709551616->jk D u k<18446744073709551616:=by intro k;induction k with|zero=>intro u a;exact a|succ k b=>intro u a;exact b _ (h u a)
theorem Jt(x:Nat)(hx:x<18446744073709551616)(e:Int)(n:Nat)(A:Int)(he:-1137<=e/\e<=960)(hn:1<=n/\n<=18)(hp:0<=A/\A<=20):∃(d:Nat)(q:Int),d<4611686018427387904/\-400<=q/\q<=400/\∀w B,bC w B->Calls VI 280 #[.int .u64 x,.int .i64 e,.int .i64 (n:Nat),.int .i64 A,.int .u8 102] w fun r w'=>r=.returned (.tuple #[.int .u64 d,.int .i64 q])/\aa ab w w':=by
 obtain⟨D,P⟩:=Ii;obtain⟨l,hl⟩:∃l,(e+63)*78913/262144=l:=⟨_,rfl⟩;obtain⟨p,aI⟩:∃p,(n:Int)-1-l=p:=⟨_,rfl⟩;have I:-330<=p/\p<=341:=by omega
 obtain⟨J,ar⟩:∃J,p*108853/32768=J:=⟨_,rfl⟩;have aG:-2000<=J/\J<=2000:=by omega
 have ag:=fun w=>o6 (w:=w) (e+63) (by omega);have ah:=fun w=>Cc (w:=w) p (by omega);rw[hl]at ag;rw[ar]at ah;obtain⟨s,hs⟩:∃s,-(e+J+3)=s:=⟨_,rfl⟩;obtain⟨aw,ax⟩:=DU (k:=(p+348).toNat) (by omega);have ai:=fun w g B t v0 v1 v2 hg z hB=>Dj (w:=w) (g:=g) (B:=B) (t:=t) (v0:=v0) (v1:=v1) (v2:=v2) hg z e p J (by omega) (by omega) (by omega) hB;rw[hs]at ai;generalize(eV (p+348).toNat).1=o at*;generalize(eV (p+348).toNat).2=lo at*;obtain⟨u,V,aD⟩:=EG x o lo s hx aw ax
 have af:10^n<18446744073709551616:=by
  have h1:10^n<=10^18:=Nat.pow_le_pow_right (by decide) hn.2;have h2:(10:Nat)^18<18446744073709551616:=by decide
  omega
 obtain⟨K,aA,aB⟩:=EE (10^n) af
 obtain⟨b,c,T,au,aJ⟩:∃(b:Nat)(c:Int),b<18446744073709551616/\(-331<=c/\c<=341)/\(K<=u/\b=D u/\c=p-1∨u<K/\b=u/\c=p):=by
  by_cases h:K<=u;. exact⟨D u,p-1,(P u V).1,by omega,.inl ⟨h,rfl,rfl⟩⟩
  ·exact⟨u,p,V,by omega,.inr ⟨by omega,rfl,rfl⟩⟩
 obtain⟨k,hk⟩:∃k:Nat,(c-A).toNat=k:=⟨_,rfl⟩;obtain⟨d,hd,av⟩:=DK (jk D b k) (zv (fun u h=>(P u h).1) k b T);refine⟨d,-(c-k),hd,by omega,by omega,fun w B z=>?_⟩;have U:=VH (VJ (z.aC ((aa.refl ab w).alloc (.cells #[Xl .u64 0,.int .u64 0,.int .i64 0] 414)) (fun _ _ e=>e)) z.le);have HP:=VH (ai (w.alloc (.cells #[Xl .u64 0,.int .u64 0,.int .i64 0] 414)) w.heap.size B _ _ _ _ (ad.new w _ _) U.out.1 U.out.2);have Y:=VH (fun W=>ag W);have Z:=VH (fun W=>ah W);have HU:=VH aD;have HM:=VH aB;have X:=VH P;have HR:=VH av;have HK:=VH hk;have aE:=VH z;have HG:=VH (show(9:Nat)<w.heap.size from VO (VO (by decide) z.gl) z.le);have e1:VL.wrap ((n:Int)-1)=(n:Int)-1:=VR _ (by omega);have e2:VL.wrap (e+63)=e+63:=VR _ (by omega);have e3:VL.wrap ((n:Int)-1-l)=p:=ak (by omega);have e4:VL.wrap (p-1)=p-1:=VR _ (by omega);have i1:(0:Int)<=(n:Int):=by omega
 have i2:(n:Int)<20:=by omega
 have HN:=VH (show n<20 from by omega);have aK:=VH (show∀k u,u<18446744073709551616->jk D u k<18446744073709551616 from zv (fun u h=>(P u h).1));have ao:=VH (VJ au hp);clear ai ag ah aD aB P av hk z hd aw ax hx he hl aI I ar aG hs hp au hn;go_enter func280,ntmps280;go_wp2_with fail;refine(Y.out _).mono ?_;rintro _ _⟨rfl,rfl⟩;go_wp2_with fail;refine(Z.out _).mono ?_;rintro _ _⟨rfl,rfl⟩;go_wp2_with fail;refine HP.out.mono ?_;rintro _ w2⟨rfl,ay,az⟩;have HW:=VH (((aa.refl ab w).alloc (.cells #[Xl .u64 0,.int .u64 0,.int .i64 0] 414)).trans az (fun q hq e=>by rw[show q=w.heap.size from e]at hq;omega));have HS:=VH (HU.out w2 _ ay);clear az ay;go_wp2_with fail;refine HS.out.mono ?_;rintro _ _⟨rfl,m,rfl⟩;have hc:=(((HW.out.drewN m).cell (p:=⟨9,n,none⟩) HG.out id).trans (aE.out.num.iA n HN.out));have aq:=VH (HW.out.drewN m);generalize w2.drewN m=w3 at*;generalize 10^n=tn at*;go_wp2_with fail;refine(HM.out _).mono ?_;rintro _ _⟨rfl,rfl⟩;rcases aJ with⟨aj,rfl,rfl⟩|⟨aj,rfl,rfl⟩
 ·have ae:=VH T;have aH:(K:Int)<=(u:Int):=by omega
  have F:=VH ((X.out u V).2);clear hc HM Y Z HP U HU HS V aA af aj T i1 i2 e1 e2 e3;go_wp2_with fail;refine(F.out _).mono ?_;rintro _ _⟨rfl,m2,rfl⟩;have aF:=VH (aq.out.drewN m2);go_wp2_with fail;go_loopg[11,13]k(fun g al an wr=>∃(i a:Nat),g=k-i/\i<=k/\al=.int .i64 (p-1-(i:Nat))/\an=.int .u64 (a:Nat)/\a<18446744073709551616/\jk D a (k-i)=jk D (D u) k/\aa ab w wr);case atStart=>exact⟨0,(D u),rfl,VQ _,by simp,rfl,ae.out,rfl,aF.out⟩
  case round=>
   obtain⟨i,a,rfl,H,rfl,rfl,G,f,hw⟩:=hrel;have C:=VH (VJ f hw);obtain⟨j,y⟩:∃j:Int,p-1-(i:Nat)=j:=⟨_,rfl⟩;rw[y];have L:=VH y;have S:=HK.out;have I:=ao.out;by_cases o:i<k
   ·have c1:A<j:=by omega
    have e5:VL.wrap (j-1)=j-1:=VR _ (by omega);obtain⟨N,O⟩:=X.out a G;have F:=VH (VJ N O);have E:=VH (VJ o H);clear N O f hw y S I o H G;go_wp2_with fail;refine(F.out.2 _).mono ?_;rintro _ _⟨rfl,m3,rfl⟩;go_wp2_with fail;go_roundg(k-(i+1));case measure=>have :=E.out;omega
    case rel=>exact⟨i+1,D a,rfl,by have :=E.out;omega,by rw[show p-1-((i+1:Nat):Int)=j-1 by have :=L.out;omega],rfl,F.out.1,by rw[<-C.out.1,show k-i=(k-(i+1))+1 by have :=E.out;omega];rfl,C.out.2.drewN m3⟩
   ·obtain rfl:i=k:=by omega
    have c1:¬A<j:=by omega
    have Q:a=jk D (D u) i:=by rw[<-f,Nat.sub_self];rfl
    have M:=VH (fun W=>HR.out W);rw[<-Q]at M;have e5:VL.wrap (-j)=-j:=VR _ (by omega);have e6:VL.wrap (0-j)=-j:=ak (by omega);clear f hw y S I o H G Q;go_wp2_with fail;refine(M.out _).mono ?_;rintro _ _⟨rfl,rfl⟩;go_wp2_with fail;go_ret2;exact⟨by rw[L.out];rfl,C.out.2⟩
 ·have ae:=VH T;have aH:¬(K:Int)<=(b:Int):=by omega
  have aL:decide (K<=b)=false:=decide_eq_false (by omega);clear hc HM Y Z HP U HU HS aA af aj T i1 i2 e1 e2 e3;go_wp2_with fail;go_loopg[11,13]k(fun g al an wr=>∃(i a:Nat),g=k-i/\i<=k/\al=.int .i64 (c-(i:Nat))/\an=.int .u64 (a:Nat)/\a<18446744073709551616/\jk D a (k-i)=jk D b k/\aa ab w wr);case atStart=>exact⟨0,b,rfl,VQ _,by simp,rfl,ae.out,rfl,aq.out⟩
  case round=>
   obtain⟨i,a,rfl,H,rfl,rfl,G,f,hw⟩:=hrel;have C:=VH (VJ f hw);obtain⟨j,y⟩:∃j:Int,c-(i:Nat)=j:=⟨_,rfl⟩;rw[y];have L:=VH y;have S:=HK.out;have I:=ao.out;by_cases o:i<k
   ·have c1:A<j:=by omega
    have e5:VL.wrap (j-1)=j-1:=VR _ (by omega);obtain⟨N,O⟩:=X.out a G;have F:=VH (VJ N O);have E:=VH (VJ o H);clear N O f hw y S I o H G;go_wp2_with fail;refine(F.out.2 _).mono ?_;rintro _ _⟨rfl,m3,rfl⟩;go_wp2_with fail;go_roundg(k-(i+1));case measure=>have :=E.out;omega
    case rel=>exact⟨i+1,D a,rfl,by have :=E.out;omega,by rw[show c-((i+1:Nat):Int)=j-1 by have :=L.out;omega],rfl,F.out.1,by rw[<-C.out.1,show k-i=(k-(i+1))+1 by have :=E.out;omega];rfl,C.out.2.drewN m3⟩
   ·obtain rfl:i=k:=by omega
    have c1:¬A<j:=by omega
    have Q:a=jk D b i:=by rw[<-f,Nat.sub_self];rfl
    have M:=VH (fun W=>HR.out W);rw[<-Q]at M;have e5:VL.wrap (-j)=-j:=VR _ (by omega);have e6:VL.wrap (0-j)=-j:=ak (by omega);clear f hw y S I o H G Q;go_wp2_with fail;refine(M.out _).mono ?_;rintro _ _⟨rfl,rfl⟩;go_wp2_with fail;go_ret2;exact⟨by rw[L.out];rfl,C.out.2⟩
section
open Go.RowKit Go.Sort
abbrev gH:UInt8->Value:=fun b=>Xl .u8 (b.toNat:Int)
def gp(d i:Nat):Nat:=(Lib.dg d (Wx d-1-i)).toNat
def tz(f:Nat->Nat):Nat->Nat|0=>0|n+1=>if f n=48 then tz f n else n+1
theorem Tu(f:Nat->Nat):∀n,tz f n<=n:=by intro n;induction n with|zero=>exact Nat.le_refl 0|succ n a=>unfold tz;split<;>omega
theorem Tr{blk:Nat}(a:Array UInt8)(n:Nat):aa (af blk) w ((putRow gH w blk 0 a).drewN n):=by
 have h:aa (af blk) w (putRow gH w blk 0 a):=by refine⟨rfl,rfl,rfl,by simp,fun i _ b=>?_⟩;show(w.heap.modify blk (onCells (putCells gH 0 a)))[i]?=w.heap[i]?;rw[Array.getElem?_modify,if_neg (fun e=>b e.symm)]
 exact h.drewN n
theorem Rw{blk L cap:Nat}(C:Holds gH w blk 0 (Wy L (0:UInt8)))(d:Nat)(F:d<18446744073709551616)(p:Int)(U:-10000<=p/\p<=10000)(o:Wx d<=L)(A:L<=cap)(E:cap<1000):Calls VI 278 #[.slice (some ⟨blk,0,none⟩) L cap,.int .u64 (d:Nat),.int .i64 p,.int .i64 (Wx d:Nat)] w fun e w'=>e=.returned (.tuple #[.int .i64 ((Wx d:Nat)+p),.int .i64 (tz (gp d) (Wx d):Nat)])/\(∀i,i<Wx d->w'.cell? ⟨blk,i,none⟩=some (.int .u8 (gp d i:Nat)))/\aa (af blk) w w':=by
 have J:=Lib.lt_pow_nDigits d
 have l:∀n,n<=L->Holds gH w blk 0 (Wy n (0:UInt8)):=fun n hn j Q=>by
  have ad:j<n:=by simpa using Q
  have :=C j (by simp;omega);rw[getElem!_pos _ j (by simp;omega)]at this⊢;simpa using this
 have x:=Tryz.internal_strconv_formatBase10 blk 0 cap d (Wy (Wx d) (0:UInt8)) w (l _ o) (by simpa using J) F (by simp;omega);have X:=VH (l _ o);rw[Array.size_replicate]at x;have N:=VH (show∀(b:Array UInt8)(t n:Nat),Lib.FmtInv (Wx d) d 0 t b->∀i,i<Wx d->((putRow gH w blk 0 b).drewN n).cell? ⟨blk,i,none⟩=some (.int .u8 (gp d i:Nat))from fun b t n hi i G=>by have z:=cell?_putRow gH w blk 0 _ b (l _ o) (by rw[hi.size];simp) i (by rw[hi.size];exact G);rw[hi.done i (VQ _) G,Wv]at z;exact z);have O:=VH x;have T:=Lib.nDigits_pos d;generalize gp d=f at*;generalize Wx d=a at*;have p1:(a:Int)<=(L:Int):=by omega
 have p2:(0:Int)<=(a:Int):=by omega
 have p3:(a:Int)<=(cap:Int):=by omega
 have Y:VL.wrap ((a:Int)+p)=(a:Int)+p:=VR _ (by omega);have M:=VH (VJ o (VJ A E));clear x l C F J T U o A E;go_enter func278,ntmps278;go_wp2_with fail;refine O.out.mono ?_;rintro _ K⟨rfl,n,t,b,rfl,H⟩;have u:=VH (N.out b t n H);have y:=VH (Tr (w:=w) (blk:=blk) b n);generalize(putRow gH w blk 0 b).drewN n=K at*;clear H;go_wp2_with fail;go_loopg[3]a(fun g s3 wr=>∃k:Nat,k=g/\k<=a/\s3=.int .i64 (k:Nat)/\tz f k=tz f a/\K=wr);case atStart=>exact⟨a,rfl,Nat.le_refl _,rfl,rfl,rfl⟩
 case round=>
  obtain⟨k,rfl,I,rfl,h,rfl⟩:=hrel;have W:=VH (VJ I h)
  cases k with
  |zero=>
   have l:tz f a=0:=by rw[<-h];rfl
   have m:=VH l;clear h l I;go_wp2_with fail;go_ret2;exact⟨by rw[m.out];rfl,u.out,y.out⟩
  |succ k=>
   have ab:=u.out k (by omega);have D:=M.out;have q0:(0:Int)<((k+1:Nat):Int):=by omega
   have Z:VL.wrap (((k+1:Nat):Int)-1)=(k:Int):=ak (by omega);have q1:(0:Int)<=(k:Int):=by omega
   have q2:(k:Int)<(L:Int):=by omega
   by_cases r:f k=48
   ·have P:((f k:Int)==48)=true:=by simp;omega
    have q:tz f k=tz f a:=by rw[<-h];show _=(if f k=48 then tz f k else k+1);rw[if_pos r]
    have m:=VH q;clear h q r D;generalize S:k+1=V at*;generalize f k=c at*;go_wp2_with fail;go_roundg k;case measure=>omega
    case rel=>exact⟨k,rfl,by omega,rfl,m.out,rfl⟩
   ·have P:((f k:Int)==48)=false:=beq_eq_false_iff_ne.2 (by omega);have q:tz f a=k+1:=by rw[<-h];show(if f k=48 then tz f k else k+1)=_;rw[if_neg r]
    have m:=VH q;clear h q r D;generalize S:k+1=V at*;generalize f k=c at*;go_wp2_with fail;go_ret2;exact⟨by rw[m.out];rfl,u.out,y.out⟩
end
section
def iO(l:List Nat):List Value:=l.map fun(n:Nat)=>Xl .u8 (n:Int)
theorem Om(a b:List Nat):iO (a++b)=iO a++iO b:=List.map_append
theorem iv(w:World)(k:Int):Src VI 1 102 (.slice (some ⟨w.heap.size,0,none⟩) 1 1) 1 [.int .u8 k] (w.alloc (.cells #[.int .u8 k] 5)):=by
 refine Src.ofSlice _ underlying102 ⟨_,0,none⟩ 1 1 _ rfl (fun j u b=>?_) (by simp[Value.oneCell']);have a:(⟨w.heap.size,0,none⟩:Addr).add j=⟨w.heap.size,j,none⟩:=by unfold Addr.add;split<;>simp_all
 rw[a,cell_of_row _ w.heap.size _ _ _ (0,0) (heap_alloc_new w _),<-b];simp
structure ER(w0:World)(blk nd:Nat)(f:Nat->Nat)(L:List Nat)(v:Value)(wr:World):Prop where
 own:wr.ownsRow w0.heap.size 5 1 v L.length (iO L)
 turns:aa ab w0 wr
 lt:blk<wr.heap.size
 ne:v.ownBlock≠some blk
 cd:∀i,i<nd->wr.cell? ⟨blk,i,none⟩=some (.int .u8 (f i:Nat))
variable{w0 wr w1:World}{blk nd:Nat}{f:Nat->Nat}{L:List Nat}{v v':Value}
theorem ER.slice(h:ER w0 blk nd f L v wr):∃A c,v=.slice A L.length c:=aE h.own
theorem ER.iu(h:ER w0 blk nd f L v wr):∃A n c,v=.slice A n c/\L.length=n:=by obtain⟨A,c,e⟩:=aE h.own;exact⟨A,_,c,e,rfl⟩
theorem ER.ib(h:ER w0 blk nd f L v wr)(a:L.length=k):wr.ownsRow w0.heap.size 5 1 v k (iO L):=by subst a;exact h.own
theorem ER.push(o:Obj)(h:ER w0 blk nd f L v wr)(c:Nat)(a:(wr.alloc o).grownBy w1 v.ownBlock)(p:w1.ownsRow w0.heap.size 5 1 v' (L.length+1) (iO L++[.int .u8 (c:Int)]))(n:v'.ownBlock=v.ownBlock∨v'.ownBlock=some (wr.alloc o).heap.size):ER w0 blk nd f (L++[c]) v' w1:=by
 have j:blk<(wr.alloc o).heap.size:=by have :=h.lt;simp;omega
 refine⟨?_,(h.turns.alloc o).grown a fun b r e=>?_,VO j a.size,?_,fun i hi=>?_⟩;. rw[VK,Om];exact p
 ·have :=h.own.lt b e;omega
 ·rcases n with e|e;. rw[e];exact h.ne
  ·rw[e];intro d;injection d with d;omega
 ·have k:w1.cell? ⟨blk,i,none⟩=(wr.alloc o).cell? ⟨blk,i,none⟩:=World.cell?_of_block (a.block blk j fun e=>h.ne e.symm);have m:(wr.alloc o).cell? ⟨blk,i,none⟩=wr.cell? ⟨blk,i,none⟩:=World.cell?_of_block (Below.heap_alloc wr o blk h.lt);rw[k,m];exact h.cd i hi
theorem ER.ik(o:Obj)(h:ER w0 blk nd f L v wr)(d:L.length=k)(c:Nat)(b:(wr.alloc o).grownBy w1 v.ownBlock)(e:w1.ownsRow w0.heap.size 5 1 v' (k+1) (iO L++[.int .u8 (c:Int)]))(a:v'.ownBlock=v.ownBlock∨v'.ownBlock=some (wr.alloc o).heap.size):ER w0 blk nd f (L++[c]) v' w1:=by subst d;exact h.push o c b e a
def eL(f:Nat->Nat)(a n:Nat):List Nat:=(List.range n).map fun i=>f (a+i)
theorem zg(f:Nat->Nat)(a n:Nat):eL f a (n+1)=eL f a n++[f (a+n)]:=by simp[eL,List.range_succ]
theorem jP(f:Nat->Nat)(a n:Nat):(eL f a n).length=n:=by simp[eL]
def zs(n:Nat):List Nat:=List.replicate n 48
theorem sM(n:Nat):zs (n+1)=zs n++[48]:=List.replicate_succ'
theorem jC(n:Nat):(zs n).length=n:=List.length_replicate
end
section
open Go.RowKit Go.Sort
def xF:Prop:=∀(w:World)(B:Nat)(s:Bool)(a b:Nat),FE w B->a<9218868437227405312->b<=20->Calls VI 247 #[.float .f64 (Fl.ae s a),.int .u8 102,.int .i64 (b:Nat),.int .i64 64] w fun e w'=>aa ab w w'/\∃t:ByteArray,t.size<=2000/\e=.returned (.string t)
theorem IS(H:xF):om:=by intro w B s a k b c i;have f:=VH (H w B s a k b c i);clear H b c;generalize Fl.ae s a=x at*;go_enter func225,ntmps225;go_wp2_with fail;refine f.out.mono ?_;rintro e l⟨d,t,j,rfl⟩;have h:=VH d;clear d;go_wp2_with fail;go_ret;exact⟨h.out,t,j,rfl⟩
def xD:Prop:=∀(w0 w:World)(B:Nat),FE w B->∀v:Value,w.ownsRow w0.heap.size 5 1 v 0 []->aa ab w0 w->B<=w0.heap.size->∀(s:Bool)(a b:Nat),a<9218868437227405312->b<=20->Calls VI 260 #[v,.float .f64 (Fl.ae s a),.int .u8 102,.int .i64 (b:Nat)] w fun e w'=>∃v T,e=.returned v/\w'.ownsRow w0.heap.size 5 1 v T.length (iO T)/\aa ab w0 w'/\T.length<=2000
theorem Q_{B:Nat}(a:w.ownsRow B 5 1 v l.length (iO l))(e:l.length<=2000):∃t:ByteArray,t.size<=2000/\(convert 102 9 v).run VI w=.ok (.string t) w:=by
 have c:=a;rcases a.2 with⟨rfl,d⟩|⟨g,b,f,rfl,m,n,d,h,j,k⟩;. exact⟨⟨#[]⟩,by decide,A.yD w⟩
 ·refine⟨strOfNums (l.map Int.ofNat),?_,?_⟩;. show(List.toArray _).size<=2000;simpa using e
  ·refine run_convert_bytes_arg w 102 5 underlying102 underlying5 g 0 l.length b (l.map Int.ofNat) (by simp) (fun i hi=>?_) 9 underlying9;rw[Wv,c.cellAt _ (by omega)];simp[iO,hi]
theorem JM(H:xD):xF:=by
 intro w B s a y n o A;have f:=VH (VJ n (fun m v j k l c=>H w m B j v k l c s a y o A));have E:max ((y:Int)+4) 24=24:=by omega
 have z:(Instr.makeSlice 102 (.int .i64 0) (.int .i64 24)).run VI w=.ok (.slice (some ⟨w.heap.size,0,none⟩) 0 24) (w.alloc (.cells (Wy 24 (.int .u8 0)) 5)):=by kernel_rfl
 obtain⟨i0,p⟩:=Option.isSome_iff_exists.1 (show(VI.info? 5).isSome=true by kernel_rfl);have b:(VI.info? 5).map (fun i=>(i.zero,i.size,i.bytes))=some (some (.int .u8 0),1,1):=by kernel_rfl
 rw[p]at b;simp only[Option.map_some,Option.some.injEq,Prod.mk.injEq]at b;have d:=VH (show(w.alloc (.cells (Wy 24 (.int .u8 0)) 5)).ownsRow w.heap.size 5 1 (.slice (some ⟨w.heap.size,0,none⟩) 0 24) 0 []/\aa ab w (w.alloc (.cells (Wy 24 (.int .u8 0)) 5))by obtain⟨F,j,k,_⟩:=run_makeSlice_owned (P:=VI) w w.heap.size 102 5 i0 (.int .u8 0) 1 (by kernel_rfl) p b.1 b.2.1 .i64 .i64 24 (by decide) (by rw[b.2.2];decide) (by decide) (Nat.le_refl _);have l:=z.symm.trans j;injection l with _ c;rw[c];exact⟨k,c▸(aa.refl _ w).alloc _⟩);clear H n o;generalize Fl.ae s a=x at*;go_enter func247,ntmps247;go_wp2_with fail;refine(f.out.2 _ _ (f.out.1.still d.out.2) d.out.1 d.out.2 f.out.1.iy.le).mono ?_;rintro e m⟨v,T,rfl,r,u,q⟩;have h:=VH (VJ r (VJ u q));clear r u q;obtain⟨t,C,D⟩:=Q_ (w:=m) h.out.1 h.out.2.2;go_wp2_with fail;go_ret;exact⟨h.out.2.1,t,C,rfl⟩
end
def gq(f:Nat->Nat)(b:Nat)(a:Int):List Nat:=if 0<a then eL f 0 (min b a.toNat)++zs (a.toNat-min b a.toNat)else[48]
def kJ(a:Int)(b:Nat):Nat:=min b (-a).toNat
def oO(c:Nat)(a:Int)(b:Nat):Nat:=min (b-kJ a b) ((c:Int)-(a+kJ a b)).toNat
def kK(f:Nat->Nat)(c:Nat)(b:Int)(a:Nat):List Nat:=if a=0 then[]else[46]++zs (kJ b a)++eL f (b+kJ b a).toNat (oO c b a)++zs (a-kJ b a-oO c b a)
theorem zw{blk L cap:Nat}{f:Nat->Nat}{neg:Bool}{prec:Nat}(h:ER w blk nd f [] v U)(hn:0<nd/\nd<=800)(ao:-20000<=dp/\dp<=2000)(hp:prec<=20)(hL:nd<=L)(an:L<=cap)(hc:cap<1000)(hT:(if neg then[45]else[])++gq f nd dp++kK f nd dp prec=l):Calls VI 276 #[v,.bool neg,.slice (some ⟨blk,0,none⟩) L cap,.int .i64 dp,.int .i64 (nd:Nat),.int .i64 (prec:Nat),.int .u8 102,.bool false] U fun e w'=>∃v',e=.returned v'/\ER w blk nd f l v' w':=by
 have H:=VH h;have ae:=VH hT;clear h hT;obtain⟨i0,K,M,N,O⟩:=info_parts A.rm;have HB:=VH (VJ hn (VJ ao (VJ hp (VJ hL (VJ an hc)))));go_enter func276,ntmps276;go_upto_if 178 with fail;go_cut[0](fun s0 wx=>ER w blk nd f (if neg then[45]else[]) s0 wx)
 case first=>
  cases neg with
  |false=>go_wp2_with fail;go_meet;exact H.out
  |true=>
   obtain⟨T,y,c0,rfl,c⟩:=H.out.iu;have b:=VH H.out;have d:=VH c;have ay:y<=5:=by rw[<-c];decide
   clear c;go_wp2_with(first|(at_builtin;refine aX _ rfl (.tmp 179) (.tmp 180) _ _ rfl _ 5 i0 _ 1 1 underlying102 K M N O rfl _ _ _ rfl ((b.out.ib d.out).alloc _) _ 1 [.int .u8 45] rfl (iv _ _) (by simp only[maxLen];omega) (by omega) (VS b.out.turns.size (by simp)) ?_;intro P Q S p o k;have x:=VH (ER.ik _ b.out d.out 45 o p k);clear p o k));go_meet;exact x.out
 case rest=>
  rename_i s0 wx;have Y:=VH hcut;clear hcut H;have av:(if neg then[45]else[]:List Nat).length<=1:=by cases neg<;>decide
  generalize(if neg then[45]else[]:List Nat)=V at*;go_upto_if 183 with fail;go_cut[0](fun s0 wx=>ER w blk nd f (V++gq f nd dp) s0 wx)
  case first=>
   obtain⟨A9,n9,c9,rfl,c⟩:=Y.out.iu;have d:=VH c;have aq:n9<=1:=by omega
   clear c;by_cases hd:0<dp
   ·obtain⟨D,rfl⟩:∃D:Nat,dp=(D:Int):=⟨dp.toNat,by omega⟩;have F:=VH (show gq f nd (D:Int)=eL f 0 (min nd D)++zs (D-min nd D)from by unfold gq;rw[if_pos hd,Int.toNat_natCast]);obtain⟨m,hm⟩:∃m,min nd D=m:=⟨_,rfl⟩;rw[hm]at F;have aC:min (nd:Int) (D:Int)=(m:Int):=by omega
    have aA:m<=nd:=by omega
    have aB:m<=D:=by omega
    have b1:(0:Int)<=(m:Int):=by omega
    have b2:(m:Int)<=(cap:Int):=by omega
    obtain⟨z,hz⟩:∃z:Nat,D-m=z:=⟨_,rfl⟩;have e9:VL.wrap ((D:Int)-(m:Int))=(z:Int):=ak (by omega);rw[hz]at F;clear hm;rw[decide_eq_true hd];go_wp2_with fail;go_loopg[0,25,191](m)(fun g s0 sc J wr=>∃i:Nat,g=m-i/\i<=m/\J=.int .i64 (i:Nat)/\ER w blk nd f (V++eL f 0 i) s0 wr);case atStart=>exact⟨0,rfl,VQ _,rfl,by rw[show eL f 0 0=[]from rfl,Wl];exact Y.out⟩
    case round=>
     obtain⟨i,rfl,C,rfl,hrel⟩:=hrel;obtain⟨T,y,c0,rfl,c⟩:=hrel.iu;have d:=VH c;have b:=VH hrel;have G:y<=8000:=by rw[<-c];simp only[VK,jP,jC,VM,V9];omega
     by_cases E:i<m
     ·have I:(i:Int)<((m:Nat):Int):=by omega
      have q0:(0:Int)<=(i:Int):=by omega
      have Z:VL.wrap ((i:Int)+1)=((i+1:Nat):Int):=ak (by omega);have ag:=hrel.cd (0+i) (by omega);rw[Wv]at ag;clear hrel c;go_wp2_with(first|(at_builtin;refine aX _ rfl (.tmp 195) (.tmp 197) _ _ rfl _ 5 i0 _ 1 1 underlying102 K M N O rfl _ _ _ rfl ((b.out.ib d.out).alloc _) _ 1 [.int .u8 (f i:Nat)] rfl (iv _ _) (by simp only[maxLen];omega) (by omega) (VS b.out.turns.size (by simp)) ?_;intro P Q S p o k;have x:=VH (ER.ik _ b.out d.out (f i) o p k);clear p o k));go_roundg(m-(i+1));case measure=>omega
      case rel=>exact⟨i+1,rfl,by omega,rfl,by rw[zg,Wv,<-Wh];exact x.out⟩
     ·obtain rfl:m=i:=by omega
      have I:¬(((m:Nat):Int))<((m:Nat):Int):=by omega
      clear hrel G E C c;go_wp2_with fail;go_loopg[0,203](z)(fun g s0 J wr=>∃i:Nat,g=z-i/\i<=z/\J=.int .i64 (i:Nat)/\ER w blk nd f ((V++eL f 0 m)++zs i) s0 wr);case atStart=>exact⟨0,rfl,VQ _,rfl,by rw[show zs 0=[]from rfl,Wl];exact b.out⟩
      case round=>
       obtain⟨i,rfl,C,rfl,hrel⟩:=hrel;obtain⟨T,y,c0,rfl,c⟩:=hrel.iu;have d:=VH c;have b:=VH hrel;have G:y<=8000:=by rw[<-c];simp only[VK,jP,jC,VM,V9];omega
       by_cases E:i<z
       ·have I:(i:Int)<((z:Nat):Int):=by omega
        have q0:(0:Int)<=(i:Int):=by omega
        have Z:VL.wrap ((i:Int)+1)=((i+1:Nat):Int):=ak (by omega);clear hrel c;go_wp2_with(first|(at_builtin;refine aX _ rfl (.tmp 205) (.tmp 206) _ _ rfl _ 5 i0 _ 1 1 underlying102 K M N O rfl _ _ _ rfl ((b.out.ib d.out).alloc _) _ 1 [.int .u8 48] rfl (iv _ _) (by simp only[maxLen];omega) (by omega) (VS b.out.turns.size (by simp)) ?_;intro P Q S p o k;have x:=VH (ER.ik _ b.out d.out 48 o p k);clear p o k));go_roundg(z-(i+1));case measure=>omega
        case rel=>exact⟨i+1,rfl,by omega,rfl,by rw[sM,<-Wh];exact x.out⟩
       ·obtain rfl:z=i:=by omega
        have I:¬(((z:Nat):Int))<((z:Nat):Int):=by omega
        clear hrel G E C c;go_wp2_with fail;go_meet;rw[F.out,<-Wh];exact b.out
   ·have F:=VH (show gq f nd dp=[48]from by unfold gq;rw[if_neg hd]);have b:=Y;rw[decide_eq_false hd];go_wp2_with(first|(at_builtin;refine aX _ rfl (.tmp 209) (.tmp 210) _ _ rfl _ 5 i0 _ 1 1 underlying102 K M N O rfl _ _ _ rfl ((b.out.ib d.out).alloc _) _ 1 [.int .u8 48] rfl (iv _ _) (by simp only[maxLen];omega) (by omega) (VS b.out.turns.size (by simp)) ?_;intro P Q S p o k;have x:=VH (ER.ik _ b.out d.out 48 o p k);clear p o k));go_meet;rw[F.out];exact x.out
  case rest=>
   rename_i s1 wy;have ab:=VH hcut
   have az:(V++gq f nd dp).length<=2100:=by
    rw[VK]
    have :(gq f nd dp).length<=2000:=by
     unfold gq;split;. rw[VK,jP,jC];omega
     ·decide
    omega
   clear hcut Y;generalize V++gq f nd dp=W at*;obtain⟨A9,n9,c9,rfl,c⟩:=ab.out.iu;have d:=VH c;have b:=ab;have aq:n9<=2100:=by omega
   clear c av;by_cases ad:prec=0
   ·have F:=VH (show kK f nd dp prec=[]from by unfold kK;rw[if_pos ad]);have q9:¬(0:Int)<(prec:Int):=by omega
    go_wp2_with fail;go_ret;exact⟨_,rfl,by rw[<-ae.out,F.out,Wl];exact ab.out⟩
   ·have q9:(0:Int)<(prec:Int):=by omega
    obtain⟨q,aa⟩:∃n,kJ dp prec=n:=⟨_,rfl⟩;obtain⟨t,X⟩:∃n,oO nd dp prec=n:=⟨_,rfl⟩;obtain⟨u,ah⟩:∃n,prec-q-t=n:=⟨_,rfl⟩;obtain⟨a,ha⟩:∃n,(dp+(q:Nat)).toNat=n:=⟨_,rfl⟩;have F:=VH (show kK f nd dp prec=[46]++zs q++eL f a t++zs u from by unfold kK;rw[if_neg ad,aa,X,ah,ha]);unfold oO at X;rw[aa]at X;unfold kJ at aa;obtain⟨j,hj⟩:∃j,dp+(q:Int)=j:=⟨_,rfl⟩;rw[hj]at X ha;have x1:VL.wrap (-dp)=-dp:=VR _ (by omega);have aF:VL.wrap (0-dp)=-dp:=ak (by omega);have x2:min (prec:Int) (max 0 (-dp))=(q:Int):=by omega
    have x3:VL.wrap (dp+(q:Int))=j:=ak (by omega);obtain⟨r1,ar⟩:∃r:Nat,(prec:Int)-q=(r:Int):=⟨prec-q,by omega⟩;have x4:VL.wrap ((prec:Int)-(q:Int))=(r1:Int):=ak (by omega);obtain⟨r2,au⟩:∃r,(nd:Int)-j=r:=⟨_,rfl⟩;have x5:VL.wrap ((nd:Int)-j)=r2:=ak (by omega);have x6:min (r1:Int) (max 0 r2)=(t:Int):=by omega
    have x7:VL.wrap ((r1:Int)-(t:Int))=(u:Int):=ak (by omega);have x8:max (0:Int) (u:Int)=(u:Int):=by omega
    have HJ:=VH (show∀i:Nat,i<t->VL.wrap (j+(i:Int))=((a+i:Nat):Int)/\a+i<nd from fun i C=>by rw[VR _ (by omega)];omega);have al:=VH (show q<=20/\t<=20/\u<=20 from by omega);have ax:=al.out;clear aa X ah ha hj ar au ad;go_wp2_with(first|(at_builtin;refine aX _ rfl (.tmp 214) (.tmp 215) _ _ rfl _ 5 i0 _ 1 1 underlying102 K M N O rfl _ _ _ rfl ((b.out.ib d.out).alloc _) _ 1 [.int .u8 46] rfl (iv _ _) (by simp only[maxLen];omega) (by omega) (VS b.out.turns.size (by simp)) ?_;intro P Q S p o k;have x:=VH (ER.ik _ b.out d.out 46 o p k);clear p o k));go_loopg[0,240](q)(fun g s0 J wr=>∃i:Nat,g=q-i/\i<=q/\J=.int .i64 (i:Nat)/\ER w blk nd f ((W++[46])++zs i) s0 wr);case atStart=>exact⟨0,rfl,VQ _,rfl,by rw[show zs 0=[]from rfl,Wl];exact x.out⟩
    case round=>
     obtain⟨i,rfl,C,rfl,hrel⟩:=hrel;obtain⟨T,y,c0,rfl,c⟩:=hrel.iu;have d:=VH c;have b:=VH hrel;have G:y<=8000:=by rw[<-c];simp only[VK,jP,jC,VM,V9];omega
     by_cases E:i<q
     ·have I:(i:Int)<((q:Nat):Int):=by omega
      have q0:(0:Int)<=(i:Int):=by omega
      have Z:VL.wrap ((i:Int)+1)=((i+1:Nat):Int):=ak (by omega);clear hrel c;go_wp2_with(first|(at_builtin;refine aX _ rfl (.tmp 242) (.tmp 243) _ _ rfl _ 5 i0 _ 1 1 underlying102 K M N O rfl _ _ _ rfl ((b.out.ib d.out).alloc _) _ 1 [.int .u8 48] rfl (iv _ _) (by simp only[maxLen];omega) (by omega) (VS b.out.turns.size (by simp)) ?_;intro P Q S p o k;have x:=VH (ER.ik _ b.out d.out 48 o p k);clear p o k));go_roundg(q-(i+1));case measure=>omega
      case rel=>exact⟨i+1,rfl,by omega,rfl,by rw[sM,<-Wh];exact x.out⟩
     ·obtain rfl:q=i:=by omega
      have I:¬(((q:Nat):Int))<((q:Nat):Int):=by omega
      clear hrel G E C c;go_wp2_with fail;go_loopg[0,30,247](t)(fun g s0 sc J wr=>∃i:Nat,g=t-i/\i<=t/\J=.int .i64 (i:Nat)/\ER w blk nd f (((W++[46])++zs q)++eL f a i) s0 wr);case atStart=>exact⟨0,rfl,VQ _,rfl,by rw[show eL f a 0=[]from rfl,Wl];exact b.out⟩
      case round=>
       obtain⟨i,rfl,C,rfl,hrel⟩:=hrel;obtain⟨T,y,c0,rfl,c⟩:=hrel.iu;have d:=VH c;have b:=VH hrel;have G:y<=8000:=by rw[<-c];simp only[VK,jP,jC,VM,V9];omega
       by_cases E:i<t
       ·have I:(i:Int)<((t:Nat):Int):=by omega
        have q0:(0:Int)<=(i:Int):=by omega
        have Z:VL.wrap ((i:Int)+1)=((i+1:Nat):Int):=ak (by omega);obtain⟨x9,aw⟩:=HJ.out i E;have ag:=hrel.cd (a+i) aw;have aD:((a+i:Nat):Int)<(L:Int):=by omega
        have aE:(0:Int)<=((a+i:Nat):Int):=by omega
        generalize af:a+i=ai at*;have aj:=VH af;clear af;clear hrel c;go_wp2_with(first|(at_builtin;refine aX _ rfl (.tmp 250) (.tmp 257) _ _ rfl _ 5 i0 _ 1 1 underlying102 K M N O rfl _ _ _ rfl ((b.out.ib d.out).alloc _) _ 1 [.int .u8 (f ai:Nat)] rfl (iv _ _) (by simp only[maxLen];omega) (by omega) (VS b.out.turns.size (by simp)) ?_;intro P Q S p o k;have x:=VH (ER.ik _ b.out d.out (f ai) o p k);clear p o k));go_roundg(t-(i+1));case measure=>omega
        case rel=>exact⟨i+1,rfl,by omega,rfl,by rw[zg,aj.out,<-Wh];exact x.out⟩
       ·obtain rfl:t=i:=by omega
        have I:¬(((t:Nat):Int))<((t:Nat):Int):=by omega
        clear hrel G E C c;go_wp2_with fail;go_loopg[0,261](u)(fun g s0 J wr=>∃i:Nat,g=u-i/\i<=u/\J=.int .i64 (i:Nat)/\ER w blk nd f ((((W++[46])++zs q)++eL f a t)++zs i) s0 wr);case atStart=>exact⟨0,rfl,VQ _,rfl,by rw[show zs 0=[]from rfl,Wl];exact b.out⟩
        case round=>
         obtain⟨i,rfl,C,rfl,hrel⟩:=hrel;obtain⟨T,y,c0,rfl,c⟩:=hrel.iu;have d:=VH c;have b:=VH hrel;have G:y<=8000:=by rw[<-c];simp only[VK,jP,jC,VM,V9];omega
         by_cases E:i<u
         ·have I:(i:Int)<((u:Nat):Int):=by omega
          have q0:(0:Int)<=(i:Int):=by omega
          have Z:VL.wrap ((i:Int)+1)=((i+1:Nat):Int):=ak (by omega);clear hrel c;go_wp2_with(first|(at_builtin;refine aX _ rfl (.tmp 263) (.tmp 264) _ _ rfl _ 5 i0 _ 1 1 underlying102 K M N O rfl _ _ _ rfl ((b.out.ib d.out).alloc _) _ 1 [.int .u8 48] rfl (iv _ _) (by simp only[maxLen];omega) (by omega) (VS b.out.turns.size (by simp)) ?_;intro P Q S p o k;have x:=VH (ER.ik _ b.out d.out 48 o p k);clear p o k));go_roundg(u-(i+1));case measure=>omega
          case rel=>exact⟨i+1,rfl,by omega,rfl,by rw[sM,<-Wh];exact x.out⟩
         ·obtain rfl:u=i:=by omega
          have I:¬(((u:Nat):Int))<((u:Nat):Int):=by omega
          clear hrel G E C c;go_wp2_with fail;go_ret;exact⟨_,rfl,by rw[<-ae.out,F.out,show W++([46]++zs q++eL f a t++zs u)=(((W++[46])++zs q)++eL f a t)++zs u from by simp only[Wh]];exact b.out⟩
end Go.Proofs.YtmddhediccmhbaaGreatDoor
