/- floats. -/
import Derived.Laws.BitsAllLaws
import Ieee.Arith
import Derived.Laws.FloatArith
import Derived.Laws.Cover2
import GoSem.Op.Unary
import Derived.Test.YtmddhediccmhbaaGreatDoorRows
import Derived.ProofKit
import Derived.Lib.ItoaNum
import Derived.Test.YtmddhediccmhbaaGreatDoorA05
set_option linter.all false
set_option maxHeartbeats 400000000
set_option maxRecDepth 100000
namespace Go.Proofs.YtmddhediccmhbaaGreatDoor
open Go.RowKit
open Go.Proofs.Tryz
open And renaming intro→VJ
open BitVec renaming ofInt→WX
open Calls renaming quiet_of_same→WZ
open FloatKind renaming f64→V5
open Int renaming toNat_natCast→WO
open IntKind renaming i64→VL
open IntKind renaming u64→Wf
open IntWalk renaming i64_in→VR
open IntWalk renaming u64_in→Wi
open Lib renaming hid→VH
open Nat renaming and_two_pow_sub_one_eq_mod→WL
open Nat renaming eq_zero_or_pos→W9
open Nat renaming le_of_mul_le_mul_right→X'
open Nat renaming lt_or_ge→Wb
open Nat renaming lt_trichotomy→Yj
open Nat renaming mul_assoc→V7
open Nat renaming mul_eq_zero→Y8
open Nat renaming mul_le_mul_right→V3
open Nat renaming mul_lt_mul_of_pos_right→WD
open Nat renaming mul_one→XN
open Nat renaming mul_right_comm→Xh
open Nat renaming pow_add→Wq
open Nat renaming pow_succ→WY
open Nat renaming shiftLeft_eq→Yy
open Nat renaming strongRecOn→XO
open Nat renaming two_pow_pos→Wc
open Go.Proofs.Tryz renaming prog→VI
variable {w w':World}{k n m g:Nat}{v0 v1 v2:Value}{e r:Int}{b:Bool}{t:TypeId}{l L:List Nat}
theorem cW(z:Int):∃n:Nat,n<18446744073709551616/\Wf.wrap z=(n:Int):=⟨(z%18446744073709551616).toNat,by omega,by rw[IntKind.wrap_u64];omega⟩
theorem iI{a b:Nat}(c:a<18446744073709551616)(d:b<18446744073709551616):∃n:Nat,n<18446744073709551616/\n<=b/\bits .and .u64 (a:Int) (b:Int)=(n:Int):=⟨a&&&b,by have :=Nat.and_le_right (n:=a) (m:=b);omega,Nat.and_le_right,u64_and_nat a b c d⟩
theorem iP{a b:Nat}(c:a<18446744073709551616)(d:b<18446744073709551616):∃n:Nat,n<18446744073709551616/\bits .or .u64 (a:Int) (b:Int)=(n:Int):=⟨a|||b,Nat.or_lt_two_pow (n:=64) c d,bits_or_u64_nat a b c d⟩
theorem tu{a b:Nat}(c:a<18446744073709551616)(d:b<18446744073709551616):∃n:Nat,n<18446744073709551616/\n<=a/\bits .andNot .u64 (a:Int) (b:Int)=(n:Int):=by refine⟨a&&&(18446744073709551615-b),by have :=Nat.and_le_left (n:=a) (m:=18446744073709551615-b);omega,Nat.and_le_left,?_⟩;rw[u64_andNot (a:Int) (b:Int) (by omega) (by omega) (by omega) (by omega)];simp
theorem FV(n:Int):bits .and .i64 n 63=n%64:=by
 have a:(WX 64 63).toNat=2^6-1:=by decide
 have key:(WX 64 n&&&WX 64 63).toNat=(n%((2^64:Nat):Int)).toNat%2^6:=by rw[BitVec.toNat_and,BitVec.toNat_ofInt,a,WL]
 show VL.wrap ((WX 64 n&&&WX 64 63).toNat:Nat)=n%64;rw[key,IntKind.wrap_i64];omega
theorem tB(p:Bool):Calls VI 298 #[.bool p] w fun e w'=>e=.returned (.int .u64 (if p then 1 else 0))/\w=w':=by go_enter func298,ntmps298;cases p<;>(go_wp2_with fail;go_ret;exact⟨rfl,rfl⟩)
theorem yy(p:Bool):Calls VI 328 #[.bool p] w fun e w'=>e=.returned (.int .u64 (if p then 1 else 0))/\w=w':=by go_enter func328,ntmps328;cases p<;>(go_wp2_with fail;go_ret;exact⟨rfl,rfl⟩)
theorem yx(p:Bool):Calls VI 285 #[.bool p] w fun e w'=>e=.returned (.int .i64 (if p then 1 else 0))/\w=w':=by go_enter func285,ntmps285;cases p<;>(go_wp2_with fail;go_ret;exact⟨rfl,rfl⟩)
theorem Cc(x:Int)(h:-1000000<=x/\x<=1000000):Calls VI 306 #[.int .i64 x] w fun e w'=>e=.returned (.int .i64 (x*108853/32768))/\w=w':=by have a:VL.wrap (x*108853)=x*108853:=VR _ (by omega);go_enter func306,ntmps306;go_wp2_with fail;go_ret;exact⟨rfl,rfl⟩
theorem o6(x:Int)(h:-1000000<=x/\x<=1000000):Calls VI 279 #[.int .i64 x] w fun e w'=>e=.returned (.int .i64 (x*78913/262144))/\w=w':=by have a:VL.wrap (x*78913)=x*78913:=VR _ (by omega);go_enter func279,ntmps279;go_wp2_with fail;go_ret;exact⟨rfl,rfl⟩
theorem EE(x:Nat)(i:x<18446744073709551616):∃n:Nat,n<18446744073709551616/\∀w,Calls VI 312 #[.int .u64 x] w fun e w'=>e=.returned (.int .u64 (n:Nat))/\w=w':=by obtain⟨b,h,d⟩:=cW ((x:Int)*4);obtain⟨c,a,f⟩:=cW ((b:Int)-2);refine⟨c,a,fun w=>?_⟩;go_enter func312,ntmps312;go_wp2_with fail;go_ret;exact⟨rfl,rfl⟩
theorem DK(u:Nat)(l:u<18446744073709551616):∃n:Nat,n<4611686018427387904/\∀w,Calls VI 311 #[.int .u64 u] w fun e w'=>e=.returned (.int .u64 (n:Nat))/\w=w':=by
 obtain⟨c,i,f⟩:=cW ((u:Int)+1);obtain⟨b,j,_,a⟩:=iI (a:=u/4) (b:=1) (by omega) (by decide);obtain⟨d,k,h⟩:=cW ((c:Int)+(b:Int));have a:bits .and .u64 ((u:Int)/4) 1=(b:Int):=by rw[<-a];rfl
 refine⟨d/4,by omega,fun w=>?_⟩;go_enter func311,ntmps311;go_wp2_with fail;go_ret;exact⟨rfl,rfl⟩
theorem zk(u:Nat)(t:u<18446744073709551616):∃n:Nat,n<18446744073709551616/\∀w,Calls VI 313 #[.int .u64 u,.int .u64 10] w fun e w'=>e=.returned (.int .u64 (n:Nat))/\∃m,w'=w.drewN m:=by
 obtain⟨q,z⟩:∃q,u/10=q:=⟨_,rfl⟩;obtain⟨r,c⟩:∃r,u%10=r:=⟨_,rfl⟩;have y:Wf.wrap ((u:Int)/10)=(q:Int):=by rw[Wi _ (by omega)];omega
 have er:(u:Int).tmod 10=(r:Int):=by rw[IntWalk.rem_in _ _ (by omega)];omega
 obtain⟨l,o,_,j⟩:=iI (a:=u) (b:=1) t (by decide);obtain⟨d,k,x⟩:=iP (a:=q) (b:=l) (by omega) o;have j:bits .and .u64 (u:Int) 1=(l:Int):=by rw[<-j];rfl
 by_cases c:r=0
 case' pos=>
  obtain⟨b,i,a⟩:=iP (a:=d) (b:=0) k (by decide);have a:bits .or .u64 (d:Int) 0=(b:Int):=by rw[<-a];rfl
  refine⟨b,i,fun w=>?_⟩;have p:((r:Int)!=0)=false:=by rw[c];rfl
  have f:=VH (fun W=>(yy (w:=W) false).mono fun _ _ h=>VJ h.1 h.2.symm)
 case' neg=>
  obtain⟨b,i,a⟩:=iP (a:=d) (b:=1) k (by decide);have a:bits .or .u64 (d:Int) 1=(b:Int):=by rw[<-a];rfl
  refine⟨b,i,fun w=>?_⟩;have p:((r:Int)!=0)=true:=by rw[bne_iff_ne];omega
  have f:=VH (fun W=>(yy (w:=W) true).mono fun _ _ h=>VJ h.1 h.2.symm)
 all_goals clear c;go_enter func313,ntmps313;go_wp2_with fail;go_quiet((go_at_call 328;exact WZ (f.out _)));go_wp2_with fail;go_ret;exact⟨rfl,_,rfl⟩
theorem Ct(x y:Nat)(r:x<18446744073709551616)(u:y<18446744073709551616):∃a b:Nat,a<18446744073709551616/\b<18446744073709551616/\∀w,Calls VI 253 #[.int .u64 x,.int .u64 y] w fun e w'=>e=.returned (.tuple #[.int .u64 (a:Nat),.int .u64 (b:Nat)])/\w=w':=by
 obtain⟨j,O,U,m⟩:=iI (a:=x) (b:=4294967295) r (by decide);obtain⟨k,Q,V,n⟩:=iI (a:=y) (b:=4294967295) u (by decide);have m:bits .and .u64 (x:Int) 4294967295=(j:Int):=by rw[<-m];rfl
 have n:bits .and .u64 (y:Int) 4294967295=(k:Int):=by rw[<-n];rfl
 obtain⟨c,P⟩:∃c,x/4294967296=c:=⟨_,rfl⟩;obtain⟨d,S⟩:∃d,y/4294967296=d:=⟨_,rfl⟩;have aj:(x:Int)/4294967296=(c:Int):=by omega
 have ak:(y:Int)/4294967296=(d:Int):=by omega
 obtain⟨A,L,ah⟩:=cW ((j:Int)*(k:Int));obtain⟨f,H⟩:∃f,A/4294967296=f:=⟨_,rfl⟩;have ad:(A:Int)/4294967296=(f:Int):=by omega
 obtain⟨t0,J,af⟩:=cW ((c:Int)*(k:Int));obtain⟨t,q,et⟩:=cW ((t0:Int)+(f:Int));obtain⟨C,M,_,l⟩:=iI (a:=t) (b:=4294967295) q (by decide);have l:bits .and .u64 (t:Int) 4294967295=(C:Int):=by rw[<-l];rfl
 obtain⟨i,N⟩:∃i,t/4294967296=i:=⟨_,rfl⟩;have ai:(t:Int)/4294967296=(i:Int):=by omega
 obtain⟨m0,E,Z⟩:=cW ((j:Int)*(d:Int));obtain⟨z,K,ag⟩:=cW ((C:Int)+(m0:Int));obtain⟨m1,F,aa⟩:=cW ((c:Int)*(d:Int));obtain⟨W,G,ab⟩:=cW ((m1:Int)+(i:Int));obtain⟨h,I⟩:∃h,z/4294967296=h:=⟨_,rfl⟩;have ae:(z:Int)/4294967296=(h:Int):=by omega
 obtain⟨D,o,X⟩:=cW ((W:Int)+(h:Int));obtain⟨T,p,Y⟩:=cW ((x:Int)*(y:Int));refine⟨D,T,o,p,fun w=>?_⟩;clear O U Q V P S L H J q M N E K F G I o p r u;go_enter func253,ntmps253;go_wp2_with fail;go_ret2;exact⟨rfl,rfl⟩
theorem qI{P:Prop}[Decidable P](h:P↔b=true):decide P=b:=by cases b<;>simp_all
structure sY(w:World)(g:Nat)(hi lo:Nat)(s:Int):Prop where
 c0:w.cell? ⟨g,0,none⟩=some (.int .u64 hi)
 c1:w.cell? ⟨g,1,none⟩=some (.int .u64 lo)
 c2:w.cell? ⟨g,2,none⟩=some (.int .i64 s)
theorem EG(x D L:Nat)(s:Int)(r:x<18446744073709551616)(C:D<18446744073709551616)(E:L<18446744073709551616):∃n:Nat,n<18446744073709551616/\∀w g,sY w g D L s->Calls VI 307 #[.int .u64 x,.pointer (some ⟨g,0,none⟩)] w fun e w'=>e=.returned (.int .u64 (n:Nat))/\∃m,w'=w.drewN m:=by
 obtain⟨a,b,ha,hb,l⟩:=Ct x D r C;obtain⟨c,d,hc,hd,F⟩:=Ct x L r E;obtain⟨k,hk⟩:∃k:Nat,(s%64).toNat=k:=⟨_,rfl⟩;have ad:k<64:=by omega
 have es:bits .and .i64 s 63=(k:Int):=by rw[FV];omega
 have N:0<2^k:=Wc k;obtain⟨q,j⟩:∃q,a/2^k=q:=⟨_,rfl⟩;have O:q<=a:=by rw[<-j];exact Nat.div_le_self _ _
 have X:(a:Int)/2^k=(q:Int):=by rw[<-j,Int.natCast_ediv,Int.natCast_pow];rfl
 obtain⟨t,o⟩:∃t,q*2^k=t:=⟨_,rfl⟩;have aj:t<=a:=by rw[<-o,<-j];exact Nat.div_mul_le_self _ _
 have Y:Wf.wrap ((q:Int)*2^k)=(t:Int):=by
  have :(q:Int)*2^k=(t:Int):=by rw[<-o,Int.natCast_mul,Int.natCast_pow];rfl
  rw[this,Wi _ (by omega)]
 have aa:(0:Int)<=(k:Int):=by omega
 have ab:(k:Int)<=64:=by omega
 by_cases P:t=a
 ·obtain⟨z,hz,M⟩:∃z:Nat,z<18446744073709551616/\Wf.wrap ((a:Int)-(if b<c then 1 else 0))=(z:Int):=cW _;obtain⟨y,K⟩:∃y,z/2^k=y:=⟨_,rfl⟩;have ak:y<=z:=by rw[<-K];exact Nat.div_le_self _ _
  have ey:(z:Int)/2^k=(y:Int):=by rw[<-K,Int.natCast_ediv,Int.natCast_pow];rfl
  obtain⟨u,hu,Z⟩:=cW ((b:Int)-(c:Int));obtain⟨n,G,i⟩:=iP (a:=y) (b:=if 1<u then 1 else 0) (by omega) (by split<;>decide);refine⟨n,G,fun w g hs=>?_⟩;have A:=VH (l w);have T:=VH (F w);obtain⟨c0,c1,c2⟩:=hs;clear l F j o K r C E O N;have J:(t:Int)=(a:Int):=by omega
  have ae:((t:Int)!=(a:Int))=false:=by rw[J];simp
  clear P J;have fin:∀(p f:Bool),(b<c↔p=true)->(1<u↔f=true)->Wf.wrap ((a:Int)-(if p then 1 else 0))=(z:Int)->bits .or .u64 (y:Int) (if f then 1 else 0)=(n:Int)->Calls VI 307 #[.int .u64 x,.pointer (some ⟨g,0,none⟩)] w fun e w'=>e=.returned (.int .u64 (n:Nat))/\∃m,w'=w.drewN m:=by intro p f H I M i;have Q:=VH (tB (w:=w) p);have S:=VH (fun W=>(tB (w:=W) f).mono fun _ _ h=>VJ h.1 h.2.symm);have af:decide ((b:Int)<(c:Int))=p:=qI (Iff.trans (by omega) H);have ag:decide ((1:Int)<(u:Int))=f:=qI (Iff.trans (by omega) I);have ah:decide (b<c)=p:=qI H;have ai:decide (1<u)=f:=qI I;clear H I;generalize(if p then(1:Int)else 0)=i1 at*;generalize(if f then(1:Int)else 0)=i2 at*;go_enter func307,ntmps307;go_wp2_with fail;refine A.out.mono ?_;rintro _ _⟨rfl,rfl⟩;go_wp2_with fail;refine T.out.mono ?_;rintro _ _⟨rfl,rfl⟩;go_wp2_with fail;refine Q.out.mono ?_;rintro _ _⟨rfl,rfl⟩;go_wp2_with fail;go_quiet((go_at_call 298;exact WZ (S.out _)));go_wp2_with fail;go_ret;exact⟨rfl,_,rfl⟩
  have V:Wf.wrap ((a:Int)-(if decide (b<c)then 1 else 0))=(z:Int):=by rw[<-M];simp
  have U:bits .or .u64 (y:Int) (if decide (1<u)then 1 else 0)=(n:Int):=by rw[<-i];by_cases h:1<u<;>simp[h]
  exact fin (decide (b<c)) (decide (1<u)) (by simp) (by simp) V U
 ·obtain⟨n,G,i⟩:=iP (a:=q) (b:=1) (by omega) (by decide);have i:bits .or .u64 (q:Int) 1=(n:Int):=by rw[<-i];rfl
  refine⟨n,G,fun w g hs=>?_⟩;have A:=VH (l w);obtain⟨c0,c1,c2⟩:=hs;have J:¬(t:Int)=(a:Int):=by omega
  clear l F j o r C E O N P;go_enter func307,ntmps307;go_wp2_with fail;refine A.out.mono ?_;rintro _ _⟨rfl,rfl⟩;go_wp2_with fail;go_ret;exact⟨rfl,0,rfl⟩
theorem Dj{B:Nat}(d:ad w g t #[v0,v1,v2])(f:bC w B)(e p c:Int)(G:-348<=p/\p<=347)(D:-100000<=e/\e<=100000)(E:-100000<=c/\c<=100000)(hB:B<=g):Calls VI 305 #[.pointer (some ⟨g,0,none⟩),.int .i64 e,.int .i64 p,.int .i64 c] w fun r w'=>r=.returned (.tuple #[])/\sY w' g (eV (p+348).toNat).1 (eV (p+348).toNat).2 (-(e+c+3))/\aa (af g) w w':=by
 obtain⟨k,j⟩:∃k:Nat,(p+348).toNat=k:=⟨_,rfl⟩;obtain rfl:p=(k:Int)-348:=by omega
 rw[j];obtain⟨s1,s2⟩:=f.num.scale k (by omega);have o:VL.wrap ((k:Int)-348- -348)=(k:Int):=ak (by omega);have q:VL.wrap ((k:Int)-348+348)=(k:Int):=ak (by omega);have u:VL.wrap (e+c)=e+c:=VR _ (by omega);have x:VL.wrap (e+c+3)=e+c+3:=VR _ (by omega);have y:VL.wrap (-(e+c+3))=-(e+c+3):=VR _ (by omega);have H:(0:Int)<=(k:Int):=by omega
 have I:(k:Int)<696:=by omega
 have c0:w.cell? ⟨g,0,none⟩=some v0:=d.cell 0;have c1:w.cell? ⟨g,1,none⟩=some v1:=d.cell 1;have c2:w.cell? ⟨g,2,none⟩=some v2:=d.cell 2;have z:=d.frozen 0;have A:=d.frozen 1;have C:=d.frozen 2;have m:g≠15:=by have :=f.gl;omega
 have F:¬15=g:=fun h=>m h.symm;have n:=VH d;have l:=VH (show∀a b:Nat,∀s:Int,sY (((w.setCell ⟨g,0,none⟩ (.int .u64 a)).setCell ⟨g,1,none⟩ (.int .u64 b)).setCell ⟨g,2,none⟩ (.int .i64 s)) g a b s/\aa (af g) w (((w.setCell ⟨g,0,none⟩ (.int .u64 a)).setCell ⟨g,1,none⟩ (.int .u64 b)).setCell ⟨g,2,none⟩ (.int .i64 s))from fun a b s=>by have i:=((d.aj 0 (.int .u64 a)).aj 1 (.int .u64 b)).aj 2 (.int .i64 s);refine⟨⟨by rw[i.cell];rfl,by rw[i.cell];rfl,by rw[i.cell];rfl⟩,(((aa.refl (af g) w).setCell (p:=⟨g,0,none⟩) (.inl rfl) _).setCell (p:=⟨g,1,none⟩) (.inl rfl) _).setCell (p:=⟨g,2,none⟩) (.inl rfl) _⟩);generalize(eV k).1=a at*;generalize(eV k).2=b at*;clear d f j;go_enter func305,ntmps305;go_wp2_with fail;go_end0;exact⟨rfl,l.out a b _⟩
section
namespace Fl
open Ieee
def mg(w:Nat):Nat:=if w<2^52 then w else 2^52+w%2^52
def ex(w:Nat):Nat:=if w<2^52 then 0 else w/2^52-1
def V(w:Nat):Nat:=mg w*2^ex w
def Fin(w:Nat):Prop:=w<2047*2^52
theorem rG(w:Nat):mg w<2^53:=by unfold mg;split<;>omega
theorem sE(w:Nat):w=ex w*2^52+mg w:=by unfold mg ex;split<;>omega
theorem o9{w:Nat}(h:0<ex w):2^52<=mg w:=by
 unfold ex at h;unfold mg;split at h;. omega
 ·rename_i h1;rw[if_neg h1];omega
theorem gS{v:Nat}(h:v<k):V v<V k:=by
 have d:=sE v;have i:=sE k;have e:=rG v;have j:=rG k;unfold V;rcases Yj (ex v) (ex k)with a|a|a
 ·have b:=o9 (w:=k) (by omega);obtain⟨c,f⟩:∃c,ex k=ex v+1+c:=⟨ex k-ex v-1,by omega⟩;have l:mg v*2^ex v<2^53*2^ex v:=WD e (Wc _);have m:2^53*2^ex v<=2^52*2^ex k:=by rw[f,<-Wq,<-Wq];exact Nat.pow_le_pow_right (by decide) (by omega)
  have n:2^52*2^ex k<=mg k*2^ex k:=V3 _ b;omega
 ·rw[a];exact WD (by rw[a]at d;omega) (Wc _)
 ·have b:=o9 (w:=v) (by omega);have :ex k*2^52+2^52<=ex v*2^52:=by have :=V3 (2^52) (show ex k+1<=ex v by omega);rw[Nat.add_mul]at this;omega
  omega
theorem td{v:Nat}(h:v<=k):V v<=V k:=by
 rcases Wb v k with a|a;. exact Nat.le_of_lt (gS a)
 ·rw[show v=k by omega];exact Nat.le_refl _
theorem xY{v:Nat}(h:V v=V k):v=k:=by
 rcases Yj v k with a|a|a;. have :=gS a;omega
 ·exact a
 ·have :=gS a;omega
theorem NP{v:Nat}(h:V v<V k):v<k:=by
 rcases Wb v k with a|a;. exact a
 ·have :=td a;omega
theorem ku:V 0=0:=by decide
theorem oZ:double.infRung=2047*2^52:=by decide
theorem tv:double.binade=2^52:=rfl
theorem wX:double.signWeight=2^63:=by decide
theorem uL:double.leastPlace=-1074:=by decide
def ae(neg:Bool)(w:Nat):Nat:=if neg then 2^63+w else w
theorem pU(neg:Bool)(w:Nat):double.word neg w=ae neg w:=by cases neg<;>simp[Format.word,ae,wX]
theorem fD(neg:Bool){w:Nat}(h:Fin w):double.read (ae neg w)=.number neg (mg w) (-1074+(ex w:Nat)):=by
 unfold Fin at h;have b:ae neg w/2^63%2=if neg then 1 else 0:=by cases neg<;>simp[ae]<;>omega
 have c:ae neg w%2^63=w:=by cases neg<;>simp[ae]<;>omega
 unfold Format.read;rw[wX,b,c,tv,oZ,uL];have d:((if neg then 1 else 0:Nat)==1)=neg:=by cases neg<;>rfl
 dsimp only;rw[d];by_cases a:w<2^52;. rw[if_pos a,mg,if_pos a,ex,if_pos a];rfl
 ·rw[if_neg a,if_pos h,mg,if_neg a,ex,if_neg a]
theorem jx(neg:Bool):double.read (ae neg (2047*2^52))=.infinity neg:=by cases neg<;>decide
theorem QP(neg:Bool)(h:2047*2^52<k)(d:k<2^63):double.read (ae neg k)=.nan neg (k-2047*2^52):=by
 have a:ae neg k/2^63%2=if neg then 1 else 0:=by cases neg<;>simp[ae]<;>omega
 have b:ae neg k%2^63=k:=by cases neg<;>simp[ae]<;>omega
 unfold Format.read;rw[wX,a,b,tv,oZ,uL];have c:((if neg then 1 else 0:Nat)==1)=neg:=by cases neg<;>rfl
 dsimp only;rw[c,if_neg (by omega),if_neg (by omega),if_neg (by omega)]
theorem rE(m k:Nat)(d:m≠0):(m*2^k).log2=m.log2+k:=by
 have e:=Wc k;have a:m*2^k≠0:=fun h=>by rcases Y8.1 h with h|h<;>omega
 have b:=Nat.log2_self_le d;have c:=Nat.lt_log2_self (n:=m);refine(Nat.log2_eq_iff a).2 ⟨?_,?_⟩;. rw[Wq];exact V3 _ b
 ·rw[show m.log2+k+1=m.log2+1+k by omega,Wq];exact WD c e
theorem y7(neg:Bool)(n drop:Nat)(f:n≠0):Toward.even.cut neg (n*2^drop) drop=n:=by
 unfold Toward.cut;have a:min drop ((n*2^drop).log2+2)=drop:=by rw[rE n drop f];omega
 rw[a,Nat.one_shiftLeft];have b:n*2^drop/2^drop=n:=Nat.mul_div_cancel _ (Wc _);have c:n*2^drop%2^drop=0:=Nat.mul_mod_left _ _;have h:=Wc drop;dsimp only;rw[b,c];have d:decide (2^drop<2*0)=false:=decide_eq_false (by omega);have e:(2^drop==2*0)=false:=by simp
 rw[d,e];rfl
theorem CA(neg:Bool){w a b:Nat}(h:Fin w)(t:w≠0)(e:m*2^a=V w*2^b):double.nearest neg m (-1074+(a:Int)-(b:Int))=ae neg w:=by
 unfold Fin at h;have hw:=sE w;have n:=rG w
 have d:mg w≠0:=fun f=>by
  have :ex w=0:=by
   rcases W9 (ex w)with c|c;. exact c
   ·have :=o9 c;omega
  omega
 have j:V w≠0:=fun f=>by
  rcases Y8.1 f with c|c;. exact d c
  ·have :=Wc (ex w);omega
 have l:m≠0:=fun f=>by
  rw[f,Nat.zero_mul]at e;rcases Y8.1 e.symm with c|c;. exact j c
  ·have :=Wc b;omega
 have u:m.log2+a=(mg w).log2+ex w+b:=by have :=congrArg Nat.log2 e;rw[rE _ _ l,rE _ _ j,V,rE _ _ d]at this;exact this
 have x:(mg w).log2<=52:=by have :=(Nat.log2_lt d).2 n;omega
 have r:0<ex w->(mg w).log2=52:=fun hp=>by have c:=o9 hp;have :52<=(mg w).log2:=(Nat.le_log2 d).2 c;omega
 have q:max (-1074+(a:Int)-(b:Int)+(m.log2:Nat)-52) (-1074)=-1074+(ex w:Nat):=by
  rcases W9 (ex w)with c|c;. omega
  ·have :=r c;omega
 unfold Format.nearest;rw[if_neg l,uL,show((double.fractionBits:Nat):Int)=52 from rfl];dsimp only;rw[q,pU,tv,oZ,show((-1074+(ex w:Nat)-(-1074):Int)).toNat=ex w by omega,Yy];congr 1
 have p:Toward.even.cut neg (m*2^((-1074+(a:Int)-(b:Int)-(-1074+(ex w:Nat)):Int)).toNat) ((-1074+(ex w:Nat)-(-1074+(a:Int)-(b:Int)):Int)).toNat=mg w:=by
  rcases Wb a (b+ex w)with c|c
  ·obtain⟨k,o⟩:∃k,b+ex w=a+k:=⟨b+ex w-a,by omega⟩;rw[show((-1074+(a:Int)-(b:Int)-(-1074+(ex w:Nat)):Int)).toNat=0 by omega,show((-1074+(ex w:Nat)-(-1074+(a:Int)-(b:Int)):Int)).toNat=k by omega]
   have :m*2^0=mg w*2^k:=by
    have i:m*2^a=(mg w*2^k)*2^a:=by rw[e,V,V7,V7,<-Wq,<-Wq];congr 2;omega
    rw[Nat.pow_zero,XN];exact Nat.eq_of_mul_eq_mul_right (Wc a) i
   rw[this];exact y7 _ _ _ d
  ·obtain⟨k,o⟩:∃k,a=b+ex w+k:=⟨a-b-ex w,by omega⟩;rw[show((-1074+(a:Int)-(b:Int)-(-1074+(ex w:Nat)):Int)).toNat=k by omega,show((-1074+(ex w:Nat)-(-1074+(a:Int)-(b:Int)):Int)).toNat=0 by omega]
   have :m*2^k=mg w*2^0:=by
    have i:(m*2^k)*2^(b+ex w)=mg w*2^(b+ex w):=by rw[V7,<-Wq,show k+(b+ex w)=a by omega,e,V,V7,<-Wq];congr 2;omega
    rw[Nat.pow_zero,XN];exact Nat.eq_of_mul_eq_mul_right (Wc _) i
   rw[this];exact y7 _ _ _ d
 rw[p,<-hw];omega
theorem CB(neg:Bool)(place:Int):double.nearest neg 0 place=ae neg 0:=by unfold Format.nearest;rw[if_pos rfl,pU]
end Fl
end
section
namespace Fl
open Ieee
def tM(w:Nat):Nat:=if w<2^52 then 2*w else w+2^52
theorem FJ(w:Nat):V (tM w)=V w*2:=by
 unfold tM;split
 ·rename_i h;have b:mg w=w:=if_pos h;have c:ex w=0:=if_pos h;unfold V;rw[b,c];by_cases a:2*w<2^52;. rw[show mg (2*w)=2*w from if_pos a,show ex (2*w)=0 from if_pos a];omega
  ·rw[show mg (2*w)=2^52+2*w%2^52 from if_neg a,show ex (2*w)=2*w/2^52-1 from if_neg a,show 2*w/2^52-1=0 by omega];omega
 ·rename_i h;have a:¬w+2^52<2^52:=by omega
  unfold V;rw[show mg w=2^52+w%2^52 from if_neg h,show ex w=w/2^52-1 from if_neg h,show mg (w+2^52)=2^52+(w+2^52)%2^52 from if_neg a,show ex (w+2^52)=(w+2^52)/2^52-1 from if_neg a,show(w+2^52)/2^52-1=(w/2^52-1)+1 by omega,show(w+2^52)%2^52=w%2^52 by omega];generalize w/2^52-1=e;generalize 2^52+w%2^52=q;rw[WY,V7]
def aV(w:Nat):Nat->Nat|0=>w|k+1=>tM (aV w k)
theorem lG(w k:Nat):V (aV w k)=V w*2^k:=by induction k with|zero=>simp[aV]|succ k a=>rw[aV,FJ,a,WY,V7]
theorem tf(h:k<2^53):V k=k:=by
 unfold V mg ex;split;. omega
 ·rename_i h1;rw[show k/2^52-1=0 by omega];omega
theorem repr{t b:Nat}(h:t<2^53):V (aV t b)=t*2^b:=by rw[lG,tf h]
theorem mZ{v w:Nat}(hw:Fin w)(h:V v<=V w):Fin v:=by
 unfold Fin at*;rcases Wb v (2047*2^52)with a|a;. exact a
 ·have :=gS (show w<v by omega);omega
theorem IA{v:Nat}(h:v<=k):ex v<=ex k:=by unfold ex;split<;>split<;>omega
theorem SQ(f:Fin k)(e:V n<=V k)(i:V k<2*V n):∃d,V d=V k-V n/\Fin d/\double.sub (ae false k) (ae false n)=some d:=by
 have y:Fin n:=mZ f e
 have z:n<=k:=by
  rcases Wb k n with h|h;. have :=gS h;omega
  ·exact h
 have A:=IA z;obtain⟨a,u⟩:∃a,ex k=ex n+a:=⟨ex k-ex n,by omega⟩;have E:=rG n;have b:V k=(mg k*2^a)*2^ex n:=by unfold V;rw[u,Nat.add_comm,Wq,V7]
 have c:V n=mg n*2^ex n:=rfl;have w:=Wc (ex n);have C:mg n<=mg k*2^a:=by rw[b,c]at e;exact X' e w
 have D:mg k*2^a-mg n<2^53:=by rw[b,c,<-V7]at i;have :=Nat.lt_of_mul_lt_mul_right i;omega
 obtain⟨t,x⟩:∃t,t=mg k*2^a-mg n:=⟨_,rfl⟩;have q:V (aV t (ex n))=V k-V n:=by rw[repr (by omega),b,c,<-Nat.sub_mul,x]
 have l:Fin (aV t (ex n)):=mZ f (by omega);refine⟨aV t (ex n),q,l,?_⟩;unfold Format.sub;rw[fD false f,fD false y];show Option.map _ (Datum.sum _ (Datum.number true _ _))=_;unfold Datum.sum;dsimp only;rw[show min (-1074+(ex k:Nat):Int) (-1074+(ex n:Nat))=-1074+(ex n:Nat)by omega,show((-1074+(ex k:Nat):Int)-(-1074+(ex n:Nat))).toNat=a by omega,show((-1074+(ex n:Nat):Int)-(-1074+(ex n:Nat))).toNat=0 by omega];have es:signed false (mg k) a+signed true (mg n) 0=(t:Int):=by unfold signed;simp only[Yy,Bool.false_eq_true,if_false,if_true,Nat.pow_zero,XN];omega
 rw[es]
 have m:(if(t:Int)=0 then false&&true else decide ((t:Int)<0))=false:=by
  split;. rfl
  ·exact decide_eq_false (by omega)
 rw[m,Int.natAbs_natCast];show some (double.nearest false t _)=_;by_cases o:t=0
 ·rw[o,CB];have :V (aV 0 (ex n))=0:=by rw[repr (by decide)];simp
  rw[xY (this.trans ku.symm)];rfl
 ·have r:aV t (ex n)≠0:=fun h=>by have j:=repr (t:=t) (b:=ex n) (by omega);rw[h,ku]at j;rcases Y8.1 j.symm with p|p<;>omega
  have :=CA false (w:=aV t (ex n)) (m:=t) (a:=ex n) (b:=0) l r (by rw[repr (by omega)];simp);rw[show(-1074+(ex n:Int):Int)=-1074+(ex n:Int)-((0:Nat):Int)by omega,this];rfl
theorem uY{x y z:Nat}{sx sy:Bool}(c:Fin x)(d:Fin y)(e:Fin z)(h:V x*V y=V z*2^1074):double.mul (ae sx x) (ae sy y)=some (ae (sx^^sy) z):=by
 unfold Format.mul;rw[fD sx c,fD sy d];show some (double.nearest _ (mg x*mg y) _)=_;by_cases a:z=0
 ·subst a;generalize(2:Nat)^1074=N at h;rw[ku,Nat.zero_mul]at h
  have b:mg x*mg y=0:=by
   unfold V at h;rw[Nat.mul_mul_mul_comm]at h;rcases Y8.1 h with h|h;. exact h
   ·rw[<-Wq]at h;have :=Wc (ex x+ex y);omega
  rw[b,CB]
 ·have :=CA (sx^^sy) (w:=z) (m:=mg x*mg y) (a:=ex x+ex y) (b:=1074) e a (by rw[<-h,V,V,Nat.mul_mul_mul_comm,<-Wq]);rw[show(-1074+(ex x:Nat)+(-1074+(ex y:Nat)):Int)=-1074+((ex x+ex y:Nat):Int)-((1074:Nat):Int)by omega,this]
def cm(w:Nat):Nat:=if w<2^52 then aV w 52 else w
def dU(w:Nat):Int:=if w<2^52 then-52 else 0
def bg(w:Nat):Nat:=1022*2^52+cm w%2^52
def aY(w:Nat):Int:=dU w+(cm w/2^52:Nat)-1022
theorem rL(c:k≠0):2^52<=cm k:=by
 unfold cm;split
 ·rename_i h;rcases Wb (aV k 52) (2^52)with a|a;. have b:=repr (t:=k) (b:=52) (by omega);rw[tf (by omega)]at b;omega
  ·exact a
 ·omega
theorem x_(h:2^52<=k):V k=(2^52+k%2^52)*2^(k/2^52-1):=by unfold V mg ex;rw[if_neg (by omega),if_neg (by omega)]
theorem mI(f:k≠0):V k*2^52=(2^52+bg k%2^52)*2^(aY k+1073).toNat/\0<=aY k+1073:=by
 have d:=rL f;have e:bg k%2^52=cm k%2^52:=by unfold bg;omega
 rw[e];have c:=x_ d;unfold aY;by_cases h:k<2^52
 ·have b:dU k=-52:=if_pos h;have a:V (cm k)=V k*2^52:=by unfold cm;rw[if_pos h,lG]
  rw[b,<-a,c];exact⟨by congr 2;omega,by omega⟩
 ·have b:dU k=0:=if_neg h;have a:cm k=k:=if_neg h;rw[a]at c d;rw[b,a,c,V7,<-Wq];exact⟨by congr 2;omega,by omega⟩
theorem BE(h:k*2^52<=n*2^52):k<=n:=X' h (by decide)
theorem Ck(h:k*2^52<n*2^52):k<n:=Nat.lt_of_mul_lt_mul_right h
theorem Aa(w:Nat):bg w=1022*2^52+bg w%2^52:=by unfold bg;generalize cm w=n;omega
theorem dy(x:k≠0)(y:n≠0)(h:n<=k):0<=(if bg k<bg n then aY k-1 else aY k)-aY n/\V n*2^((if bg k<bg n then aY k-1 else aY k)-aY n).toNat<=V k/\V k<2*(V n*2^((if bg k<bg n then aY k-1 else aY k)-aY n).toNat):=by
 obtain⟨f,z⟩:=mI x;obtain⟨a2,A⟩:=mI y;have p:=td h;have c1:=Aa k;have c2:=Aa n;have C:bg k%2^52<2^52:=Nat.mod_lt _ (Wc 52);have D:bg n%2^52<2^52:=Nat.mod_lt _ (Wc 52);generalize bg k%2^52=d at*;generalize bg n%2^52=c at*;obtain⟨er,r⟩:∃er:Nat,aY k+1073=er:=⟨(aY k+1073).toNat,by omega⟩;obtain⟨a,u⟩:∃a:Nat,aY n+1073=a:=⟨(aY n+1073).toNat,by omega⟩;rw[r,WO]at f;rw[u,WO]at a2;have G:0<2^52:=by decide
 have hW:(2^52+c)*2^a<=(2^52+d)*2^er:=by rw[<-f,<-a2];exact V3 _ p
 have F:a<=er:=by
  rcases Wb er a with e|e
  ·have m:(2^52+d)*2^er<2^53*2^er:=WD (by omega) (Wc _);have o:2^53*2^er<=2^52*2^a:=by rw[<-Wq,<-Wq];exact Nat.pow_le_pow_right (by decide) (by omega)
   have E:2^52*2^a<=(2^52+c)*2^a:=V3 _ (by omega);omega
  ·exact e
 have w:d<c->a<er:=fun l=>by
  rcases Wb a er with e|e;. exact e
  ·have :a=er:=by omega
   rw[this]at hW;have :=X' hW (Wc _);omega
 have l:(bg k<bg n)↔d<c:=by omega
 by_cases j:d<c
 ·have :=w j;rw[if_pos (l.2 j)];obtain⟨b,i⟩:∃b,er=a+1+b:=⟨er-a-1,by omega⟩;rw[show(aY k-1-aY n).toNat=b by omega];refine⟨by omega,?_,?_⟩
  ·refine BE ?_;rw[Xh,a2,f,i];have e:(2^52+c)*2^a*2^b<=2^53*2^a*2^b:=V3 _ (V3 _ (by omega));have m:2^53*2^a*2^b=2^52*2^(a+1+b):=by rw[<-Wq,<-Wq,<-Wq];congr 1;omega
   have o:2^52*2^(a+1+b)<=(2^52+d)*2^(a+1+b):=V3 _ (by omega);omega
  ·refine Ck ?_;rw[V7 2,Xh,a2,f,i];have e:(2^52+d)*2^(a+1+b)<(2^52+c)*2^(a+1+b):=WD (by omega) (Wc _);have m:(2^52+c)*2^(a+1+b)=2*((2^52+c)*2^a*2^b):=by generalize 2^52+c=q;rw[Wq,WY];generalize 2^a=s;generalize 2^b=t;rw[Nat.mul_comm s 2,V7 2,Nat.mul_left_comm q 2,V7 q]
   omega
 ·rw[if_neg (fun h=>j (l.1 h))];obtain⟨b,i⟩:∃b,er=a+b:=⟨er-a,by omega⟩;rw[show(aY k-aY n).toNat=b by omega];refine⟨by omega,?_,?_⟩;. refine BE ?_;rw[Xh,a2,f,i,V7,<-Wq];exact V3 _ (by omega)
  ·refine Ck ?_;rw[V7 2,Xh,a2,f,i,V7 (2^52+c),<-Wq,<-V7];exact WD (by omega) (Wc _)
end Fl
end
section
namespace Fl
open Ieee
def NN(x:Nat):Prop:=∃s w,x=ae s w/\w<=2047*2^52
def mz(x:Nat):Prop:=∃s w,x=ae s w/\Fin w/\w≠0
def ja(x:Nat):Prop:=∃s w,x=ae s w/\2047*2^52<w/\w<2^63
theorem mz.nn(h:mz k):NN k:=by obtain⟨s,w,rfl,a,b⟩:=h;exact⟨s,w,rfl,Nat.le_of_lt a⟩
theorem j'{s:Bool}{w:Nat}(h:w<2^63):ae s w<2^64:=by cases s<;>simp[ae]<;>omega
theorem NN.lt(h:NN k):k<18446744073709551616:=by obtain⟨s,w,rfl,a⟩:=h;exact j' (by omega)
theorem pA(h:NN k):(∃s m p,double.read k=.number s m p)∨∃s,double.read k=.infinity s:=by
 obtain⟨s,w,rfl,b⟩:=h;rcases Wb w (2047*2^52)with a|a;. exact .inl ⟨_,_,_,fD s a⟩
 ·rw[show w=2047*2^52 by omega];exact .inr ⟨_,jx s⟩
theorem QQ(h:ja k):∃s f,double.read k=.nan s f:=by obtain⟨s,w,rfl,a,b⟩:=h;exact⟨_,_,QP s a b⟩
theorem Dz(h:mz k):∃s m p,double.read k=.number s m p/\m≠0:=by
 obtain⟨s,w,rfl,b,d⟩:=h;refine⟨_,_,_,fD s b,fun c=>?_⟩;have :=sE w;rcases W9 (ex w)with a|a;. rw[a,c]at this;omega
 ·have :=o9 a;omega
theorem Ox(neg:Bool)(m:Nat)(p:Int):NN (double.nearest neg m p):=by
 unfold Format.nearest;split;. exact⟨neg,0,pU _ _,by omega⟩
 ·dsimp only;rw[pU,oZ];exact⟨neg,_,rfl,Nat.min_le_right _ _⟩
theorem oe(s:Bool)(m:Nat)(p:Int):NN (double.write (.number s m p)):=Ox s m p
theorem xj(s:Bool):NN (double.write (.infinity s)):=⟨s,2047*2^52,by show double.word s double.infRung=_;rw[pU,oZ],by omega⟩
theorem uZ(c:NN k)(d:mz n):∃r,double.mul k n=some r/\NN r:=by
 obtain⟨t,f,q,a,b⟩:=Dz d;unfold Format.mul;rw[a];rcases pA c with⟨s,m,p,e⟩|⟨s,e⟩;. rw[e];exact⟨_,rfl,oe _ _ _⟩
 ·rw[e];refine⟨_,by show Option.map _ (if f=0 then none else some _)=_;rw[if_neg b];rfl,xj _⟩
theorem Hv(c:NN k)(d:mz n):∃r,double.div k n=some r/\NN r:=by
 obtain⟨t,f,q,a,b⟩:=Dz d;unfold Format.div;rw[a];rcases pA c with⟨s,m,p,e⟩|⟨s,e⟩;. rw[e];refine⟨_,by show Option.map _ (if f=0 then _ else _)=_;rw[if_neg b];rfl,oe _ _ _⟩
 ·rw[e];exact⟨_,rfl,xj _⟩
theorem pf(h:ja k):double.order k n=none:=by obtain⟨s,f,e⟩:=QQ h;unfold Format.order;rw[e];cases double.read n<;>rfl
end Fl
end
theorem gW(h:Ieee.double.mul k n=some m):floatBits .mul .f64 k n=some m:=h
theorem II(h:Ieee.double.div k n=some m):floatBits .quo .f64 k n=some m:=h
def z8(x:Nat):Bool:=decide (0<x)&&decide (x<2047*2^52)
theorem Pt:(List.range 23).all (fun k=>z8 (eQ.getD k 0))=true:=by decide+kernel
theorem rT(h:k<23):Fl.mz (eQ.getD k 0):=by have :=List.all_eq_true.1 Pt k (List.mem_range.2 h);simp only[z8,Bool.and_eq_true,decide_eq_true_eq]at this;exact⟨false,eQ.getD k 0,rfl,this.2,by omega⟩
theorem IB(m:Nat)(S:m<18446744073709551616)(x:Int)(Y:-1000000<=x/\x<=1000000):∃(f:Nat)(ok:Bool),Fl.NN f/\∀w B,bC w B->Calls VI 300 #[.int .u64 m,.int .i64 x,.bool false] w fun e w'=>e=.returned (.tuple #[.float .f64 f,.bool ok])/\w=w':=by
 have G:((m:Int)/4503599627370496)=((m/4503599627370496:Nat):Int):=by omega
 obtain⟨q,j⟩:∃q,m/4503599627370496=q:=⟨_,rfl⟩;rw[j]at G;have X:q<18446744073709551616:=by omega
 have O:(m:Int)/2^52=(q:Int):=G;have N:Fl.NN 0:=⟨false,0,rfl,by omega⟩;by_cases M:q=0
 ·subst M;obtain⟨h,i⟩:∃h,Ieee.double.write (.number (decide ((m:Int)<0)) (m:Int).natAbs 0)=h:=⟨_,rfl⟩;have n:Fl.NN h:=by rw[<-i];exact Fl.oe _ _ _
  have P:floatOfInt .f64 (m:Int)=h:=i;by_cases I:x=0;. subst I;refine⟨h,true,n,fun w B b=>?_⟩;obtain⟨l,i2,i3⟩:=b.num.info;go_enter func300,ntmps300;go_wp2_with fail;go_ret2;exact⟨rfl,rfl⟩
  ·have Z:(x==0)=false:=beq_eq_false_iff_ne.2 I;by_cases U:0<x
   ·by_cases Q:x<=37
    ·by_cases J:22<x
     ·obtain⟨k,H⟩:∃k:Nat,x-22=k:=⟨(x-22).toNat,by omega⟩;obtain⟨D,y,E⟩:=Fl.uZ n (rT (k:=k) (by omega));obtain⟨g,d,C⟩:=Fl.uZ E (rT (k:=22) (by decide))
      cases K:(V5.format.order D 4831355200913801216==some .gt)with
      |true=>
       refine⟨D,false,E,fun w B b=>?_⟩;obtain⟨l,i2,i3⟩:=b.num.info;obtain⟨a,o,r,u,t,c⟩:=b.fP.at_;have c1:=c k (by omega);have c2:=c 22 (by decide);have F:VL.wrap (x-22)=(k:Int):=ak (by omega);have p:(0:Int)<=(k:Int):=by omega
       have z:(k:Int)<23:=by omega
       have y:=fun W T=>run_float_arith (P:=VI) W .mul T .f64 _ _ _ (gW y);have d:=fun W T=>run_float_arith (P:=VI) W .mul T .f64 _ _ _ (gW d);generalize eQ.getD k 0=A at*;generalize eQ.getD 22 0=t2 at*;clear b c j i;go_enter func300,ntmps300;go_wp2_with fail;go_ret2;exact⟨rfl,rfl⟩
      |false=>
       cases L:(V5.format.order D 14054727237768577024==some .lt)with
       |true=>
        refine⟨D,false,E,fun w B b=>?_⟩;obtain⟨l,i2,i3⟩:=b.num.info;obtain⟨a,o,r,u,t,c⟩:=b.fP.at_;have c1:=c k (by omega);have c2:=c 22 (by decide);have F:VL.wrap (x-22)=(k:Int):=ak (by omega);have p:(0:Int)<=(k:Int):=by omega
        have z:(k:Int)<23:=by omega
        have y:=fun W T=>run_float_arith (P:=VI) W .mul T .f64 _ _ _ (gW y);have d:=fun W T=>run_float_arith (P:=VI) W .mul T .f64 _ _ _ (gW d);generalize eQ.getD k 0=A at*;generalize eQ.getD 22 0=t2 at*;clear b c j i;go_enter func300,ntmps300;go_wp2_with fail;go_ret2;exact⟨rfl,rfl⟩
       |false=>
        refine⟨g,true,C,fun w B b=>?_⟩;obtain⟨l,i2,i3⟩:=b.num.info;obtain⟨a,o,r,u,t,c⟩:=b.fP.at_;have c1:=c k (by omega);have c2:=c 22 (by decide);have F:VL.wrap (x-22)=(k:Int):=ak (by omega);have p:(0:Int)<=(k:Int):=by omega
        have z:(k:Int)<23:=by omega
        have y:=fun W T=>run_float_arith (P:=VI) W .mul T .f64 _ _ _ (gW y);have d:=fun W T=>run_float_arith (P:=VI) W .mul T .f64 _ _ _ (gW d);generalize eQ.getD k 0=A at*;generalize eQ.getD 22 0=t2 at*;clear b c j i;go_enter func300,ntmps300;go_wp2_with fail;go_ret2;exact⟨rfl,rfl⟩
     ·obtain⟨k,rfl⟩:=Int.eq_ofNat_of_zero_le (show 0<=x by omega);obtain⟨g,d,C⟩:=Fl.uZ n (rT (k:=k) (by omega))
      cases K:(V5.format.order h 4831355200913801216==some .gt)with
      |true=>
       refine⟨h,false,n,fun w B b=>?_⟩;obtain⟨l,i2,i3⟩:=b.num.info;obtain⟨a,o,r,u,t,c⟩:=b.fP.at_;have c1:=c k (by omega);have p:(0:Int)<=(k:Int):=by omega
       have z:(k:Int)<23:=by omega
       have d:=fun W T=>run_float_arith (P:=VI) W .mul T .f64 _ _ _ (gW d);generalize eQ.getD k 0=A at*;clear b c j i;go_enter func300,ntmps300;go_wp2_with fail;go_ret2;exact⟨rfl,rfl⟩
      |false=>
       cases L:(V5.format.order h 14054727237768577024==some .lt)with
       |true=>
        refine⟨h,false,n,fun w B b=>?_⟩;obtain⟨l,i2,i3⟩:=b.num.info;obtain⟨a,o,r,u,t,c⟩:=b.fP.at_;have c1:=c k (by omega);have p:(0:Int)<=(k:Int):=by omega
        have z:(k:Int)<23:=by omega
        have d:=fun W T=>run_float_arith (P:=VI) W .mul T .f64 _ _ _ (gW d);generalize eQ.getD k 0=A at*;clear b c j i;go_enter func300,ntmps300;go_wp2_with fail;go_ret2;exact⟨rfl,rfl⟩
       |false=>
        refine⟨g,true,C,fun w B b=>?_⟩;obtain⟨l,i2,i3⟩:=b.num.info;obtain⟨a,o,r,u,t,c⟩:=b.fP.at_;have c1:=c k (by omega);have p:(0:Int)<=(k:Int):=by omega
        have z:(k:Int)<23:=by omega
        have d:=fun W T=>run_float_arith (P:=VI) W .mul T .f64 _ _ _ (gW d);generalize eQ.getD k 0=A at*;clear b c j i;go_enter func300,ntmps300;go_wp2_with fail;go_ret2;exact⟨rfl,rfl⟩
    ·refine⟨h,false,n,fun w B b=>?_⟩;obtain⟨l,i2,i3⟩:=b.num.info;have p:¬x<0:=by omega
     clear b j i;go_enter func300,ntmps300;go_wp2_with fail;go_ret2;exact⟨rfl,rfl⟩
   ·by_cases J:-22<=x
    ·obtain⟨k,H⟩:∃k:Nat,-x=k:=⟨(-x).toNat,by omega⟩;obtain rfl:x=-(k:Int):=by omega
     obtain⟨g,d,C⟩:=Fl.Hv n (rT (k:=k) (by omega));refine⟨g,true,C,fun w B b=>?_⟩;obtain⟨l,i2,i3⟩:=b.num.info;obtain⟨a,o,r,u,t,c⟩:=b.fP.at_;have c1:=c k (by omega);have p:(0:Int)<=(k:Int):=by omega
     have z:(k:Int)<23:=by omega
     have p3:-(k:Int)<0:=by omega
     have d:=fun W T=>run_float_arith (P:=VI) W .quo T .f64 _ _ _ (II d);generalize eQ.getD k 0=A at*;clear b c j i H;go_enter func300,ntmps300;go_wp2_with fail;go_ret2;exact⟨rfl,rfl⟩
    ·refine⟨h,false,n,fun w B b=>?_⟩;obtain⟨l,i2,i3⟩:=b.num.info;have p:x<0:=by omega
     clear b j i;go_enter func300,ntmps300;go_wp2_with fail;go_ret2;exact⟨rfl,rfl⟩
 ·refine⟨0,false,N,fun w B b=>?_⟩;obtain⟨l,i2,i3⟩:=b.num.info;have V:((q:Int)!=0)=true:=by rw[bne_iff_ne];omega
  clear j b;go_enter func300,ntmps300;go_wp2_with fail;go_ret2;exact⟨rfl,rfl⟩
def lN(b:Bool):Value:=if b then .iface 301 (.int .i64 1)else .nilIface
theorem oW(n:Nat)(w:World):(callFunc 299 #[.int .u64 n]).run VI w=.ok (.value (.float .f64 n)) w:=by rw[run_callFunc_extern func299 (by kernel_rfl) (by kernel_rfl) (by kernel_rfl) (e:=Extern.MathFloatBits.float64frombits) (by kernel_rfl)];rfl
theorem C0(m:Nat)(j:m<18446744073709551616)(x:Int)(I:-100000<=x/\x<=100000):∃(f:Nat)(b:Bool),f<18446744073709551616/\∀w,Calls VI 327 #[.int .u64 m,.int .i64 x] w fun e w'=>e=.returned (.tuple #[.float .f64 f,lN b])/\w=w':=by
 obtain⟨o,r,u,q⟩:=iI (a:=m) (b:=4503599627370496) j (by decide);have q:bits .and .u64 (m:Int) 4503599627370496=(o:Int):=by rw[<-q];rfl
 by_cases l:o=0;. subst l;refine⟨m,false,j,fun w=>?_⟩;have p:=oW m w;go_enter func327,ntmps327;go_wp2_with fail;go_ret2;exact⟨rfl,rfl⟩
 ·have H:((o:Int)==0)=false:=beq_eq_false_iff_ne.2 (by omega);by_cases z:972<=x
  ·obtain⟨a,h,n,d⟩:=iI (a:=m) (b:=9223372036854775808) j (by decide);obtain⟨c,i,k⟩:=iP (a:=a) (b:=9218868437227405312) h (by decide);have d:bits .and .u64 (m:Int) 9223372036854775808=(a:Int):=by rw[<-d];rfl
   have k:bits .or .u64 (a:Int) 9218868437227405312=(c:Int):=by rw[<-k];rfl
   refine⟨c,true,i,fun w=>?_⟩;have p:=oW c w;clear l r u h n;go_enter func327,ntmps327;go_wp2_with fail;go_ret2;exact⟨rfl,rfl⟩
  ·have G:¬972<=x:=z;obtain⟨a,h,n,d⟩:=tu (a:=m) (b:=4503599627370496) j (by decide);have d:bits .andNot .u64 (m:Int) 4503599627370496=(a:Int):=by rw[<-d];rfl
   obtain⟨A,y,D⟩:=cW (1075+x);obtain⟨C,t,E⟩:=cW ((A:Int)*4503599627370496);obtain⟨c,i,k⟩:=iP (a:=a) (b:=C) h t;have F:VL.wrap (1075+x)=1075+x:=VR _ (by omega);refine⟨c,false,i,fun w=>?_⟩;have p:=oW c w;clear l r u h n y t i;go_enter func327,ntmps327;go_wp2_with fail;go_ret2;exact⟨rfl,rfl⟩
namespace Dc
theorem wv{d:D}:∀(k:Nat),1<=k->Ok d->d.ds≠[]->Ok (shl k d)/\(shl k d).ds≠[]/\aO d<aO (shl k d)/\(shl k d).dp<=max d.dp 0+19+k:=by
 intro k
 induction k using XO generalizing d with
 |_ k m=>
  intro j e f;by_cases h:60<k;. obtain⟨a,b,c⟩:=o8 (k:=60) (by decide) e f;have l:=o7 (k:=60) (by decide) e;obtain⟨a2,i,c2,n⟩:=m (k-60) (by omega) (by omega) a b;rw[wu h];exact⟨a2,i,by omega,by omega⟩
  ·obtain⟨a,b,c⟩:=o8 (k:=k) j e f;have l:=o7 (k:=k) (by omega) e;rw[wz (by omega)];exact⟨a,b,c,by omega⟩
theorem wE{d:D}:∀(k:Nat),1<=k->Ok d->d.ds≠[]->Ok (shr k d)/\(shr k d).ds≠[]/\aO (shr k d)<aO d/\min d.dp 0-864-15*(k:Int)<=(shr k d).dp:=by
 intro k
 induction k using XO generalizing d with
 |_ k m=>
  intro j e f;by_cases h:60<k;. obtain⟨a,b,c⟩:=pF (k:=60) (by decide) (by decide) e f;have l:=pE (k:=60) e;obtain⟨a2,i,c2,n⟩:=m (k-60) (by omega) (by omega) a b;rw[wD h];exact⟨a2,i,by omega,by omega⟩
  ·obtain⟨a,b,c⟩:=pF (k:=k) j (by omega) e f;have l:=pE (k:=k) e;rw[wF (by omega)];exact⟨a,b,c,by omega⟩
theorem wo{d:D}(b:1<=k)(a:d.ds≠[]):shift (k:Int) d=shl k d:=by rw[shift,if_neg a,if_pos (by omega),WO]
theorem r9{d:D}(b:1<=k)(a:d.ds≠[]):shift (-(k:Int)) d=shr k d:=by rw[shift,if_neg a,if_neg (by omega),if_pos (by omega),Int.neg_neg,WO]
theorem jw{d:D}(b:Ok d)(a:d.ds≠[]):10*d.dp+1<=aO d/\aO d<=10*d.dp+9:=by obtain⟨x,l,e,c,f⟩:=js b a;unfold aO;rw[e];simp only[List.headD_cons];omega
theorem Q3(d:D):eS d<18446744073709551616:=by
 unfold eS;split;. decide
 ·exact Nat.mod_lt _ (by decide)
def vJ:List Nat:=[1,3,6,9,13,16,19,23,26]
def cU(x:Int):Nat:=if 9<=x then 27 else vJ.getD x.toNat 0
theorem nL{x:Int}(h:0<=x):1<=cU x/\cU x<=27:=by
 unfold cU;split;. decide
 ·have :∀n:Fin 9,1<=vJ.getD n.val 0/\vJ.getD n.val 0<=27:=by decide
  exact this ⟨x.toNat,by omega⟩
def down(d:D)(e:Int):D×Int:=if 0<d.dp then if(aO (shift (-(cU d.dp:Int)) d)).toNat<(aO d).toNat then down (shift (-(cU d.dp:Int)) d) (e+cU d.dp)else(d,e)else(d,e)termination_by(aO d).toNat
def gI(d:D)(e:Int):D×Int:=if aO d<5 then if(5-aO (shift (cU (-d.dp):Int) d)).toNat<(5-aO d).toNat then gI (shift (cU (-d.dp):Int) d) (e-cU (-d.dp))else(d,e)else(d,e)termination_by(5-aO d).toNat
theorem Ih{d:D}(h:Ok d)(f:d.ds≠[])(i:0<d.dp):down d e=down (shift (-(cU d.dp:Int)) d) (e+cU d.dp):=by obtain⟨a,b,c,_⟩:=wE (d:=d) (cU d.dp) (nL (by omega)).1 h f;have j:=jw h f;rw[down,if_pos i,if_pos];rw[r9 (nL (by omega)).1 f];omega
theorem Ig{d:D}(a:¬0<d.dp):down d e=(d,e):=by rw[down,if_neg a]
theorem TF{d:D}(h:Ok d)(f:d.ds≠[])(i:aO d<5):gI d e=gI (shift (cU (-d.dp):Int) d) (e-cU (-d.dp)):=by have j:=jw h f;obtain⟨a,b,c,_⟩:=wv (d:=d) (cU (-d.dp)) (nL (by omega)).1 h f;rw[gI,if_pos i,if_pos];rw[wo (nL (by omega)).1 f];omega
theorem TE{d:D}(a:¬aO d<5):gI d e=(d,e):=by rw[gI,if_neg a]
def mW(d:D)(e:Int):Int×Nat×Bool:=if 2047<=e+1023 then(1024,0,true)else let M:=eS (shift 53 d);if M=9007199254740992 then(if 2047<=e+1+1023 then(1024,0,true)else(e+1,4503599627370496,false))else(if M&&&4503599627370496=0 then-1023 else e,M,false)
def lP(d:D)(e:Int):Int×Nat×Bool:=if e< -1022 then mW (shift (-(-1022-e)) d) (-1022)else mW d e
def fb(d:D):Int×Nat×Bool:=if d.ds=[]then(-1023,0,false)else if 310<d.dp then(1024,0,true)else if d.dp< -330 then(-1023,0,false)else let p:=down d 0;let q:=gI p.1 p.2;lP q.1 (q.2-1)
end Dc
def gM(w:World)(b:Nat)(a:World):Prop:=aa (af b) w a/\∃A nd dp tr,aI a b A nd dp false tr
def tY(d:Dc.D)(b:Nat)(c:World)(n l:Nat)(a:Act)(w:World):Prop:=(l=0/\n=0/\∃(E:Int)(M:Nat)(ov:Bool)(t:Nat->Value),(-1000000<=E/\E<=1000000)/\M<18446744073709551616/\Dc.fb d=(E,M,ov)/\a=⟨#[.pointer (some ⟨b,0,none⟩),.pointer (some ⟨11,0,none⟩),undef,undef,.int .u64 0,.bool ov,.int .i64 E,.int .u64 (M:Nat),t 8,t 9,t 10,t 11,t 12,t 13,t 14,t 15,t 16,t 17,t 18,t 19,t 20,t 21,t 22,t 23,t 24,t 25,t 26,t 27,t 28,t 29,t 30,t 31,t 32,t 33,t 34,t 35,t 36,t 37,t 38,t 39,t 40,t 41,t 42,t 43,t 44,t 45,t 46,t 47,t 48,t 49,t 50,t 51,t 52,t 53,t 54,t 55,t 56,t 57,t 58,t 59,t 60,t 61,t 62,t 63,t 64,t 65,t 66,t 67,t 68,t 69,t 70,t 71,t 72,t 73,t 74,t 75,t 76,t 77,t 78,t 79,t 80,t 81,t 82,t 83,t 84,t 85,t 86,t 87,t 88,t 89,t 90,t 91,t 92,t 93,t 94,t 95,t 96,t 97,t 98,t 99,t 100,t 101,t 102,t 103,t 104,t 105,t 106,t 107,t 108,t 109,t 110,t 111,t 112,t 113,t 114,t 115,t 116,t 117,t 118,t 119,t 120,t 121,t 122,t 123,t 124,t 125,t 126,t 127,t 128,t 129,t 130,t 131,t 132,t 133,t 134,t 135,t 136,t 137,t 138,t 139,t 140,t 141,t 142,t 143,t 144,t 145,t 146,t 147,t 148,t 149,t 150,t 151,t 152,t 153,t 154,t 155,t 156,t 157,t 158,t 159,t 160,t 161,t 162,t 163,t 164,t 165,t 166,t 167,t 168,t 169,t 170,t 171,t 172,t 173,t 174,t 175,t 176,t 177,t 178,t 179,t 180,t 181,t 182,t 183,t 184,t 185,t 186,t 187,t 188,t 189,t 190,t 191,t 192,t 193,t 194,t 195,t 196,t 197,t 198,t 199,t 200,t 201,t 202,t 203,t 204,t 205,t 206,t 207,t 208,t 209,t 210,t 211,t 212,t 213,t 214,t 215,t 216,t 217,t 218,t 219,t 220,t 221,t 222,t 223,t 224,t 225,t 226,t 227,t 228,t 229,t 230,t 231,t 232,t 233,t 234,t 235,t 236,t 237,t 238,t 239,t 240,t 241,t 242],[]⟩/\gM c b w)∨(l=1/\n=1/\∃(e f:Value)(t:Nat->Value),Dc.fb d=(1024,0,true)/\a=⟨#[.pointer (some ⟨b,0,none⟩),.pointer (some ⟨11,0,none⟩),undef,undef,.int .u64 0,.bool false,e,f,t 8,t 9,t 10,t 11,t 12,t 13,t 14,t 15,t 16,t 17,t 18,t 19,t 20,t 21,t 22,t 23,t 24,t 25,t 26,t 27,t 28,t 29,t 30,t 31,t 32,t 33,t 34,t 35,t 36,t 37,t 38,t 39,t 40,t 41,t 42,t 43,t 44,t 45,t 46,t 47,t 48,t 49,t 50,t 51,t 52,t 53,t 54,t 55,t 56,t 57,t 58,t 59,t 60,t 61,t 62,t 63,t 64,t 65,t 66,t 67,t 68,t 69,t 70,t 71,t 72,t 73,t 74,t 75,t 76,t 77,t 78,t 79,t 80,t 81,t 82,t 83,t 84,t 85,t 86,t 87,t 88,t 89,t 90,t 91,t 92,t 93,t 94,t 95,t 96,t 97,t 98,t 99,t 100,t 101,t 102,t 103,t 104,t 105,t 106,t 107,t 108,t 109,t 110,t 111,t 112,t 113,t 114,t 115,t 116,t 117,t 118,t 119,t 120,t 121,t 122,t 123,t 124,t 125,t 126,t 127,t 128,t 129,t 130,t 131,t 132,t 133,t 134,t 135,t 136,t 137,t 138,t 139,t 140,t 141,t 142,t 143,t 144,t 145,t 146,t 147,t 148,t 149,t 150,t 151,t 152,t 153,t 154,t 155,t 156,t 157,t 158,t 159,t 160,t 161,t 162,t 163,t 164,t 165,t 166,t 167,t 168,t 169,t 170,t 171,t 172,t 173,t 174,t 175,t 176,t 177,t 178,t 179,t 180,t 181,t 182,t 183,t 184,t 185,t 186,t 187,t 188,t 189,t 190,t 191,t 192,t 193,t 194,t 195,t 196,t 197,t 198,t 199,t 200,t 201,t 202,t 203,t 204,t 205,t 206,t 207,t 208,t 209,t 210,t 211,t 212,t 213,t 214,t 215,t 216,t 217,t 218,t 219,t 220,t 221,t 222,t 223,t 224,t 225,t 226,t 227,t 228,t 229,t 230,t 231,t 232,t 233,t 234,t 235,t 236,t 237,t 238,t 239,t 240,t 241,t 242],[]⟩/\gM c b w)
theorem oP{d:Dc.D}{M:Nat}(hE:-1000000<=e/\e<=1000000)(hM:M<18446744073709551616)(h:Dc.fb d=(e,M,b))(hw:gM w k w')(u8 u9 iA t I V ah aw aH aS a8 bk bw bI bT b4 cd cj ck cm cn cp cq cr ct cu cv cw cx cy cz cA cB cC cD cE cF cG cH cI cJ cK cL cM cN cO cP cQ cR cS cT cU cV cW cX cY cZ c6 c7 c8 c_ c' da db dc dd de df dh di dj dk dm dn dp dq dr ds dt du dv dw dx dy dz dA dB dC dD dE dF dG a c f j l m o p q r u x y z A C E F G H J K L N O P Q S T U W X Y Z aa ab ad ae af ag ai aj ak al an ao aq ar au av ax ay az aA aB aC aD aE aF aG aI aJ aK aL aM aN aO aP aQ aR aT aU aV aW aX aY aZ a1 a6 a7 a_ a' ba bb bc bd bf bg bh bj bl bm bn bo bp bq br bs bt bu bx bz bA bB bC bD bE bF bG bH bJ bK bL bM bN bO bP bQ bR bS bU bV bW bX bY bZ b0 b1 b2 b3 b5 b6 b7 b8 b9 b_ b' ca cb cc cf cg ch:Value):∃n,tY d k w n 0 ⟨#[.pointer (some ⟨k,0,none⟩),.pointer (some ⟨11,0,none⟩),undef,undef,.int .u64 0,.bool b,.int .i64 e,.int .u64 (M:Nat),u8,u9,iA,t,I,V,ah,aw,aH,aS,a8,bk,bw,bI,bT,b4,cd,cj,ck,cm,cn,cp,cq,cr,ct,cu,cv,cw,cx,cy,cz,cA,cB,cC,cD,cE,cF,cG,cH,cI,cJ,cK,cL,cM,cN,cO,cP,cQ,cR,cS,cT,cU,cV,cW,cX,cY,cZ,c6,c7,c8,c_,c',da,db,dc,dd,de,df,dh,di,dj,dk,dm,dn,dp,dq,dr,ds,dt,du,dv,dw,dx,dy,dz,dA,dB,dC,dD,dE,dF,dG,a,c,f,j,l,m,o,p,q,r,u,x,y,z,A,C,E,F,G,H,J,K,L,N,O,P,Q,S,T,U,W,X,Y,Z,aa,ab,ad,ae,af,ag,ai,aj,ak,al,an,ao,aq,ar,au,av,ax,ay,az,aA,aB,aC,aD,aE,aF,aG,aI,aJ,aK,aL,aM,aN,aO,aP,aQ,aR,aT,aU,aV,aW,aX,aY,aZ,a1,a6,a7,a_,a',ba,bb,bc,bd,bf,bg,bh,bj,bl,bm,bn,bo,bp,bq,br,bs,bt,bu,bx,bz,bA,bB,bC,bD,bE,bF,bG,bH,bJ,bK,bL,bM,bN,bO,bP,bQ,bR,bS,bU,bV,bW,bX,bY,bZ,b0,b1,b2,b3,b5,b6,b7,b8,b9,b_,b',ca,cb,cc,cf,cg,ch],[]⟩ w':=⟨0,.inl ⟨rfl,rfl,e,M,b,fun i=>[u8,u9,iA,t,I,V,ah,aw,aH,aS,a8,bk,bw,bI,bT,b4,cd,cj,ck,cm,cn,cp,cq,cr,ct,cu,cv,cw,cx,cy,cz,cA,cB,cC,cD,cE,cF,cG,cH,cI,cJ,cK,cL,cM,cN,cO,cP,cQ,cR,cS,cT,cU,cV,cW,cX,cY,cZ,c6,c7,c8,c_,c',da,db,dc,dd,de,df,dh,di,dj,dk,dm,dn,dp,dq,dr,ds,dt,du,dv,dw,dx,dy,dz,dA,dB,dC,dD,dE,dF,dG,a,c,f,j,l,m,o,p,q,r,u,x,y,z,A,C,E,F,G,H,J,K,L,N,O,P,Q,S,T,U,W,X,Y,Z,aa,ab,ad,ae,af,ag,ai,aj,ak,al,an,ao,aq,ar,au,av,ax,ay,az,aA,aB,aC,aD,aE,aF,aG,aI,aJ,aK,aL,aM,aN,aO,aP,aQ,aR,aT,aU,aV,aW,aX,aY,aZ,a1,a6,a7,a_,a',ba,bb,bc,bd,bf,bg,bh,bj,bl,bm,bn,bo,bp,bq,br,bs,bt,bu,bx,bz,bA,bB,bC,bD,bE,bF,bG,bH,bJ,bK,bL,bM,bN,bO,bP,bQ,bR,bS,bU,bV,bW,bX,bY,bZ,b0,b1,b2,b3,b5,b6,b7,b8,b9,b_,b',ca,cb,cc,cf,cg,ch].getD (i-8) undef,hE,hM,h,rfl,hw⟩⟩
theorem tZ{d:Dc.D}(h:Dc.fb d=(1024,0,true))(hw:gM w k w')(u6 u7 u8 u9 iA q G S ae ar aE aP a1 bg bs bF bQ b1 ca cf cg ch cj ck cm cn cp cq cr ct cu cv cw cx cy cz cA cB cC cD cE cF cG cH cI cJ cK cL cM cN cO cP cQ cR cS cT cU cV cW cX cY cZ c6 c7 c8 c_ c' da db dc dd de df dh di dj dk dm dn dp dq dr ds dt du dv dw dx dy dz dA dB dC dD a b c e f j l m o p r t u x y z A C E F H I J K L M N O P Q T U V W X Y Z aa ab ad af ag ah ai aj ak al an ao aq au av aw ax ay az aA aB aC aD aF aG aH aI aJ aK aL aM aN aO aQ aR aS aT aU aV aW aX aY aZ a6 a7 a8 a_ a' ba bb bc bd bf bh bj bk bl bm bn bo bp bq br bt bu bw bx bz bA bB bC bD bE bG bH bI bJ bK bL bM bN bO bP bR bS bT bU bV bW bX bY bZ b0 b2 b3 b4 b5 b6 b7 b8 b9 b_ b' cb cc cd:Value):∃n,tY d k w n 1 ⟨#[.pointer (some ⟨k,0,none⟩),.pointer (some ⟨11,0,none⟩),undef,undef,.int .u64 0,.bool false,u6,u7,u8,u9,iA,q,G,S,ae,ar,aE,aP,a1,bg,bs,bF,bQ,b1,ca,cf,cg,ch,cj,ck,cm,cn,cp,cq,cr,ct,cu,cv,cw,cx,cy,cz,cA,cB,cC,cD,cE,cF,cG,cH,cI,cJ,cK,cL,cM,cN,cO,cP,cQ,cR,cS,cT,cU,cV,cW,cX,cY,cZ,c6,c7,c8,c_,c',da,db,dc,dd,de,df,dh,di,dj,dk,dm,dn,dp,dq,dr,ds,dt,du,dv,dw,dx,dy,dz,dA,dB,dC,dD,a,b,c,e,f,j,l,m,o,p,r,t,u,x,y,z,A,C,E,F,H,I,J,K,L,M,N,O,P,Q,T,U,V,W,X,Y,Z,aa,ab,ad,af,ag,ah,ai,aj,ak,al,an,ao,aq,au,av,aw,ax,ay,az,aA,aB,aC,aD,aF,aG,aH,aI,aJ,aK,aL,aM,aN,aO,aQ,aR,aS,aT,aU,aV,aW,aX,aY,aZ,a6,a7,a8,a_,a',ba,bb,bc,bd,bf,bh,bj,bk,bl,bm,bn,bo,bp,bq,br,bt,bu,bw,bx,bz,bA,bB,bC,bD,bE,bG,bH,bI,bJ,bK,bL,bM,bN,bO,bP,bR,bS,bT,bU,bV,bW,bX,bY,bZ,b0,b2,b3,b4,b5,b6,b7,b8,b9,b_,b',cb,cc,cd],[]⟩ w':=⟨1,.inr ⟨rfl,rfl,u6,u7,fun i=>[u8,u9,iA,q,G,S,ae,ar,aE,aP,a1,bg,bs,bF,bQ,b1,ca,cf,cg,ch,cj,ck,cm,cn,cp,cq,cr,ct,cu,cv,cw,cx,cy,cz,cA,cB,cC,cD,cE,cF,cG,cH,cI,cJ,cK,cL,cM,cN,cO,cP,cQ,cR,cS,cT,cU,cV,cW,cX,cY,cZ,c6,c7,c8,c_,c',da,db,dc,dd,de,df,dh,di,dj,dk,dm,dn,dp,dq,dr,ds,dt,du,dv,dw,dx,dy,dz,dA,dB,dC,dD,a,b,c,e,f,j,l,m,o,p,r,t,u,x,y,z,A,C,E,F,H,I,J,K,L,M,N,O,P,Q,T,U,V,W,X,Y,Z,aa,ab,ad,af,ag,ah,ai,aj,ak,al,an,ao,aq,au,av,aw,ax,ay,az,aA,aB,aC,aD,aF,aG,aH,aI,aJ,aK,aL,aM,aN,aO,aQ,aR,aS,aT,aU,aV,aW,aX,aY,aZ,a6,a7,a8,a_,a',ba,bb,bc,bd,bf,bh,bj,bk,bl,bm,bn,bo,bp,bq,br,bt,bu,bw,bx,bz,bA,bB,bC,bD,bE,bG,bH,bI,bJ,bK,bL,bM,bN,bO,bP,bR,bS,bT,bU,bV,bW,bX,bY,bZ,b0,b2,b3,b4,b5,b6,b7,b8,b9,b_,b',cb,cc,cd].getD (i-8) undef,h,rfl,hw⟩⟩
theorem FW(a b:Int):∃n:Nat,n<18446744073709551616/\bits .and .u64 a b=(n:Int):=by obtain⟨n,h,e⟩:=cW (((WX 64 a&&&WX 64 b).toNat:Nat):Int);exact⟨n,h,e⟩
theorem Pa(a b:Int):∃n:Nat,n<18446744073709551616/\bits .or .u64 a b=(n:Int):=by obtain⟨n,h,e⟩:=cW (((WX 64 a|||WX 64 b).toNat:Nat):Int);exact⟨n,h,e⟩
theorem IJ(E:Int)(M:Nat):∃n b a c:Nat,n<18446744073709551616/\bits .and .u64 (M:Int) 4503599627370495=(b:Int)/\bits .and .i64 (E- -1023) 2047=(a:Int)/\a<=2047/\Wf.wrap ((a:Int)*4503599627370496)=(c:Int)/\bits .or .u64 (b:Int) (c:Int)=(n:Int):=by
 obtain⟨b,l,d⟩:=FW (M:Int) 4503599627370495
 obtain⟨a,k,f⟩:∃a:Nat,a<=2047/\bits .and .i64 (E- -1023) 2047=(a:Int):=by
  refine⟨((E- -1023)%2048).toNat,by omega,?_⟩;have j:(WX 64 2047).toNat=2^11-1:=by decide
  have key:(WX 64 (E- -1023)&&&WX 64 2047).toNat=((E- -1023)%((2^64:Nat):Int)).toNat%2^11:=by rw[BitVec.toNat_and,BitVec.toNat_ofInt,j,WL]
  show VL.wrap ((WX 64 (E- -1023)&&&WX 64 2047).toNat:Nat)=_;rw[key,IntKind.wrap_i64];omega
 obtain⟨c,m,i⟩:=cW ((a:Int)*4503599627370496);obtain⟨n,h,e⟩:=Pa (b:Int) (c:Int);exact⟨n,b,a,c,h,d,f,k,i,e⟩
structure cK(w:World)(b:Nat)(d:Dc.D)(w':World):Prop where
 is:aT w' b false d
 ok:Dc.Ok d
 ne:d.ds≠[]
 turns:aa (af b) w w'
theorem cK.qT{d:Dc.D}(h:cK w k d w'):gM w k w':=by obtain⟨A,a,_⟩:=h.is.at_;exact⟨h.turns,A,_,_,_,a⟩
theorem cK.drewN{w a:World}{b:Nat}{d:Dc.D}(h:cK w b d a)(n:Nat):cK w b d (a.drewN n):=⟨h.is.drewN n,h.ok,h.ne,h.turns.drewN n⟩
theorem Jf(d:Dc.D):∃n:Nat,n<18446744073709551616/\∀(w:World)(b B:Nat),aT w b false d->Dc.Ok d->bC w B->B<=b->(-100000000<=d.dp/\d.dp<=100000000)->Calls VI 297 #[.pointer (some ⟨b,0,none⟩),.pointer (some ⟨11,0,none⟩)] w fun e w'=>e=.returned (.tuple #[.int .u64 n,.bool (Dc.fb d).2.2])/\gM w b w':=by
 obtain⟨n,n1,n2,n3,r,Y,Z,an,b3,b4⟩:=IJ (Dc.fb d).1 (Dc.fb d).2.1;refine⟨n,r,fun w b B h ho hT hb bq=>?_⟩;have aU:=VH (VJ Y (VJ Z (VJ an (VJ b3 b4))));clear Y Z b3 b4 an r;have H:=VH (VJ h (VJ ho hT));have O:=VH (fun(W:World)(ht:aa (af b) w W)=>hT.only hb ht);obtain⟨A,hA,bp,br⟩:=h.at_;obtain⟨f0,f1,f2,f3,ff,fz⟩:=hA.facts;have HW:=VH (show gM w b w from⟨aa.refl _ _,A,_,_,_,hA⟩);obtain⟨i1,i2,i3⟩:=hT.num.info;have bt:=h.len.1;clear hA bp br f2 f3 ff;go_enter func297,ntmps297;go_wp2_with fail;refine EY (tY d b w) ?_ ?_
 ·by_cases r:d.ds=[]
  ·have a8:Dc.fb d=(-1023,0,false):=by rw[Dc.fb,if_pos r]
   have q:=VH a8;have ay:(d.ds.length:Int)=0:=by rw[r];rfl
   rw[ay]at f0;clear r ay h ho hT a8;go_wp2_with fail;go_step3;exact oP (M:=0) (by omega) (by omega) q.out HW.out _ _ _ _ _ _ _ _ _ _ _ _ _ _ _ _ _ _ _ _ _ _ _ _ _ _ _ _ _ _ _ _ _ _ _ _ _ _ _ _ _ _ _ _ _ _ _ _ _ _ _ _ _ _ _ _ _ _ _ _ _ _ _ _ _ _ _ _ _ _ _ _ _ _ _ _ _ _ _ _ _ _ _ _ _ _ _ _ _ _ _ _ _ _ _ _ _ _ _ _ _ _ _ _ _ _ _ _ _ _ _ _ _ _ _ _ _ _ _ _ _ _ _ _ _ _ _ _ _ _ _ _ _ _ _ _ _ _ _ _ _ _ _ _ _ _ _ _ _ _ _ _ _ _ _ _ _ _ _ _ _ _ _ _ _ _ _ _ _ _ _ _ _ _ _ _ _ _ _ _ _ _ _ _ _ _ _ _ _ _ _ _ _ _ _ _ _ _ _ _ _ _ _ _ _ _ _ _ _ _ _ _ _ _ _ _ _ _ _ _ _ _ _ _ _ _ _ _ _ _ _ _ _ _ _
  ·have ay:((d.ds.length:Int)==0)=false:=by have :d.ds.length≠0:=fun e=>r (List.eq_nil_of_length_eq_zero e);exact beq_eq_false_iff_ne.2 (by omega)
   by_cases aw:310<d.dp;. have q:=VH (show Dc.fb d=(1024,0,true)from by rw[Dc.fb,if_neg r,if_pos aw]);generalize d.ds.length=len at*;clear r h ho hT;go_wp2_with fail;go_step3;exact tZ q.out HW.out _ _ _ _ _ _ _ _ _ _ _ _ _ _ _ _ _ _ _ _ _ _ _ _ _ _ _ _ _ _ _ _ _ _ _ _ _ _ _ _ _ _ _ _ _ _ _ _ _ _ _ _ _ _ _ _ _ _ _ _ _ _ _ _ _ _ _ _ _ _ _ _ _ _ _ _ _ _ _ _ _ _ _ _ _ _ _ _ _ _ _ _ _ _ _ _ _ _ _ _ _ _ _ _ _ _ _ _ _ _ _ _ _ _ _ _ _ _ _ _ _ _ _ _ _ _ _ _ _ _ _ _ _ _ _ _ _ _ _ _ _ _ _ _ _ _ _ _ _ _ _ _ _ _ _ _ _ _ _ _ _ _ _ _ _ _ _ _ _ _ _ _ _ _ _ _ _ _ _ _ _ _ _ _ _ _ _ _ _ _ _ _ _ _ _ _ _ _ _ _ _ _ _ _ _ _ _ _ _ _ _ _ _ _ _ _ _ _ _ _ _ _ _ _ _ _ _ _ _ _ _ _ _ _ _ _ _
   ·by_cases aI:d.dp< -330;. have q:=VH (show Dc.fb d=(-1023,0,false)from by rw[Dc.fb,if_neg r,if_neg aw,if_pos aI]);generalize d.ds.length=len at*;clear r h ho hT;go_wp2_with fail;go_step3;exact oP (M:=0) (by omega) (by omega) q.out HW.out _ _ _ _ _ _ _ _ _ _ _ _ _ _ _ _ _ _ _ _ _ _ _ _ _ _ _ _ _ _ _ _ _ _ _ _ _ _ _ _ _ _ _ _ _ _ _ _ _ _ _ _ _ _ _ _ _ _ _ _ _ _ _ _ _ _ _ _ _ _ _ _ _ _ _ _ _ _ _ _ _ _ _ _ _ _ _ _ _ _ _ _ _ _ _ _ _ _ _ _ _ _ _ _ _ _ _ _ _ _ _ _ _ _ _ _ _ _ _ _ _ _ _ _ _ _ _ _ _ _ _ _ _ _ _ _ _ _ _ _ _ _ _ _ _ _ _ _ _ _ _ _ _ _ _ _ _ _ _ _ _ _ _ _ _ _ _ _ _ _ _ _ _ _ _ _ _ _ _ _ _ _ _ _ _ _ _ _ _ _ _ _ _ _ _ _ _ _ _ _ _ _ _ _ _ _ _ _ _ _ _ _ _ _ _ _ _ _ _ _ _ _ _ _ _ _ _ _ _ _ _ _ _ _ _
    ·have q:=VH (show Dc.fb d=Dc.lP (Dc.gI (Dc.down d 0).1 (Dc.down d 0).2).1 ((Dc.gI (Dc.down d 0).1 (Dc.down d 0).2).2-1)from by rw[Dc.fb,if_neg r,if_neg aw,if_neg aI]);have HS:=VH (show cK w b d w from⟨h,ho,r,aa.refl _ _⟩);have bE:=Dc.jw ho r;generalize d.ds.length=len at*;clear r h ho hT;go_upto_block 0 with fail;go_cut[6](fun s6 wx=>∃(j:Dc.D)(o:Int),s6=.int .i64 o/\Dc.down d 0=(j,o)/\cK w b j wx/\¬0<j.dp/\0<=o/\o<=500000/\-1300<=j.dp)
     case first=>
      go_wp2_with fail;go_loopg[6](Dc.aO d).toNat(fun g s6 wr=>∃(j:Dc.D)(o:Int),g=(Dc.aO j).toNat/\s6=.int .i64 o/\Dc.down j o=Dc.down d 0/\cK w b j wr/\0<=o/\o<=27*(Dc.aO d-Dc.aO j)/\Dc.aO j<=Dc.aO d/\-1300<=j.dp);case atStart=>exact⟨d,0,rfl,rfl,rfl,HS.out,by omega,by omega,by omega,by omega⟩
      case round=>
       obtain⟨j,o,rfl,rfl,I,i,aK,a6,bx,aL⟩:=hrel;obtain⟨A1,y,ax,au⟩:=i.is.at_;obtain⟨k0,U,k2,k3,kf,kz⟩:=y.facts;have bz:=Dc.jw i.ok i.ne;have u:=VH (VJ I i);by_cases hp:0<j.dp
       ·obtain⟨pa,po,bG,bw,pg,pc⟩:=(O.out _ i.turns).vK.at_;have av:=Dc.Ih (e:=o) i.ok i.ne hp;obtain⟨ag,an⟩:=Dc.nL (x:=j.dp) (by omega);obtain⟨Q,P,sr,sd⟩:=Dc.wE (d:=j) (Dc.cU j.dp) ag i.ok i.ne;have L:=VH (fun W(hw:cK w b j W)=>pH hw.is hw.ok (O.out _ hw.turns) hb (-(Dc.cU j.dp:Int)) (by omega) (by omega));have z:=VH (VJ av (VJ Q P));rw[Dc.r9 ag i.ne]at z L;have ae:Dc.cU j.dp=if 9<=j.dp then 27 else pq.getD j.dp.toNat 0:=rfl;generalize hN:Dc.cU j.dp=N at*;generalize aJ:Dc.shr N j=f at*;clear I i y ax au k0 k2 k3 kf av Q P aJ;have p:VL.wrap (o+(N:Int))=o+(N:Int):=VR _ (by omega);have F:VL.wrap (-(N:Int))=-(N:Int):=VR _ (by omega);by_cases h9:9<=j.dp
        ·have ah:=VH (show N=27 from by rw[ae,if_pos h9]);have q1:decide (9<=j.dp)=true:=decide_eq_true h9;have aq:=L;rw[ah.out]at aq;clear ae hN;go_wp2_with fail;go_quiet(fail);have C:=u.out.2.drewN nq;generalize wr.drewN nq=w5 at*;go_wp2_with fail;refine(aq.out _ C).mono ?_;rintro _ w6⟨rfl,G,J⟩;have HY:=VH (show cK w b f w6 from⟨G,z.out.2.1,z.out.2.2,C.turns.same J⟩);clear G J C;have k:(27:Int)=(N:Int):=by rw[ah.out];rfl
         go_wp2_with fail;go_roundg(Dc.aO f).toNat;case measure=>omega
         case rel=>exact⟨f,o+N,rfl,by rw[ah.out],by rw[<-z.out.1];exact u.out.1,HY.out,by omega,by omega,by omega,by omega⟩
        ·obtain⟨K,hK⟩:∃K:Nat,j.dp=K:=⟨j.dp.toNat,by omega⟩;have c1:=pc K (by omega);have ar:N=pq.getD K 0:=by rw[ae,if_neg h9,hK,WO]
         rw[<-ar]at c1;have q1:decide (9<=(K:Int))=false:=decide_eq_false (by omega);have q2:(K:Int)<9:=by omega
         have q3:(0:Int)<=(K:Int):=by omega
         rw[hK]at U;have aF:=VH (show∀W,cK w b j W->W.cell? ⟨b,801,none⟩=some (.int .i64 (K:Nat))from fun W hw=>by obtain⟨A2,ad,_⟩:=hw.is.at_;rw[ad.facts.2.1,hK]);clear ae hN ar pc;go_wp2_with fail;go_quiet(fail);have C:=u.out.2.drewN nq;have aS:(wr.drewN nq).cell? ⟨13,0,none⟩=_:=pg;have aH:(wr.drewN nq).cell? ⟨pa,po+K,none⟩=_:=c1;have aR:=aF.out _ C;clear pg c1 U;generalize wr.drewN nq=w5 at*;go_wp2_with fail;go_quiet(fail);have ai:=C.drewN nq;clear aS aH aR C;generalize w5.drewN nq=bJ at*;go_wp2_with fail;refine(L.out _ ai).mono ?_;rintro _ w6⟨rfl,G,J⟩;have HY:=VH (show cK w b f w6 from⟨G,z.out.2.1,z.out.2.2,ai.turns.same J⟩);clear G J ai;go_wp2_with fail;go_roundg(Dc.aO f).toNat;case measure=>omega
         case rel=>exact⟨f,o+N,rfl,rfl,by rw[<-z.out.1];exact u.out.1,HY.out,by omega,by omega,by omega,by omega⟩
       ·have HE:=VH (show Dc.down d 0=(j,o)from by rw[<-I,Dc.Ig hp]);clear I i y ax au k0 k2 k3 kf;go_wp2_with fail;go_meet;exact⟨j,o,rfl,HE.out,u.out.2,hp,aK,by omega,aL⟩
     case rest=>
      obtain⟨j,o,rfl,I,i,hp,aK,a6,aL⟩:=hcut;rw[I]at q;have q:=q;dsimp only at q;have aW:=VH i;have bA:=Dc.jw i.ok i.ne;clear I i f0 f1 HS bE aw aI ay;go_upto_block 2 with fail;go_cut[6](fun s6 wx=>∃(f:Dc.D)(p:Int),s6=.int .i64 p/\Dc.gI j o=(f,p)/\cK w b f wx/\-500000<=p/\p<=500000/\f.dp<=100/\-1<=f.dp)
      case first=>
       go_wp2_with fail;go_loopg[6](5-Dc.aO j).toNat(fun g s6 wr=>∃(f:Dc.D)(p:Int),g=(5-Dc.aO f).toNat/\s6=.int .i64 p/\Dc.gI f p=Dc.gI j o/\cK w b f wr/\p<=o/\o-p<=27*(Dc.aO f-Dc.aO j)/\Dc.aO j<=Dc.aO f/\f.dp<=100);case atStart=>exact⟨j,o,rfl,rfl,rfl,aW.out,by omega,by omega,by omega,by omega⟩
       case round=>
        obtain⟨f,p,rfl,rfl,I,i,bs,bQ,bx,ba⟩:=hrel;obtain⟨A1,y,ax,au⟩:=i.is.at_;obtain⟨k0,U,k2,k3,kf,kz⟩:=y.facts;have bz:=Dc.jw i.ok i.ne;have u:=VH (VJ I i);have kc:=y.cell (i:=0) (by decide);have V:(Dc.aO f<5)↔f.dp<0∨f.dp=0/\(A1.getD 0 0:Int)<53:=by obtain⟨x,l,e,bV,bW⟩:=Dc.js i.ok i.ne;have h0:=lM (A:=A1) (nd:=f.ds.length) (i:=0) y.len (by rw[e];exact Nat.succ_pos _) i.is.len.1;rw[au,e]at h0;have hx:x=A1.getD 0 0-48:=h0;unfold Dc.aO;rw[e];simp only[List.headD_cons];omega
        generalize A1.getD 0 0=c at kc V;clear i y ax au k0 k2 k3 kf;go_upto_region 18 with fail;go_cut[80]from 61 to 80(fun bH wx=>bH=.bool (decide (Dc.aO f<5))/\wr=wx)
        case first=>
         by_cases g1:f.dp<0;. have hb:decide (Dc.aO f<5)=true:=decide_eq_true (V.2 (.inl g1));have S:=VH hb;clear V hb;go_wp2_with fail;go_meet;exact⟨by rw[S.out],rfl⟩
         ·by_cases g2:f.dp=0
          ·by_cases g3:(c:Int)<53;. have S:=VH (show decide (Dc.aO f<5)=true from decide_eq_true (V.2 (.inr ⟨g2,g3⟩)));rw[g2]at U;clear V g2;go_wp2_with fail;go_meet;exact⟨by rw[S.out],rfl⟩
           ·have S:=VH (show decide (Dc.aO f<5)=false from decide_eq_false (fun h=>by rcases V.1 h with h|h<;>omega));rw[g2]at U;clear V g2;go_wp2_with fail;go_meet;exact⟨by rw[S.out],rfl⟩
          ·have S:=VH (show decide (Dc.aO f<5)=false from decide_eq_false (fun h=>by rcases V.1 h with h|h<;>omega));have bM:(f.dp==0)=false:=beq_eq_false_iff_ne.2 g2;clear V g2;go_wp2_with fail;go_meet;exact⟨by rw[S.out],rfl⟩
        case rest=>
         obtain⟨rfl,rfl⟩:=hcut;by_cases aA:Dc.aO f<5
         ·obtain⟨K,hK⟩:∃K:Nat,-f.dp=K:=⟨(-f.dp).toNat,by omega⟩;have aZ:f.dp=-(K:Int):=by omega
          obtain⟨pa,po,bG,bw,pg,pc⟩:=(O.out _ u.out.2.turns).vK.at_;have av:=Dc.TF (e:=p) u.out.2.ok u.out.2.ne aA;obtain⟨ag,an⟩:=Dc.nL (x:=-f.dp) (by omega);obtain⟨Q,P,sr,sd⟩:=Dc.wv (d:=f) (Dc.cU (-f.dp)) ag u.out.2.ok u.out.2.ne;have L:=VH (fun W(hw:cK w b f W)=>pH hw.is hw.ok (O.out _ hw.turns) hb (Dc.cU (-f.dp):Int) (by omega) (by omega));have z:=VH (VJ av (VJ Q P));rw[Dc.wo ag u.out.2.ne]at z L;have ae:Dc.cU (-f.dp)=if 9<=-f.dp then 27 else pq.getD (-f.dp).toNat 0:=rfl;generalize hN:Dc.cU (-f.dp)=N at*;generalize aJ:Dc.shl N f=m at*;have aF:=VH (show∀W,cK w b f W->W.cell? ⟨b,801,none⟩=some (.int .i64 (-(K:Int)))from fun W hw=>by obtain⟨A2,ad,_⟩:=hw.is.at_;rw[ad.facts.2.1,aZ]);have bK:VL.wrap (p-(N:Int))=p-(N:Int):=VR _ (by omega);have bn:VL.wrap (K:Int)=(K:Int):=VR _ (by omega);have bL:VL.wrap (-(-(K:Int)))=(K:Int):=by rw[Int.neg_neg];exact bn
          rw[aZ]at U;have bu:decide (Dc.aO f<5)=true:=decide_eq_true aA;rw[bu];clear kc V av Q P aJ;by_cases h9:9<=-f.dp
          ·have ah:=VH (show N=27 from by rw[ae,if_pos h9]);have q1:decide (9<=(K:Int))=true:=decide_eq_true (by omega);have bZ:(9:Int)<=(K:Int):=by omega
           have aq:=L;rw[ah.out]at aq;clear ae hN;go_wp2_with fail;go_quiet(fail);have C:=u.out.2.drewN nq;generalize wr.drewN nq=w5 at*;go_wp2_with fail;refine(aq.out _ C).mono ?_;rintro _ w6⟨rfl,G,J⟩;have HY:=VH (show cK w b m w6 from⟨G,z.out.2.1,z.out.2.2,C.turns.same J⟩);clear G J C;have k:(27:Int)=(N:Int):=by rw[ah.out];rfl
           go_wp2_with fail;go_roundg(5-Dc.aO m).toNat;case measure=>omega
           case rel=>exact⟨m,p-N,rfl,by rw[ah.out],by rw[<-z.out.1];exact u.out.1,HY.out,by omega,by omega,by omega,by omega⟩
          ·have c1:=pc K (by omega);have ar:N=pq.getD K 0:=by rw[ae,if_neg h9,hK,WO]
           rw[<-ar]at c1;have q1:decide (9<=(K:Int))=false:=decide_eq_false (by omega);have q2:(K:Int)<9:=by omega
           have q3:(0:Int)<=(K:Int):=by omega
           clear ae hN ar pc;go_wp2_with fail;go_quiet(fail);have C:=u.out.2.drewN nq;have aS:(wr.drewN nq).cell? ⟨13,0,none⟩=_:=pg;have aH:(wr.drewN nq).cell? ⟨pa,po+K,none⟩=_:=c1;have aR:=aF.out _ C;clear pg c1 U;generalize wr.drewN nq=w5 at*;go_wp2_with fail;go_quiet(fail);have ai:=C.drewN nq;clear aS aH aR C;generalize w5.drewN nq=bJ at*;go_wp2_with fail;refine(L.out _ ai).mono ?_;rintro _ w6⟨rfl,G,J⟩;have HY:=VH (show cK w b m w6 from⟨G,z.out.2.1,z.out.2.2,ai.turns.same J⟩);clear G J ai;go_wp2_with fail;go_roundg(5-Dc.aO m).toNat;case measure=>omega
           case rel=>exact⟨m,p-N,rfl,rfl,by rw[<-z.out.1];exact u.out.1,HY.out,by omega,by omega,by omega,by omega⟩
         ·have HE:=VH (show Dc.gI j o=(f,p)from by rw[<-I,Dc.TE aA]);rw[decide_eq_false aA];clear I kc V U;go_wp2_with fail;go_meet;exact⟨f,p,rfl,HE.out,u.out.2,by omega,by omega,ba,by omega⟩
      case rest=>
       obtain⟨f,p,rfl,I,i,bs,bR,ba,bU⟩:=hcut;rw[I]at q;have q:=q;dsimp only at q;obtain⟨i1,i2,i3⟩:=(O.out _ i.turns).num.info;have T:=VH i;obtain⟨F,a7⟩:∃F,p-1=F:=⟨_,rfl⟩;rw[a7]at q;have x1:VL.wrap (p-1)=F:=ak (by omega);clear I i aW bA hp aK a6 aL bt bq;go_upto_if 111 with fail;go_cut[6](fun s6 wx=>∃(m:Dc.D)(k:Int),s6=.int .i64 k/\Dc.lP f F=Dc.mW m k/\cK w b m wx/\-1022<=k/\k<=500000/\-90000000<=m.dp/\m.dp<=90000000)
       case first=>
        by_cases bb:F< -1022;. obtain⟨n,r⟩:∃n:Nat,-1022-F=n:=⟨(-1022-F).toNat,by omega⟩;obtain⟨Q,P,sr,sd⟩:=Dc.wE (d:=f) n (by omega) T.out.ok T.out.ne;have bB:=Dc.jw T.out.ok T.out.ne;have aN:=Dc.jw Q P;have L:=VH (pH T.out.is T.out.ok (O.out _ T.out.turns) hb (-(n:Int)) (by omega) (by omega));rw[Dc.r9 (by omega) T.out.ne]at L;have HE:=VH (show Dc.lP f F=Dc.mW (Dc.shr n f) (-1022)from by rw[Dc.lP,if_pos bb,r,Dc.r9 (by omega) T.out.ne]);have S:=VH (show-90000000<=(Dc.shr n f).dp/\(Dc.shr n f).dp<=90000000 from⟨by omega,by omega⟩);have HO:=VH (VJ Q P);generalize Dc.shr n f=m at*;have y1:VL.wrap (-1022-F)=(n:Int):=ak (by omega);have y2:VL.wrap (-(n:Int))=-(n:Int):=VR _ (by omega);have y3:VL.wrap (F+(n:Int))=-1022:=ak (by omega);clear r Q P sr sd bB aN;go_wp2_with fail;refine L.out.mono ?_;rintro _ w6⟨rfl,G,J⟩;have HY:=VH (show cK w b m w6 from⟨G,HO.out.1,HO.out.2,T.out.turns.same J⟩);clear G J;go_wp2_with fail;go_meet;exact⟨m,-1022,rfl,HE.out,HY.out,by decide,by decide,S.out.1,S.out.2⟩
        ·have HE:=VH (show Dc.lP f F=Dc.mW f F from by rw[Dc.lP,if_neg bb]);go_wp2_with fail;go_meet;exact⟨f,F,rfl,HE.out,T.out,by omega,by omega,by omega,by omega⟩
       case rest=>
        obtain⟨m,k,rfl,a',i,bS,bT,bP,bO⟩:=hcut;rw[a']at q;obtain⟨i1,i2,i3⟩:=(O.out _ i.turns).num.info;have aX:=VH i;have z1:VL.wrap (k- -1023)=k+1023:=ak (by omega);have b0:VL.wrap (k+1023)=k+1023:=ak (by omega);obtain⟨Q,P,sr,sd⟩:=Dc.wv (d:=m) 53 (by decide) i.ok i.ne;have aN:=Dc.jw i.ok i.ne;have bD:=Dc.jw Q P;have L:=VH (fun W(hw:cK w b m W)=>pH hw.is hw.ok (O.out _ hw.turns) hb (53:Int) (by omega) (by omega));have aP:Dc.shift (53:Int) m=Dc.shl 53 m:=Dc.wo (k:=53) (by decide) i.ne;rw[aP]at L;have S:=VH (show-100000000<=(Dc.shl 53 m).dp/\(Dc.shl 53 m).dp<=100000000 from⟨by omega,by omega⟩);have HO:=VH (VJ Q P);have a_:Dc.mW m k=if 2047<=k+1023 then(1024,0,true)else if Dc.eS (Dc.shl 53 m)=9007199254740992 then(if 2047<=k+1+1023 then(1024,0,true)else(k+1,4503599627370496,false))else(if Dc.eS (Dc.shl 53 m)&&&4503599627370496=0 then-1023 else k,Dc.eS (Dc.shl 53 m),false):=by rw[<-aP];rfl
        rw[a_]at q;clear a' i a_ Q P sr sd aN bD aP x1 a7 T;by_cases aM:2047<=k+1023;. have ab:=VH (show Dc.fb d=(1024,0,true)from by rw[q.out,if_pos aM]);go_wp2_with fail;go_quiet(fail);have bk:=VH (aX.out.drewN nq).qT;generalize wc.drewN nq=w7 at*;go_wp2_with fail;go_step3;exact tZ ab.out bk.out _ _ _ _ _ _ _ _ _ _ _ _ _ _ _ _ _ _ _ _ _ _ _ _ _ _ _ _ _ _ _ _ _ _ _ _ _ _ _ _ _ _ _ _ _ _ _ _ _ _ _ _ _ _ _ _ _ _ _ _ _ _ _ _ _ _ _ _ _ _ _ _ _ _ _ _ _ _ _ _ _ _ _ _ _ _ _ _ _ _ _ _ _ _ _ _ _ _ _ _ _ _ _ _ _ _ _ _ _ _ _ _ _ _ _ _ _ _ _ _ _ _ _ _ _ _ _ _ _ _ _ _ _ _ _ _ _ _ _ _ _ _ _ _ _ _ _ _ _ _ _ _ _ _ _ _ _ _ _ _ _ _ _ _ _ _ _ _ _ _ _ _ _ _ _ _ _ _ _ _ _ _ _ _ _ _ _ _ _ _ _ _ _ _ _ _ _ _ _ _ _ _ _ _ _ _ _ _ _ _ _ _ _ _ _ _ _ _ _ _ _ _ _ _ _ _ _ _ _ _ _ _ _ _ _ _ _
        ·have ao:=VH (show Dc.fb d=(if Dc.eS (Dc.shl 53 m)=9007199254740992 then(if 2047<=k+1+1023 then(1024,0,true)else(k+1,4503599627370496,false))else(if Dc.eS (Dc.shl 53 m)&&&4503599627370496=0 then-1023 else k,Dc.eS (Dc.shl 53 m),false))from by rw[q.out,if_neg aM]);have q1:decide (2047<=k+1023)=false:=decide_eq_false aM;generalize Dc.shl 53 m=d4 at*;have bj:=VH (fun W(hw:cK w b d4 W)=>Q2 hw.is (by have :=S.out;omega));have bo:=Dc.Q3 d4;generalize Dc.eS d4=M at*;go_wp2_with fail;go_quiet(fail);have aB:=aX.out.drewN nq;have bg:=VH (O.out _ aB.turns).num.info;obtain⟨i1,i2,i3⟩:=bg.out;generalize wc.drewN nq=w7 at*;go_wp2_with fail;refine(L.out _ aB).mono ?_;rintro _ w8⟨rfl,a1,bc⟩;have aC:cK w b d4 w8:=⟨a1,HO.out.1,HO.out.2,aB.turns.same bc⟩;have bh:=VH (bj.out _ aC);clear a1 bc i1 i2 i3 aB;go_wp2_with fail;refine bh.out.mono ?_;rintro _ w9⟨rfl,aQ⟩;have aD:cK w b d4 w9:=⟨aC.is.still aQ,HO.out.1,HO.out.2,aC.turns.trans aQ (fun _ _ e=>e.elim)⟩;have aV:=VH aD.qT;obtain⟨i1,i2,i3⟩:=(O.out _ aD.turns).num.info;have aY:=VH aD;clear aC aQ aD;by_cases hM:M=9007199254740992
         ·subst hM;have z2:VL.wrap (k+1)=k+1:=VR _ (by omega);have z3:VL.wrap (k+1- -1023)=k+1+1023:=ak (by omega);have z4:VL.wrap (k+1+1023)=k+1+1023:=VR _ (by omega);have z5:bits .and .u64 4503599627370496 4503599627370496=4503599627370496:=by decide
          by_cases az:2047<=k+1+1023;. have ab:=VH (show Dc.fb d=(1024,0,true)from by rw[ao.out,if_pos rfl,if_pos az]);have q2:decide (2047<=k+1+1023)=true:=decide_eq_true az;go_wp2_with fail;go_quiet(fail);have aG:=VH (aY.out.drewN nq).qT;generalize w9.drewN nq=wA at*;go_wp2_with fail;go_step3;exact tZ ab.out aG.out _ _ _ _ _ _ _ _ _ _ _ _ _ _ _ _ _ _ _ _ _ _ _ _ _ _ _ _ _ _ _ _ _ _ _ _ _ _ _ _ _ _ _ _ _ _ _ _ _ _ _ _ _ _ _ _ _ _ _ _ _ _ _ _ _ _ _ _ _ _ _ _ _ _ _ _ _ _ _ _ _ _ _ _ _ _ _ _ _ _ _ _ _ _ _ _ _ _ _ _ _ _ _ _ _ _ _ _ _ _ _ _ _ _ _ _ _ _ _ _ _ _ _ _ _ _ _ _ _ _ _ _ _ _ _ _ _ _ _ _ _ _ _ _ _ _ _ _ _ _ _ _ _ _ _ _ _ _ _ _ _ _ _ _ _ _ _ _ _ _ _ _ _ _ _ _ _ _ _ _ _ _ _ _ _ _ _ _ _ _ _ _ _ _ _ _ _ _ _ _ _ _ _ _ _ _ _ _ _ _ _ _ _ _ _ _ _ _ _ _ _ _ _ _ _ _ _ _ _ _ _ _ _ _ _ _ _
          ·have ab:=VH (show Dc.fb d=(k+1,4503599627370496,false)from by rw[ao.out,if_pos rfl,if_neg az]);have q2:decide (2047<=k+1+1023)=false:=decide_eq_false az;go_wp2_with fail;go_quiet(fail);have bd:=aY.out.drewN nq;have aG:=VH bd.qT;obtain⟨i1,i2,i3⟩:=(O.out _ bd.turns).num.info;generalize w9.drewN nq=wA at*;go_wp2_with fail;go_step3;exact oP (M:=4503599627370496) (by omega) (by omega) ab.out aG.out _ _ _ _ _ _ _ _ _ _ _ _ _ _ _ _ _ _ _ _ _ _ _ _ _ _ _ _ _ _ _ _ _ _ _ _ _ _ _ _ _ _ _ _ _ _ _ _ _ _ _ _ _ _ _ _ _ _ _ _ _ _ _ _ _ _ _ _ _ _ _ _ _ _ _ _ _ _ _ _ _ _ _ _ _ _ _ _ _ _ _ _ _ _ _ _ _ _ _ _ _ _ _ _ _ _ _ _ _ _ _ _ _ _ _ _ _ _ _ _ _ _ _ _ _ _ _ _ _ _ _ _ _ _ _ _ _ _ _ _ _ _ _ _ _ _ _ _ _ _ _ _ _ _ _ _ _ _ _ _ _ _ _ _ _ _ _ _ _ _ _ _ _ _ _ _ _ _ _ _ _ _ _ _ _ _ _ _ _ _ _ _ _ _ _ _ _ _ _ _ _ _ _ _ _ _ _ _ _ _ _ _ _ _ _ _ _ _ _ _ _ _ _ _ _ _ _ _ _ _ _ _ _ _ _
         ·have bN:((M:Int)==9007199254740992)=false:=beq_eq_false_iff_ne.2 (by omega);have z5:bits .and .u64 (M:Int) 4503599627370496=((M&&&4503599627370496:Nat):Int):=u64_and_nat M 4503599627370496 bo (by decide);obtain⟨n1,ag⟩:∃n1,M&&&4503599627370496=n1:=⟨_,rfl⟩;rw[ag]at z5 ao;by_cases hz:n1=0;case' pos=>have ab:=VH (show Dc.fb d=(-1023,M,false)from by rw[ao.out,if_neg hM,if_pos hz]);subst hz;clear ag hM
          case' neg=>have ab:=VH (show Dc.fb d=(k,M,false)from by rw[ao.out,if_neg hM,if_neg hz]);have bX:((n1:Int)==0)=false:=beq_eq_false_iff_ne.2 (by omega);clear ag hM hz
          all_goals go_wp2_with fail;go_step3;exact oP (M:=M) (by omega) (by omega) ab.out aV.out _ _ _ _ _ _ _ _ _ _ _ _ _ _ _ _ _ _ _ _ _ _ _ _ _ _ _ _ _ _ _ _ _ _ _ _ _ _ _ _ _ _ _ _ _ _ _ _ _ _ _ _ _ _ _ _ _ _ _ _ _ _ _ _ _ _ _ _ _ _ _ _ _ _ _ _ _ _ _ _ _ _ _ _ _ _ _ _ _ _ _ _ _ _ _ _ _ _ _ _ _ _ _ _ _ _ _ _ _ _ _ _ _ _ _ _ _ _ _ _ _ _ _ _ _ _ _ _ _ _ _ _ _ _ _ _ _ _ _ _ _ _ _ _ _ _ _ _ _ _ _ _ _ _ _ _ _ _ _ _ _ _ _ _ _ _ _ _ _ _ _ _ _ _ _ _ _ _ _ _ _ _ _ _ _ _ _ _ _ _ _ _ _ _ _ _ _ _ _ _ _ _ _ _ _ _ _ _ _ _ _ _ _ _ _ _ _ _ _ _ _ _ _ _ _ _ _ _ _ _ _ _ _ _ _
 ·intro nJ l a X hJ;rcases hJ with⟨rfl,rfl,E,M,ov,t,hE,hM,hf,rfl,ht,A1,bF,bm,bI,y⟩|⟨rfl,rfl,u6,u7,t,hf,rfl,ht,A1,bF,bm,bI,y⟩
  case' inl=>
   refine⟨_,rfl,?_⟩;obtain⟨Y,Z,an,b3,b4⟩:=aU.out;rw[hf]at Y Z;have Y:bits .and .u64 (M:Int) 4503599627370495=(n1:Int):=Y;have Z:bits .and .i64 (E- -1023) 2047=(n2:Int):=Z;obtain⟨i1,i2,i3⟩:=(O.out _ ht).num.info;obtain⟨k0,U,k2,k3,kf,kz⟩:=y.facts;have aj:=VH (show gM w b X from⟨ht,A1,_,_,_,y⟩);have aE:=VH (show(Dc.fb d).2.2=ov from by rw[hf]);have z1:VL.wrap (E- -1023)=E- -1023:=VR _ (by omega);have bl:bits .and .i64 (E+1023) 2047=(n2:Int):=by rw[<-Z];congr 1
   have z2:VL.wrap (E+1023)=E+1023:=VR _ (by omega);have z3:Wf.wrap (n2:Int)=(n2:Int):=Wi _ (by omega);clear hf y k0 U k3 kf f0 f1 h ho hT;go_wp2_with fail;go_quiet(fail);have al:=VH (show gM w b (X.drewN nq)from⟨aj.out.1.drewN nq,by obtain⟨A2,a2,a3,a4,ad⟩:=aj.out.2;exact⟨A2,a2,a3,a4,ad.still ((aa.refl _ _).drewN nq)⟩⟩);have bf:(X.drewN nq).cell? ⟨b,802,none⟩=_:=k2;generalize X.drewN nq=w2 at*
  case' inr=>
   refine⟨_,rfl,?_⟩;obtain⟨Y,Z,an,b3,b4⟩:=aU.out;rw[hf]at Y Z;obtain⟨i1,i2,i3⟩:=(O.out _ ht).num.info;obtain⟨k0,U,k2,k3,kf,kz⟩:=y.facts;have aj:=VH (show gM w b X from⟨ht,A1,_,_,_,y⟩);have aE:=VH (show(Dc.fb d).2.2=true from by rw[hf]);clear hf y k0 U k3 kf f0 f1 h ho hT;have Y:bits .and .u64 0 4503599627370495=(n1:Int):=Y;have bl:bits .and .i64 2047 2047=(n2:Int):=by rw[<-Z];rfl
   have z3:Wf.wrap (n2:Int)=(n2:Int):=Wi _ (by omega);go_wp2_with fail;go_quiet(fail);have al:=VH (show gM w b (X.drewN nq)from⟨aj.out.1.drewN nq,by obtain⟨A2,a2,a3,a4,ad⟩:=aj.out.2;exact⟨A2,a2,a3,a4,ad.still ((aa.refl _ _).drewN nq)⟩⟩);have bf:(X.drewN nq).cell? ⟨b,802,none⟩=_:=k2;have j1:(X.drewN nq).cell? ⟨11,0,none⟩=_:=i1;have j2:(X.drewN nq).cell? ⟨11,1,none⟩=_:=i2;have j3:(X.drewN nq).cell? ⟨11,2,none⟩=_:=i3;clear i1 i2 i3 k2 aj;generalize X.drewN nq=w2 at*;go_wp2_with fail;go_step3;go_wp2_with fail;go_quiet(fail);have al:=VH (show gM w b (w2.drewN nq)from⟨al.out.1.drewN nq,by obtain⟨A2,a2,a3,a4,ad⟩:=al.out.2;exact⟨A2,a2,a3,a4,ad.still ((aa.refl _ _).drewN nq)⟩⟩);have bY:(w2.drewN nq).cell? ⟨b,802,none⟩=_:=bf;generalize w2.drewN nq=w3 at*
  all_goals go_wp2_with fail;simp only[Exit.jumps];refine bodyPost_ret (results_tmp2 rfl _ _ _) rfl ?_;exact⟨by rw[aE.out];rfl,al.out⟩
section
namespace Fl
open Ieee
theorem gU(h:e<r):compare e r=.lt:=Int.compare_eq_lt.2 h
theorem jN(h:r<e):compare e r=.gt:=Int.compare_eq_gt.2 h
theorem l6(h:k<n):compare k n=.lt:=Nat.compare_eq_lt.2 h
theorem lZ(h:n<k):compare k n=.gt:=Nat.compare_eq_gt.2 h
def SV(s:Bool)(w:Nat):Int:=if s then-(V w:Int)else(V w:Int)
theorem G7(x y:Int)(a:0<e):compare (x*e) (y*e)=compare x y:=by
 rcases Int.lt_trichotomy x y with h|h|h;. rw[gU h,gU (Int.mul_lt_mul_of_pos_right h a)]
 ·rw[h];simp
 ·rw[jN h,jN (Int.mul_lt_mul_of_pos_right h a)]
theorem D2(s:Bool)(w k b:Nat)(h:ex w=b+k):signed s (mg w) k*((2^b:Nat):Int)=SV s w:=by
 have :mg w*2^k*2^b=V w:=by rw[V,h,Nat.add_comm,Wq,V7]
 unfold signed SV;rw[Yy,<-this];generalize mg w*2^k=a;generalize 2^b=c;cases s;. simp only[Bool.false_eq_true,if_false];omega
 ·simp only[if_true];rw[Int.neg_mul];omega
theorem rQ{s t:Bool}{a b:Nat}(c:Fin a)(d:Fin b):double.order (ae s a) (ae t b)=some (compare (SV s a) (SV t b)):=by unfold Format.order;rw[fD s c,fD t d];show some (compare _ _)=_;obtain⟨m,e⟩:∃m,min (ex a) (ex b)=m:=⟨_,rfl⟩;rw[show min (-1074+(ex a:Nat):Int) (-1074+(ex b:Nat))=-1074+(m:Nat)by omega,show((-1074+(ex a:Nat):Int)-(-1074+(m:Nat))).toNat=ex a-m by omega,show((-1074+(ex b:Nat):Int)-(-1074+(m:Nat))).toNat=ex b-m by omega];rw[<-G7 _ _ (show(0:Int)<((2^m:Nat):Int)from by have :=Wc m;omega),D2 s a _ m (by omega),D2 t b _ m (by omega)]
theorem mJ(h:k≠0):0<V k:=by have :=gS (show 0<k by omega);rw[ku]at this;exact this
theorem yT(a b:Nat):compare (V a:Int) (V b:Int)=compare a b:=by
 rcases Yj a b with h|h|h;. have :=gS h;rw[l6 h,gU (by omega)]
 ·rw[h];simp
 ·have :=gS h;rw[lZ h,jN (show(V b:Int)<V a by omega)]
theorem rR{a b:Nat}(h:a<=9218868437227405312)(i:b<=9218868437227405312):double.order a b=some (compare a b):=by
 rcases Wb a 9218868437227405312 with e|e<;>rcases Wb b 9218868437227405312 with f|f;. have :=rQ (s:=false) (t:=false) (a:=a) (b:=b) e f;rw[show double.order a b=_ from this];show some (compare (V a:Int) (V b:Int))=_;rw[yT]
 ·have c:=fD false (w:=a) e;have d:=jx false;rw[show b=2047*2^52 by omega];unfold Format.order;rw[show double.read a=_ from c,show double.read (2047*2^52)=_ from d];rw[l6 (show a<2047*2^52 by omega)];rfl
 ·have c:=fD false (w:=b) f;have d:=jx false;rw[show a=2047*2^52 by omega];unfold Format.order;rw[show double.read b=_ from c,show double.read (2047*2^52)=_ from d];rw[lZ (show b<2047*2^52 by omega)];rfl
 ·rw[show a=2047*2^52 by omega,show b=2047*2^52 by omega];unfold Format.order;rw[show double.read (2047*2^52)=_ from jx false];simp[Datum.order]
theorem Pf(h:NN k):double.order k k=some .eq:=by unfold Format.order;rcases pA h with⟨s,m,p,e⟩|⟨s,e⟩<;>rw[e]<;>simp[Datum.order]
theorem nG{s:Bool}{w:Nat}(h:w<=9218868437227405312):double.order (ae s w) 0=some (if w=0 then .eq else if s then .lt else .gt):=by
 rcases Wb w 9218868437227405312 with b|b
 ·have :=rQ (s:=s) (t:=false) (a:=w) (b:=0) b (show 0<2047*2^52 by decide);rw[show double.order (ae s w) 0=_ from this];have c:SV false 0=0:=by unfold SV;rw[ku];rfl
  rw[c];by_cases a:w=0
  ·subst a;have d:SV s 0=0:=by unfold SV;rw[ku];cases s<;>rfl
   rw[d,if_pos rfl];rfl
  ·have e:=mJ a;rw[if_neg a];cases s;. rw[jN (show 0<SV false w from by show 0<(V w:Int);omega)];rfl
   ·rw[gU (show SV true w<0 from by show-(V w:Int)<0;omega)];rfl
 ·rw[show w=2047*2^52 by omega];unfold Format.order;rw[jx s,show double.read 0=_ from fD false (w:=0) (show 0<2047*2^52 by decide)];cases s<;>rfl
theorem va{s:Bool}(h:k<2^63):Go.Op.negFloat .f64 (ae s k)=ae (!s) k:=by
 have e:Go.Op.negFloat .f64 (ae s k)=ae s k^^^2^63:=rfl
 have b:k^^^2^63=2^63+k:=by
  have a:=Nat.two_pow_add_eq_or_of_lt h 1;rw[XN]at a;rw[a];refine Nat.eq_of_testBit_eq fun i=>?_;rw[Nat.testBit_xor,Nat.testBit_or];by_cases c:i=63;. subst c;rw[Nat.testBit_lt_two_pow h];simp
  ·rw[Nat.testBit_two_pow_of_ne (by omega)];simp
 rw[e];cases s;. exact b
 ·show(2^63+k)^^^2^63=k;rw[<-b,Nat.xor_assoc,Nat.xor_self,Nat.xor_zero]
theorem FO{s:Bool}(h:k<2^63):ae s k&&&(18446744073709551615-9223372036854775808)=k:=by
 rw[show(18446744073709551615-9223372036854775808:Nat)=2^63-1 by decide,WL];cases s;. show k%2^63=k;omega
 ·show(2^63+k)%2^63=k;omega
theorem sF(h:k<18446744073709551616):∃s w,k=ae s w/\w<9223372036854775808:=by
 by_cases a:k<2^63;. exact⟨false,k,rfl,by omega⟩
 ·exact⟨true,k-2^63,by simp[ae];omega,by omega⟩
theorem Pd(h:9218868437227405312<k)(a:k<9223372036854775808):double.order k n=none:=pf ⟨false,k,rfl,by omega,by omega⟩
end Fl
end
theorem RE{W:World}(h:W.ShapedOpen VI):20<=W.heap.size/\∃m,W.cell? ⟨4,0,none⟩=some (.int .i64 m):=by
 obtain⟨c,-⟩:=h;obtain⟨b,f,q,k⟩:=c 4 #[.int .i64 0] 3 (of_decide_eq_true (by kernel_rfl)) (by kernel_rfl);obtain⟨x,p⟩:=Option.isSome_iff_exists.1 (show(((begin VI (fun _ _=>0) default).world.heap[19]?).bind Obj.row?).isSome=true by kernel_rfl);obtain⟨r,i,-⟩:=c 19 x.1 x.2 (of_decide_eq_true (by kernel_rfl)) p;refine⟨(Array.getElem?_eq_some_iff.1 i).1,?_⟩;have e:=k (by kernel_rfl);obtain⟨t,n,-,j⟩:=e;have l:VI.cellTypes VI.depth 3=some [3]:=by kernel_rfl
 obtain rfl:=Option.some.inj (l.symm.trans n);have d:0<b.size:=by rw[q];decide
 obtain⟨u,o,a⟩:=j 0 b[0] (by simp[d]);obtain rfl:u=3:=by simpa using o.symm
 unfold Cell.ok at a;rw[underlying3]at a;have hw:W.cell? ⟨4,0,none⟩=some b[0]:=by simp[World.cell?,f,d]
 rw[hw];generalize b[0]=v at a⊢;cases v<;>simp at a;obtain⟨rfl,-⟩:=a;exact⟨_,rfl⟩
namespace Dc
theorem RI:∀(k:Nat)(d:D),1<=k->Ok d->d.ds≠[]->Ok (shl k d)/\(shl k d).ds≠[]/\d.dp<=(shl k d).dp/\(shl k d).dp<=max d.dp 0+19*(k/60+1:Nat):=by
 intro k
 induction k using XO with
 |ind k n=>
  intro d j f i;rcases Wb 60 k with h|h;. rw[wu h];obtain⟨a,b,_⟩:=o8 (k:=60) (by decide) f i;have c:=o7 (k:=60) (Nat.le_refl _) f;have e:=uQ (k:=60) f i;obtain⟨l,m,o,p⟩:=n (k-60) (by omega) _ (by omega) a b;exact⟨l,m,by omega,by omega⟩
  ·rw[wz h];obtain⟨a,b,_⟩:=o8 j f i;have c:=o7 h f;have e:=uQ f i j;exact⟨a,b,e,by omega⟩
theorem RP:∀(k:Nat)(d:D),1<=k->Ok d->d.ds≠[]->Ok (shr k d)/\(shr k d).ds≠[]/\(shr k d).dp<=d.dp/\min d.dp 0-864*(k/60+1:Nat)<=(shr k d).dp:=by
 intro k
 induction k using XO with
 |ind k n=>
  intro d j f i;rcases Wb 60 k with h|h;. rw[wD h];obtain⟨a,b,_⟩:=pF (k:=60) (by decide) (Nat.le_refl _) f i;have c:=pE (k:=60) f;have e:=v_ (k:=60) f i;obtain⟨l,m,o,p⟩:=n (k-60) (by omega) _ (by omega) a b;exact⟨l,m,by omega,by omega⟩
  ·rw[wF h];obtain⟨a,b,_⟩:=pF j h f i;have c:=pE (k:=k) f;have e:=v_ f i j h;exact⟨a,b,e,by omega⟩
theorem RG{k:Int}{d:D}(m:-1100<=k/\k<=1100)(i:Ok d)(f:d.ds≠[])(l:0<=d.dp/\d.dp<=30):Ok (shift k d)/\(shift k d).ds≠[]/\-17000<=(shift k d).dp/\(shift k d).dp<=500:=by
 unfold shift;rw[if_neg f];by_cases h:0<k;. rw[if_pos h];obtain⟨a,b,c,e⟩:=RI k.toNat d (by omega) i f;exact⟨a,b,by omega,by omega⟩
 ·rw[if_neg h];by_cases j:k<0;. rw[if_pos j];obtain⟨a,b,c,e⟩:=RP (-k).toNat d (by omega) i f;exact⟨a,b,by omega,by omega⟩
  ·rw[if_neg j];exact⟨i,f,by omega,by omega⟩
theorem F7{v:Nat}(h:v<18446744073709551616)(c:v≠0)(a:Bool):Ok (assign v a)/\(assign v a).ds≠[]/\0<=(assign v a).dp/\(assign v a).dp<=20:=by
 have j:(aF v).length<=20:=tQ (Nat.lt_trans h (by decide));have f:Ok ⟨aF v,((aF v).length:Nat),a⟩:=⟨zh v,by show(aF v).length<=800;omega,tP v⟩
 have b:bQ (aF v)≠[]:=by
  have e:∃x l,aF v=x::l/\1<=x:=by cases hd:aF v with|nil=>exact absurd hd (by rw[jQ c];simp)|cons x l=>exact⟨x,l,rfl,tP v x (by rw[hd];rfl)⟩
  obtain⟨x,l,e,i⟩:=e;rw[e];intro d;have :=qF (l:=l) i;rw[d]at this;cases this
 refine⟨Ex f,b,?_,?_⟩;all_goals unfold assign trim;dsimp only;rw[if_neg b];omega
theorem Gr:∀n,fI l n=some L->L≠[]:=by
 intro n
 induction n with
 |zero=>intro h;cases h
 |succ n a=>
  intro h;unfold fI at h;split at h;. injection h with h;rw[<-h];simp
  ·exact a h
theorem Q6{d:D}(n:Int)(c:Ok d)(a:d.ds≠[])(f:-17000<=d.dp/\d.dp<=500):Ok (round n d)/\((round n d).ds=[]->(round n d).dp=0)/\-17000<=(round n d).dp/\(round n d).dp<=501:=by
 refine⟨Q8 c n,?_⟩;unfold round;split;. exact⟨fun e=>absurd e a,by omega,by omega⟩
 ·split
  ·unfold iq;split;. exact⟨fun e=>absurd e a,by omega,by omega⟩
   ·split;. rename_i l hl;exact⟨fun e=>absurd e (Gr _ hl),by dsimp only;omega,by dsimp only;omega⟩
    ·exact⟨fun e=>absurd e (List.cons_ne_nil _ _),by dsimp only;omega,by dsimp only;omega⟩
  ·unfold fQ;split;. exact⟨fun e=>absurd e a,by omega,by omega⟩
   ·unfold trim;dsimp only;split;. exact⟨fun _=>rfl,by omega,by omega⟩
    ·rename_i b;exact⟨fun e=>absurd e b,by omega,by omega⟩
end Dc
theorem P2(h:k≠0):10^(Lib.nDigits k-1)<=k:=by
 induction k using XO with
 |ind k b=>
  rcases Wb k 10 with a|a;. rw[Lib.nDigits_small a];exact Nat.one_le_iff_ne_zero.2 h
  ·rw[Lib.nDigits_big (by omega)];have :=b (k/10) (by omega) (by omega);have c:=Lib.nDigits_pos (k/10);rw[show Lib.nDigits (k/10)+1-1=(Lib.nDigits (k/10)-1)+1 by omega,WY];omega
end Go.Proofs.YtmddhediccmhbaaGreatDoor
