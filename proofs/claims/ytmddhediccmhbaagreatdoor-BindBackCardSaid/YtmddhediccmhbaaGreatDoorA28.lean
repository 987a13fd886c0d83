/- package calc. -/
import Derived.Lib.SplitLaws
import Derived.Test.YtmddhediccmhbaaGreatDoorA15
set_option linter.all false
set_option maxHeartbeats 400000000
set_option maxRecDepth 100000
namespace Go.Proofs.YtmddhediccmhbaaGreatDoor
open Go.RowKit
open Go.Proofs.Tryz
open And renaming intro→VJ
open _root_.ByteArray renaming size_extract→WM
open FloatKind renaming f64→V5
open IntKind renaming i64→VL
open Lib renaming hid→VH
open Nat renaming le_refl→VN
open Nat renaming lt_of_lt_of_le→VO
open Nat renaming lt_or_ge→Wb
open Nat renaming mul_one→XN
open Nat renaming shiftLeft_eq→Yy
open Go.Proofs.Tryz renaming prog→VI
variable {w w' U:World}{k n m g:Nat}{s x:ByteArray}{X:List ByteArray}
theorem CK:floatToIntVal .f64 4607182418800017408 .i64=some 1:=by decide+kernel
theorem N5:floatToIntVal .f64 13830554455654793216 .i64=some (-1):=by decide+kernel
theorem toList_empty(h:0<s.size):s.toList.isEmpty=false:=by rw[ByteArray.toList_eq];cases h2:s.data.toList with|nil=>have :s.data.toList.length=s.size:=rfl;rw[h2]at this;exact absurd this (by simp;omega)|cons _ _=>rfl
inductive kp(s:ByteArray)(neg:Bool):Nat->Int->Prop|inf:s.toList=[105,110,102]->kp s neg (if neg then 18442240474082181120 else 9218868437227405312) 0|nan:s.toList≠[105,110,102]->s.toList=[110,97,110]->kp s neg nA 0|form:s.toList≠[105,110,102]->s.toList≠[110,97,110]->jF (bytesOf s) false->kp s neg 0 4|num{p m q f f2:Nat}{b:Bool}:s.toList≠[105,110,102]->s.toList≠[110,97,110]->jF (bytesOf s) true->Pl (bytesOf s) p m q->f2<18446744073709551616->(∀w B a,bC w B->ki w a->Calls VI 219 #[.string s,.int .i64 64] w fun e w'=>aa ab w w'/\(b=false/\e=.returned (.tuple #[.float .f64 f,.nilIface])∨b=true/\∃N,e=.returned (.tuple #[.float .f64 f,.iface 304 (.pointer (some ⟨N,0,none⟩))])/\w'.cell? ⟨N,2,none⟩=some (.iface 343 (.pointer (some a)))))->(∀w,Calls VI 221 #[.float .f64 f,.float .f64 (if neg then 13830554455654793216 else 4607182418800017408)] w fun e w'=>e=.returned (.float .f64 f2)/\w=w')->kp s neg f2 0
theorem vL(s:ByteArray)(n:s.size<=64)(neg:Bool):∃f er,f<18446744073709551616/\kp s neg f er:=by
 by_cases a:s.toList=[105,110,102];. exact⟨_,_,by cases neg<;>decide,.inf a⟩
 ·by_cases c:s.toList=[110,97,110];. exact⟨_,_,by decide,.nan a c⟩
  ·obtain⟨r,d⟩:=yH (bytesOf s);cases r with|false=>exact⟨0,4,by decide,.form a c d⟩|true=>obtain⟨p,m,q,h⟩:=yI (by rw[jh];exact n) d;obtain⟨f,b,l,j⟩:=Sl h;obtain⟨i,e,k⟩:=Hc f (if neg then 13830554455654793216 else 4607182418800017408) l (by cases neg<;>decide);exact⟨i,0,e,.num a c d h e j k⟩
theorem Py(h:64<s.size):Calls VI 195 #[.string s] w fun e w'=>e=.returned (.tuple #[.float .f64 0,.int .i64 2])/\aa ab w w':=by
 have c0:(64:Int)<(s.size:Int):=by omega
 clear h;go_enter func195,ntmps195;go_wp2_with fail;go_ret2;exact⟨rfl,aa.refl _ _⟩
theorem Pv:Calls VI 195 #[.string ⟨#[]⟩] w fun e w'=>e=.returned (.tuple #[.float .f64 0,.int .i64 4])/\aa ab w w':=by have a:=VH (kF (w:=w) (s:=⟨#[]⟩) (by decide) (.empty ⟨VN 0,by decide,fun k h1 h2=>by omega,fun h=>absurd h (by decide)⟩));go_enter func195,ntmps195;go_wp2_with fail;refine a.out.mono ?_;rintro _ _⟨rfl,rfl⟩;go_wp2_with fail;go_ret2;exact⟨rfl,aa.refl _ _⟩
theorem PD{B:Nat}{a:Addr}{er:Int}(Q:s.size<=64)(d:0<s.size)(C:(s[0]'d).toNat≠45/\(s[0]'d).toNat≠43)(F:kp s false k er)(l:bC w B)(D:ki w a):Calls VI 195 #[.string s] w fun e w'=>e=.returned (.tuple #[.float .f64 k,.int .i64 er])/\aa ab w w':=by
 have M:=VH l;have z:=VH D;have K:=VH (show(5:Nat)<w.heap.size from VO (VO (by decide) l.gl) l.le);have i:=VH F;have c0:¬(64:Int)<(s.size:Int):=by omega
 have H:s.size<=64:=Q;have Z:(0:Int)<(s.size:Int):=by omega
 have U:s.toList.isEmpty=false:=toList_empty d;generalize V:(s[0]'d)=x at C;have X:((x.toNat:Int)==45)=false:=beq_eq_false_iff_ne.2 (by omega);have Y:((x.toNat:Int)==43)=false:=beq_eq_false_iff_ne.2 (by omega);clear C;clear F l D;go_enter func195,ntmps195
 cases i.out with
 |inf c=>
  have u:(s.toList==[105,110,102])=true:=by rw[c];rfl
  have t:∀W,(convert 290 3 (.float .f64 4607182418800017408)).run VI W=.ok (.int .i64 1) W:=fun W=>run_convert_float_int (P:=VI) W _ _ .f64 .i64 _ _ (by kernel_rfl) underlying3 CK;have o:=VH (uw (w:=w) 1);clear c i;go_wp2_with fail;refine o.out.mono ?_;rintro _ _⟨rfl,rfl⟩;go_wp2_with fail;go_ret2;exact⟨rfl,aa.refl _ _⟩
 |nan c h=>
  have u:(s.toList==[105,110,102])=false:=beq_eq_false_iff_ne.2 c;have I:(s.toList==[110,97,110])=true:=by rw[h];rfl
  have o:=VH (rK (w:=w));clear c h i;go_wp2_with fail;refine o.out.mono ?_;rintro _ _⟨rfl,rfl⟩;go_wp2_with fail;go_ret2;exact⟨rfl,aa.refl _ _⟩
 |form c h d=>have u:(s.toList==[105,110,102])=false:=beq_eq_false_iff_ne.2 c;have I:(s.toList==[110,97,110])=false:=beq_eq_false_iff_ne.2 h;have n:=VH (kF (w:=w) H d);clear c h d i;go_wp2_with fail;refine n.out.mono ?_;rintro _ _⟨rfl,rfl⟩;go_wp2_with fail;go_ret2;exact⟨rfl,aa.refl _ _⟩
 | @num p m q f S b c h d P O t G=>
  have u:(s.toList==[105,110,102])=false:=beq_eq_false_iff_ne.2 c;have I:(s.toList==[110,97,110])=false:=beq_eq_false_iff_ne.2 h;have n:=VH (kF (w:=w) H d);have J:=VH (t w B a M.out z.out);have A:=VH G;clear c h d i P O t G;go_wp2_with fail;refine n.out.mono ?_;rintro _ _⟨rfl,rfl⟩;go_wp2_with fail;refine J.out.mono ?_;rintro _ y⟨j,⟨_,rfl⟩|⟨_,N,rfl,E⟩⟩;. have r:=VH j;clear j;go_wp2_with fail;refine(A.out y).mono ?_;rintro _ _⟨rfl,rfl⟩;go_wp2_with fail;go_ret2;exact⟨rfl,r.out⟩
  ·have r:=VH j;have L:=VH (uz E);have T:y.cell? ⟨5,0,none⟩=some (.iface 343 (.pointer (some a))):=(j.cell (p:=⟨5,0,none⟩) K.out id).trans z.out;clear j E;go_wp2_with fail;refine L.out.mono ?_;rintro _ _⟨rfl,rfl⟩;go_wp2_with fail;refine(A.out y).mono ?_;rintro _ _⟨rfl,rfl⟩;go_wp2_with fail;go_ret2;exact⟨rfl,r.out⟩
theorem Pz{B:Nat}{a:Addr}{er:Int}(U:s.size<=64)(d:0<s.size)(C:(s[0]'d).toNat=45)(F:kp (s.extract 1 s.size) true k er)(l:bC w B)(D:ki w a):Calls VI 195 #[.string s] w fun e w'=>e=.returned (.tuple #[.float .f64 k,.int .i64 er])/\aa ab w w':=by
 have M:=VH l;have z:=VH D;have K:=VH (show(5:Nat)<w.heap.size from VO (VO (by decide) l.gl) l.le);have i:=VH F;have c0:¬(64:Int)<(s.size:Int):=by omega
 have H:(s.extract 1 s.size).size<=64:=by rw[WM];omega
 have Z:(0:Int)<(s.size:Int):=by omega
 have p1:(1:Int)<=(s.size:Int):=by omega
 have T:s.toList.isEmpty=false:=toList_empty d;generalize X:(s[0]'d)=x at C;have Y:((x.toNat:Int)==45)=true:=by simp;omega
 generalize V:s.extract 1 s.size=s2 at*;clear C;clear F l D;go_enter func195,ntmps195
 cases i.out with
 |inf c=>
  have u:(s2.toList==[105,110,102])=true:=by rw[c];rfl
  have t:∀W,(convert 290 3 (.float .f64 13830554455654793216)).run VI W=.ok (.int .i64 (-1)) W:=fun W=>run_convert_float_int (P:=VI) W _ _ .f64 .i64 _ _ (by kernel_rfl) underlying3 N5;have o:=VH (uw (w:=w) (-1));clear c i;go_wp2_with fail;refine o.out.mono ?_;rintro _ _⟨rfl,rfl⟩;go_wp2_with fail;go_ret2;exact⟨rfl,aa.refl _ _⟩
 |nan c h=>
  have u:(s2.toList==[105,110,102])=false:=beq_eq_false_iff_ne.2 c;have I:(s2.toList==[110,97,110])=true:=by rw[h];rfl
  have o:=VH (rK (w:=w));clear c h i;go_wp2_with fail;refine o.out.mono ?_;rintro _ _⟨rfl,rfl⟩;go_wp2_with fail;go_ret2;exact⟨rfl,aa.refl _ _⟩
 |form c h d=>have u:(s2.toList==[105,110,102])=false:=beq_eq_false_iff_ne.2 c;have I:(s2.toList==[110,97,110])=false:=beq_eq_false_iff_ne.2 h;have n:=VH (kF (w:=w) H d);clear c h d i;go_wp2_with fail;refine n.out.mono ?_;rintro _ _⟨rfl,rfl⟩;go_wp2_with fail;go_ret2;exact⟨rfl,aa.refl _ _⟩
 | @num p m q f Q b c h d P O t G=>
  have u:(s2.toList==[105,110,102])=false:=beq_eq_false_iff_ne.2 c;have I:(s2.toList==[110,97,110])=false:=beq_eq_false_iff_ne.2 h;have n:=VH (kF (w:=w) H d);have J:=VH (t w B a M.out z.out);have A:=VH G;clear c h d i P O t G;go_wp2_with fail;refine n.out.mono ?_;rintro _ _⟨rfl,rfl⟩;go_wp2_with fail;refine J.out.mono ?_;rintro _ y⟨j,⟨_,rfl⟩|⟨_,N,rfl,E⟩⟩;. have r:=VH j;clear j;go_wp2_with fail;refine(A.out y).mono ?_;rintro _ _⟨rfl,rfl⟩;go_wp2_with fail;go_ret2;exact⟨rfl,r.out⟩
  ·have r:=VH j;have L:=VH (uz E);have S:y.cell? ⟨5,0,none⟩=some (.iface 343 (.pointer (some a))):=(j.cell (p:=⟨5,0,none⟩) K.out id).trans z.out;clear j E;go_wp2_with fail;refine L.out.mono ?_;rintro _ _⟨rfl,rfl⟩;go_wp2_with fail;refine(A.out y).mono ?_;rintro _ _⟨rfl,rfl⟩;go_wp2_with fail;go_ret2;exact⟨rfl,r.out⟩
theorem PE{B:Nat}{a:Addr}{er:Int}(U:s.size<=64)(d:0<s.size)(C:(s[0]'d).toNat=43)(F:kp (s.extract 1 s.size) false k er)(l:bC w B)(D:ki w a):Calls VI 195 #[.string s] w fun e w'=>e=.returned (.tuple #[.float .f64 k,.int .i64 er])/\aa ab w w':=by
 have M:=VH l;have z:=VH D;have K:=VH (show(5:Nat)<w.heap.size from VO (VO (by decide) l.gl) l.le);have i:=VH F;have c0:¬(64:Int)<(s.size:Int):=by omega
 have H:(s.extract 1 s.size).size<=64:=by rw[WM];omega
 have p0:(0:Int)<(s.size:Int):=by omega
 have p1:(1:Int)<=(s.size:Int):=by omega
 have T:s.toList.isEmpty=false:=toList_empty d;generalize X:(s[0]'d)=x at C;have Y:((x.toNat:Int)==45)=false:=beq_eq_false_iff_ne.2 (by omega);have Z:((x.toNat:Int)==43)=true:=by simp;omega
 generalize V:s.extract 1 s.size=s2 at*;clear C;clear F l D;go_enter func195,ntmps195
 cases i.out with
 |inf c=>
  have u:(s2.toList==[105,110,102])=true:=by rw[c];rfl
  have t:∀W,(convert 290 3 (.float .f64 4607182418800017408)).run VI W=.ok (.int .i64 1) W:=fun W=>run_convert_float_int (P:=VI) W _ _ .f64 .i64 _ _ (by kernel_rfl) underlying3 CK;have o:=VH (uw (w:=w) 1);clear c i;go_wp2_with fail;refine o.out.mono ?_;rintro _ _⟨rfl,rfl⟩;go_wp2_with fail;go_ret2;exact⟨rfl,aa.refl _ _⟩
 |nan c h=>
  have u:(s2.toList==[105,110,102])=false:=beq_eq_false_iff_ne.2 c;have I:(s2.toList==[110,97,110])=true:=by rw[h];rfl
  have o:=VH (rK (w:=w));clear c h i;go_wp2_with fail;refine o.out.mono ?_;rintro _ _⟨rfl,rfl⟩;go_wp2_with fail;go_ret2;exact⟨rfl,aa.refl _ _⟩
 |form c h d=>have u:(s2.toList==[105,110,102])=false:=beq_eq_false_iff_ne.2 c;have I:(s2.toList==[110,97,110])=false:=beq_eq_false_iff_ne.2 h;have n:=VH (kF (w:=w) H d);clear c h d i;go_wp2_with fail;refine n.out.mono ?_;rintro _ _⟨rfl,rfl⟩;go_wp2_with fail;go_ret2;exact⟨rfl,aa.refl _ _⟩
 | @num p m q f Q b c h d P O t G=>
  have u:(s2.toList==[105,110,102])=false:=beq_eq_false_iff_ne.2 c;have I:(s2.toList==[110,97,110])=false:=beq_eq_false_iff_ne.2 h;have n:=VH (kF (w:=w) H d);have J:=VH (t w B a M.out z.out);have A:=VH G;clear c h d i P O t G;go_wp2_with fail;refine n.out.mono ?_;rintro _ _⟨rfl,rfl⟩;go_wp2_with fail;refine J.out.mono ?_;rintro _ y⟨j,⟨_,rfl⟩|⟨_,N,rfl,E⟩⟩;. have r:=VH j;clear j;go_wp2_with fail;refine(A.out y).mono ?_;rintro _ _⟨rfl,rfl⟩;go_wp2_with fail;go_ret2;exact⟨rfl,r.out⟩
  ·have r:=VH j;have L:=VH (uz E);have S:y.cell? ⟨5,0,none⟩=some (.iface 343 (.pointer (some a))):=(j.cell (p:=⟨5,0,none⟩) K.out id).trans z.out;clear j E;go_wp2_with fail;refine L.out.mono ?_;rintro _ _⟨rfl,rfl⟩;go_wp2_with fail;refine(A.out y).mono ?_;rintro _ _⟨rfl,rfl⟩;go_wp2_with fail;go_ret2;exact⟨rfl,r.out⟩
theorem yZ(s:ByteArray):∃(f:Nat)(er:Int),f<18446744073709551616/\∀w B a,bC w B->ki w a->Calls VI 195 #[.string s] w fun e w'=>e=.returned (.tuple #[.float .f64 f,.int .i64 er])/\aa ab w w':=by
 by_cases n:64<s.size;. exact⟨0,2,by decide,fun w B a _ _=>Py n⟩
 ·have j:s.size<=64:=by omega
  by_cases b:0<s.size
  ·by_cases k:(s[0]'b).toNat=45;. obtain⟨f,er,h,i⟩:=vL (s.extract 1 s.size) (by rw[WM];omega) true;exact⟨f,er,h,fun w B a d c=>Pz j b k i d c⟩
   ·by_cases l:(s[0]'b).toNat=43;. obtain⟨f,er,h,i⟩:=vL (s.extract 1 s.size) (by rw[WM];omega) false;exact⟨f,er,h,fun w B a d c=>PE j b l i d c⟩
    ·obtain⟨f,er,h,i⟩:=vL s j false;exact⟨f,er,h,fun w B a d c=>PD j b ⟨k,l⟩ i d c⟩
  ·have m:s=⟨#[]⟩:=by apply ByteArray.ext;exact Array.eq_empty_of_size_eq_zero (by have :s.data.size=s.size:=rfl;omega)
   exact⟨0,4,by decide,fun w B a _ _=>by rw[m];exact Pv⟩
section
namespace Fl
open Ieee
theorem xR{t:Bool}{b:Nat}(h:Fin b):SV t b<(V 9218868437227405312:Int)/\-(V 9218868437227405312:Int)<SV t b:=by have a:=gS (show b<9218868437227405312 from h);unfold SV;split<;>omega
theorem vh{s t:Bool}{a b:Nat}(h:a<=9218868437227405312)(i:b<=9218868437227405312):double.order (ae s a) (ae t b)=some (compare (SV s a) (SV t b)):=by
 rcases Wb a 9218868437227405312 with c|c<;>rcases Wb b 9218868437227405312 with d|d;. exact rQ c d
 ·obtain⟨e,f⟩:=xR (t:=s) (b:=a) c;rw[show b=2047*2^52 by omega];unfold Format.order;rw[fD s c,jx t];cases t;. rw[gU (show SV s a<SV false (2047*2^52)from e)];rfl
  ·rw[jN (show SV true (2047*2^52)<SV s a from f)];rfl
 ·obtain⟨e,f⟩:=xR (t:=t) (b:=b) d;rw[show a=2047*2^52 by omega];unfold Format.order;rw[fD t d,jx s];cases s;. rw[jN (show SV t b<SV false (2047*2^52)from e)];rfl
  ·rw[gU (show SV true (2047*2^52)<SV t b from f)];rfl
 ·rw[show a=2047*2^52 by omega,show b=2047*2^52 by omega];unfold Format.order;rw[jx s,jx t];have j:0<V (2047*2^52):=mJ (by decide);cases s<;>cases t;. simp[Datum.order]
  ·rw[jN (show SV true (2047*2^52)<SV false (2047*2^52)from by show-(V (2047*2^52):Int)<(V (2047*2^52):Int);omega)];rfl
  ·rw[gU (show SV true (2047*2^52)<SV false (2047*2^52)from by show-(V (2047*2^52):Int)<(V (2047*2^52):Int);omega)];rfl
  ·simp[Datum.order]
theorem FK:V 4890909195324358656=2^63*2^1074:=by decide+kernel
theorem Hj{neg:Bool}{drop:Nat}(b:0<n)(h:k<n*2^drop):Toward.zero.cut neg k drop<n:=by
 show k/(1<<<min drop (k.log2+2))+0<n;rw[Nat.add_zero,Yy,Nat.one_mul,Nat.div_lt_iff_lt_mul (Nat.two_pow_pos _)];rcases Nat.le_total drop (k.log2+2)with a|a;. rw[Nat.min_eq_left a];exact h
 ·rw[Nat.min_eq_right a];have c:k<2^(k.log2+1):=Nat.lt_log2_self;have d:2^(k.log2+1)<=2^(k.log2+2):=Nat.pow_le_pow_right (by decide) (by omega);have e:2^(k.log2+2)<=n*2^(k.log2+2):=Nat.le_mul_of_pos_left _ b;omega
theorem J8{s:Bool}(h:k<4890909195324358656):∃n:Int,floatToIntVal .f64 (ae s k) .i64=some n:=by
 have b:mg k*2^ex k<2^63*2^1074:=by have :=gS h;rwa[FK]at this
 unfold floatToIntVal;rw[show V5.decode (ae s k)=double.read (ae s k)from rfl,fD s (show k<2047*2^52 by omega)]
 obtain⟨n,e,i⟩:∃n:Nat,Datum.toInt .zero (.number s (mg k) (-1074+(ex k:Nat)))=some (signed s n 0)/\n<2^63:=by
  refine⟨_,rfl,?_⟩;refine Hj (by decide) ?_;rw[Yy];rcases Wb (ex k) 1074 with c|c
  ·rw[show(-1074+(ex k:Nat):Int).toNat=0 by omega,show(-(-1074+(ex k:Nat):Int)).toNat=1074-ex k by omega,Nat.pow_zero,XN];have a:mg k*2^ex k<2^63*2^(1074-ex k)*2^ex k:=by rw[Nat.mul_assoc,<-Nat.pow_add,show 1074-ex k+ex k=1074 by omega];exact b
   exact Nat.lt_of_mul_lt_mul_right a
  ·rw[show(-1074+(ex k:Nat):Int).toNat=ex k-1074 by omega,show(-(-1074+(ex k:Nat):Int)).toNat=0 by omega,Nat.pow_zero,XN];obtain⟨N,d⟩:∃N:Nat,N=1074:=⟨_,rfl⟩;have a:mg k*2^(ex k-1074)*2^N<2^63*2^N:=by rw[Nat.mul_assoc,<-Nat.pow_add,show ex k-1074+N=ex k by omega,d];exact b
   exact Nat.lt_of_mul_lt_mul_right a
 rw[e];have f:VL.min<=signed s n 0/\signed s n 0<=VL.max:=by rw[show VL.min=-9223372036854775808 from rfl,show VL.max=9223372036854775807 from rfl];unfold signed;rw[Yy,Nat.pow_zero,XN];split<;>omega
 exact⟨signed s n 0,by simp only[f,and_self,if_true]⟩
def xC(f g:Nat):Prop:=g=f∨ja f/\ja g
theorem ja.lt(h:ja k):k<18446744073709551616:=by obtain⟨s,w,rfl,_,a⟩:=h;exact j' a
theorem Hk(t:Nat)(x y:Nat):ja (Question.cut (.nanBits .f64 x y) t):=by
 refine⟨decide (t%2=1),0x7ff0000000000000+1+(t/2)%(2^52-1),?_,by omega,by omega⟩;show(t%2)*2^63+0x7ff0000000000000+1+(t/2)%(2^52-1)=_;by_cases h:t%2=1;. rw[h,decide_eq_true rfl];show _=2^63+_;omega
 ·rw[decide_eq_false h,show t%2=0 by omega];show _=0x7ff0000000000000+1+(t/2)%(2^52-1);omega
theorem Ow:ja nA:=⟨false,nA,rfl,by decide,by decide⟩
end Fl
theorem q_(a:BinOp)(b:a=.add∨a=.sub∨a=.mul∨a=.quo)(x y:Nat):∃f,f<18446744073709551616/\∀W:World,∃g n,Fl.xC f g/\∀T,(binOp a T (.float .f64 x) (.float .f64 y)).run VI W=.ok (.float .f64 g) (W.drewN n):=by
 cases h:floatBits a .f64 x y with
 |some r=>
  have c:r<18446744073709551616:=by have :=floatBits_wf h;simpa[Lit.wf]using this
  exact⟨r,c,fun W=>⟨r,0,.inl rfl,fun T=>run_float_arith (P:=VI) W a T .f64 x y r h⟩⟩
 |none=>refine⟨nA,by decide,fun W=>⟨_,1,.inr ⟨Fl.Ow,Fl.Hk (W.tape W.drawn (.nanBits .f64 x y)) x y⟩,fun T=>?_⟩⟩;unfold floatBits at h;rcases b with rfl|rfl|rfl|rfl<;>(simp only at h;simp[binOp,Op.floatArith,h,choose];rfl)
end
theorem tG(a:ByteArray)(f g:Nat):∃r ok:Bool,∀w,Calls VI 193 #[.string a,.float .f64 f,.float .f64 g] w fun e w'=>e=.returned (.tuple #[.bool r,.bool ok])/\w=w':=by
 by_cases b:a.toList=[61,61]
 ·refine⟨(V5.format.order f g==some .eq),true,fun w=>?_⟩;have b:(a.toList==[61,61])=true:=by rw[b];rfl
  go_enter func193,ntmps193;go_wp2_with fail;go_ret2;exact⟨rfl,rfl⟩
 have b:(a.toList==[61,61])=false:=beq_eq_false_iff_ne.2 b;by_cases c:a.toList=[33,61]
 ·refine⟨(V5.format.order f g !=some .eq),true,fun w=>?_⟩;have c:(a.toList==[33,61])=true:=by rw[c];rfl
  go_enter func193,ntmps193;go_wp2_with fail;go_ret2;exact⟨rfl,rfl⟩
 have c:(a.toList==[33,61])=false:=beq_eq_false_iff_ne.2 c;by_cases d:a.toList=[60]
 ·refine⟨(V5.format.order f g==some .lt),true,fun w=>?_⟩;have d:(a.toList==[60])=true:=by rw[d];rfl
  go_enter func193,ntmps193;go_wp2_with fail;go_ret2;exact⟨rfl,rfl⟩
 have d:(a.toList==[60])=false:=beq_eq_false_iff_ne.2 d;by_cases h:a.toList=[62]
 ·refine⟨(V5.format.order f g==some .gt),true,fun w=>?_⟩;have h:(a.toList==[62])=true:=by rw[h];rfl
  go_enter func193,ntmps193;go_wp2_with fail;go_ret2;exact⟨rfl,rfl⟩
 have h:(a.toList==[62])=false:=beq_eq_false_iff_ne.2 h;by_cases i:a.toList=[60,61]
 ·refine⟨(V5.format.order f g==some .lt||V5.format.order f g==some .eq),true,fun w=>?_⟩;have i:(a.toList==[60,61])=true:=by rw[i];rfl
  go_enter func193,ntmps193;go_wp2_with fail;go_ret2;exact⟨rfl,rfl⟩
 have i:(a.toList==[60,61])=false:=beq_eq_false_iff_ne.2 i;by_cases j:a.toList=[62,61]
 ·refine⟨(V5.format.order f g==some .gt||V5.format.order f g==some .eq),true,fun w=>?_⟩;have j:(a.toList==[62,61])=true:=by rw[j];rfl
  go_enter func193,ntmps193;go_wp2_with fail;go_ret2;exact⟨rfl,rfl⟩
 have j:(a.toList==[62,61])=false:=beq_eq_false_iff_ne.2 j;refine⟨false,false,fun w=>?_⟩;go_enter func193,ntmps193;go_wp2_with fail;go_ret2;exact⟨rfl,rfl⟩
theorem vV(a:ByteArray)(f g:Nat)(d:f<18446744073709551616)(i:g<18446744073709551616):∃(r:Nat)(ok:Bool),r<18446744073709551616/\∀w,Calls VI 194 #[.string a,.float .f64 f,.float .f64 g] w fun e w'=>(∃t,Fl.xC r t/\e=.returned (.tuple #[.float .f64 t,.bool ok]))/\∃n,w'=w.drewN n:=by
 by_cases k:a.toList=[43]
 ·obtain⟨r,b,h⟩:=q_ .add (.inl rfl) f g;refine⟨r,true,b,fun w=>?_⟩;have k:(a.toList==[43])=true:=by rw[k];rfl
  obtain⟨j,n,c,q⟩:=h w;have H:=VH c;clear h c b d i;go_enter func194,ntmps194;go_wp2_with fail;go_ret2;exact⟨⟨j,H.out,rfl⟩,n,rfl⟩
 have k:(a.toList==[43])=false:=beq_eq_false_iff_ne.2 k;by_cases l:a.toList=[45]
 ·obtain⟨r,b,h⟩:=q_ .sub (.inr (.inl rfl)) f g;refine⟨r,true,b,fun w=>?_⟩;have l:(a.toList==[45])=true:=by rw[l];rfl
  obtain⟨j,n,c,q⟩:=h w;have H:=VH c;clear h c b d i;go_enter func194,ntmps194;go_wp2_with fail;go_ret2;exact⟨⟨j,H.out,rfl⟩,n,rfl⟩
 have l:(a.toList==[45])=false:=beq_eq_false_iff_ne.2 l;by_cases m:a.toList=[42]
 ·obtain⟨r,b,h⟩:=q_ .mul (.inr (.inr (.inl rfl))) f g;refine⟨r,true,b,fun w=>?_⟩;have m:(a.toList==[42])=true:=by rw[m];rfl
  obtain⟨j,n,c,q⟩:=h w;have H:=VH c;clear h c b d i;go_enter func194,ntmps194;go_wp2_with fail;go_ret2;exact⟨⟨j,H.out,rfl⟩,n,rfl⟩
 have m:(a.toList==[42])=false:=beq_eq_false_iff_ne.2 m;by_cases o:a.toList=[47]
 ·obtain⟨r,b,h⟩:=q_ .quo (.inr (.inr (.inr rfl))) f g;refine⟨r,true,b,fun w=>?_⟩;have o:(a.toList==[47])=true:=by rw[o];rfl
  obtain⟨j,n,c,q⟩:=h w;have H:=VH c;clear h c b d i;go_enter func194,ntmps194;go_wp2_with fail;go_ret2;exact⟨⟨j,H.out,rfl⟩,n,rfl⟩
 have o:(a.toList==[47])=false:=beq_eq_false_iff_ne.2 o;by_cases p:a.toList=[109]
 ·obtain⟨r,b,h⟩:=N9 d i;refine⟨r,true,b,fun w=>?_⟩;have p:(a.toList==[109])=true:=by rw[p];rfl
  have H:=VH (h w);clear h b d i;go_enter func194,ntmps194;go_wp2_with fail;refine H.out.mono ?_;rintro _ _⟨rfl,rfl⟩;go_wp2_with fail;go_ret2;exact⟨⟨r,.inl rfl,rfl⟩,0,rfl⟩
 have p:(a.toList==[109])=false:=beq_eq_false_iff_ne.2 p;refine⟨0,false,by decide,fun w=>?_⟩;clear d i;go_enter func194,ntmps194;go_wp2_with fail;go_ret2;exact⟨⟨0,.inl rfl,rfl⟩,0,rfl⟩
theorem AQ{s:Bool}(a:k<9223372036854775808):Calls VI 223 #[.float .f64 (Fl.ae s k)] w fun e w'=>e=.returned (.bool (decide (9218868437227405312<k)))/\w=w':=by
 by_cases h:9218868437227405312<k;. rw[decide_eq_true h];exact uA h a
 ·rw[decide_eq_false h];exact kQ ⟨s,k,rfl,by omega⟩
theorem EO(f:Nat)(l:f<18446744073709551616):∃n:Int,-9223372036854775808<=n/\n<=9223372036854775807/\∀w,Calls VI 199 #[.float .f64 f] w fun e w'=>e=.returned (.int .i64 n)/\w=w':=by
 obtain⟨s,a,rfl,i⟩:=Fl.sF l;have b:=fun w=>AQ (w:=w) (s:=s) i;by_cases c:9218868437227405312<a;. rw[decide_eq_true c]at b;refine⟨0,by decide,by decide,fun w=>?_⟩;have b:=VH (b w);generalize Fl.ae s a=x at*;clear c i l;go_enter func199,ntmps199;go_wp2_with fail;refine b.out.mono ?_;rintro _ _⟨rfl,rfl⟩;go_wp2_with fail;go_ret;exact⟨rfl,rfl⟩
 ·rw[decide_eq_false c]at b;have j:a<=9218868437227405312:=by omega
  have d:V5.format.order (Fl.ae s a) 4890909195324358656=_:=Fl.vh (s:=s) (t:=false) (b:=4890909195324358656) j (by decide);have m:V5.format.order (Fl.ae s a) 14114281232179134464=_:=Fl.vh (s:=s) (t:=true) (b:=4890909195324358656) j (by decide);have c0:0<Fl.V 4890909195324358656:=Fl.mJ (by decide);by_cases k:a<4890909195324358656
  ·obtain⟨n,p⟩:=Fl.J8 (s:=s) k;have o:=Fl.gS k;have g1:(V5.format.order (Fl.ae s a) 4890909195324358656==some .gt||V5.format.order (Fl.ae s a) 4890909195324358656==some .eq)=false:=by rw[d,Fl.gU (show Fl.SV s a<Fl.SV false 4890909195324358656 from by unfold Fl.SV;cases s<;>simp<;>omega)];rfl
   have q:(V5.format.order (Fl.ae s a) 14114281232179134464==some .lt||V5.format.order (Fl.ae s a) 14114281232179134464==some .eq)=false:=by rw[m,Fl.jN (show Fl.SV true 4890909195324358656<Fl.SV s a from by unfold Fl.SV;cases s<;>simp<;>omega)];rfl
   have hw:=floatToIntVal_wf p;refine⟨n,by simp[Lit.wf,IntKind.min,IntKind.max,IntKind.bits,IntKind.signed]at hw;omega,by simp[Lit.wf,IntKind.min,IntKind.max,IntKind.bits,IntKind.signed]at hw;omega,fun w=>?_⟩;have b:=VH (b w);have r:∀W,(convert 290 3 (.float .f64 (Fl.ae s a))).run VI W=.ok (.int .i64 n) W:=fun W=>run_convert_float_int (P:=VI) W _ _ .f64 .i64 _ _ (by kernel_rfl) underlying3 p;clear d m hw p o k c0 c i l j;generalize Fl.ae s a=x at*;go_enter func199,ntmps199;go_wp2_with fail;refine b.out.mono ?_;rintro _ _⟨rfl,rfl⟩;go_wp2_with fail;go_ret;exact⟨rfl,rfl⟩
  ·have o:=Fl.td (show 4890909195324358656<=a by omega)
   cases s with
   |false=>
    have g1:(V5.format.order (Fl.ae false a) 4890909195324358656==some .gt||V5.format.order (Fl.ae false a) 4890909195324358656==some .eq)=true:=by
     rw[d];rcases Int.lt_trichotomy (Fl.SV false a) (Fl.SV false 4890909195324358656)with h|h|h;. unfold Fl.SV at h;simp at h;omega
     ·rw[h];simp
     ·rw[Fl.jN h];rfl
    refine⟨9223372036854775807,by decide,by decide,fun w=>?_⟩;have b:=VH (b w);clear d m o k c0 c i l j;generalize Fl.ae false a=x at*;go_enter func199,ntmps199;go_wp2_with fail;refine b.out.mono ?_;rintro _ _⟨rfl,rfl⟩;go_wp2_with fail;go_ret;exact⟨rfl,rfl⟩
   |true=>
    have g1:(V5.format.order (Fl.ae true a) 4890909195324358656==some .gt||V5.format.order (Fl.ae true a) 4890909195324358656==some .eq)=false:=by rw[d,Fl.gU (show Fl.SV true a<Fl.SV false 4890909195324358656 from by unfold Fl.SV;simp;omega)];rfl
    have q:(V5.format.order (Fl.ae true a) 14114281232179134464==some .lt||V5.format.order (Fl.ae true a) 14114281232179134464==some .eq)=true:=by
     rw[m];rcases Int.lt_trichotomy (Fl.SV true a) (Fl.SV true 4890909195324358656)with h|h|h;. rw[Fl.gU h];rfl
     ·rw[h];simp
     ·unfold Fl.SV at h;simp at h;omega
    refine⟨-9223372036854775808,by decide,by decide,fun w=>?_⟩;have b:=VH (b w);clear d m o k c0 c i l j;generalize Fl.ae true a=x at*;go_enter func199,ntmps199;go_wp2_with fail;refine b.out.mono ?_;rintro _ _⟨rfl,rfl⟩;go_wp2_with fail;go_ret;exact⟨rfl,rfl⟩
theorem Q5(x:Nat)(y:x<18446744073709551616):∃f:Nat,f<18446744073709551616/\∀w,Calls VI 222 #[.float .f64 x] w fun e w'=>e=.returned (.float .f64 f)/\w=w':=by
 obtain⟨q,j⟩:∃q,x/4503599627370496=q:=⟨_,rfl⟩;have K:(x:Int)/4503599627370496=(q:Int):=by omega
 have D:q<18446744073709551616:=by omega
 obtain⟨e,I,J,r⟩:=iI (a:=q) (b:=2047) D (by decide);have r:bits .and .u64 (q:Int) 2047=(e:Int):=by rw[<-r];rfl
 have G:=ny x;by_cases i:e<1023
 ·obtain⟨b,z,_,l⟩:=iI (a:=x) (b:=9223372036854775808) y (by decide);have l:bits .and .u64 (x:Int) 9223372036854775808=(b:Int):=by rw[<-l];rfl
  have F:(e:Int)<1023:=by omega
  by_cases a:e=1022
  case' pos=>
   obtain⟨c,o,m⟩:=iP (a:=b) (b:=4607182418800017408) z (by decide);have m:bits .or .u64 (b:Int) 4607182418800017408=(c:Int):=by rw[<-m];rfl
   refine⟨c,o,fun w=>?_⟩;have p:((e:Int)==1022)=true:=by simp;omega
   have k:=g_ c
  case' neg=>refine⟨b,z,fun w=>?_⟩;have p:((e:Int)==1022)=false:=beq_eq_false_iff_ne.2 (by omega);have k:=g_ b
  all_goals clear i a j;go_enter func222,ntmps222;go_wp2_with fail;go_ret;exact⟨rfl,rfl⟩
 ·have F:¬(e:Int)<1023:=by omega
  by_cases a:e<1075
  ·have p:(e:Int)<1075:=by omega
   obtain⟨d,u⟩:∃d:Nat,(e:Int)-1023=(d:Int):=⟨e-1023,by omega⟩;have l:IntKind.u64.wrap ((e:Int)-1023)=(d:Int):=by rw[IntWalk.u64_in _ (by omega)];exact u
   obtain⟨h,t⟩:∃h,2251799813685248/2^min d 64=h:=⟨_,rfl⟩;obtain⟨a2,n⟩:∃a2,4503599627370495/2^min d 64=a2:=⟨_,rfl⟩;have C:a2<18446744073709551616:=by rw[<-n];exact Nat.lt_of_le_of_lt (Nat.div_le_self _ _) (by decide)
   obtain⟨c,o,m⟩:=cW ((x:Int)+(h:Int));obtain⟨A,E,_,H⟩:=tu (a:=c) (b:=a2) o C;have s1:(2251799813685248:Int)/2^min d 64=(h:Int):=by rw[<-t];rfl
   have s2:(4503599627370495:Int)/2^min d 64=(a2:Int):=by rw[<-n];rfl
   refine⟨A,E,fun w=>?_⟩;have k:=g_ A;clear i a j u t n;go_enter func222,ntmps222;go_wp2_with fail;go_ret;exact⟨rfl,rfl⟩
  ·have p:¬(e:Int)<1075:=by omega
   refine⟨x,y,fun w=>?_⟩;have k:=g_ x;clear i a j;go_enter func222,ntmps222;go_wp2_with fail;go_ret;exact⟨rfl,rfl⟩
theorem Ae(f:Nat)(c:f<18446744073709551616):∃n:Int,-9223372036854775808<=n/\n<=9223372036854775807/\∀w,Calls VI 196 #[.float .f64 f] w fun e w'=>e=.returned (.int .i64 n)/\w=w':=by obtain⟨g,d,a⟩:=Q5 f c;obtain⟨n,h,i,b⟩:=EO g d;refine⟨n,h,i,fun w=>?_⟩;have j:=VH (a w);have k:=VH (b w);clear a b d c h i;go_enter func196,ntmps196;go_wp2_with fail;refine j.out.mono ?_;rintro _ _⟨rfl,rfl⟩;go_wp2_with fail;refine k.out.mono ?_;rintro _ _⟨rfl,rfl⟩;go_wp2_with fail;go_ret;exact⟨rfl,rfl⟩
theorem Fl.Ap{s:Bool}(c:k<9223372036854775808):(V5.format.order (Fl.ae s k) 9218868437227405311==some .gt)=(!s&&k==9218868437227405312):=by
 show(Ieee.double.order (Fl.ae s k) 9218868437227405311==some .gt)=_;rcases Wb 9218868437227405312 k with h|h;. rw[Fl.pf ⟨s,k,rfl,by omega,by omega⟩,show(k==9218868437227405312)=false from beq_eq_false_iff_ne.2 (by omega)];cases s<;>rfl
 ·have e:=Fl.vh (s:=s) (t:=false) (a:=k) (b:=9218868437227405311) h (by decide);rw[show Ieee.double.order (Fl.ae s k) 9218868437227405311=_ from e];have b:0<Fl.V 9218868437227405311:=Fl.mJ (by decide)
  cases s with
  |true=>rw[Fl.gU (show Fl.SV true k<Fl.SV false 9218868437227405311 from by unfold Fl.SV;simp;omega)];rfl
  |false=>
   show(some (compare (Fl.V k:Int) (Fl.V 9218868437227405311:Int))==some .gt)=(true&&k==9218868437227405312);rw[Fl.yT,Bool.true_and];rcases Nat.lt_trichotomy k 9218868437227405311 with a|a|a;. rw[Fl.l6 a,show(k==9218868437227405312)=false from beq_eq_false_iff_ne.2 (by omega)];rfl
   ·rw[a];simp
   ·rw[Fl.lZ a,show k=9218868437227405312 by omega];rfl
theorem Kf{s:Bool}(b:k<9223372036854775808):Calls VI 224 #[.float .f64 (Fl.ae s k),.int .i64 1] w fun e w'=>e=.returned (.bool (!s&&k==9218868437227405312))/\w=w':=by have a:=VH (Fl.Ap (s:=s) b);generalize Fl.ae s k=x at*;go_enter func224,ntmps224;go_wp2_with fail;go_ret;exact⟨by rw[<-a.out];rfl,rfl⟩
theorem Ke{s:Bool}(b:k<9223372036854775808):Calls VI 224 #[.float .f64 (Fl.ae s k),.int .i64 (-1)] w fun e w'=>e=.returned (.bool (s&&k==9218868437227405312))/\w=w':=by have a:=Fl.Ap (s:=!s) b;rw[Bool.not_not]at a;have c:=VH a;have d:∀W,(Go.Op.unary .neg (.float .f64 (Fl.ae s k))).run VI W=.ok (.float .f64 (Fl.ae (!s) k)) W:=fun W=>(u_ _ W).trans (by rw[Fl.va b]);clear a;generalize Fl.ae (!s) k=y at*;generalize Fl.ae s k=x at*;go_enter func224,ntmps224;go_wp2_with fail;go_ret;exact⟨by rw[<-c.out];rfl,rfl⟩
def om:Prop:=∀(w:World)(B:Nat)(s:Bool)(a b:Nat),FE w B->a<9218868437227405312->b<=20->Calls VI 225 #[.float .f64 (Fl.ae s a),.int .u8 102,.int .i64 (b:Nat),.int .i64 64] w fun e w'=>aa ab w w'/\∃t:ByteArray,t.size<=2000/\e=.returned (.string t)
theorem He(H:om){B:Nat}(m:FE w B)(x:k<18446744073709551616)(r:n<=20):Calls VI 197 #[.float .f64 k,.int .i64 (n:Nat)] w fun e f=>aa ab w f/\∃t:ByteArray,t.size<=2000/\e=.returned (.string t):=by
 obtain⟨s,a,rfl,l⟩:=Fl.sF x;have i:=VH (H w B s a n m);have b:=AQ (w:=w) (s:=s) l;have d:=Kf (w:=w) (s:=s) l;have c:=Ke (w:=w) (s:=s) l;have A:min (n:Int) 20=n:=by omega
 have y:max 0 (n:Int)=n:=by omega
 have q:9218868437227405312<a∨a=9218868437227405312∨a<9218868437227405312:=by omega
 clear H m;rcases q with h|h|h;. rw[decide_eq_true h]at b;have b:=VH b;clear d c h i;generalize Fl.ae s a=z at*;go_enter func197,ntmps197;go_wp2_with fail;refine b.out.mono ?_;rintro e f⟨rfl,rfl⟩;go_wp2_with fail;go_ret;exact⟨aa.refl _ _,_,by decide,rfl⟩
 ·rw[decide_eq_false (by omega)]at b;have j:(a==9218868437227405312)=true:=beq_iff_eq.2 h;rw[j,Bool.and_true]at d c;have b:=VH b;have d:=VH d;have c:=VH c;clear h i j;generalize Fl.ae s a=z at*;cases s;all_goals go_enter func197,ntmps197;go_wp2_with fail;refine b.out.mono ?_;rintro e f⟨rfl,rfl⟩;go_wp2_with fail;refine d.out.mono ?_;rintro e f⟨rfl,rfl⟩;go_wp2_with fail
  ·go_ret;exact⟨aa.refl _ _,_,by decide,rfl⟩
  ·refine c.out.mono ?_;rintro e f⟨rfl,rfl⟩;go_wp2_with fail;go_ret;exact⟨aa.refl _ _,_,by decide,rfl⟩
 ·rw[decide_eq_false (by omega)]at b;have j:(a==9218868437227405312)=false:=beq_eq_false_iff_ne.2 (by omega);rw[j,Bool.and_false]at d c;have b:=VH b;have d:=VH d;have c:=VH c;have i:=VH (i.out h r);clear h j;generalize Fl.ae s a=z at*;go_enter func197,ntmps197;go_wp2_with fail;refine b.out.mono ?_;rintro e f⟨rfl,rfl⟩;go_wp2_with fail;refine d.out.mono ?_;rintro e f⟨rfl,rfl⟩;go_wp2_with fail;refine c.out.mono ?_;rintro e f⟨rfl,rfl⟩;go_wp2_with fail;refine i.out.mono ?_;rintro e f⟨o,t,u,rfl⟩;have p:=VH o;clear o;go_wp2_with fail;go_ret;exact⟨p.out,t,u,rfl⟩
def sW:Prop:=∀(w:World)(B:Nat)(p a b:ByteArray)(f:Bool)(k:Int),FE w B->p.size<=8192->a.size<=8192->b.size<=8192->-1000<=k/\k<=1000->Calls VI 186 #[.string p,.string a,.string b,.bool f,.int .i64 k] w fun e w'=>aa ab w w'/\∃(t:ByteArray)(n:Int),e=.returned (.tuple #[.string t,.int .i64 n])
structure qm(w:World)(g n m:Nat)(x0 x1:ByteArray)(wr:World):Prop where
 low:w.heap.size<=g
 lt:g<wr.heap.size
 c0:wr.cell? ⟨g,0,none⟩=some (.string x0)
 c1:wr.cell? ⟨g,1,none⟩=some (.string x1)
 c2:m=4->∃x2:ByteArray,x2.size<=n/\wr.cell? ⟨g,2,none⟩=some (.string x2)
 s0:x0.size<=n
 two:2<=m
 turns:aa ab w wr
theorem DO{A:Option Addr}(h:fH w k (X++[s]) (.slice A (n+1) m) w')(d:X.length=n)(r:1<=n):∃g l o,A=some ⟨g,0,none⟩/\qm w g k (n+1) l o w':=by
 subst d;obtain⟨g,p,e,b,c,a⟩:=vB h (by simp);injection e with e;have f:0<(X++[s]).length:=by simp
 have i:1<(X++[s]).length:=by simp;omega
 refine⟨g,(X++[s])[0],(X++[s])[1],e,b,c,a 0 f,a 1 i,fun q=>?_,h.fit _ (List.getElem_mem _),by omega,h.turns⟩;have j:2<(X++[s]).length:=by simp;omega
 exact⟨(X++[s])[2],h.fit _ (List.getElem_mem _),a 2 j⟩
theorem Sr(w:World)(L:List ByteArray)(a:L.length=n)(c:n<=100000)(b:∀x∈L,x.size<=k):fH w k L (.slice (some ⟨w.heap.size,0,none⟩) n n) (w.alloc (.cells (L.map Value.string).toArray 9)):=by subst a;refine⟨⟨by simp[strs],.inr ⟨w.heap.size,L.length,(L.map Value.string).toArray,rfl,VN _,ad.new w _ _,VN _,by simp only[maxLen];omega,by simp,by simp only[strs,XN];rw[List.take_of_length_le (by simp)]⟩⟩,(aa.refl _ w).alloc _,b⟩
theorem qm.still(h:qm w g k n s x w')(a:aa ab w' U):qm w g k n s x U:=⟨h.low,VO h.lt a.size,(a.cell (p:=⟨g,0,none⟩) h.lt id).trans h.c0,(a.cell (p:=⟨g,1,none⟩) h.lt id).trans h.c1,fun e=>(h.c2 e).imp fun _ b=>⟨b.1,(a.cell (p:=⟨g,2,none⟩) h.lt id).trans b.2⟩,h.s0,h.two,h.turns.same a⟩
theorem Cu(b:Bool)(k:Int)(w:World):Calls VI 142 #[.bool b,.int .i64 k] w fun e w'=>w=w'/\(b=true/\e=.returned (.tuple #[])∨b=false/\e=.panicked (oQ k)):=by cases b with|false=>exact(eF _ _).mono fun e w' h=>⟨h.2,.inr ⟨rfl,h.1⟩⟩|true=>exact(gB _ _).mono fun e w' h=>⟨h.2,.inl ⟨rfl,h.1⟩⟩
theorem QU(Y:sW)(HT:dD k):qi k:=by
 intro w M S B n p s U hB V hn hp hs;obtain⟨i0,ai,aq,ar,au⟩:=info_parts A.ux;have aF:=V.mb.lt;have C:=VH (VJ U hB);have ae:=VH (VJ HT Y);have Z:=VH (VJ V hn);obtain⟨aE,an⟩:=U.low.mx;have ad:=VH (Tryz.strings_Split p ⟨#[124]⟩ aE w (by omega) an (by decide));have aC:=Lib.countB_le (⟨#[124]⟩:ByteArray) (by decide) p.size p (VN _);have H:=Lib.splitB_all (⟨#[124]⟩:ByteArray) (by decide) 0 _ p rfl;have av:=VH (Ec (⟨#[124]⟩:ByteArray) (Lib.countB p ⟨#[124]⟩) p);generalize Lib.splitB (⟨#[124]⟩:ByteArray) 0 (Lib.countB p ⟨#[124]⟩) p=L at*;obtain⟨m,hm⟩:∃m,Lib.countB p ⟨#[124]⟩+1=m:=⟨_,rfl⟩;rw[hm]at ad H;have c:=VH (VJ (Sr w L H (by omega) (fun x hx=>Nat.le_trans (av.out x hx) hp)) H);have ak:1<=m/\m<=8193:=by omega
 clear U hB V hn HT Y an aC hm H;go_enter func175,ntmps175;go_wp2_with fail;refine ad.out.mono ?_;rintro e w1⟨rfl,rfl⟩;obtain⟨W,hW⟩:∃W,w.alloc (.cells (L.map Value.string).toArray 9)=W:=⟨_,rfl⟩;rw[hW]at c⊢;have aN:=c.out.1.turns.size;clear hW;by_cases aK:m+1<=4
 ·have g4:((m:Int)+1<=4):=by omega
  go_wp2_with(
   at_builtin;refine aX _ rfl (.tmp 17) (.tmp 18) _ _ rfl _ 9 i0 _ 1 16 underlying51 ai aq ar au rfl _ _ _ rfl (c.out.1.row ((aa.refl _ W).alloc _) c.out.2) _ _ _ rfl (se _ _) (by simp only[maxLen];omega) (by omega) (by simp;omega) ?_;intro A2 ay P F E b;have D:=VH (DO (c.out.1.push c.out.2 (Nat.zero_le _) ((aa.refl _ W).alloc _) F E) c.out.2 ak.1);clear F E b;obtain⟨g,x0,u,rfl,d⟩:=D.out;have c0:=d.c0;have c1:=d.c1;have X:=d.lt;have q0:(0:Int)<(m:Int)+1:=by omega
   have q1:(1:Int)<(m:Int)+1:=by omega
   have f:=VH d;clear D d)
  all_goals
   refine(Cu _ _ _).mono ?_;rintro e Q⟨rfl,⟨j,rfl⟩|⟨j,rfl⟩⟩;rotate_left;. go_wp2_with fail;exact⟨rfl,f.out.turns.mono fun _ _ e=>e.elim,.inl ⟨_,rfl⟩⟩
   clear j;cases hE:u.toList.isEmpty;all_goals cases aD:u.toList==([102]:List UInt8)
   all_goals try(exact absurd aD (by rw[‹u.toList=[]›];decide))
   all_goals try(exact absurd hE (by rw[‹u.toList=[]›];decide))
   all_goals try(exact absurd (List.isEmpty_iff.1 hE) ‹¬u.toList=[]›)
   all_goals
    go_upto_if 43 with fail;go_cut[9](fun s9 wx=>∃G:Int,s9=.int .i64 G/\(-1000<=G/\G<=1000)/\aa ab P wx)
    case first=>
     by_cases h4:m+1=4
     ·have g5:((m:Int)+1==4)=true:=beq_iff_eq.2 (by omega);have q2:(2:Int)<(m:Int)+1:=by omega
      obtain⟨a,aM,c2⟩:=f.out.c2 h4;clear h4;have ah:=(C.out.1.still f.out.turns).low;obtain⟨⟨tp,pp,J⟩,⟨tr,pr,I⟩⟩:=VJ ah.Ek ah.pB
      cases b:Lib.atoiAll a.data.toList with
      |range=>have z:=VH (Tryz.strconv_Atoi_range a (by omega) b _ P I (.inr ⟨_,_,rfl⟩));generalize Lib.atoiSat a.data.toList=v at*;clear b J I;go_wp2_with fail;refine z.out.mono ?_;rintro e Q⟨N,rfl,_,_,l⟩;have o:=VH (f.out.turns.same (oE l));clear l;go_wp2_with(go_at_call 142;refine(eF _ _).mono ?_;rintro r O⟨rfl,rfl⟩);exact⟨rfl,o.out.mono fun _ _ e=>e.elim,.inl ⟨_,rfl⟩⟩
      |ok v=>
       have z:=VH (Tryz.strconv_Atoi_ok a (by omega) v b);have aj:a.data.toList.length=a.size:=Array.length_toList
       have aL:0<a.size:=by
        rcases Nat.eq_zero_or_pos a.size with e|e;. rw[List.eq_nil_of_length_eq_zero (aj.trans e)]at b;cases b
        ·exact e
       have ax:=VH (fun(h2:a.size<=2)=>yj (l:=a.data.toList) (by omega) b);have q3:(0:Int)<(a.size:Int):=by omega
       generalize hy:a[0]=y at*;clear b J I aj;go_wp2_with fail;refine(z.out _).mono ?_;rintro e Q⟨rfl,l⟩;have K:=yE (t:=0) l;have c2:=(K.cell (p:=⟨g,2,none⟩) X id).trans c2;have aI:=VO X K.size;have o:=VH K;clear l K c0 c1;by_cases az:a.size<=2
       ·have g6:((a.size:Int)<=2):=by omega
        cases y1:((y.toNat:Int)!=45)
        all_goals
         cases y2:((y.toNat:Int)!=43)
         all_goals
          go_wp2_with fail;refine(Cu _ _ _).mono ?_;rintro e w5⟨rfl,⟨j,rfl⟩|⟨j,rfl⟩⟩;. first|exact absurd j (by decide)|clear j;go_wp2_with fail;go_meet;exact⟨v,rfl,ax.out az,o.out⟩
          ·first|exact absurd j (by decide)|clear j;go_wp2_with fail;exact⟨rfl,(f.out.turns.same o.out).mono fun _ _ e=>e.elim,.inl ⟨_,rfl⟩⟩
       ·have g6:¬((a.size:Int)<=2):=by omega
        go_wp2_with(go_at_call 142;refine(eF _ _).mono ?_;rintro r O⟨rfl,rfl⟩);exact⟨rfl,(f.out.turns.same o.out).mono fun _ _ e=>e.elim,.inl ⟨_,rfl⟩⟩
      |_=>have z:=VH (Tryz.strconv_Atoi_syntax a (by omega) b _ P J (.inr ⟨_,_,rfl⟩));clear b J I;go_wp2_with fail;refine z.out.mono ?_;rintro e Q⟨N,rfl,_,_,l⟩;have o:=VH (f.out.turns.same (oE l));clear l;go_wp2_with(go_at_call 142;refine(eF _ _).mono ?_;rintro r O⟨rfl,rfl⟩);exact⟨rfl,o.out.mono fun _ _ e=>e.elim,.inl ⟨_,rfl⟩⟩
     ·have g5:((m:Int)+1==4)=false:=beq_eq_false_iff_ne.2 (by omega);go_wp2_with fail;go_meet;exact⟨_,rfl,by decide,aa.refl _ _⟩
    case rest=>
     obtain⟨G,rfl,hk,ag⟩:=hcut;have i:=VH (f.out.still ag);have aw:=VH (Z.out.1.still i.out.turns);clear ag;go_wp2_with fail;refine(Ey ae.out.1 (C.out.1.still i.out.turns) C.out.2 aw.out Z.out.2 hs).mono ?_;rintro e w6⟨h,⟨kk,rfl⟩|⟨vv,rfl,ta,tb,n2,rfl,aA,aB,ao,al⟩⟩;. have q:=VH ((i.out.turns.mono (S':=af M) fun _ _ e=>e.elim).same h);clear h;go_wp2_with fail;exact⟨rfl,q.out,.inl ⟨_,rfl⟩⟩
     ·have q:=VH (VJ ((i.out.turns.mono (S':=af M) fun _ _ e=>e.elim).same h) (VJ al ao));have aH:=i.out.low;have c0:=(h.cell (p:=⟨g,0,none⟩) i.out.lt (fun e=>by have e:g=M:=e;omega)).trans i.out.c0;have aJ:=VO i.out.lt h.size;clear h al ao c1;go_wp2_with fail;refine(ae.out.2 _ B x0 ta tb _ G (C.out.1.only q.out.1 C.out.2) i.out.s0 aA aB hk).mono ?_;rintro e w7⟨h,t,r,rfl⟩;have T:=VH (VJ (q.out.1.same (h.mono fun _ _ e=>e.elim)) (q.out.2.1.still h));clear h;cases aG:(r==0);. go_wp2_with(go_at_call 142;refine(eF _ _).mono ?_;rintro r O⟨rfl,rfl⟩);exact⟨rfl,T.out.1,.inl ⟨_,rfl⟩⟩
      ·go_wp2_with(go_at_call 142;refine(gB _ _).mono ?_;rintro r O⟨rfl,rfl⟩);go_ret;exact⟨T.out.1,.inr ⟨_,rfl,t,n2,rfl,q.out.2.2,T.out.2⟩⟩
 ·have g4:¬((m:Int)+1<=4):=by omega
  go_wp2_with(
   at_builtin;refine aX _ rfl (.tmp 17) (.tmp 18) _ _ rfl _ 9 i0 _ 1 16 underlying51 ai aq ar au rfl _ _ _ rfl (c.out.1.row ((aa.refl _ W).alloc _) c.out.2) _ _ _ rfl (se _ _) (by simp only[maxLen];omega) (by omega) (by simp;omega) ?_;intro A2 ay P F E b;have D:=VH (DO (c.out.1.push c.out.2 (Nat.zero_le _) ((aa.refl _ W).alloc _) F E) c.out.2 ak.1);clear F E b;obtain⟨g,x0,u,rfl,d⟩:=D.out;have c0:=d.c0;have c1:=d.c1;have X:=d.lt;have q0:(0:Int)<(m:Int)+1:=by omega
   have q1:(1:Int)<(m:Int)+1:=by omega
   have f:=VH d;clear D d);refine(eF _ _).mono ?_;rintro e Q⟨rfl,rfl⟩;go_wp2_with fail;exact⟨rfl,f.out.turns.mono fun _ _ e=>e.elim,.inl ⟨_,rfl⟩⟩
theorem QV(H:om)(HL:∀n:Int,floatOfInt .f64 n<18446744073709551616):sW:=by
 intro w B p a b f k hF hp ha hb hk;obtain⟨r1,E,V⟩:=tG p 0 0;obtain⟨r2,J,an,W⟩:=vV p 4607182418800017408 4607182418800017408 (by decide) (by decide);obtain⟨Z,C,ad,O⟩:=yZ a;obtain⟨fb,D,ae,P⟩:=yZ b;obtain⟨T,ao,aq,Q⟩:=Ae Z ad;obtain⟨U,ar,au,S⟩:=Ae fb ae;have V:=VH V;have W:=VH W;have O:=VH O;have P:=VH P;have Q:=VH Q;have S:=VH S;have i:=VH hF;have G:=VH (VJ H HL);have N:=VH (VJ ad ae);clear hF H HL ad ae ao aq ar au an;go_enter func186,ntmps186;go_wp2_with fail;refine(V.out _).mono ?_;rintro e w1⟨rfl,rfl⟩;go_wp2_with fail;refine(W.out _).mono ?_;rintro e w2⟨⟨K,A,rfl⟩,n,rfl⟩;have j:=VH ((aa.refl ab w).drewN n);generalize w.drewN n=w2 at*;clear A;by_cases ax:k<0
 ·cases E;all_goals cases J
  all_goals go_wp2_with fail;go_ret2;exact⟨j.out,_,_,rfl⟩
 by_cases ay:20<k
 ·cases E;all_goals cases J
  all_goals go_wp2_with fail;go_ret2;exact⟨j.out,_,_,rfl⟩
 obtain⟨av,rfl⟩:∃m:Nat,k=(m:Int):=⟨k.toNat,by omega⟩;have al:=VH (show av<=20 by omega);obtain⟨er,h⟩:=i.out.err;have aw:=VH h;clear h;have bz:E=true∨E=false/\J=true∨E=false/\J=false:=by cases E<;>cases J<;>simp
 rcases bz with rfl|⟨rfl,rfl⟩|⟨rfl,rfl⟩;rotate_left 2;. go_wp2_with fail;go_ret2;exact⟨j.out,_,_,rfl⟩
 ·go_wp2_with fail;obtain⟨er,h⟩:=(i.out.still j.out).err;refine(O.out _ B er (i.out.still j.out).iy h).mono ?_;rintro e w3⟨rfl,c⟩;have l:=VH (j.out.same c);clear c h;by_cases o:C=0;rotate_left;. have o:(C !=0)=true:=bne_iff_ne.2 o;go_wp2_with fail;go_ret2;exact⟨l.out,_,_,rfl⟩
  have o:(C !=0)=false:=by rw[o];rfl
  go_wp2_with fail;obtain⟨er,h⟩:=(i.out.still l.out).err;refine(P.out _ B er (i.out.still l.out).iy h).mono ?_;rintro e w4⟨rfl,c⟩;have x:=VH (l.out.same c);clear c h;by_cases q:D=0;rotate_left;. have q:(D !=0)=true:=bne_iff_ne.2 q;go_wp2_with fail;go_ret2;exact⟨x.out,_,_,rfl⟩
  have q:(D !=0)=false:=by rw[q];rfl
  cases f;. go_wp2_with fail;refine(Q.out _).mono ?_;rintro e w5⟨rfl,rfl⟩;go_wp2_with fail;refine(S.out _).mono ?_;rintro e w5⟨rfl,rfl⟩;have r:=G.out.2 T;have u:=G.out.2 U;generalize af:floatOfInt .f64 T=y at*;generalize ag:floatOfInt .f64 U=z at*;obtain⟨L,ai,d⟩:=tG p y z;have d:=VH d;clear r u;go_wp2_with fail;refine(d.out _).mono ?_;rintro e M⟨rfl,rfl⟩;cases L;all_goals go_wp2_with fail;go_ret2;exact⟨x.out,_,_,rfl⟩
  ·have r:=N.out.1;have u:=N.out.2;generalize af:Z=y at*;generalize ag:fb=z at*;obtain⟨L,ai,d⟩:=tG p y z;have d:=VH d;clear r u;go_wp2_with fail;refine(d.out _).mono ?_;rintro e M⟨rfl,rfl⟩;cases L;all_goals go_wp2_with fail;go_ret2;exact⟨x.out,_,_,rfl⟩
 ·go_wp2_with fail;obtain⟨er,h⟩:=(i.out.still j.out).err;refine(O.out _ B er (i.out.still j.out).iy h).mono ?_;rintro e w3⟨rfl,c⟩;have l:=VH (j.out.same c);clear c h;by_cases o:C=0;rotate_left;. have o:(C !=0)=true:=bne_iff_ne.2 o;go_wp2_with fail;go_ret2;exact⟨l.out,_,_,rfl⟩
  have o:(C !=0)=false:=by rw[o];rfl
  go_wp2_with fail;obtain⟨er,h⟩:=(i.out.still l.out).err;refine(P.out _ B er (i.out.still l.out).iy h).mono ?_;rintro e w4⟨rfl,c⟩;have x:=VH (l.out.same c);clear c h;by_cases q:D=0;rotate_left;. have q:(D !=0)=true:=bne_iff_ne.2 q;go_wp2_with fail;go_ret2;exact⟨x.out,_,_,rfl⟩
  have q:(D !=0)=false:=by rw[q];rfl
  cases f
  ·go_wp2_with fail;refine(Q.out _).mono ?_;rintro e w5⟨rfl,rfl⟩;go_wp2_with fail;refine(S.out _).mono ?_;rintro e w5⟨rfl,rfl⟩;have r:=G.out.2 T;have u:=G.out.2 U;generalize af:floatOfInt .f64 T=y at*;generalize ag:floatOfInt .f64 U=z at*;obtain⟨L,ai,I,d⟩:=vV p y z r u;have d:=VH d;clear r u;go_wp2_with fail;refine(d.out _).mono ?_;rintro e M⟨⟨K,A,rfl⟩,n,rfl⟩;have F:=VH (x.out.drewN n);generalize w4.drewN n=M at*
   have ah:K<18446744073709551616:=by
    rcases A with e|e;. rw[e];exact I
    ·exact e.2.lt
   clear A I;obtain⟨nn,aj,ak,Y⟩:=EO K ah;have Y:=VH Y;have HN:=VH (VJ aj ak);clear aj ak;go_wp2_with fail;refine(Y.out _).mono ?_;rintro e w7⟨rfl,rfl⟩;go_wp2_with fail;refine(Tryz.strconv_Itoa nn HN.out.1 HN.out.2 _ (i.out.iA.aC F.out fun _ _=>id)).mono ?_;rintro e w7⟨rfl,c⟩;have X:=VH (F.out.same (ur c));clear c;go_wp2_with fail;go_ret2;exact⟨X.out,_,_,rfl⟩
  ·have r:=N.out.1;have u:=N.out.2;generalize af:Z=y at*;generalize ag:fb=z at*;obtain⟨L,ai,I,d⟩:=vV p y z r u;have d:=VH d;clear r u;go_wp2_with fail;refine(d.out _).mono ?_;rintro e M⟨⟨K,A,rfl⟩,n,rfl⟩;have F:=VH (x.out.drewN n);generalize w4.drewN n=M at*
   have ah:K<18446744073709551616:=by
    rcases A with e|e;. rw[e];exact I
    ·exact e.2.lt
   clear A I;go_wp2_with fail;refine(He G.out.1 (i.out.still F.out) ah al.out).mono ?_;rintro e w7⟨c,t,hs,rfl⟩;have X:=VH (F.out.same c);clear c;go_wp2_with fail;go_ret2;exact⟨X.out,_,_,rfl⟩
theorem Jg(n:Int):floatOfInt .f64 n<18446744073709551616:=by have h:Fl.NN (Ieee.double.write (.number (decide (n<0)) n.natAbs 0)):=Fl.oe _ _ _;obtain⟨s,a,e,c⟩:=h;have b:floatOfInt .f64 n=Fl.ae s a:=e;rw[b];exact Fl.j' (by omega)
theorem Q4(H:om):sW:=QV H Jg
theorem S_(H:om)(d:Nat):dD d:=S7 (fun d h=>QU (Q4 H) (h d (VN d))) d
end Go.Proofs.YtmddhediccmhbaaGreatDoor
