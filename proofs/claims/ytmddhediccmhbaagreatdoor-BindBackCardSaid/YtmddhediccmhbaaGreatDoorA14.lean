/- package calc: floats. -/
import Derived.Lib.BitFns
import Derived.LaidEql
import Derived.Stop.Asserts
import Derived.Stop.LaidErr
import Derived.Test.YtmddhediccmhbaaGreatDoorA01
import Derived.Test.YtmddhediccmhbaaGreatDoorA08
set_option linter.all false
set_option maxHeartbeats 400000000
set_option maxRecDepth 100000
namespace Go.Proofs.YtmddhediccmhbaaGreatDoor
open Go.RowKit
open Go.Proofs.Tryz
open And renaming intro→VJ
open BitVec renaming ofInt→WX
open FloatKind renaming f64→V5
open Ieee renaming double→Xc
open Int renaming toNat_natCast→WO
open IntKind renaming i64→VL
open IntKind renaming u64→Wf
open IntWalk renaming i64_in→VR
open IntWalk renaming u64_in→Wi
open Lib renaming hid→VH
open Nat renaming and_two_pow_sub_one_eq_mod→WL
open Nat renaming le_of_lt→Xg
open Nat renaming le_refl→VN
open Nat renaming lt_or_ge→Wb
open Nat renaming mul_assoc→V7
open Nat renaming mul_comm→Xa
open Nat renaming mul_le_mul_left→Yt
open Nat renaming mul_le_mul_right→V3
open Nat renaming mul_right_comm→Xh
open Nat renaming pow_add→Wq
open Nat renaming pow_le_pow_right→Wu
open Nat renaming two_pow_add_eq_or_of_lt→XF
open Nat renaming two_pow_pos→Wc
open Go.Proofs.Tryz renaming prog→VI
open Value renaming int→Xl
variable {w w':World}{k n m:Nat}{r:Int}{s:ByteArray}{b:Bool}{l:List Nat}
theorem BK(x:Nat)(a:x<18446744073709551616):Calls VI 86 #[.int .u64 x] w fun e w'=>e=.returned (.int .i64 (Lib.bitLen x:Nat))/\w=w':=by have h:=Tryz.bits_Len64 (x:Int) w (by omega) (by omega);rw[WO]at h;exact h.mono fun _ _ k=>⟨k.1,k.2.symm⟩
theorem yo(a:k≠0)(h:k<18446744073709551616):1<=Lib.bitLen k/\Lib.bitLen k<=64:=by refine⟨?_,Lib.bitLen_le k 64 (by decide) h⟩;rw[Lib.bitLen_half k a h];omega
theorem C_(d:Nat)(a6:d≠0)(T:d<18446744073709551616)(p:Int)(hp:-345<=p/\p<=310):∃(f:Nat)(b:Bool),f<18446744073709551616/\∀w B,bC w B->Calls VI 301 #[.int .u64 d,.int .i64 p,.int .u64 0] w fun e w'=>e=.returned (.tuple #[.float .f64 f,lN b])/\aa ab w w':=by
 obtain⟨bx,bA⟩:=yo a6 T;have E:=fun w=>BK (w:=w) d T;generalize Lib.bitLen d=n at*;obtain⟨h,a'⟩:∃h,p*108853/32768=h:=⟨_,rfl⟩;have m:=fun w=>Cc (w:=w) p (by omega);rw[a']at m;have b1:-2000<=h/\h<=2000:=by omega
 have x1:VL.wrap (53-(n:Int))=53-(n:Int):=VR _ (by omega);have x2:VL.wrap (53-(n:Int)-h)=53-(n:Int)-h:=VR _ (by omega);have x3:VL.wrap (64-(n:Int))=64-(n:Int):=VR _ (by omega);obtain⟨a,b2⟩:∃a,min (1074:Int) (53-(n:Int)-h)=a:=⟨_,rfl⟩;have b0:-3000<=a/\a<=1074:=by omega
 obtain⟨l,U⟩:∃l,a-(64-(n:Int))=l:=⟨_,rfl⟩;obtain⟨s,L⟩:∃s,-(l+h+3)=s:=⟨_,rfl⟩;obtain⟨bd,bl⟩:=DU (k:=(p+348).toNat) (by omega);have o:=fun w g B t v0 v1 v2 hg c hB=>Dj (w:=w) (g:=g) (B:=B) (t:=t) (v0:=v0) (v1:=v1) (v2:=v2) hg c l p h (by omega) (by omega) (by omega) hB;rw[L]at o;generalize(eV (p+348).toNat).1=hi at*;generalize(eV (p+348).toNat).2=lo at*;have x4:VL.wrap (a-(64-(n:Int)))=l:=ak (by omega);by_cases bw:64<=s
 ·refine⟨0,false,by decide,fun w B c=>?_⟩;have H:=VH (fun W=>E W);have G:=VH (fun W=>m W);have k:=VH (VJ (c.aC ((aa.refl ab w).alloc (.cells #[Xl .u64 0,.int .u64 0,.int .i64 0] 414)) (fun _ _ e=>e)) c.le);have I:=VH (o (w.alloc (.cells #[Xl .u64 0,.int .u64 0,.int .i64 0] 414)) w.heap.size B _ _ _ _ (ad.new w _ _) k.out.1 k.out.2);have M:=oW 0;have bn:∀w,(callFunc 299 #[.int .u64 0]).run VI w=.ok (.value (.float .f64 0)) w:=M;have bs:bits .or .u64 0 0=0:=by decide
  clear E m o c M;go_enter func301,ntmps301;go_wp2_with fail;refine(H.out _).mono ?_;rintro _ _⟨rfl,rfl⟩;go_wp2_with fail;refine(G.out _).mono ?_;rintro _ _⟨rfl,rfl⟩;go_wp2_with fail;refine I.out.mono ?_;rintro _ w2⟨rfl,F,y⟩;have K:=VH (((aa.refl ab w).alloc (.cells #[Xl .u64 0,.int .u64 0,.int .i64 0] 414)).trans y (fun q hq e=>by rw[show q=w.heap.size from e]at hq;omega));obtain⟨c0,c1,c2⟩:=F;clear y x1 x2 x3 x4 U L;go_wp2_with fail;go_ret2;exact⟨rfl,K.out⟩
 ·obtain⟨D,hD,Q⟩:=cW ((d:Int)*2^(64-n));obtain⟨u,hu,ai⟩:=EG D hi lo s hD bd bl;obtain⟨z,b3,Z⟩:=EE 9007199254740992 (by decide);by_cases S:z<=u
  case' pos=>
   obtain⟨i,bb⟩:∃i:Nat,u/2=i:=⟨_,rfl⟩;have av:(u:Int)/2=(i:Int):=by omega
   have J:=fun j x=>C0 j x (-(a-1)) (by omega);have C:=fun W=>yx (w:=W) true;have a7:decide ((z:Int)<=(u:Int))=true:=decide_eq_true (by omega);have a8:decide (z<=u)=true:=decide_eq_true S;have y3:VL.wrap (a-1)=a-1:=VR _ (by omega);have y4:VL.wrap (-(a-1))=-(a-1):=VR _ (by omega)
  case' neg=>
   obtain⟨i,bb⟩:∃i:Nat,u/1=i:=⟨_,rfl⟩;have av:(u:Int)/1=(i:Int):=by omega
   have J:=fun j x=>C0 j x (-a) (by omega);have C:=fun W=>yx (w:=W) false;have a7:decide ((z:Int)<=(u:Int))=false:=decide_eq_false (by omega);have a8:decide (z<=u)=false:=decide_eq_false S;have y3:VL.wrap (a-0)=a-0:=VR _ (by omega);have y4:VL.wrap (-(a-0))=-(a-0):=VR _ (by omega)
  all_goals
   obtain⟨N,aA,_,O⟩:=iI (a:=u) (b:=1) hu (by decide);have O:bits .and .u64 (u:Int) 1=(N:Int):=by rw[<-O];rfl
   have bc:i<18446744073709551616:=by omega
   obtain⟨u2,bm,bt⟩:=iP (a:=i) (b:=N) bc aA;obtain⟨r,hr,Y⟩:=DK u2 bm;obtain⟨j,x,P⟩:=iP (a:=0) (b:=r) (by decide) (by omega);have P:bits .or .u64 0 (r:Int)=(j:Int):=by rw[<-P];rfl
   obtain⟨f,b,hf,X⟩:=J j x;refine⟨f,b,hf,fun w B c=>?_⟩;have H:=VH (fun W=>E W);have G:=VH (fun W=>m W);have k:=VH (VJ (c.aC ((aa.refl ab w).alloc (.cells #[Xl .u64 0,.int .u64 0,.int .i64 0] 414)) (fun _ _ e=>e)) c.le);have I:=VH (o (w.alloc (.cells #[Xl .u64 0,.int .u64 0,.int .i64 0] 414)) w.heap.size B _ _ _ _ (ad.new w _ _) k.out.1 k.out.2);have HU:=VH ai;have ar:=VH Z;have HR:=VH Y;have al:=VH X;have Q:Wf.wrap ((d:Int)*2^((64:Int)-(n:Int)).toNat)=(D:Int):=by rw[show((64:Int)-(n:Int)).toNat=64-n by omega];exact Q
   simp only[if_true,Bool.false_eq_true,if_false]at C;have HB:=VH C;clear C;have y1:(0:Int)<=64-(n:Int):=by omega
   have y2:64-(n:Int)<=64:=by omega
   clear E m o c ai Z Y X J;go_enter func301,ntmps301;go_wp2_with fail;refine(H.out _).mono ?_;rintro _ _⟨rfl,rfl⟩;go_wp2_with fail;refine(G.out _).mono ?_;rintro _ _⟨rfl,rfl⟩;go_wp2_with fail;refine I.out.mono ?_;rintro _ w2⟨rfl,F,y⟩;have K:=VH (((aa.refl ab w).alloc (.cells #[Xl .u64 0,.int .u64 0,.int .i64 0] 414)).trans y (fun q hq e=>by rw[show q=w.heap.size from e]at hq;omega));have HS:=VH F;obtain⟨c0,c1,c2⟩:=F;clear y x1 x2 x3 x4 U L;go_wp2_with fail;refine(HU.out _ _ HS.out).mono ?_;rintro _ _⟨rfl,k1,rfl⟩;go_wp2_with fail;refine(ar.out _).mono ?_;rintro _ _⟨rfl,rfl⟩;go_wp2_with fail;refine(HB.out _).mono ?_;rintro _ _⟨rfl,rfl⟩;go_wp2_with fail;refine(HR.out _).mono ?_;rintro _ _⟨rfl,rfl⟩;go_wp2_with fail;refine(al.out _).mono ?_;rintro _ _⟨rfl,rfl⟩;go_wp2_with fail;go_ret2;exact⟨rfl,K.out.drewN k1⟩
theorem QY(h:Pl l k n m):∀i,i<=n->(cH (l.take i)).bj<10^(cH (l.take i)).nm/\(cH (l.take i)).nm<=19:=by
 intro i
 induction i with
 |zero=>intro _;exact⟨by show(0:Nat)<10^0;decide,by show 0<=19;decide⟩
 |succ i j=>
  intro t;obtain⟨b,a2⟩:=j (by omega);have u:=h.ml;rw[mi (by omega),vX];have e:=h.any (i:=i) (by omega);generalize l.getD i 0=c at*;generalize cH (l.take i)=d at*;unfold eU;split;. exact⟨b,a2⟩
  ·split;. exact⟨b,a2⟩
   ·split
    ·rename_i o;refine⟨?_,by dsimp only;omega⟩;dsimp only
     have r:c-48<=9:=by
      rcases e with a|⟨_,a⟩;. have :=a.2;omega
      ·omega
     have a:d.bj*10+(c-48)<10^(d.nm+1):=by rw[Nat.pow_succ];omega
     have p:10^(d.nm+1)<=10^19:=Wu (by decide) (by omega);have q:(10:Nat)^19<18446744073709551616:=by decide
     rw[Nat.mod_eq_of_lt (by omega)];exact a
    ·exact⟨b,a2⟩
theorem NS(h:Pl l k n m):(cH (l.take n)).bj<10000000000000000000:=by
 obtain⟨a,b⟩:=QY h n (VN _);have c:10^(cH (l.take n)).nm<=10^19:=Wu (by decide) b;have d:(10:Nat)^19=10000000000000000000:=by decide
 omega
theorem zD(h:Pl l k n m):-99999<=fh l n m/\fh l n m<=99999:=by
 unfold fh;split
 ·rename_i b;have d:cC (l.drop m)<=99999:=Ij _ fun x c=>by obtain⟨i,a,rfl⟩:=List.getElem_of_mem c;rw[List.length_drop]at a;have :=(h.exp b).2.2.2 (m+i) (by omega) (by omega);rw[List.getD_eq_getElem?_getD,List.getElem?_eq_getElem (by omega)]at this;rw[List.getElem_drop];exact this
  split<;>omega
 ·omega
theorem QX(h:Pl l k n m):-200000<=iT l k n m/\iT l k n m<=200000:=by
 have a:=zD h;obtain⟨_,a2,a3,a4,_⟩:=vW h n (VN _);have c:=h.size;have b:=h.ml;unfold iT;dsimp only;split;. omega
 ·split<;>omega
theorem Rv(h:Pl l k n m):Dc.Ok (jy l k n m)/\-200000<=(jy l k n m).dp/\(jy l k n m).dp<=200000:=by obtain⟨⟨a,a2,a3,a4⟩,_⟩:=uS h n (VN _);have c:=zD h;have e:=h.size;have d:=h.ml;have b:(jy l k n m).dp=(if k<n then(cF (l.take n)).1.dp else((cF (l.take n)).1.ds.length:Int))+fh l n m:=rfl;refine⟨⟨a.cd,a.len,a.head⟩,?_,?_⟩;all_goals rw[b];split<;>omega
theorem E4(h:ad w k 387 (iL (List.replicate 800 0) 0 0 false false)):aT w k false ⟨[],0,false⟩:=⟨List.replicate 800 0,0,by decide,⟨List.length_replicate,h⟩,fun i hi=>absurd hi (by omega),rfl⟩
theorem E3:Tryz.zeroCells387=iL (List.replicate 800 0) 0 0 false false:=by kernel_rfl
theorem Ga(c:Pl (bytesOf s) k n m):∃(f:Nat)(b:Bool),f<18446744073709551616/\∀w B,bC w B->Calls VI 271 #[.string s] w fun e w'=>e=.returned (.tuple #[.float .f64 f,.int .i64 (s.size:Nat),lN b])/\aa ab w w':=by
 have a6:=fun w=>QK (w:=w) c;have hM:=NS c;have hX:=QX c;have a8:(bytesOf s).length=s.size:=jh s;have h0:0<s.size:=by rw[<-a8];have :=c.p0;have :=c.pm;have :=c.ml;omega
 have ar:eC (s[0]'h0).toNat:=by rw[<-kB];exact c.cd 0 (by have :=c.p0;have :=c.pm;omega) (by have :=c.p0;omega)
 have a7:=fun w=>Sk (w:=w) h0 ar;have j:=Rv c;have l:=fun w b h=>Rz (w:=w) (b:=b) h c;obtain⟨ai,bt,i⟩:=Jf (jy (bytesOf s) k n m);generalize(cH (bytesOf s|>.take n)).bj=M at*;generalize(cH (bytesOf s|>.take n)).tr=tr at*;generalize iT (bytesOf s) k n m=X at*;generalize jy (bytesOf s) k n m=D at*;clear ar a8;have q:=VH a6;have r:=VH a7;have d:=oW;have bw:bits .or .u64 0 0=0:=by decide
 have b7:bits .or .u64 0 9218868437227405312=9218868437227405312:=by decide
 have O:=fun W=>tB (w:=W) false;simp only[Bool.false_eq_true,if_false]at O;have p:=VH O;clear a6 a7 O;by_cases al:M=0;. subst al;refine⟨0,false,by decide,fun w B a=>?_⟩;obtain⟨z,_⟩:=a.num;have K:∀w,(callFunc 299 #[.int .u64 0]).run VI w=.ok (.value (.float .f64 0)) w:=d 0;clear d l i a hX j;go_enter func271,ntmps271;go_wp2_with fail;refine(r.out _).mono ?_;rintro _ _⟨rfl,rfl⟩;go_wp2_with fail;refine(q.out _).mono ?_;rintro _ _⟨rfl,rfl⟩;go_wp2_with fail;refine(p.out _).mono ?_;rintro _ _⟨rfl,rfl⟩;go_wp2_with fail;go_ret3;exact⟨rfl,aa.refl _ _⟩
 ·have bA:((M:Int)==0)=false:=beq_eq_false_iff_ne.2 (by omega);by_cases bm:310<X;. refine⟨9218868437227405312,true,by decide,fun w B a=>?_⟩;obtain⟨z,_⟩:=a.num;have K:∀w,(callFunc 299 #[.int .u64 9218868437227405312]).run VI w=.ok (.value (.float .f64 9218868437227405312)) w:=d 9218868437227405312;clear d l i a j;go_enter func271,ntmps271;go_wp2_with fail;refine(r.out _).mono ?_;rintro _ _⟨rfl,rfl⟩;go_wp2_with fail;refine(q.out _).mono ?_;rintro _ _⟨rfl,rfl⟩;go_wp2_with fail;refine(p.out _).mono ?_;rintro _ _⟨rfl,rfl⟩;go_wp2_with fail;go_ret3;exact⟨rfl,aa.refl _ _⟩
  ·by_cases bn:X< -345;. refine⟨0,false,by decide,fun w B a=>?_⟩;obtain⟨z,_⟩:=a.num;have K:∀w,(callFunc 299 #[.int .u64 0]).run VI w=.ok (.value (.float .f64 0)) w:=d 0;clear d l i a j;go_enter func271,ntmps271;go_wp2_with fail;refine(r.out _).mono ?_;rintro _ _⟨rfl,rfl⟩;go_wp2_with fail;refine(q.out _).mono ?_;rintro _ _⟨rfl,rfl⟩;go_wp2_with fail;refine(p.out _).mono ?_;rintro _ _⟨rfl,rfl⟩;go_wp2_with fail;go_ret3;exact⟨rfl,aa.refl _ _⟩
   ·obtain⟨f0,bx,bs,x⟩:=IB M (by omega) X (by omega);obtain⟨N,Z,aA,u⟩:=C_ M al (by omega) X (by omega);obtain⟨f2,b2,b6,y⟩:=C_ (M+1) (by omega) (by omega) X (by omega);have b3:¬310<X:=bm;have b4:¬X< -345:=bn;have b':bits .or .u64 0 0=0:=bw
    cases tr with
    |false=>cases bx with|true=>refine⟨f0,false,bs.lt,fun w B a=>?_⟩;obtain⟨z,_⟩:=a.num;have J:=VH (x w B a);clear d l i a j x u y;go_enter func271,ntmps271;go_wp2_with fail;refine(r.out _).mono ?_;rintro _ _⟨rfl,rfl⟩;go_wp2_with fail;refine(q.out _).mono ?_;rintro _ _⟨rfl,rfl⟩;go_wp2_with fail;refine(p.out _).mono ?_;rintro _ _⟨rfl,rfl⟩;go_wp2_with fail;refine J.out.mono ?_;rintro _ _⟨rfl,rfl⟩;go_wp2_with fail;go_ret3;exact⟨rfl,aa.refl _ _⟩|false=>refine⟨N,Z,aA,fun w B a=>?_⟩;obtain⟨z,_⟩:=a.num;have J:=VH (x w B a);have E:=VH (u w B a);clear d l i a j x u y;go_enter func271,ntmps271;go_wp2_with fail;refine(r.out _).mono ?_;rintro _ _⟨rfl,rfl⟩;go_wp2_with fail;refine(q.out _).mono ?_;rintro _ _⟨rfl,rfl⟩;go_wp2_with fail;refine(p.out _).mono ?_;rintro _ _⟨rfl,rfl⟩;go_wp2_with fail;refine J.out.mono ?_;rintro _ _⟨rfl,rfl⟩;go_wp2_with fail;refine E.out.mono ?_;rintro _ w2⟨rfl,o⟩;have t:=VH o;clear o;go_wp2_with fail;go_ret3;exact⟨rfl,t.out⟩
    |true=>
     have b0:Wf.wrap ((M:Int)+1)=((M+1:Nat):Int):=by rw[Wi _ (by omega)];omega
     cases b5:(V5.format.order N f2==some .eq)with
     |true=>refine⟨N,Z,aA,fun w B a=>?_⟩;obtain⟨z,_⟩:=a.num;have E:=VH (u w B a);have L:=VH (fun W(h:aa ab w W)=>y W B (a.still h));clear d l i a j x u y;go_enter func271,ntmps271;go_wp2_with fail;refine(r.out _).mono ?_;rintro _ _⟨rfl,rfl⟩;go_wp2_with fail;refine(q.out _).mono ?_;rintro _ _⟨rfl,rfl⟩;go_wp2_with fail;refine(p.out _).mono ?_;rintro _ _⟨rfl,rfl⟩;go_wp2_with fail;refine E.out.mono ?_;rintro _ w2⟨rfl,o⟩;have t:=VH o;clear o;go_wp2_with fail;refine(L.out _ t.out).mono ?_;rintro _ C⟨rfl,H⟩;have F:=VH (t.out.same H);clear H;go_wp2_with fail;go_ret3;exact⟨rfl,F.out⟩
     |false=>
      refine⟨ai,(Dc.fb D).2.2,bt,fun w B a=>?_⟩;obtain⟨z,_⟩:=a.num;have E:=VH (u w B a);have L:=VH (fun W(h:aa ab w W)=>y W B (a.still h));have U:=VH (fun W(h:aa ab w W)=>a.still h);have bl:=VH l;have bd:=VH i;have S:=VH j;have K:=d ai;generalize(Dc.fb D).2.2=ov at*;clear d l i a j x u y;go_enter func271,ntmps271;go_wp2_with fail;refine(r.out _).mono ?_;rintro _ _⟨rfl,rfl⟩;go_wp2_with fail;refine(q.out _).mono ?_;rintro _ _⟨rfl,rfl⟩;go_wp2_with fail;refine(p.out _).mono ?_;rintro _ _⟨rfl,rfl⟩;go_wp2_with fail;refine E.out.mono ?_;rintro _ w2⟨rfl,o⟩;have t:=VH o;clear o;go_wp2_with fail;refine(L.out _ t.out).mono ?_;rintro _ C⟨rfl,H⟩;have F:=VH (t.out.same H);clear H;go_upto_region 29 with fail;generalize bb:World.alloc _ _=wA;have Q:=VH (show aT wA C.heap.size false ⟨[],0,false⟩/\aa ab w wA from by rw[<-bb];exact⟨E4 (by rw[<-E3];exact ad.new C _ _),F.out.alloc _⟩);have bc:=VH (show B<=C.heap.size from(U.out _ F.out).le);have T:=VH (show w.heap.size<=C.heap.size from F.out.size);generalize hG:C.heap.size=G at*;clear bb;have pz:(0:Int)<=(s.size:Int):=by omega
      have ca:s.extract 0 s.size=s:=by simp
      go_wp2_with fail;refine(bl.out _ _ Q.out.1).mono ?_;rintro _ P⟨rfl,av,a'⟩;have I:=VH (show aT P G false D/\aa ab w P from⟨av,Q.out.2.trans a' (fun m hq e=>by rw[show m=G from e]at hq;have :=T.out;omega)⟩);clear av a';go_wp2_with fail;refine(bd.out P G B I.out.1 S.out.1 (U.out _ I.out.2) bc.out (by have :=S.out.2;omega)).mono ?_;rintro _ w5⟨rfl,a1⟩;have Y:=VH (show aa ab w w5 from I.out.2.trans a1.1 (fun m hq e=>by rw[show m=G from e]at hq;have :=T.out;omega));clear a1;cases ov with|true=>go_wp2_with fail;go_ret3;exact⟨rfl,Y.out⟩|false=>go_wp2_with fail;go_ret3;exact⟨rfl,Y.out⟩
theorem J9(p:Pl (bytesOf s) k n m):∃(f:Nat)(b:Bool),f<18446744073709551616/\∀w B,bC w B->Calls VI 242 #[.string s,.int .i64 64] w fun e w'=>e=.returned (.tuple #[.float .f64 f,lN b])/\aa ab w w':=by
 obtain⟨f,b,o,h⟩:=Ga p;refine⟨f,b,o,fun w B d=>?_⟩;have i:Calls VI 258 #[.string s,.int .i64 64] w fun e w'=>e=.returned (.tuple #[.float .f64 f,.int .i64 (s.size:Nat),lN b])/\aa ab w w':=by have j:=VH (h w B d);clear h d;go_enter func258,ntmps258;go_wp2_with fail;refine j.out.mono ?_;rintro _ q⟨rfl,a⟩;have c:=VH a;clear a;go_wp2_with fail;go_ret3;exact⟨rfl,c.out⟩
 have l:=VH i;clear i h d;go_enter func242,ntmps242;go_wp2_with fail;refine l.out.mono ?_;rintro _ q⟨rfl,a⟩;have c:=VH a;clear a;go_wp2_with fail;go_ret2;exact⟨rfl,c.out⟩
theorem ny(x:Nat)(w:World):(callFunc 245 #[.float .f64 x]).run VI w=.ok (.value (.int .u64 x)) w:=by rw[run_callFunc_extern func245 (by kernel_rfl) (by kernel_rfl) (by kernel_rfl) (e:=Extern.MathFloatBits.float64bits) (by kernel_rfl)];rfl
theorem g_(n:Nat)(w:World):(callFunc 240 #[.int .u64 n]).run VI w=.ok (.value (.float .f64 n)) w:=by rw[run_callFunc_extern func240 (by kernel_rfl) (by kernel_rfl) (by kernel_rfl) (e:=Extern.MathFloatBits.float64frombits) (by kernel_rfl)];rfl
theorem Hc(f g:Nat)(i:f<18446744073709551616)(j:g<18446744073709551616):∃n:Nat,n<18446744073709551616/\∀w,Calls VI 221 #[.float .f64 f,.float .f64 g] w fun e w'=>e=.returned (.float .f64 n)/\w=w':=by
 obtain⟨k,c,_,a⟩:=tu (a:=f) (b:=9223372036854775808) i (by decide);obtain⟨l,d,_,b⟩:=iI (a:=g) (b:=9223372036854775808) j (by decide);obtain⟨n,h,e⟩:=iP c d;have a:bits .andNot .u64 (f:Int) 9223372036854775808=(k:Int):=by rw[<-a];rfl
 have b:bits .and .u64 (g:Int) 9223372036854775808=(l:Int):=by rw[<-b];rfl
 refine⟨n,h,fun w=>?_⟩;have m:=ny f;have o:=ny g;have p:=g_ n;go_enter func221,ntmps221;go_wp2_with fail;go_ret;exact⟨rfl,rfl⟩
theorem rK:Calls VI 217 #[] w fun e w'=>e=.returned (.float .f64 9221120237041090561)/\w=w':=by have a:∀w,(callFunc 240 #[.int .u64 9221120237041090561]).run VI w=.ok (.value (.float .f64 9221120237041090561)) w:=g_ 9221120237041090561;go_enter func217,ntmps217;go_wp2_with fail;go_ret;exact⟨rfl,rfl⟩
theorem uw(s:Int):Calls VI 216 #[.int .i64 s] w fun e w'=>e=.returned (.float .f64 (if 0<=s then 9218868437227405312 else 18442240474082181120))/\w=w':=by have a:∀w,(callFunc 240 #[.int .u64 9218868437227405312]).run VI w=.ok (.value (.float .f64 9218868437227405312)) w:=g_ 9218868437227405312;have b:∀w,(callFunc 240 #[.int .u64 18442240474082181120]).run VI w=.ok (.value (.float .f64 18442240474082181120)) w:=g_ 18442240474082181120;go_enter func216,ntmps216;by_cases h:0<=s;all_goals go_wp2_with fail;go_ret;exact⟨rfl,rfl⟩
theorem AR(x:Nat):Calls VI 223 #[.float .f64 x] w fun e w'=>e=.returned (.bool (Xc.order x x !=some .eq))/\w=w':=by go_enter func223,ntmps223;go_wp2_with fail;go_ret;exact⟨rfl,rfl⟩
theorem qp{s:Bool}{a:Nat}(b:a<9223372036854775808):Calls VI 246 #[.float .f64 (Fl.ae s a)] w fun e w'=>e=.returned (.float .f64 a)/\w=w':=by
 have i:Fl.ae s a<18446744073709551616:=Fl.j' b;have h:bits .andNot .u64 ((Fl.ae s a:Nat):Int) 9223372036854775808=(a:Int):=by rw[u64_andNot _ _ (by omega) (by omega) (by omega) (by omega)];have :=Fl.FO (s:=s) b;exact congrArg Nat.cast this
 have c:=ny (Fl.ae s a);have d:=g_ a;generalize Fl.ae s a=x at*;go_enter func246,ntmps246;go_wp2_with fail;go_ret;exact⟨rfl,rfl⟩
theorem ni{s:Bool}{a:Nat}(c:a<9223372036854775808):Calls VI 224 #[.float .f64 (Fl.ae s a),.int .i64 0] w fun e w'=>e=.returned (.bool (a==9218868437227405312))/\w=w':=by
 have j:=VH (qp (w:=w) (s:=s) c)
 have d:=VH (show(Xc.order a 9218868437227405311==some .gt)=(a==9218868437227405312)from by
  rcases Wb 9218868437227405312 a with h|h;. rw[Fl.Pd h c];exact(beq_eq_false_iff_ne.2 (by omega)).symm
  ·rw[Fl.rR h (by decide)];rcases Wb a 9218868437227405312 with i|i
   ·rw[show(a==9218868437227405312)=false from beq_eq_false_iff_ne.2 (by omega)];rcases Wb a 9218868437227405311 with b|b;. rw[Fl.l6 b];rfl
    ·rw[show a=9218868437227405311 by omega];simp
   ·rw[show a=9218868437227405312 by omega,Fl.lZ (by decide)];rfl);generalize Fl.ae s a=x at*;go_enter func224,ntmps224;go_wp2_with fail;refine j.out.mono ?_;rintro _ _⟨rfl,rfl⟩;go_wp2_with fail;go_ret;exact⟨by rw[<-d.out];rfl,rfl⟩
theorem CE{s:Bool}(c:Fl.Fin k):Calls VI 288 #[.float .f64 (Fl.ae s k)] w fun e w'=>e=.returned (.tuple #[.float .f64 (Fl.ae s (Fl.cm k)),.int .i64 (Fl.dU k)])/\w=w':=by
 have n:=VH (qp (w:=w) (s:=s) (a:=k) (by unfold Fl.Fin at c;omega))
 have j:=VH (show k<2^52->∀W T,(binOp .mul T (.float .f64 (Fl.ae s k)) (.float .f64 4841369599423283200)).run VI W=.ok (.float .f64 (Fl.ae s (Fl.cm k))) W from fun h=>by
  intro W T;refine run_float_arith (P:=VI) W .mul T .f64 _ _ _ (gW ?_);have r:(4841369599423283200:Nat)=Fl.ae false 4841369599423283200:=rfl;rw[r,show Fl.cm k=Fl.aV k 52 from if_pos h]
  have :=Fl.uY (sx:=s) (sy:=false) (x:=k) (y:=4841369599423283200) (z:=Fl.aV k 52) c (by show _<_;decide) (by
   refine Fl.mZ (w:=2046*2^52) (by show _<_;decide) ?_;rw[Fl.repr (by omega)];have :Fl.V (2046*2^52)=2^52*2^2045:=by decide+kernel
   rw[this];refine Nat.le_trans (V3 _ (Xg h)) ?_;obtain⟨N,a⟩:∃N,2045=N:=⟨_,rfl⟩;rw[a];exact Yt _ (Wu (by decide) (by rw[<-a];decide))) (by
   rw[Fl.repr (by omega),Fl.tf (by omega)];obtain⟨N,a⟩:∃N:Nat,N=1074:=⟨_,rfl⟩;rw[<-a];have :Fl.V 4841369599423283200=2^52*2^N:=by rw[a];decide+kernel
   rw[this,V7]);rw[this];cases s<;>rfl)
 have d:=VH (show∀b:Bool,decide (k<2^52)=b->(V5.format.order k 4503599627370496==some .lt)=b from fun b t=>by
  rw[show V5.format.order k 4503599627370496=_ from Fl.rR (a:=k) (b:=4503599627370496) (by unfold Fl.Fin at c;omega) (by decide),<-t];rcases Wb k 4503599627370496 with l|l;. rw[Fl.l6 l,decide_eq_true (by omega)];rfl
  ·rw[decide_eq_false (by omega)];rcases Wb 4503599627370496 k with m|m;. rw[Fl.lZ m];rfl
   ·rw[show k=4503599627370496 by omega];simp);by_cases h:k<2^52;. have z:=j.out h;have u:=d.out true (decide_eq_true h);have i:=VH (show Fl.dU k=-52 from if_pos h);generalize Fl.ae s (Fl.cm k)=y at*;generalize Fl.ae s k=x at*;clear j d h c;go_enter func288,ntmps288;go_wp2_with fail;refine n.out.mono ?_;rintro _ _⟨rfl,rfl⟩;go_wp2_with fail;go_ret2;exact⟨by rw[i.out];rfl,rfl⟩
 ·have u:=d.out false (decide_eq_false h);have i:=VH (show Fl.dU k=0 from if_neg h);have p:=VH (show Fl.cm k=k from if_neg h);generalize Fl.cm k=a2 at*;generalize o:Fl.ae s k=x at*;have q:=VH o;clear j d h c o;go_enter func288,ntmps288;go_wp2_with fail;refine n.out.mono ?_;rintro _ _⟨rfl,rfl⟩;go_wp2_with fail;go_ret2;exact⟨by rw[i.out,p.out,q.out];rfl,rfl⟩
theorem Ab{s:Bool}(b:k<9223372036854775808)(h:k=0∨k=9218868437227405312):Calls VI 267 #[.float .f64 (Fl.ae s k)] w fun e w'=>e=.returned (.tuple #[.float .f64 (Fl.ae s k),.int .i64 0])/\w=w':=by
 have a:=VH (show V5.format.order (Fl.ae s k) 0=some (if k=0 then .eq else if s then .lt else .gt)from Fl.nG (by omega));have d:=VH (ni (w:=w) (s:=s) b);rcases h with h|h
 ·have i:(V5.format.order (Fl.ae s k) 0==some .eq)=true:=by rw[a.out,if_pos h];rfl
  generalize Fl.ae s k=x at*;clear a h b;go_enter func267,ntmps267;go_wp2_with fail;go_ret2;exact⟨rfl,rfl⟩
 ·have i:(V5.format.order (Fl.ae s k) 0==some .eq)=false:=by rw[a.out,if_neg (by omega)];cases s<;>rfl
  have c:(k==9218868437227405312)=true:=by rw[h];rfl
  rw[c]at d;generalize Fl.ae s k=x at*;clear a h b c;go_enter func267,ntmps267;go_wp2_with fail;refine d.out.mono ?_;rintro _ _⟨rfl,rfl⟩;go_wp2_with fail;go_ret2;exact⟨rfl,rfl⟩
theorem Fl.CO{s:Bool}(b:Fl.Fin k)(a:k≠0):(V5.format.order (Fl.ae s k) 0==some .eq)=false:=by rw[show V5.format.order (Fl.ae s k) 0=_ from Fl.nG (s:=s) (w:=k) (by unfold Fl.Fin at b;omega),if_neg a];cases s<;>rfl
theorem kQ{x:Nat}(h:Fl.NN x):Calls VI 223 #[.float .f64 x] w fun e w'=>e=.returned (.bool false)/\w=w':=by refine(AR x).mono ?_;rintro _ _⟨rfl,rfl⟩;exact⟨by rw[Fl.Pf h];rfl,rfl⟩
theorem IC{s:Bool}(b:Fl.Fin k):bits .and .u64 (((Fl.ae s k/4503599627370496:Nat)):Int) 2047=((k/4503599627370496:Nat):Int):=by
 unfold Fl.Fin at b;have a:Fl.ae s k/4503599627370496<18446744073709551616:=by have :=Fl.j' (s:=s) (w:=k) (by omega);omega
 have :=u64_and_nat (Fl.ae s k/4503599627370496) 2047 a (by decide);rw[show((2047:Nat):Int)=2047 from rfl]at this;rw[this];congr 1;rw[show(2047:Nat)=2^11-1 by decide,WL];cases s;. show k/4503599627370496%2048=_;omega
 ·show(2^63+k)/4503599627370496%2048=_;omega
theorem yh(x i:Nat):x&&&2^i=if x.testBit i then 2^i else 0:=by
 refine Nat.eq_of_testBit_eq fun j=>?_;rw[Nat.testBit_and];by_cases h:j=i;. subst h;cases h2:x.testBit j<;>simp
 ·rw[Nat.testBit_two_pow_of_ne (by omega)];split;. rw[Nat.testBit_two_pow_of_ne (by omega)];simp
  ·simp
theorem Cl{s:Bool}(b:Fl.Fin k):bits .andNot .u64 ((Fl.ae s k:Nat):Int) 9218868437227405312=((Fl.ae s (k%4503599627370496):Nat):Int):=by
 unfold Fl.Fin at b;have c:Fl.ae s k<18446744073709551616:=Fl.j' (s:=s) (w:=k) (by omega);rw[u64_andNot _ _ (by omega) (by omega) (by omega) (by omega)];refine congrArg Nat.cast (show Fl.ae s k&&&9227875636482146303=_ from ?_);rw[show(9227875636482146303:Nat)=2^63|||(2^52-1)by decide,Nat.and_or_distrib_left,WL];cases s;. rw[show Fl.ae false k&&&2^63=0 from by rw[yh,Nat.testBit_lt_two_pow (show Fl.ae false k<2^63 from by show k<_;omega)];simp];show 0|||k%2^52=k%4503599627370496;rw[Nat.zero_or]
 ·have e:Fl.ae true k&&&2^63=2^63:=by
   rw[yh];have :(Fl.ae true k).testBit 63=true:=by show(2^63+k).testBit 63=true;rw[Nat.testBit_two_pow_add_eq,Nat.testBit_lt_two_pow (by omega)];rfl
   rw[this];rfl
  rw[e];show 2^63|||(2^63+k)%2^52=2^63+k%4503599627370496;have a:=XF (show k%4503599627370496<2^63 by omega) 1;rw[Nat.mul_one]at a;rw[a];congr 1;omega
theorem Dt{s:Bool}(h:n<4503599627370496)(e:k<2048):bits .or .u64 ((Fl.ae s n:Nat):Int) ((k*4503599627370496:Nat):Int)=((Fl.ae s (k*4503599627370496+n):Nat):Int):=by
 have d:Fl.ae s n<18446744073709551616:=Fl.j' (s:=s) (w:=n) (by omega);rw[bits_or_u64_nat _ _ d (by omega)];congr 1;have a:k*2^52+n=k*2^52|||n:=by have :=XF (show n<2^52 by omega) k;rwa[Xa]at this
 cases s;. show n|||k*4503599627370496=k*4503599627370496+n;rw[show(4503599627370496:Nat)=2^52 by decide,a,Nat.or_comm]
 ·have b:=XF (show n<2^63 by omega) 1;have c:=XF (show k*2^52+n<2^63 by omega) 1;rw[Nat.mul_one]at b c;show(2^63+n)|||k*4503599627370496=2^63+(k*4503599627370496+n);rw[show(4503599627370496:Nat)=2^52 by decide,c,b,a,Nat.or_assoc,Nat.or_comm n]
theorem rh{s:Bool}(a:Fl.Fin k)(c:k≠0):Calls VI 267 #[.float .f64 (Fl.ae s k)] w fun e w'=>e=.returned (.tuple #[.float .f64 (Fl.ae s (Fl.bg k)),.int .i64 (Fl.aY k)])/\w=w':=by
 have m:k<9223372036854775808:=by unfold Fl.Fin at a;omega
 have S:=Fl.CO (s:=s) a c;have o:=VH (ni (w:=w) (s:=s) m);rw[show(k==9218868437227405312)=false from beq_eq_false_iff_ne.2 (by unfold Fl.Fin at a;omega)]at o;have C:=VH (kQ (w:=w) (x:=Fl.ae s k) ⟨s,k,rfl,Xg a⟩);have u:=VH (CE (w:=w) (s:=s) a)
 have b:Fl.Fin (Fl.cm k):=by
  unfold Fl.cm;split
  ·rename_i h;refine Fl.mZ (w:=2046*2^52) (by show _<_;decide) ?_;rw[Fl.repr (by omega)];have :Fl.V (2046*2^52)=2^52*2^2045:=by decide+kernel
   rw[this];refine Nat.le_trans (V3 _ (Xg h)) ?_;obtain⟨N,l⟩:∃N,2045=N:=⟨_,rfl⟩;rw[l];exact Yt _ (Wu (by decide) (by rw[<-l];decide))
  ·exact a
 have E:=Fl.rL c;have r:Fl.dU k=-52∨Fl.dU k=0:=by unfold Fl.dU;split<;>simp
 have p:=VH (show Fl.aY k=Fl.dU k+((Fl.cm k/4503599627370496:Nat):Int)-1022 from rfl);have d:=VH (show Fl.bg k=1022*4503599627370496+Fl.cm k%4503599627370496 from rfl);generalize Fl.aY k=Q at*;generalize Fl.bg k=j at*;generalize Fl.dU k=ne at*;generalize Fl.cm k=n at*;have F:n/4503599627370496<2047:=by unfold Fl.Fin at b;omega
 have J:=IC (s:=s) b;have K:=Cl (s:=s) b;have i:=Dt (s:=s) (n:=n%4503599627370496) (k:=1022) (by omega) (by decide);rw[<-d.out]at i;rw[show((1022*4503599627370496:Nat):Int)=4602678819172646912 from rfl]at i;have T:((Fl.ae s n:Nat):Int)/4503599627370496=((Fl.ae s n/4503599627370496:Nat):Int):=by omega
 have t:=Fl.j' (s:=s) (w:=n) (by unfold Fl.Fin at b;omega);have H:=ny (Fl.ae s n);have I:=g_ (Fl.ae s j);generalize Fl.ae s k=x at*;generalize Fl.ae s n=y at*;generalize Fl.ae s j=z at*;generalize Fl.ae s (n%4503599627370496)=U at*;generalize G:n/4503599627370496=q at*;generalize y/4503599627370496=X at*;have L:VL.wrap ((q:Int)-1023)=(q:Int)-1023:=VR _ (by omega);have M:VL.wrap ((q:Int)-1023+1)=(q:Int)-1023+1:=VR _ (by omega);have O:VL.wrap (ne+((q:Int)-1023+1))=ne+((q:Int)-1023+1):=VR _ (by omega);have P:VL.wrap (q:Int)=(q:Int):=VR _ (by omega);clear a m c b E r d G t F;go_enter func267,ntmps267;go_wp2_with fail;refine o.out.mono ?_;rintro _ _⟨rfl,rfl⟩;go_wp2_with fail;refine C.out.mono ?_;rintro _ _⟨rfl,rfl⟩;go_wp2_with fail;refine u.out.mono ?_;rintro _ _⟨rfl,rfl⟩;go_wp2_with fail;go_ret2;exact⟨by rw[p.out,show ne+(q:Int)-1022=ne+((q:Int)-1023+1)by omega];rfl,rfl⟩
theorem yg(n:Int):bits .and .i64 n 2047=n%2048:=by
 have a:(WX 64 2047).toNat=2^11-1:=by decide
 have key:(WX 64 n&&&WX 64 2047).toNat=(n%((2^64:Nat):Int)).toNat%2^11:=by rw[BitVec.toNat_and,BitVec.toNat_ofInt,a,WL]
 show VL.wrap ((WX 64 n&&&WX 64 2047).toNat:Nat)=n%2048;rw[key,IntKind.wrap_i64];omega
theorem Fl.t_(c:n≠0)(i:Fl.Fin (Fl.aV n k)):Fl.aY n+k<1025:=by
 obtain⟨d,j⟩:=Fl.mI c;obtain⟨N,h⟩:∃N:Nat,N=2098:=⟨_,rfl⟩
 have a:Fl.V (Fl.aV n k)<2^N:=by
  have :=Fl.gS (show Fl.aV n k<2047*2^52 from i);have e:Fl.V (2047*2^52)=2^N:=by rw[h];decide+kernel
  rwa[e]at this
 rw[Fl.lG]at a;have b:2^52*2^((Fl.aY n+1073).toNat+k)<2^52*2^N:=by refine Nat.lt_of_le_of_lt ?_ (Nat.mul_lt_mul_of_pos_left a (Wc 52));rw[Wq,<-V7,<-V7 (2^52),Xa (2^52) (Fl.V n),d];exact V3 _ (V3 _ (Nat.le_add_right _ _))
 rw[<-Wq,<-Wq]at b;have :=(Nat.pow_lt_pow_iff_right (by decide:1<2)).1 b;omega
theorem Fl.xZ{f:Nat}(b:f<4503599627370496)(a:0<k):Fl.V (k*4503599627370496+f)=(2^52+f)*2^(k-1):=by rw[Fl.x_ (by omega),show(k*4503599627370496+f)%2^52=f by omega,show(k*4503599627370496+f)/2^52=k by omega]
theorem Fl.Nj{e:Nat}(a:k≠0)(c:Fl.Fin (Fl.aV k n))(o:(e:Int)=n+Fl.aY k+1022)(h:0<e):Xc.mul 4607182418800017408 (e*4503599627370496+Fl.bg k%4503599627370496)=some (Fl.aV k n):=by
 obtain⟨i,l⟩:=Fl.mI a;have m:=Fl.t_ a c;have j:Fl.bg k%4503599627370496<4503599627370496:=Nat.mod_lt _ (by decide);refine Fl.uY (sx:=false) (sy:=false) (x:=4607182418800017408) (z:=Fl.aV k n) (by show _<_;decide) (by show _<_;omega) c ?_;obtain⟨N,b⟩:∃N:Nat,N=1074:=⟨_,rfl⟩;rw[<-b];have d:Fl.V 4607182418800017408=2^N:=by rw[b];decide+kernel
 rw[d,Fl.xZ j h,Fl.lG,Xa];congr 1;refine Nat.eq_of_mul_eq_mul_right (Wc 52) ?_;rw[Xh (Fl.V k),i,V7,V7,<-Wq,<-Wq];congr 2;omega
theorem Fl.Nk{e:Nat}(b:k≠0)(l:Fl.Fin (Fl.aV k n))(p:(e:Int)=n+Fl.aY k+1075)(c:0<e)(o:e<2047):Xc.mul 4368491638549381120 (e*4503599627370496+Fl.bg k%4503599627370496)=some (Fl.aV k n):=by
 obtain⟨d,m⟩:=Fl.mI b;have j:Fl.bg k%4503599627370496<4503599627370496:=Nat.mod_lt _ (by decide);refine Fl.uY (sx:=false) (sy:=false) (x:=4368491638549381120) (z:=Fl.aV k n) (by show _<_;decide) (by show _<_;omega) l ?_;obtain⟨N,i⟩:∃N:Nat,N=1074:=⟨_,rfl⟩;obtain⟨M,h⟩:∃M:Nat,M=1021:=⟨_,rfl⟩;rw[<-i];have a:Fl.V 4368491638549381120=2^M:=by rw[h];decide+kernel
 rw[a,Fl.xZ j c,Fl.lG];refine Nat.eq_of_mul_eq_mul_right (Wc 52) ?_;rw[Xh (Fl.V k*2^n),Xh (Fl.V k),d,Xa (2^M),V7,V7,V7,V7,<-Wq,<-Wq,<-Wq,<-Wq];congr 2;omega
theorem BC(b:Fl.Fin n)(c:n≠0)(j:Fl.Fin (Fl.aV n k))(L:k<100000):Calls VI 269 #[.float .f64 n,.int .i64 (k:Nat)] w fun e w'=>e=.returned (.float .f64 (Fl.aV n k))/\w=w':=by
 have y:n<9223372036854775808:=by unfold Fl.Fin at b;omega
 have ho:=Fl.CO (s:=false) b c;have o:=VH (ni (w:=w) (s:=false) y);rw[show(n==9218868437227405312)=false from beq_eq_false_iff_ne.2 (by unfold Fl.Fin at b;omega)]at o;have E:=VH (kQ (w:=w) (x:=Fl.ae false n) ⟨false,n,rfl,Xg b⟩);have C:=VH (CE (w:=w) (s:=false) b);have M:=Fl.t_ c j;have l:=fun e=>VH (Fl.Nj (e:=e) c j);have m:=fun e=>VH (Fl.Nk (e:=e) c j)
 have p:Fl.Fin (Fl.cm n):=by
  unfold Fl.cm;split
  ·rename_i h;refine Fl.mZ (w:=2046*2^52) (by show _<_;decide) ?_;rw[Fl.repr (by omega)];have :Fl.V (2046*2^52)=2^52*2^2045:=by decide+kernel
   rw[this];refine Nat.le_trans (V3 _ (Xg h)) ?_;obtain⟨N,I⟩:∃N,2045=N:=⟨_,rfl⟩;rw[I];exact Yt _ (Wu (by decide) (by rw[<-I];decide))
  ·exact b
 have O:=Fl.rL c;have H:Fl.dU n=-52∨Fl.dU n=0:=by unfold Fl.dU;split<;>simp
 have G:=show Fl.aY n=Fl.dU n+((Fl.cm n/4503599627370496:Nat):Int)-1022 from rfl;have u:Fl.bg n%4503599627370496=Fl.cm n%4503599627370496:=by unfold Fl.bg;omega
 rw[u]at l m;have U:=Cl (s:=false) p;have d:=fun q r=>Dt (s:=false) (n:=Fl.cm n%4503599627370496) (k:=q) (by omega) r;simp only[show∀a,Fl.ae false a=a from fun _=>rfl]at ho o E C U d;generalize Fl.aV n k=z at*;generalize Fl.aY n=fe at*;generalize Fl.dU n=ne at*;generalize Fl.cm n=a at*;have r:a/4503599627370496<2047:=by unfold Fl.Fin at p;omega
 have P:0<a/4503599627370496:=by omega
 have ai:((a:Nat):Int)/4503599627370496=((a/4503599627370496:Nat):Int):=by omega
 have F1:=ny a;generalize J:a%4503599627370496=f at*;have K:f<4503599627370496:=by omega
 generalize Q:a/4503599627370496=q at*;have e0:VL.wrap ((k:Int)+ne)=(k:Int)+ne:=VR _ (by omega);have e4:VL.wrap (q:Int)=(q:Int):=VR _ (by omega);have a1:bits .and .i64 (q:Int) 2047=(q:Int):=by rw[yg];omega
 have e1:VL.wrap ((q:Int)-1023)=(q:Int)-1023:=VR _ (by omega);have X:VL.wrap ((k:Int)+ne+((q:Int)-1023))=(k:Int)+ne+((q:Int)-1023):=VR _ (by omega);obtain⟨x,hx⟩:∃x:Int,(k:Int)+ne+((q:Int)-1023)=x:=⟨_,rfl⟩;rw[hx]at X;have c1:¬x< -1075:=by omega
 have c2:¬1023<x:=by omega
 by_cases hs:x< -1022;case' pos=>obtain⟨t,F⟩:∃t:Nat,x+1076=t:=⟨(x+1076).toNat,by omega⟩;have i:=gW ((m t).out (by omega) (by omega) (by omega));have i:=fun W T=>run_float_arith (P:=VI) W .mul T .f64 _ _ _ i;have d:=d t (by omega);have S:=g_ (t*4503599627370496+f);generalize t*4503599627370496+f=wx at*;have e5:VL.wrap (x+53)=x+53:=VR _ (by omega);have Y:VL.wrap (x+53+1023)=(t:Int):=ak (by omega)
 case' neg=>obtain⟨t,F⟩:∃t:Nat,x+1023=t:=⟨(x+1023).toNat,by omega⟩;have i:=gW ((l t).out (by omega) (by omega));have i:=fun W T=>run_float_arith (P:=VI) W .mul T .f64 _ _ _ i;have d:=d t (by omega);have S:=g_ (t*4503599627370496+f);generalize t*4503599627370496+f=wx at*;have Y:VL.wrap (x+1023)=(t:Int):=ak (by omega)
 all_goals
  have Z:Wf.wrap (t:Int)=(t:Int):=Wi _ (by omega);have e8:Wf.wrap ((t:Int)*4503599627370496)=((t*4503599627370496:Nat):Int):=by rw[Wi _ (by omega)];omega
  generalize t*4503599627370496=t5 at*;clear l m b y c M p O H G u K Q J r P j L F;go_enter func269,ntmps269;go_wp2_with fail;refine o.out.mono ?_;rintro _ _⟨rfl,rfl⟩;go_wp2_with fail;refine E.out.mono ?_;rintro _ _⟨rfl,rfl⟩;go_wp2_with fail;refine C.out.mono ?_;rintro _ _⟨rfl,rfl⟩;go_wp2_with fail;go_ret;exact⟨rfl,rfl⟩
theorem nh{f:Nat}(h:Calls VI 267 #[.float .f64 k] w fun e w'=>e=.returned (.tuple #[.float .f64 f,.int .i64 r])/\w=w'):Calls VI 256 #[.float .f64 k] w fun e w'=>e=.returned (.tuple #[.float .f64 f,.int .i64 r])/\w=w':=by have H:=VH h;clear h;go_enter func256,ntmps256;go_wp2_with fail;refine H.out.mono ?_;rintro _ _⟨rfl,rfl⟩;go_wp2_with fail;go_ret2;exact⟨rfl,rfl⟩
theorem BD{f:Nat}(h:Calls VI 269 #[.float .f64 k,.int .i64 r] w fun e w'=>e=.returned (.float .f64 f)/\w=w'):Calls VI 257 #[.float .f64 k,.int .i64 r] w fun e w'=>e=.returned (.float .f64 f)/\w=w':=by have H:=VH h;clear h;go_enter func257,ntmps257;go_wp2_with fail;refine H.out.mono ?_;rintro _ _⟨rfl,rfl⟩;go_wp2_with fail;go_ret;exact⟨rfl,rfl⟩
namespace Fl
def dS(b r:Nat):Int:=(if bg r<bg b then aY r-1 else aY r)-aY b
inductive Steps(b:Nat):Nat->Nat->Prop|done{r:Nat}:r<b->Fin r->Steps b r r|step{r d f:Nat}:b<=r->Fin r->r≠0->0<=dS b r->dS b r<100000->Fin (aV b (dS b r).toNat)->Xc.sub r (aV b (dS b r).toNat)=some d->d<r->Steps b d f->Steps b r f
theorem Eg{f:Nat}(h:Steps k n f):(n<k/\Fin n/\n=f)∨∃d,k<=n/\Fin n/\n≠0/\0<=dS k n/\dS k n<100000/\Fin (aV k (dS k n).toNat)/\Xc.sub n (aV k (dS k n).toNat)=some d/\d<n/\Steps k d f:=by cases h with|done a b=>exact .inl ⟨a,b,rfl⟩|step a b c e i j l m o=>exact .inr ⟨_,a,b,c,e,i,j,l,m,o⟩
theorem mY(b:Fin k)(a:k≠0):-1074<=aY k/\aY k<1025:=by
 have c:=t_ (k:=0) a b;have d:=(mI a).2;have h:=rL a;have e:dU k=-52∨dU k=0:=by unfold dU;split<;>simp
 refine⟨by unfold aY;omega,by omega⟩
theorem SJ(c:k≠0):∀n r,r<=n->Fin r->∃f,Fin f/\Steps k r f:=by
 intro n
 induction n with
 |zero=>intro r a j;exact⟨r,j,.done (by omega) j⟩
 |succ n z=>
  intro r H a;rcases Wb r k with h|h;. exact⟨r,a,.done h a⟩
  ·have e:r≠0:=by omega
   have u:Fin k:=by unfold Fin at*;omega
   obtain⟨t,b,i⟩:=dy e c h;rw[<-lG]at b i;have y:Fin (aV k (dS k r).toNat):=mZ a b;obtain⟨d,l,m,o⟩:=SQ a b i;have w:=mJ c;have I:0<V (aV k (dS k r).toNat):=by rw[lG];exact Nat.mul_pos w (Wc _)
   have x:d<r:=NP (by have F:V d=V r-V (aV k (dS k r).toNat):=l;have G:V (aV k (dS k r).toNat)<=V r:=b;omega);obtain⟨f,p,q⟩:=z d (by omega) m;have C:=mY a e;have E:=mY u c;exact⟨f,p,.step h a e t (by unfold dS;split<;>omega) y o x q⟩
theorem ra:bg k<9218868437227405312:=by unfold bg;omega
theorem ri{r b:Nat}(c:Fin r)(a:b<=9218868437227405312):(V5.format.order r b==some .gt||V5.format.order r b==some .eq)=decide (b<=r):=by
 rw[show V5.format.order r b=_ from rR (a:=r) (b:=b) (by unfold Fin at c;omega) a];rcases Nat.lt_trichotomy r b with h|h|h;. rw[l6 h,decide_eq_false (by omega)];rfl
 ·subst h;simp
 ·rw[lZ h,decide_eq_true (by omega)];rfl
theorem Ci{r b:Nat}(c:r<=9218868437227405312)(a:b<=9218868437227405312):(V5.format.order r b==some .lt)=decide (r<b):=by
 rw[show V5.format.order r b=_ from rR c a];rcases Nat.lt_trichotomy r b with h|h|h;. rw[l6 h,decide_eq_true h];rfl
 ·subst h;simp
 ·rw[lZ h,decide_eq_false (by omega)];rfl
theorem NO{s:Bool}(b:k<=9218868437227405312)(a:k≠0):(V5.format.order (ae s k) 0==some .lt)=s:=by rw[show V5.format.order (ae s k) 0=_ from nG b,if_neg a];cases s<;>rfl
end Fl
theorem u_(x:Nat)(W:World):(Go.Op.unary .neg (.float .f64 x)).run VI W=.ok (.float .f64 (Go.Op.negFloat .f64 x)) W:=rfl
theorem zI(h:Xc.sub k n=some m):floatBits .sub .f64 k n=some m:=h
theorem N7{s:Bool}{f:Nat}(M:Fl.Fin k)(ar:k≠0)(Y:n<=9218868437227405312)(Z:n≠0)(hs:Fl.Steps n k f):Calls VI 239 #[.float .f64 (Fl.ae s k),.float .f64 (Fl.ae b n)] w fun e w'=>e=.returned (.float .f64 (Fl.ae s f))/\w=w':=by
 have ho:(V5.format.order (Fl.ae b n) 0==some .eq)=false:=by rw[show V5.format.order (Fl.ae b n) 0=_ from Fl.nG Y,if_neg Z];cases b<;>rfl
 have Q:=VH (ni (w:=w) (s:=s) (a:=k) (by unfold Fl.Fin at M;omega));rw[show(k==9218868437227405312)=false from beq_eq_false_iff_ne.2 (by unfold Fl.Fin at M;omega)]at Q;have ai:=VH (kQ (w:=w) (x:=Fl.ae s k) ⟨s,k,rfl,Xg M⟩);have a8:=VH (kQ (w:=w) (x:=Fl.ae b n) ⟨b,n,rfl,Y⟩);have aA:=VH (qp (w:=w) (s:=b) (a:=n) (by omega))
 obtain⟨L,K,a7,a6⟩:∃(L:Nat)(K:Int),Hid (Calls VI 256 #[.float .f64 n] w fun e w'=>e=.returned (.tuple #[.float .f64 L,.int .i64 K])/\w=w')/\Hid (Fl.Fin n->L=Fl.bg n/\K=Fl.aY n):=by
  by_cases a1:n<9218868437227405312;. exact⟨_,_,VH (nh (rh (s:=false) a1 Z)),VH fun _=>⟨rfl,rfl⟩⟩
  ·exact⟨_,_,VH (nh (Ab (s:=false) (by omega) (.inr (by omega)))),VH fun h=>absurd h a1⟩
 have hl:=Fl.NO (s:=s) (Xg M) ar;have al:=VH (show s=true->∀z,Fl.Fin z->Go.Op.negFloat .f64 (Fl.ae true z)=z/\Go.Op.negFloat .f64 z=Fl.ae true z from fun _ z j=>⟨Fl.va (s:=true) (by unfold Fl.Fin at j;omega),Fl.va (s:=false) (by unfold Fl.Fin at j;omega)⟩);have HS:=VH hs;have l:=VH (VJ M (VJ ar (VJ Y Z)));clear hs M ar Y Z
 cases s with
 |false=>
  simp only[show∀z,Fl.ae false z=z from fun _=>rfl]at*;generalize X:k=x at Q ai hl⊢;have HX:=VH X;clear X al;generalize Fl.ae b n=y at*;go_enter func239,ntmps239;go_wp2_with fail;refine Q.out.mono ?_;rintro _ _⟨rfl,rfl⟩;go_wp2_with fail;refine ai.out.mono ?_;rintro _ _⟨rfl,rfl⟩;go_wp2_with fail;refine a8.out.mono ?_;rintro _ _⟨rfl,rfl⟩;go_wp2_with fail;refine aA.out.mono ?_;rintro _ _⟨rfl,rfl⟩;go_wp2_with fail;refine a7.out.mono ?_;rintro _ _⟨rfl,rfl⟩;go_wp2_with fail;go_loopg[7]k(fun g s7 wr=>∃r:Nat,r=g/\s7=.float .f64 r/\Fl.Steps n r f/\w=wr);case atStart=>exact⟨k,rfl,by rw[HX.out],HS.out,rfl⟩
  case round=>
   obtain⟨r,rfl,rfl,q,rfl⟩:=hrel;rcases Fl.Eg q with⟨av,u,rfl⟩|⟨d,S,p,I,h0,h1,j,J,P,q⟩;. have H:=Fl.ri (r:=r) (b:=n) u l.out.2.2.1;rw[decide_eq_false (by omega)]at H;clear av u;go_wp2_with fail;go_ret;exact⟨rfl,rfl⟩
   ·have H:=Fl.ri (r:=r) (b:=n) p l.out.2.2.1;rw[decide_eq_true S]at H;have o:Fl.Fin n:=by unfold Fl.Fin at*;omega
    obtain⟨F,E⟩:=a6.out o;have U:=Fl.Ci (r:=Fl.bg r) (b:=L) (Xg Fl.ra) (by rw[F];exact Xg Fl.ra);have G:=VH (nh (rh (w:=w) (s:=false) p I));obtain⟨i,c⟩:∃i:Nat,Fl.dS n r=i:=⟨(Fl.dS n r).toNat,by omega⟩;rw[c,WO]at j J;have O:=VH (BD (BC (w:=w) (k:=i) o l.out.2.2.2 j (by omega)));have J:=fun W T=>run_float_arith (P:=VI) W .sub T .f64 _ _ _ (zI J);have N:=Fl.mY p I;have C:=Fl.mY o l.out.2.2.2;rw[<-E]at C;rw[Fl.dS,<-F,<-E]at c;have m:=VH (VJ P q);generalize Fl.aV n i=z at*;simp only[show∀z,Fl.ae false z=z from fun _=>rfl]at G;generalize Fl.bg r=rf at*;generalize Fl.aY r=t at*;have e1:VL.wrap (t-1)=t-1:=VR _ (by omega);clear S p I h0 h1 j P q o F E;by_cases a:rf<L;case' pos=>rw[decide_eq_true a]at U;rw[if_pos a]at c;have e2:VL.wrap (t-1-K)=(i:Int):=ak (by omega)
    case' neg=>rw[decide_eq_false a]at U;rw[if_neg a]at c;have e2:VL.wrap (t-K)=(i:Int):=ak (by omega)
    all_goals
     clear a c N C;go_wp2_with fail;refine G.out.mono ?_;rintro _ _⟨rfl,rfl⟩;go_wp2_with fail;refine O.out.mono ?_;rintro _ _⟨rfl,rfl⟩;go_wp2_with fail;go_roundg d;case measure=>exact m.out.1
     case rel=>exact⟨d,rfl,rfl,m.out.2,rfl⟩
 |true=>
  have hg:∀W,(Go.Op.unary .neg (.float .f64 (Fl.ae true k))).run VI W=.ok (.float .f64 k) W:=fun W=>(u_ _ W).trans (by rw[(al.out rfl k l.out.1).1]);have HG:=VH (show Fl.Fin f->∀W,(Go.Op.unary .neg (.float .f64 f)).run VI W=.ok (.float .f64 (Fl.ae true f)) W from fun u W=>(u_ _ W).trans (by rw[(al.out rfl f u).2]));generalize X:Fl.ae true k=x at Q ai hl hg⊢;have HX:=VH X;clear X al;generalize Fl.ae b n=y at*;go_enter func239,ntmps239;go_wp2_with fail;refine Q.out.mono ?_;rintro _ _⟨rfl,rfl⟩;go_wp2_with fail;refine ai.out.mono ?_;rintro _ _⟨rfl,rfl⟩;go_wp2_with fail;refine a8.out.mono ?_;rintro _ _⟨rfl,rfl⟩;go_wp2_with fail;refine aA.out.mono ?_;rintro _ _⟨rfl,rfl⟩;go_wp2_with fail;refine a7.out.mono ?_;rintro _ _⟨rfl,rfl⟩;go_wp2_with fail;go_loopg[7]k(fun g s7 wr=>∃r:Nat,r=g/\s7=.float .f64 r/\Fl.Steps n r f/\w=wr);case atStart=>exact⟨k,rfl,rfl,HS.out,rfl⟩
  case round=>
   obtain⟨r,rfl,rfl,q,rfl⟩:=hrel;rcases Fl.Eg q with⟨av,u,rfl⟩|⟨d,S,p,I,h0,h1,j,J,P,q⟩;. have H:=Fl.ri (r:=r) (b:=n) u l.out.2.2.1;rw[decide_eq_false (by omega)]at H;have a':=HG.out u;clear av u;go_wp2_with fail;go_ret;exact⟨rfl,rfl⟩
   ·have H:=Fl.ri (r:=r) (b:=n) p l.out.2.2.1;rw[decide_eq_true S]at H;have o:Fl.Fin n:=by unfold Fl.Fin at*;omega
    obtain⟨F,E⟩:=a6.out o;have U:=Fl.Ci (r:=Fl.bg r) (b:=L) (Xg Fl.ra) (by rw[F];exact Xg Fl.ra);have G:=VH (nh (rh (w:=w) (s:=false) p I));obtain⟨i,c⟩:∃i:Nat,Fl.dS n r=i:=⟨(Fl.dS n r).toNat,by omega⟩;rw[c,WO]at j J;have O:=VH (BD (BC (w:=w) (k:=i) o l.out.2.2.2 j (by omega)));have J:=fun W T=>run_float_arith (P:=VI) W .sub T .f64 _ _ _ (zI J);have N:=Fl.mY p I;have C:=Fl.mY o l.out.2.2.2;rw[<-E]at C;rw[Fl.dS,<-F,<-E]at c;have m:=VH (VJ P q);generalize Fl.aV n i=z at*;simp only[show∀z,Fl.ae false z=z from fun _=>rfl]at G;generalize Fl.bg r=rf at*;generalize Fl.aY r=t at*;have e1:VL.wrap (t-1)=t-1:=VR _ (by omega);clear S p I h0 h1 j P q o F E;by_cases a:rf<L;case' pos=>rw[decide_eq_true a]at U;rw[if_pos a]at c;have e2:VL.wrap (t-1-K)=(i:Int):=ak (by omega)
    case' neg=>rw[decide_eq_false a]at U;rw[if_neg a]at c;have e2:VL.wrap (t-K)=(i:Int):=ak (by omega)
    all_goals
     clear a c N C;go_wp2_with fail;refine G.out.mono ?_;rintro _ _⟨rfl,rfl⟩;go_wp2_with fail;refine O.out.mono ?_;rintro _ _⟨rfl,rfl⟩;go_wp2_with fail;go_roundg d;case measure=>exact m.out.1
     case rel=>exact⟨d,rfl,rfl,m.out.2,rfl⟩
abbrev nA:Nat:=9221120237041090561
theorem Fl.Uj{s:Bool}(c:k<=9218868437227405312)(b:k≠0):V5.format.order (Fl.ae s 0) k=some .lt:=by
 show Xc.order (Fl.ae s 0) k=some .lt;rcases Wb k 9218868437227405312 with h|h
 ·have :=Fl.rQ (s:=s) (t:=false) (a:=0) (b:=k) (by show _<_;decide) h;rw[show Xc.order (Fl.ae s 0) k=_ from this];have a:Fl.SV s 0=0:=by unfold Fl.SV;rw[Fl.ku];cases s<;>rfl
  have d:=Fl.mJ b;rw[a,Fl.gU (show 0<Fl.SV false k from by show 0<(Fl.V k:Int);omega)]
 ·rw[show k=2047*2^52 by omega];unfold Ieee.Format.order;rw[show Xc.read (Fl.ae s 0)=_ from Fl.fD s (w:=0) (by show _<_;decide),show Xc.read (2047*2^52)=_ from Fl.jx false];rfl
theorem uA{s:Bool}(h:9218868437227405312<k)(a:k<9223372036854775808):Calls VI 223 #[.float .f64 (Fl.ae s k)] w fun e w'=>e=.returned (.bool true)/\w=w':=by refine(AR _).mono ?_;rintro _ _⟨rfl,rfl⟩;exact⟨by rw[Fl.pf ⟨s,k,rfl,by omega,by omega⟩];rfl,rfl⟩
theorem Fl.zz{s:Bool}{a:Nat}(c:a<9223372036854775808):(V5.format.order (Fl.ae s a) 0==some .eq)=(a==0):=by
 show(Xc.order (Fl.ae s a) 0==some .eq)=_;rcases Wb 9218868437227405312 a with h|h;. rw[Fl.pf ⟨s,a,rfl,by omega,by omega⟩,show(a==0)=false from beq_eq_false_iff_ne.2 (by omega)];rfl
 ·rw[Fl.nG h];by_cases b:a=0;. rw[if_pos b,b];rfl
  ·rw[if_neg b,show(a==0)=false from beq_eq_false_iff_ne.2 b];cases s<;>rfl
theorem N8{s:Bool}(r:k<9223372036854775808)(t:n<9223372036854775808)(h:n=0∨k=9218868437227405312∨9218868437227405312<k∨9218868437227405312<n):Calls VI 239 #[.float .f64 (Fl.ae s k),.float .f64 (Fl.ae b n)] w fun e w'=>e=.returned (.float .f64 nA)/\w=w':=by
 have q:=Fl.zz (s:=b) t;have l:=VH (ni (w:=w) (s:=s) r);have d:=VH (show 9218868437227405312<k->_ from fun h=>uA (w:=w) (s:=s) h r);have i:=VH (show 9218868437227405312<n->_ from fun h=>uA (w:=w) (s:=b) h t);have c:=VH (show k<=9218868437227405312->_ from fun h=>kQ (w:=w) (x:=Fl.ae s k) ⟨s,k,rfl,h⟩);have m:=VH (rK (w:=w));by_cases a:n=0;. rw[a]at q;rw[show((0:Nat)==0)=true from rfl]at q;rw[a];generalize Fl.ae s k=x at*;generalize Fl.ae b 0=y at*;clear h d i c a;go_enter func239,ntmps239;go_wp2_with fail;refine m.out.mono ?_;rintro _ _⟨rfl,rfl⟩;go_wp2_with fail;go_ret;exact⟨rfl,rfl⟩
 ·rw[show(n==0)=false from beq_eq_false_iff_ne.2 a]at q;by_cases j:k=9218868437227405312;. rw[show(k==9218868437227405312)=true from by rw[j];rfl]at l;generalize Fl.ae s k=x at*;generalize Fl.ae b n=y at*;clear h d i c a j;go_enter func239,ntmps239;go_wp2_with fail;refine l.out.mono ?_;rintro _ _⟨rfl,rfl⟩;go_wp2_with fail;refine m.out.mono ?_;rintro _ _⟨rfl,rfl⟩;go_wp2_with fail;go_ret;exact⟨rfl,rfl⟩
  ·rw[show(k==9218868437227405312)=false from beq_eq_false_iff_ne.2 j]at l;by_cases o:9218868437227405312<k;case' pos=>have p:=VH (d.out o);generalize Fl.ae s k=x at*;generalize Fl.ae b n=y at*;clear h d i c a j o;go_enter func239,ntmps239;go_wp2_with fail;refine l.out.mono ?_;rintro _ _⟨rfl,rfl⟩;go_wp2_with fail;refine p.out.mono ?_
   case' neg=>have p:=VH (c.out (by omega));have u:=VH (i.out (by omega));generalize Fl.ae s k=x at*;generalize Fl.ae b n=y at*;clear h d i c a j o;go_enter func239,ntmps239;go_wp2_with fail;refine l.out.mono ?_;rintro _ _⟨rfl,rfl⟩;go_wp2_with fail;refine p.out.mono ?_;rintro _ _⟨rfl,rfl⟩;go_wp2_with fail;refine u.out.mono ?_
   all_goals rintro _ _⟨rfl,rfl⟩;go_wp2_with fail;refine m.out.mono ?_;rintro _ _⟨rfl,rfl⟩;go_wp2_with fail;go_ret;exact⟨rfl,rfl⟩
theorem mod_zero{s:Bool}(c:k<=9218868437227405312)(a:k≠0):Calls VI 239 #[.float .f64 (Fl.ae s 0),.float .f64 (Fl.ae b k)] w fun e w'=>e=.returned (.float .f64 (Fl.ae s 0))/\w=w':=by
 have q:=Fl.zz (s:=b) (a:=k) (by omega);rw[show(k==0)=false from beq_eq_false_iff_ne.2 a]at q;have d:=VH (ni (w:=w) (s:=s) (a:=0) (by decide));rw[show((0:Nat)==9218868437227405312)=false from rfl]at d;have o:=VH (kQ (w:=w) (x:=Fl.ae s 0) ⟨s,0,rfl,by decide⟩);have p:=VH (kQ (w:=w) (x:=Fl.ae b k) ⟨b,k,rfl,c⟩);have l:=VH (qp (w:=w) (s:=b) (a:=k) (by omega))
 obtain⟨j,i,n⟩:∃(j:Nat)(i:Int),Hid (Calls VI 256 #[.float .f64 k] w fun e w'=>e=.returned (.tuple #[.float .f64 j,.int .i64 i])/\w=w'):=by
  by_cases m:k<9218868437227405312;. exact⟨_,_,VH (nh (rh (s:=false) m a))⟩
  ·exact⟨_,_,VH (nh (Ab (s:=false) (by omega) (.inr (by omega))))⟩
 have u:(V5.format.order (Fl.ae s 0) 0==some .lt)=false:=by rw[show V5.format.order (Fl.ae s 0) 0=_ from Fl.nG (s:=s) (w:=0) (by decide)];rfl
 have h:=Fl.Uj (s:=s) c a;have t:(V5.format.order (Fl.ae s 0) k==some .gt||V5.format.order (Fl.ae s 0) k==some .eq)=false:=by rw[h];rfl
 generalize Fl.ae s 0=x at*;generalize Fl.ae b k=y at*;clear h c a;go_enter func239,ntmps239;go_wp2_with fail;refine d.out.mono ?_;rintro _ _⟨rfl,rfl⟩;go_wp2_with fail;refine o.out.mono ?_;rintro _ _⟨rfl,rfl⟩;go_wp2_with fail;refine p.out.mono ?_;rintro _ _⟨rfl,rfl⟩;go_wp2_with fail;refine l.out.mono ?_;rintro _ _⟨rfl,rfl⟩;go_wp2_with fail;refine n.out.mono ?_;rintro _ _⟨rfl,rfl⟩;go_wp2_with fail;go_loopg[7]0(fun g r wr=>g=0/\r=.float .f64 x/\w=wr);case atStart=>exact⟨rfl,rfl,rfl⟩
 case round=>obtain⟨rfl,rfl,rfl⟩:=hrel;go_wp2_with fail;go_ret;exact⟨rfl,rfl⟩
theorem uT{f:Nat}(h:Calls VI 239 #[.float .f64 k,.float .f64 n] w fun e w'=>e=.returned (.float .f64 f)/\w=w'):Calls VI 215 #[.float .f64 k,.float .f64 n] w fun e w'=>e=.returned (.float .f64 f)/\w=w':=by have H:=VH h;clear h;go_enter func215,ntmps215;go_wp2_with fail;refine H.out.mono ?_;rintro _ _⟨rfl,rfl⟩;go_wp2_with fail;go_ret;exact⟨rfl,rfl⟩
theorem N9(l:k<18446744073709551616)(r:n<18446744073709551616):∃f:Nat,f<18446744073709551616/\∀w,Calls VI 215 #[.float .f64 k,.float .f64 n] w fun e w'=>e=.returned (.float .f64 f)/\w=w':=by
 obtain⟨s,a,rfl,p⟩:=Fl.sF l;obtain⟨t,b,rfl,q⟩:=Fl.sF r;by_cases h:b=0∨a=9218868437227405312∨9218868437227405312<a∨9218868437227405312<b;. exact⟨nA,by decide,fun w=>uT (N8 p q h)⟩
 ·have j:b<=9218868437227405312:=by omega
  have c:b≠0:=fun e=>h (.inl e);by_cases d:a=0;. subst d;exact⟨_,l,fun w=>uT (mod_zero j c)⟩
  ·have i:Fl.Fin a:=by unfold Fl.Fin;omega
   obtain⟨f,m,o⟩:=Fl.SJ c a a (VN _) i;exact⟨Fl.ae s f,Fl.j' (by unfold Fl.Fin at m;omega),fun w=>uT (N7 i d j c o)⟩
structure Dg(l:List Nat)(i j:Nat):Prop where
 le:i<=j
 len:j<=l.length
 cd:∀k,i<=k->k<j->eC (l.getD k 0)
 end_:j<l.length->¬eC (l.getD j 0)
theorem qK(l:List Nat):∀n i,l.length-i=n->i<=l.length->∃j,Dg l i j:=by
 intro n
 induction n with
 |zero=>intro i m e;exact⟨i,VN i,e,fun k _ _=>by omega,fun _=>by omega⟩
 |succ n p=>
  intro i m e;by_cases h:eC (l.getD i 0)
  ·obtain⟨j,a,b,c,d⟩:=p (i+1) (by omega) (by omega);refine⟨j,by omega,b,fun k r q=>?_,d⟩;by_cases o:k=i;. rw[o];exact h
   ·exact c k (by omega) q
  ·exact⟨i,VN i,e,fun k _ _=>by omega,fun _=>h⟩
theorem kH(G:s.size<=64)(h:Dg (bytesOf s) k n):Calls VI 241 #[.string s,.int .i64 (k:Nat)] w fun e w'=>e=.returned (.int .i64 (n:Nat))/\w=w':=by
 have r:(bytesOf s).length=s.size:=jh s;obtain⟨m,o,j,d⟩:=h;rw[r]at o d;have i:=VH (fun k(hi:k<s.size)=>kB (s:=s) hi);have H:=VH (VJ j d);clear j d;go_enter func241,ntmps241;go_wp2_with fail;go_loopg[1](n-k)(fun g s1 wr=>∃a:Nat,g=n-a/\k<=a/\a<=n/\s1=.int .i64 (a:Nat)/\w=wr);case atStart=>exact⟨k,rfl,VN _,m,rfl,rfl⟩
 case round=>
  obtain⟨a,rfl,p,F,rfl,rfl⟩:=hrel;have I:(0:Int)<=(a:Int):=by omega
  by_cases q:a<n
  ·have c:a<s.size:=by omega
   have l:(a:Int)<(s.size:Int):=by omega
   have b:=H.out.1 a p q;rw[i.out a c]at b;generalize t:s[a]=x at*;obtain⟨z,C⟩:=b;have u:(48:Int)<=(x.toNat:Int):=by omega
   have y:(x.toNat:Int)<=57:=by omega
   have E:VL.wrap ((a:Int)+1)=((a+1:Nat):Int):=ak (by omega);go_wp2_with fail;go_roundg(n-(a+1));case measure=>omega
   case rel=>exact⟨a+1,rfl,by omega,by omega,rfl,rfl⟩
  ·obtain rfl:a=n:=by omega
   by_cases c:a<s.size
   ·have l:(a:Int)<(s.size:Int):=by omega
    have b:=H.out.2 c;rw[i.out a c]at b;generalize t:s[a]=x at*;by_cases u:(48:Int)<=(x.toNat:Int);. have y:¬(x.toNat:Int)<=57:=fun h=>b ⟨by omega,by omega⟩;clear b;go_wp2_with fail;go_ret;exact⟨rfl,rfl⟩
    ·clear b;go_wp2_with fail;go_ret;exact⟨rfl,rfl⟩
   ·have l:¬(a:Int)<(s.size:Int):=by omega
    go_wp2_with fail;go_ret;exact⟨rfl,rfl⟩
structure Um(l:List Nat)(m q:Nat)(r:Bool):Prop where
 ok:r=true->m<l.length->(l.getD m 0=101∨l.getD m 0=69)/\(q=m+1∨q=m+2/\(l.getD (m+1) 0=43∨l.getD (m+1) 0=45))/\q<l.length/\∀i,q<=i->i<l.length->eC (l.getD i 0)
theorem qw(a b:Nat):(a==b)=((a:Int)==(b:Int)):=by
 by_cases e:a=b;. subst e;simp
 ·rw[beq_eq_false_iff_ne.2 e,beq_eq_false_iff_ne.2 (by omega)]
inductive mw(l:List Nat)(m:Nat):Bool->Prop|none{r:Bool}:(m<l.length->l.getD m 0≠101/\l.getD m 0≠69)->r=(m==l.length)->mw l m r|some{q t:Nat}{r:Bool}:m<l.length->(l.getD m 0=101∨l.getD m 0=69)->(q=m+1/\(m+1<l.length->l.getD (m+1) 0≠43/\l.getD (m+1) 0≠45)∨q=m+2/\m+1<l.length/\(l.getD (m+1) 0=43∨l.getD (m+1) 0=45))->Dg l q t->r=(!(t==q)&&t==l.length)->mw l m r
theorem yJ(l:List Nat)(m:Nat)(_:m<=l.length):∃r,mw l m r:=by
 by_cases a:m<l.length/\(l.getD m 0=101∨l.getD m 0=69)
 ·by_cases b:m+1<l.length/\(l.getD (m+1) 0=43∨l.getD (m+1) 0=45);. obtain⟨t,c⟩:=qK l _ (m+2) rfl (by omega);exact⟨_,.some a.1 a.2 (.inr ⟨rfl,b.1,b.2⟩) c rfl⟩
  ·obtain⟨t,c⟩:=qK l _ (m+1) rfl (by omega);exact⟨_,.some a.1 a.2 (.inl ⟨rfl,fun h=>⟨fun e=>b ⟨h,.inl e⟩,fun e=>b ⟨h,.inr e⟩⟩⟩) c rfl⟩
 ·exact⟨_,.none (fun h=>⟨fun e=>a ⟨h,.inl e⟩,fun e=>a ⟨h,.inr e⟩⟩) rfl⟩
theorem yK(h:mw l k true):∃q,k<l.length->(l.getD k 0=101∨l.getD k 0=69)/\(q=k+1∨q=k+2/\(l.getD (k+1) 0=43∨l.getD (k+1) 0=45))/\q<l.length/\∀i,q<=i->i<l.length->eC (l.getD i 0):=by
 cases h with
 |none b a=>refine⟨0,fun o=>?_⟩;have :(k==l.length)=false:=beq_eq_false_iff_ne.2 (by omega);rw[this]at a;cases a
 | @some q t _ _ j m c a=>
  rw[eq_comm,Bool.and_eq_true,Bool.not_eq_true']at a;obtain⟨d,e⟩:=a;have d:t≠q:=beq_eq_false_iff_ne.1 d;have e:t=l.length:=eq_of_beq e;refine⟨q,fun _=>⟨j,?_,?_,?_⟩⟩
  ·rcases m with h|h;. exact .inl h.1
   ·exact .inr ⟨h.1,h.2.2⟩
  ·have :=c.le;omega
  ·intro i b n;exact c.cd i b (by omega)
inductive jF(l:List Nat):Bool->Prop|empty:Dg l 0 0->jF l false|ve{p:Nat}{r:Bool}:Dg l 0 p->0<p->(p<l.length->l.getD p 0≠46)->mw l p r->jF l r|yk{p:Nat}:Dg l 0 p->0<p->p<l.length->l.getD p 0=46->Dg l (p+1) (p+1)->jF l false|dot{p m:Nat}{r:Bool}:Dg l 0 p->0<p->p<l.length->l.getD p 0=46->Dg l (p+1) m->m≠p+1->mw l m r->jF l r
theorem yH(l:List Nat):∃r,jF l r:=by
 obtain⟨p,b⟩:=qK l _ 0 rfl (Nat.zero_le _);by_cases j:p=0;. subst j;exact⟨_,.empty b⟩
 ·by_cases a:p<l.length/\l.getD p 0=46
  ·obtain⟨m,c⟩:=qK l _ (p+1) rfl (by omega);by_cases i:m=p+1;. subst i;exact⟨_,.yk b (by omega) a.1 a.2 c⟩
   ·obtain⟨r,d⟩:=yJ l m c.len;exact⟨_,.dot b (by omega) a.1 a.2 c i d⟩
  ·obtain⟨r,d⟩:=yJ l p b.len;exact⟨_,.ve b (by omega) (fun h e=>a ⟨h,e⟩) d⟩
theorem yI(k:l.length<=64)(h:jF l true):∃p m q,Pl l p m q:=by
 cases h with
 | @ve p _ a b t e=>obtain⟨q,d⟩:=yK e;exact⟨p,p,q,k,b,VN _,a.len,fun i j _=>a.cd i (Nat.zero_le _) j,fun h=>absurd h (Nat.lt_irrefl _),d⟩
 | @dot p m _ a b j n c u e=>
  obtain⟨q,d⟩:=yK e;have :=c.le
  exact⟨p,m,q,k,b,by omega,c.len,fun i h3 r=>by
   by_cases o:i<p;. exact a.cd i (Nat.zero_le _) o
   ·exact c.cd i (by omega) h3,fun _=>⟨n,by omega⟩,d⟩
theorem kF(G:s.size<=64)(h:jF (bytesOf s) b):Calls VI 218 #[.string s] w fun e w'=>e=.returned (.bool b)/\w=w':=by
 have H:(bytesOf s).length=s.size:=jh s;have y:=VH (fun i(hi:i<s.size)=>kB (s:=s) hi);have O:=VH h;clear h
 cases O.out with
 |empty u=>have J:=VH (kH (w:=w) G u);clear O u;go_enter func218,ntmps218;go_wp2_with fail;refine J.out.mono ?_;rintro _ _⟨rfl,rfl⟩;go_wp2_with fail;go_ret;exact⟨rfl,rfl⟩
 | @yk p u S ai C L=>
  have J:=VH (kH (w:=w) G u);have HM:=VH (kH (w:=w) G L);have al:p<s.size:=by omega
  rw[y.out p al]at C;generalize M:s[p]=x at*;have p0:((p:Int)==0)=false:=beq_eq_false_iff_ne.2 (by omega);have I:(p:Int)<(s.size:Int):=by omega
  have N:(0:Int)<=(p:Int):=by omega
  have c1:(x.toNat:Int)=46:=by omega
  have e1:VL.wrap ((p:Int)+1)=((p+1:Nat):Int):=ak (by omega);clear O u L S ai C;go_enter func218,ntmps218;go_wp2_with fail;refine J.out.mono ?_;rintro _ _⟨rfl,rfl⟩;go_wp2_with fail;refine HM.out.mono ?_;rintro _ _⟨rfl,rfl⟩;go_wp2_with fail;go_ret;exact⟨rfl,rfl⟩
 | @ve p _ u S C T=>
  have J:=VH (kH (w:=w) G u);have Z:=VH T;have ai:=u.len;have p0:((p:Int)==0)=false:=beq_eq_false_iff_ne.2 (by omega);clear O u T;go_enter func218,ntmps218;go_wp2_with fail;refine J.out.mono ?_;rintro _ _⟨rfl,rfl⟩;by_cases aA:p<s.size
  ·have hp:=C (by omega);rw[y.out p aA]at hp;have c1:((s[p].toNat:Int)==46)=false:=beq_eq_false_iff_ne.2 (by omega);have I:(p:Int)<(s.size:Int):=by omega
   have N:(0:Int)<=(p:Int):=by omega
   go_upto_region 9 with fail;clear C p0 S hp c1
   cases Z.out with
   |none h o=>
    have c:=VH (show b=((p:Int)==(s.size:Int))from by rw[o,H,qw]);clear o;by_cases z:p<s.size
    ·obtain⟨U,X⟩:=h (by omega);rw[y.out p z]at U X;generalize M:s[p]=x at*;have I:(p:Int)<(s.size:Int):=by omega
     have N:(0:Int)<=(p:Int):=by omega
     have U:((x.toNat:Int)==101)=false:=beq_eq_false_iff_ne.2 (by omega);have X:((x.toNat:Int)==69)=false:=beq_eq_false_iff_ne.2 (by omega);go_wp2_with fail;go_ret;exact⟨by rw[c.out];rfl,rfl⟩
    ·exact absurd aA z
   | @some q t _ z d n E o=>
    have l:=E.le;have k:=E.len;have j:=VH (kH (w:=w) G E);have c:=VH (show b=(!(t==q)&&((t:Int)==(s.size:Int)))from by rw[o,H,qw t s.size]);rw[H]at z k;rw[y.out p z]at d;generalize M:s[p]=x at*;have I:(p:Int)<(s.size:Int):=by omega
    have N:(0:Int)<=(p:Int):=by omega
    have e1:VL.wrap ((p:Int)+1)=((p+1:Nat):Int):=ak (by omega);clear E o;rw[H]at n;rcases n with⟨rfl,n⟩|⟨rfl,ar,n⟩
    ·by_cases Q:p+1<s.size
     case' pos=>
      obtain⟨F,K⟩:=n Q;rw[y.out _ Q]at F K;have Y:((p+1:Nat):Int)<(s.size:Int):=by omega
      have p4:(0:Int)<=((p+1:Nat):Int):=by omega
      generalize P:p+1=m1 at*;generalize av:s[m1]=r at*;have F:((r.toNat:Int)==43)=false:=beq_eq_false_iff_ne.2 (by omega);have K:((r.toNat:Int)==45)=false:=beq_eq_false_iff_ne.2 (by omega)
     case' neg=>
      have Y:¬((p+1:Nat):Int)<(s.size:Int):=by omega
      generalize P:p+1=m1 at*
     all_goals
      rcases d with d|d;case' inl=>have c1:((x.toNat:Int)==101)=true:=by simp;omega
      case' inr=>
       have c1:((x.toNat:Int)==69)=true:=by simp;omega
       have c2:((x.toNat:Int)==101)=false:=beq_eq_false_iff_ne.2 (by omega)
      all_goals
       by_cases a:t=m1;case' pos=>rw[show(t==m1)=true from by rw[a];simp]at c;rw[a]at j
       case' neg=>rw[show(t==m1)=false from beq_eq_false_iff_ne.2 a]at c;have c3:((t:Int)==(m1:Int))=false:=beq_eq_false_iff_ne.2 (by omega)
       all_goals clear a k l d;go_wp2_with fail;refine j.out.mono ?_;rintro _ _⟨rfl,rfl⟩;go_wp2_with fail;go_ret;exact⟨by rw[c.out];rfl,rfl⟩
    ·rw[y.out _ ar]at n;have Y:((p+1:Nat):Int)<(s.size:Int):=by omega
     have p4:(0:Int)<=((p+1:Nat):Int):=by omega
     have e2:VL.wrap (((p+1:Nat):Int)+1)=((p+2:Nat):Int):=ak (by omega);generalize P:p+1=m1 at*;generalize a6:p+2=m3 at*;generalize av:s[m1]=r at*;rcases n with n|n;case' inl=>have F:((r.toNat:Int)==43)=true:=by simp;omega
     case' inr=>
      have F:((r.toNat:Int)==45)=true:=by simp;omega
      have K:((r.toNat:Int)==43)=false:=beq_eq_false_iff_ne.2 (by omega)
     all_goals
      rcases d with d|d;case' inl=>have c1:((x.toNat:Int)==101)=true:=by simp;omega
      case' inr=>
       have c1:((x.toNat:Int)==69)=true:=by simp;omega
       have c2:((x.toNat:Int)==101)=false:=beq_eq_false_iff_ne.2 (by omega)
      all_goals
       by_cases a:t=m3;case' pos=>rw[show(t==m3)=true from by rw[a];simp]at c;rw[a]at j
       case' neg=>rw[show(t==m3)=false from beq_eq_false_iff_ne.2 a]at c;have c3:((t:Int)==(m3:Int))=false:=beq_eq_false_iff_ne.2 (by omega)
       all_goals clear a k l d;go_wp2_with fail;refine j.out.mono ?_;rintro _ _⟨rfl,rfl⟩;go_wp2_with fail;go_ret;exact⟨by rw[c.out];rfl,rfl⟩
  ·have I:¬(p:Int)<(s.size:Int):=by omega
   have a1:p=(bytesOf s).length:=by omega
   cases Z.out with
   |none _ o=>
    have c:=VH (show b=true from by rw[o,<-a1];simp);have e:((p:Int)==(s.size:Int))=true:=by simp;omega
    clear C o;go_wp2_with fail;go_ret;exact⟨by rw[c.out];rfl,rfl⟩
   |some h1=>omega
 | @dot p m _ u S ai C L a7 T=>
  have J:=VH (kH (w:=w) G u);have HM:=VH (kH (w:=w) G L);have Z:=VH T;have a':=L.len;have al:p<s.size:=by omega
  rw[y.out p al]at C;generalize M:s[p]=x0 at C;have p0:((p:Int)==0)=false:=beq_eq_false_iff_ne.2 (by omega);have I:(p:Int)<(s.size:Int):=by omega
  have N:(0:Int)<=(p:Int):=by omega
  have c1:(x0.toNat:Int)=46:=by omega
  have c2:((m:Int)==((p+1:Nat):Int))=false:=beq_eq_false_iff_ne.2 (by omega);have e1:VL.wrap ((p:Int)+1)=((p+1:Nat):Int):=ak (by omega);generalize a8:p+1=pp at*;clear O u T L a7 S ai C a8;go_enter func218,ntmps218;go_wp2_with fail;refine J.out.mono ?_;rintro _ _⟨rfl,rfl⟩;go_wp2_with fail;refine HM.out.mono ?_;rintro _ _⟨rfl,rfl⟩;go_upto_region 9 with fail;clear p0 c1 c2 e1 M
  cases Z.out with
  |none h o=>
   have c:=VH (show b=((m:Int)==(s.size:Int))from by rw[o,H,qw]);clear o;by_cases z:m<s.size
   ·obtain⟨U,X⟩:=h (by omega);rw[y.out m z]at U X;generalize M:s[m]=x at*;have I:(m:Int)<(s.size:Int):=by omega
    have N:(0:Int)<=(m:Int):=by omega
    have U:((x.toNat:Int)==101)=false:=beq_eq_false_iff_ne.2 (by omega);have X:((x.toNat:Int)==69)=false:=beq_eq_false_iff_ne.2 (by omega);go_wp2_with fail;go_ret;exact⟨by rw[c.out];rfl,rfl⟩
   ·have I:¬(m:Int)<(s.size:Int):=by omega
    go_wp2_with fail;go_ret;exact⟨by rw[c.out];rfl,rfl⟩
  | @some q t _ z d n E o=>
   have l:=E.le;have k:=E.len;have j:=VH (kH (w:=w) G E);have c:=VH (show b=(!(t==q)&&((t:Int)==(s.size:Int)))from by rw[o,H,qw t s.size]);rw[H]at z k;rw[y.out m z]at d;generalize M:s[m]=x at*;have I:(m:Int)<(s.size:Int):=by omega
   have N:(0:Int)<=(m:Int):=by omega
   have e1:VL.wrap ((m:Int)+1)=((m+1:Nat):Int):=ak (by omega);clear E o;rw[H]at n;rcases n with⟨rfl,n⟩|⟨rfl,ar,n⟩
   ·by_cases Q:m+1<s.size
    case' pos=>
     obtain⟨F,K⟩:=n Q;rw[y.out _ Q]at F K;have Y:((m+1:Nat):Int)<(s.size:Int):=by omega
     have p4:(0:Int)<=((m+1:Nat):Int):=by omega
     generalize P:m+1=m1 at*;generalize av:s[m1]=r at*;have F:((r.toNat:Int)==43)=false:=beq_eq_false_iff_ne.2 (by omega);have K:((r.toNat:Int)==45)=false:=beq_eq_false_iff_ne.2 (by omega)
    case' neg=>
     have Y:¬((m+1:Nat):Int)<(s.size:Int):=by omega
     generalize P:m+1=m1 at*
    all_goals
     rcases d with d|d;case' inl=>have c1:((x.toNat:Int)==101)=true:=by simp;omega
     case' inr=>
      have c1:((x.toNat:Int)==69)=true:=by simp;omega
      have c2:((x.toNat:Int)==101)=false:=beq_eq_false_iff_ne.2 (by omega)
     all_goals
      by_cases a:t=m1;case' pos=>rw[show(t==m1)=true from by rw[a];simp]at c;rw[a]at j
      case' neg=>rw[show(t==m1)=false from beq_eq_false_iff_ne.2 a]at c;have c3:((t:Int)==(m1:Int))=false:=beq_eq_false_iff_ne.2 (by omega)
      all_goals clear a k l d;go_wp2_with fail;refine j.out.mono ?_;rintro _ _⟨rfl,rfl⟩;go_wp2_with fail;go_ret;exact⟨by rw[c.out];rfl,rfl⟩
   ·rw[y.out _ ar]at n;have Y:((m+1:Nat):Int)<(s.size:Int):=by omega
    have p4:(0:Int)<=((m+1:Nat):Int):=by omega
    have e2:VL.wrap (((m+1:Nat):Int)+1)=((m+2:Nat):Int):=ak (by omega);generalize P:m+1=m1 at*;generalize a6:m+2=m3 at*;generalize av:s[m1]=r at*;rcases n with n|n;case' inl=>have F:((r.toNat:Int)==43)=true:=by simp;omega
    case' inr=>
     have F:((r.toNat:Int)==45)=true:=by simp;omega
     have K:((r.toNat:Int)==43)=false:=beq_eq_false_iff_ne.2 (by omega)
    all_goals
     rcases d with d|d;case' inl=>have c1:((x.toNat:Int)==101)=true:=by simp;omega
     case' inr=>
      have c1:((x.toNat:Int)==69)=true:=by simp;omega
      have c2:((x.toNat:Int)==101)=false:=beq_eq_false_iff_ne.2 (by omega)
     all_goals
      by_cases a:t=m3;case' pos=>rw[show(t==m3)=true from by rw[a];simp]at c;rw[a]at j
      case' neg=>rw[show(t==m3)=false from beq_eq_false_iff_ne.2 a]at c;have c3:((t:Int)==(m3:Int))=false:=beq_eq_false_iff_ne.2 (by omega)
      all_goals clear a k l d;go_wp2_with fail;refine j.out.mono ?_;rintro _ _⟨rfl,rfl⟩;go_wp2_with fail;go_ret;exact⟨by rw[c.out];rfl,rfl⟩
section
open Go.RowKit Go.Extern.Stop Go.Stop Go.Extern Go.Extern.Rtype
theorem Kd(v:Value)(w:World):(Extern.ReflectliteType.typeOf #[.iface 343 v]).run VI w=.ok (.iface 352 (.agg #[.pointer (some ⟨VI.globals.size,343,none⟩)])) w:=by kernel_rfl
theorem J'(w:World):((Extern.ReflectliteType.method fun t=>do noPackHeld "Comparable" t;Functor.map (fun a=>Value.bool a.comparable) (typeInfo t)) #[.agg #[.pointer (some ⟨VI.globals.size,343,none⟩)]]).run VI w=.ok (.bool true) w:=by kernel_rfl
theorem Ka(n:Nat)(v:Value)(w:World):(Go.method (n+1) 352 v "Comparable").run VI w=.ok (355,v) w:=by kernel_rfl
theorem Kb(n:Nat)(v:Value)(w:World):(Go.method (n+1) 304 v "Unwrap").run VI w=.ok (349,v) w:=by kernel_rfl
theorem J_:(VI.info? 343).map (·.comparable)=some true:=by kernel_rfl
theorem Kc:(VI.info? 345).map (·.size)=some 1:=by kernel_rfl
theorem OA(v:Value)(a:TypeId)(w:World):(Instr.typeAssert (.iface 304 v) a 354 true).run VI w=.ok (.tuple #[.nilIface,.bool false]) w:=run_typeAssert_lacksB underlying354 (by kernel_rfl) (by kernel_rfl) v a w
theorem JF(v:Value)(a:TypeId)(w:World):(Instr.typeAssert (.iface 304 v) a 357 true).run VI w=.ok (.tuple #[.iface 304 v,.bool true]) w:=run_typeAssert_hasB underlying357 (by kernel_rfl) v a w
theorem uz{a:Addr}(o:w.cell? ⟨k,2,none⟩=some (.iface 343 (.pointer (some a)))):Calls VI 220 #[.iface 304 (.pointer (some ⟨k,0,none⟩)),.iface 343 (.pointer (some a))] w fun e w'=>e=.returned (.bool true)/\w=w':=by obtain⟨i,l,h⟩:=Option.map_eq_some_iff.1 J_;obtain⟨j,m,u⟩:=Option.map_eq_some_iff.1 Kc;have q:= @run_callFunc_extern VI 243 _ Extern.ReflectliteType.typeOf func243 (by kernel_rfl) (by kernel_rfl) (by kernel_rfl) (by kernel_rfl);have p:= @run_callFunc_extern VI 355 _ (Extern.ReflectliteType.method fun t=>do noPackHeld "Comparable" t;pure (.bool (<-typeInfo t).comparable)) func355 (by kernel_rfl) (by kernel_rfl) (by kernel_rfl) (by kernel_rfl);have n:=Kd;have d:=J';obtain⟨b,c⟩:∃b,VI.globals.size=b:=⟨_,rfl⟩;rw[c]at n d;have y:=Ka;have z:=Kb;clear c;have C:=OA;have E:=JF;have r:=run_eql_iface_ptr_same (P:=VI) w a underlying109 underlying343 l h m;have x:=run_eql_iface_types (P:=VI) 304 343 (.pointer (some ⟨k,0,none⟩)) (.pointer (some a)) underlying109 (by decide) w;go_enter func220,ntmps220;go_wp2;refine wp_loop_rounds 2 ?_;rw[rounds_succ];go_wp2;rw[rounds_succ];go_wp2;go_ret;exact⟨rfl,rfl⟩
end
theorem Tq(h:Below w.heap.size w w'):aa ab w w':=⟨h.os,h.tape,h.output,h.size,fun i hi _=>h.block i hi⟩
def ki(w:World)(a:Addr):Prop:=w.cell? ⟨5,0,none⟩=some (.iface 343 (.pointer (some a)))
theorem Sl(j:Pl (bytesOf s) k n m):∃(f:Nat)(b:Bool),f<18446744073709551616/\∀w B a,bC w B->ki w a->Calls VI 219 #[.string s,.int .i64 64] w fun e w'=>aa ab w w'/\(b=false/\e=.returned (.tuple #[.float .f64 f,.nilIface])∨b=true/\∃N,e=.returned (.tuple #[.float .f64 f,.iface 304 (.pointer (some ⟨N,0,none⟩))])/\w'.cell? ⟨N,2,none⟩=some (.iface 343 (.pointer (some a)))):=by
 obtain⟨f,b,G,r⟩:=J9 j;have H:(bytesOf s).length=s.size:=jh s;have J:s.size<=64:=by rw[<-H];exact j.size
 refine⟨f,b,G,fun w B a d q=>?_⟩;have z:=VH (r w B d);have x:=VH q;have y:=VH (show(5:Nat)<w.heap.size from Nat.lt_of_lt_of_le (Nat.lt_of_lt_of_le (by decide) d.gl) d.le);clear r d q j;go_enter func219,ntmps219;go_wp2_with fail;refine z.out.mono ?_;rintro _ u⟨rfl,c⟩;cases b with|false=>rw[show lN false=.nilIface from rfl];have i:=VH c;clear c;go_wp2_with fail;go_ret2;exact⟨i.out,rfl⟩|true=>rw[show lN true=.iface 301 (.int .i64 1)from rfl];have t:u.cell? ⟨5,0,none⟩=some (.iface 343 (.pointer (some a))):=(c.cell (p:=⟨5,0,none⟩) y.out id).trans x.out;have C:=VH (fun E=>Tryz.strconv_toError_range E s 0 64 _ u (by omega) t (.inr ⟨_,_,rfl⟩));have i:=VH c;clear c t;go_wp2_with fail;refine(C.out _).mono ?_;rintro _ I⟨N,rfl,F,o,p⟩;have l:=VH (VJ (i.out.trans (Tq p) (fun _ _ h=>h)) (show I.cell? ⟨N,2,none⟩=some (.iface 343 (.pointer (some a)))from by simp[World.cell?,o]));clear F o p;go_wp2_with fail;go_ret2;exact⟨l.out.1,N,rfl,l.out.2⟩
end Go.Proofs.YtmddhediccmhbaaGreatDoor
