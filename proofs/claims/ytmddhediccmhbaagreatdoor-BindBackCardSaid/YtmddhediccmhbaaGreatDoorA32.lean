/- ftoa64, few digits. -/
import Derived.Test.YtmddhediccmhbaaGreatDoorA30
set_option linter.all false
set_option maxHeartbeats 400000000
set_option maxRecDepth 100000
namespace Go.Proofs.YtmddhediccmhbaaGreatDoor
open Go.RowKit
open Go.Proofs.Tryz
open And renaming intro→VJ
open _root_.Array renaming replicate→Wy
open IntKind renaming i64→VL
open Lib renaming hid→VH
open Lib renaming nDigits→Wx
open Nat renaming lt_of_lt_of_le→VO
variable {w w':World}{k n m i:Nat}{v:Value}{e:Int}
section
open Go.RowKit Go.Sort
theorem Jp{B:Nat}(hT:bC w' B)(hU:gh w')(ho:w'.ownsRow w.heap.size 5 1 v 0 [])(G:aa ab w w')(hB:B<=w.heap.size){s:Bool}(ha:k<9218868437227405312)(C:n<=20)(H:oq k n m i e)(I:¬i=0/\e<=18/\0<e):Calls prog 260 #[v,.float .f64 (Fl.ae s k),.int .u8 102,.int .i64 (n:Nat)] w' (tc w):=by
 obtain⟨x,Z⟩:∃x,Fl.ae s k=x:=⟨_,rfl⟩;have a8:=yp x;rw[Z];obtain⟨ba,E,av,ah,aq,hE,hm,a6,a7⟩:=zJ ha Z;obtain⟨z,J⟩:=H;rw[ah,aq]at z;have aP:=CM hm;obtain⟨Q,aE⟩:∃Q,av+4503599627370496=Q:=⟨_,rfl⟩;rw[aE]at aP;have aH:1<=m:=by omega
 have aI:m<=2046:=by omega
 have hM:i<9007199254740992:=by omega
 have an:-400<=e:=by omega
 have ao:e<=400:=by omega
 have M:=VH J;have O:=VH z;clear z J ah aq;have c:=VH (VJ hT (VJ ho G));clear Z hT ho G;go_enter func260,ntmps260;go_upto_region 14 with fail;go_quiet(fail);have a1:((E:Int)==2047)=false:=beq_eq_false_iff_ne.2 (by omega);go_upto_if 78 with fail;go_cut[14,15](fun aT aU wx=>aT=.int .i64 (m:Nat)/\aU=.int .u64 (i:Nat)/\w'.drewN nq=wx)
 case first=>
  by_cases h0:E=0
  ·have h1:((E:Int)==0)=true:=beq_iff_eq.2 (by omega);have e1:VL.wrap ((E:Int)+1)=((1:Nat):Int):=ak (by omega);have g1:m=1/\i=av:=by have :=O.out;omega
   go_wp2_with fail;go_meet;exact⟨by rw[g1.1];rfl,by rw[g1.2],rfl⟩
  ·have h1:((E:Int)==0)=false:=beq_eq_false_iff_ne.2 (by omega);have g1:m=E/\i=Q:=by have :=O.out;omega
   go_wp2_with fail;go_meet;exact⟨by rw[g1.1],by rw[g1.2],rfl⟩
 case rest=>
  obtain⟨rfl,rfl,rfl⟩:=hcut;clear O;obtain⟨X,hX⟩:∃X:Int,(m:Int)+-1023=X:=⟨_,rfl⟩;have eX:VL.wrap ((m:Int)+-1023)=X:=ak (by omega);have bc:decide ((n:Int)<0)=false:=decide_eq_false (by omega);have aY:=VH (show ER w 0 0 (fun _=>0) [] v (w'.drewN nq)from⟨c.out.2.1,c.out.2.2.drewN nq,VO (by decide:0<20) (Nat.le_trans c.out.1.gl c.out.1.le),fun m=>by have :=c.out.2.1.lt 0 m;have :=c.out.1.gl;omega,fun p hi=>absurd hi (by omega)⟩);obtain⟨aD,aB,h0⟩:=I;have h1:((i:Int)==0)=false:=beq_eq_false_iff_ne.2 (by omega);have bb:=c.out.1.num.opt;go_upto_block 2 with fail;go_cut[3,24](fun s3 aV wx=>s3=.int .i64 (n:Nat)/\aV=.int .i64 e/\w'.drewN nq=wx)
  case first=>
   by_cases ai:0<=X;case' pos=>have q1:decide (0<=X)=true:=decide_eq_true ai;obtain⟨Y,V⟩:∃Y,1+X=Y:=⟨_,rfl⟩;obtain⟨l,A⟩:∃l,Y*78913/262144=l:=⟨_,rfl⟩;have j:=VH (fun W=>o6 (w:=W) Y (by omega));rw[A]at j;obtain⟨d,U⟩:∃d,1+l=d:=⟨_,rfl⟩;have e3:VL.wrap (1+X)=Y:=ak (by omega);have e4:VL.wrap (1+l)=d:=ak (by omega);have e5:VL.wrap (d+(n:Int))=e:=by have :=M.out;rw[IntWalk.i64_in _ (by omega)];omega
   case' neg=>have q1:decide (0<=X)=false:=decide_eq_false ai;obtain⟨Y,V⟩:∃Y,-X=Y:=⟨_,rfl⟩;obtain⟨l,A⟩:∃l,Y*78913/262144=l:=⟨_,rfl⟩;have j:=VH (fun W=>o6 (w:=W) Y (by omega));rw[A]at j;obtain⟨d,U⟩:∃d,1+(n:Int)=d:=⟨_,rfl⟩;have e3:VL.wrap (-X)=Y:=ak (by omega);have e4:VL.wrap (1+(n:Int))=d:=ak (by omega);have e5:VL.wrap (d-l)=e:=by have :=M.out;rw[IntWalk.i64_in _ (by omega)];omega
   all_goals clear hX V A U;go_wp2_with fail;refine(j.out _).mono ?_;rintro _ _⟨rfl,rfl⟩;go_wp2_with fail;go_meet;exact⟨rfl,rfl,rfl⟩
  case rest=>
   obtain⟨rfl,rfl,rfl⟩:=hcut;clear M;have z:=an;have J:=ao;clear an ao;have bd:decide (e<=18)=true:=decide_eq_true aB;go_upto_region 68 with fail;have T:=show Holds gH ((w'.drewN nq).alloc (.cells (Wy 24 (.int .u8 0)) 365)) w'.heap.size 0 (Wy 24 (0:UInt8))/\aa ab w' ((w'.drewN nq).alloc (.cells (Wy 24 (.int .u8 0)) 365))/\w'.heap.size<((w'.drewN nq).alloc (.cells (Wy 24 (.int .u8 0)) 365)).heap.size from⟨Av _ _ 24,((aa.refl ab w').drewN nq).alloc _,by simp⟩;rw[show(Wy 24 (Value.int .u8 0))=#[.int .u8 0,.int .u8 0,.int .u8 0,.int .u8 0,.int .u8 0,.int .u8 0,.int .u8 0,.int .u8 0,.int .u8 0,.int .u8 0,.int .u8 0,.int .u8 0,.int .u8 0,.int .u8 0,.int .u8 0,.int .u8 0,.int .u8 0,.int .u8 0,.int .u8 0,.int .u8 0,.int .u8 0,.int .u8 0,.int .u8 0,.int .u8 0]from rfl]at T;generalize(w'.drewN nq).alloc (.cells #[.int .u8 0,.int .u8 0,.int .u8 0,.int .u8 0,.int .u8 0,.int .u8 0,.int .u8 0,.int .u8 0,.int .u8 0,.int .u8 0,.int .u8 0,.int .u8 0,.int .u8 0,.int .u8 0,.int .u8 0,.int .u8 0,.int .u8 0,.int .u8 0,.int .u8 0,.int .u8 0,.int .u8 0,.int .u8 0,.int .u8 0,.int .u8 0] 365)=w1 at*;have y:=VH T;clear T;have q0:decide (0<e)=true:=decide_eq_true h0;obtain⟨aJ,aK⟩:=Gf aD hM;have j:=VH (BK (w:=w1) i (by omega));generalize Lib.bitLen i=aw at*;obtain⟨S,hS⟩:∃S:Nat,64-aw=S:=⟨_,rfl⟩;have e3:VL.wrap (64-(aw:Int))=(S:Int):=ak (by omega);obtain⟨D,H,aZ⟩:=cW ((i:Int)*2^S);obtain⟨N,rfl⟩:∃N:Nat,e=(N:Int):=⟨e.toNat,by omega⟩;obtain⟨a,q,aF,aQ,aR,al⟩:=Jt D H (X-(S:Int)-52) N (n:Int) (by omega) (by omega) (by omega);have HF:=VH (al w1 B (c.out.1.aC y.out.2.1 fun _ _=>id));clear al;go_wp2_with fail;refine j.out.mono ?_;rintro _ _⟨rfl,rfl⟩;go_wp2_with fail;refine HF.out.mono ?_;rintro _ L⟨rfl,K⟩;have r:=VH (VJ (Au y.out.1 y.out.2.2 K) (VJ (y.out.2.1.same K) (VO y.out.2.2 K.size)));clear K;have aA:=VH (fun W(h:aa ab L W)=>hU.aC (r.out.2.1.same h) fun _ _=>id);go_upto_if 228 with fail;go_cut[26,27](fun aW aX wx=>∃(o:Int)(b:Nat)(f:Nat->Nat),aW=.int .i64 o/\aX=.int .i64 (b:Nat)/\b<=24/\(b=0->o=0)/\-400<=o/\o<=430/\(∀p,p<b->wx.cell? ⟨w'.heap.size,p,none⟩=some (.int .u8 (f p:Nat)))/\aa (af w'.heap.size) L wx)
   case first=>
    by_cases hz:a=0
    ·as_aux_lemma=>
      have g1:((a:Int)!=0)=false:=by subst hz;rfl
      go_wp2_with fail;go_meet;exact⟨0,0,fun _=>0,rfl,rfl,by decide,fun _=>rfl,by decide,by decide,fun p hi=>absurd hi (by omega),aa.refl _ _⟩
    ·as_aux_lemma=>
      have g1:((a:Int)!=0)=true:=by simp;omega
      have aN:=Lib.nDigits_le20 a (by omega);have aM:=Lib.nDigits_pos a;have ay:=VH (fun W(h:aa ab L W)=>Tryz.internal_strconv_numDigits a (by omega) (by omega) W (aA.out W h));have az:=VH (fun W(h:aa ab L W)=>Rw (w:=W) (blk:=w'.heap.size) (L:=24) (cap:=24) (Au r.out.1 r.out.2.2 h) a (by omega) q (by omega) (by omega) (by omega) (by omega));have ag:=VH (VJ (Tt hz) (Tu (gp a) (Wx a)));have t:=VH (show tz (gp a) (Wx a)<=24/\(tz (gp a) (Wx a)=0->((Wx a:Nat):Int)+q=0)/\-400<=((Wx a:Nat):Int)+q/\((Wx a:Nat):Int)+q<=430/\tz (gp a) (Wx a)<=Wx a from by have :=ag.out;omega);clear ag aN aM aJ aK z J hE hm aH aI hM H aQ aR aF C ha;generalize gp a=f at*;generalize Wx a=b at*;generalize tz f b=aS at*;go_upto_region 74 with fail;go_region_with(first|(go_at_call 262;refine(ay.out _ (by first|exact aa.refl _ _|exact(aa.refl _ _).drewN _)).mono ?_;rintro m bf⟨rfl,rfl⟩)|(go_at_call 278;refine(az.out _ (by first|exact aa.refl _ _|exact(aa.refl _ _).drewN _)).mono ?_;rintro m w4⟨rfl,I,G⟩;have H4:=VH (VJ I G);clear I G));all_goals go_wp2_with fail;go_meet;exact⟨(b:Int)+q,aS,f,rfl,rfl,t.out.1,t.out.2.1,t.out.2.2.1,t.out.2.2.2.1,fun p hi=>H4.out.1 p (VO hi t.out.2.2.2.2),((aa.refl _ _).drewN 1).same H4.out.2⟩
   case rest=>
    obtain⟨o,b,f,rfl,rfl,aL,aO,a_,a',aj,au⟩:=hcut;have ad:=VH (zA c.out.2.1 c.out.2.2 r.out.2.1 r.out.2.2 au aj);clear aj au;by_cases ar:b=0;. as_aux_lemma=>have aG:=aO ar;subst ar aG;have P:=VH (qN (dv:=.slice (some ⟨w'.heap.size,0,none⟩) 24 24) (neg:=s) ad.out C rfl);go_wp2_with fail;refine P.out.mono ?_;rintro m w5⟨v',rfl,F⟩;have u:=VH F;clear F;go_wp2_with fail;go_ret;refine⟨v',_,rfl,u.out.own,u.out.turns,?_⟩;have hz:(iY n).length<=30:=sI C;cases s<;>simp only[List.length_append,List.length_cons,List.length_nil,if_true]<;>simp<;>omega
    ·as_aux_lemma=>have P:=VH (zw (L:=24) (cap:=24) (neg:=s) (prec:=n) (dp:=o) (nd:=b) ad.out ⟨by omega,by omega⟩ ⟨by omega,by omega⟩ C aL (Nat.le_refl _) (by decide) rfl);have ax:=VH (Es s f (nd:=b) (dp:=o) (prec:=n) C (by omega));go_wp2_with fail;refine P.out.mono ?_;rintro m w5⟨v',rfl,F⟩;have u:=VH F;clear F;go_wp2_with fail;go_ret;exact⟨v',_,rfl,u.out.own,u.out.turns,ax.out⟩
end
end Go.Proofs.YtmddhediccmhbaaGreatDoor
