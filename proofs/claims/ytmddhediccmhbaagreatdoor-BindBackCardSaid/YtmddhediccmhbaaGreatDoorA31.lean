/- ftoa64, many digits. -/
import Derived.Test.YtmddhediccmhbaaGreatDoorA30
set_option linter.all false
set_option maxHeartbeats 400000000
set_option maxRecDepth 100000
namespace Go.Proofs.YtmddhediccmhbaaGreatDoor
open Go.RowKit
open Go.Proofs.Tryz
open And renaming intro→VJ
open _root_.Array renaming replicate→Wy
open IntKind renaming i64→VL
open Lib renaming hid→VH
open List renaming length_append→VK
open List renaming length_cons→VM
variable {w w':World}{k n m i:Nat}{v:Value}{e:Int}
section
open Go.RowKit Go.Sort
theorem Jr{B:Nat}(hT:bC w' B)(hU:gh w')(ho:w'.ownsRow w.heap.size 5 1 v 0 [])(ht:aa ab w w')(hB:B<=w.heap.size){s:Bool}(ha:k<9218868437227405312)(y:n<=20)(hD:oq k n m i e)(hc:i=0∨18<e∨e<=0):Calls prog 260 #[v,.float .f64 (Fl.ae s k),.int .u8 102,.int .i64 (n:Nat)] w' (tc w):=by
 obtain⟨x,Z⟩:∃x,Fl.ae s k=x:=⟨_,rfl⟩;have a6:=yp x;rw[Z];obtain⟨ba,E,aH,ar,aB,hE,hm,aY,aZ⟩:=zJ ha Z;obtain⟨F,r⟩:=hD;rw[ar,aB]at F;have aQ:=CM hm;obtain⟨N,aN⟩:∃N,aH+4503599627370496=N:=⟨_,rfl⟩;rw[aN]at aQ;have a_:1<=m:=by omega
 have a':m<=2046:=by omega
 have hM:i<9007199254740992:=by omega
 have ay:-400<=e:=by omega
 have az:e<=400:=by omega
 have J:=VH r;have K:=VH F;clear F r ar aB;have a:=VH (VJ hT (VJ ho ht));clear Z hT ho ht;go_enter func260,ntmps260;go_upto_region 14 with fail;go_quiet(fail);have aX:((E:Int)==2047)=false:=beq_eq_false_iff_ne.2 (by omega);go_upto_if 78 with fail;go_cut[14,15](fun aU aV wx=>aU=.int .i64 (m:Nat)/\aV=.int .u64 (i:Nat)/\w'.drewN nq=wx)
 case first=>
  by_cases h0:E=0
  ·have Q:((E:Int)==0)=true:=beq_iff_eq.2 (by omega);have e1:VL.wrap ((E:Int)+1)=((1:Nat):Int):=ak (by omega);have g1:m=1/\i=aH:=by have :=K.out;omega
   go_wp2_with fail;go_meet;exact⟨by rw[g1.1];rfl,by rw[g1.2],rfl⟩
  ·have Q:((E:Int)==0)=false:=beq_eq_false_iff_ne.2 (by omega);have g1:m=E/\i=N:=by have :=K.out;omega
   go_wp2_with fail;go_meet;exact⟨by rw[g1.1],by rw[g1.2],rfl⟩
 case rest=>
  obtain⟨rfl,rfl,rfl⟩:=hcut;clear K;obtain⟨X,hX⟩:∃X:Int,(m:Int)+-1023=X:=⟨_,rfl⟩;have eX:VL.wrap ((m:Int)+-1023)=X:=ak (by omega);have bc:decide ((n:Int)<0)=false:=decide_eq_false (by omega);have ag:=VH (show ER w 0 0 (fun _=>0) [] v (w'.drewN nq)from⟨a.out.2.1,a.out.2.2.drewN nq,Nat.lt_of_lt_of_le (by decide:0<20) (Nat.le_trans a.out.1.gl a.out.1.le),fun m=>by have :=a.out.2.1.lt 0 m;have :=a.out.1.gl;omega,fun p hi=>absurd hi (by omega)⟩);by_cases aM:i=0;. have Q:((i:Int)==0)=true:=beq_iff_eq.2 (by omega);have o:=VH (qN (dv:=.slice none 0 0) (neg:=s) ag.out y rfl);go_wp2_with fail;refine o.out.mono ?_;rintro m w2⟨q,rfl,d⟩;have c:=VH d;clear d;go_wp2_with fail;go_ret;refine⟨q,_,rfl,c.out.own,c.out.turns,?_⟩;have hz:(iY n).length<=30:=sI y;cases s<;>simp only[VK,VM,List.length_nil,if_true]<;>simp<;>omega
  ·have a7:18<e∨e<=0:=by omega
   clear hc;have Q:((i:Int)==0)=false:=beq_eq_false_iff_ne.2 (by omega);have bb:=a.out.1.num.opt;go_upto_block 2 with fail;go_cut[3,24](fun s3 aW wx=>s3=.int .i64 (n:Nat)/\aW=.int .i64 e/\w'.drewN nq=wx)
   case first=>
    by_cases av:0<=X;case' pos=>have q1:decide (0<=X)=true:=decide_eq_true av;obtain⟨Y,U⟩:∃Y,1+X=Y:=⟨_,rfl⟩;obtain⟨l,u⟩:∃l,Y*78913/262144=l:=⟨_,rfl⟩;have t:=VH (fun W=>o6 (w:=W) Y (by omega));rw[u]at t;obtain⟨j,T⟩:∃j,1+l=j:=⟨_,rfl⟩;have e3:VL.wrap (1+X)=Y:=ak (by omega);have e4:VL.wrap (1+l)=j:=ak (by omega);have e5:VL.wrap (j+(n:Int))=e:=by have :=J.out;rw[IntWalk.i64_in _ (by omega)];omega
    case' neg=>have q1:decide (0<=X)=false:=decide_eq_false av;obtain⟨Y,U⟩:∃Y,-X=Y:=⟨_,rfl⟩;obtain⟨l,u⟩:∃l,Y*78913/262144=l:=⟨_,rfl⟩;have t:=VH (fun W=>o6 (w:=W) Y (by omega));rw[u]at t;obtain⟨j,T⟩:∃j,1+(n:Int)=j:=⟨_,rfl⟩;have e3:VL.wrap (-X)=Y:=ak (by omega);have e4:VL.wrap (1+(n:Int))=j:=ak (by omega);have e5:VL.wrap (j-l)=e:=by have :=J.out;rw[IntWalk.i64_in _ (by omega)];omega
    all_goals clear hX U u T;go_wp2_with fail;refine(t.out _).mono ?_;rintro _ _⟨rfl,rfl⟩;go_wp2_with fail;go_meet;exact⟨rfl,rfl,rfl⟩
   case rest=>
    obtain⟨rfl,rfl,rfl⟩:=hcut;clear J;have F:=ay;have r:=az;clear ay az;by_cases an:e<=18
    ·have aS:decide (e<=18)=true:=decide_eq_true an;go_upto_region 68 with fail;have O:=show Holds gH ((w'.drewN nq).alloc (.cells (Wy 24 (.int .u8 0)) 365)) w'.heap.size 0 (Wy 24 (0:UInt8))/\aa ab w' ((w'.drewN nq).alloc (.cells (Wy 24 (.int .u8 0)) 365))/\w'.heap.size<((w'.drewN nq).alloc (.cells (Wy 24 (.int .u8 0)) 365)).heap.size from⟨Av _ _ 24,((aa.refl ab w').drewN nq).alloc _,by simp⟩;rw[show(Wy 24 (Value.int .u8 0))=#[.int .u8 0,.int .u8 0,.int .u8 0,.int .u8 0,.int .u8 0,.int .u8 0,.int .u8 0,.int .u8 0,.int .u8 0,.int .u8 0,.int .u8 0,.int .u8 0,.int .u8 0,.int .u8 0,.int .u8 0,.int .u8 0,.int .u8 0,.int .u8 0,.int .u8 0,.int .u8 0,.int .u8 0,.int .u8 0,.int .u8 0,.int .u8 0]from rfl]at O;generalize(w'.drewN nq).alloc (.cells #[.int .u8 0,.int .u8 0,.int .u8 0,.int .u8 0,.int .u8 0,.int .u8 0,.int .u8 0,.int .u8 0,.int .u8 0,.int .u8 0,.int .u8 0,.int .u8 0,.int .u8 0,.int .u8 0,.int .u8 0,.int .u8 0,.int .u8 0,.int .u8 0,.int .u8 0,.int .u8 0,.int .u8 0,.int .u8 0,.int .u8 0,.int .u8 0] 365)=w1 at*;have M:=VH O;clear O;have h0:¬0<e:=by omega
     have q0:decide (0<e)=false:=decide_eq_false h0;have o:=VH (qN (w0:=w) (w:=w1) (blk:=w'.heap.size) (nd:=0) (f:=fun _=>0) (v:=v) (dv:=.slice (some ⟨w'.heap.size,0,none⟩) 24 24) (neg:=s) ⟨M.out.2.1.own a.out.2.1 fun _ _=>id,a.out.2.2.same M.out.2.1,M.out.2.2,fun m=>by have :=a.out.2.1.lt _ m;omega,fun p hi=>absurd hi (by omega)⟩ y rfl);go_wp2_with fail;refine o.out.mono ?_;rintro m w2⟨q,rfl,d⟩;have c:=VH d;clear d;go_wp2_with fail;go_ret;refine⟨q,_,rfl,c.out.own,c.out.turns,?_⟩;have hz:(iY n).length<=30:=sI y;cases s<;>simp only[VK,VM,List.length_nil,if_true]<;>simp<;>omega
    ·have aS:decide (e<=18)=false:=decide_eq_false an;obtain⟨f,hk⟩:∃f,X-52=f:=⟨_,rfl⟩;have ek:VL.wrap (X-52)=f:=ak (by omega);obtain⟨P,a2,a3,a4⟩:=Dc.F7 (v:=i) (by omega) aM false;obtain⟨s1,s2,s3,s4⟩:=Dc.RG (k:=f) (by omega) P a2 ⟨a3,by omega⟩;obtain⟨r1,r2,r3,r4⟩:=Dc.Q6 ((Dc.shift f (Dc.assign i false)).dp+(n:Int)) s1 s2 ⟨s3,s4⟩;have I:=VH (VJ P (VJ s1 (VJ (VJ r2 (VJ r3 r4)) y)));have au:i<18446744073709551616:=by omega
     have ax:-1000000<=f/\f<=1000000:=by omega
     have aP:VL.wrap ((Dc.shift f (Dc.assign i false)).dp+(n:Int))=(Dc.shift f (Dc.assign i false)).dp+(n:Int):=IntWalk.i64_in _ (by omega);have aI:=VH (VJ hB ag.out.turns);go_upto_region 77 with fail;generalize aG:World.alloc _ _=wA;have z:=VH (show aT wA w'.heap.size false ⟨[],0,false⟩/\aa ab w' wA/\w'.heap.size<wA.heap.size from by rw[<-aG];exact⟨E4 (by rw[<-E3];exact ad.new (w'.drewN nq) _ _),((aa.refl ab w').drewN nq).alloc _,by simp⟩);clear aG;have bd:(w'.drewN nq).heap.size=w'.heap.size:=rfl;obtain⟨A0,ao,-,-⟩:=z.out.1.at_;have af:=VH (F9 ao au);clear ao;go_wp2_with fail;refine af.out.mono ?_;rintro _ w2⟨rfl,r,aD⟩;have A:=VH (VJ r aD);clear r aD;have T2:=VH (z.out.2.1.trans A.out.2 fun b hb m=>by have m:b=w'.heap.size:=m;omega);have aL:B<=w'.heap.size:=Nat.le_trans aI.out.1 a.out.2.2.size;have aj:=VH (pH A.out.1 I.out.1 (a.out.1.aC T2.out fun _ _=>id) aL f ax ⟨by omega,by omega⟩);generalize Dc.shift f (Dc.assign i false)=D at*;clear P a2 a3 a4 s1 s2 r1 r2 r3 r4 au ax T2 af;go_wp2_with fail;refine aj.out.mono ?_;rintro _ w3⟨rfl,aw,aE⟩;have C:=VH (VJ aw (A.out.2.same aE));clear aw aE A aj;obtain⟨A3,aq,-,-⟩:=C.out.1.at_;obtain⟨-,f1,-,-,-,fz⟩:=aq.facts;have ai:=VH (Q7 C.out.1 ⟨by omega,by omega⟩ (D.dp+(n:Int)));clear aq;go_wp2_with fail;refine ai.out.mono ?_;rintro _ w4⟨rfl,V,aF⟩;have T4:=VH (C.out.2.same aF);clear f1 fz aF ai C aP s3 s4;obtain⟨A4,S,-,-⟩:=V.at_;obtain⟨aA,aR⟩:=V.len;obtain⟨g0,g1,-,-,-,gz⟩:=S.facts;have L:=I.out.2.2.1;have G:=I.out.2.2.2;have aK:=VH (show(Dc.round (D.dp+(n:Int)) D).ds.length=0->(Dc.round (D.dp+(n:Int)) D).dp=0 from fun m=>L.1 (List.eq_nil_of_length_eq_zero m));have a8:=L.2;clear V L;generalize(Dc.round (D.dp+(n:Int)) D).ds.length=H at*;generalize(Dc.round (D.dp+(n:Int)) D).dp=al at*;have ah:=VH (fun W(h:aa ab w4 W)=>zA (f:=fun p=>A4.getD p 0) (nd:=H) a.out.2.1 a.out.2.2 z.out.2.1 z.out.2.2 (T4.out.same (h.mono fun _ _ m=>m.elim)) (fun p hi=>(h.cell (p:=⟨w'.heap.size,p,none⟩) aR id).trans (S.cell (by omega))));clear S;by_cases aC:H=0;. have aO:=aK.out aC;subst aC aO;have o:=VH (fun W(h:aa ab w4 W)=>qN (dv:=.slice (some ⟨w'.heap.size,0,none⟩) 800 800) (neg:=s) (ah.out W h) G rfl);go_upto_region 90 with fail;go_region_with(go_at_call 276;refine(o.out _ (by first|exact aa.refl _ _|exact(aa.refl _ _).drewN _)).mono ?_;rintro m w5⟨q,rfl,d⟩;have c:=VH d;clear d);all_goals go_wp2_with fail;go_ret;refine⟨q,_,rfl,c.out.own,c.out.turns,?_⟩;have hz:(iY n).length<=30:=sI G;cases s<;>simp only[VK,VM,List.length_nil,if_true]<;>simp<;>omega
     ·have o:=VH (fun W(h:aa ab w4 W)=>zw (L:=800) (cap:=800) (neg:=s) (prec:=n) (dp:=al) (nd:=H) (ah.out W h) ⟨by omega,aA⟩ ⟨by omega,by omega⟩ G aA (Nat.le_refl _) (by decide) rfl);have aJ:=VH (Es s (fun p=>A4.getD p 0) (nd:=H) (dp:=al) (prec:=n) G (by omega));go_upto_region 90 with fail;go_region_with(go_at_call 276;refine(o.out _ (by first|exact aa.refl _ _|exact(aa.refl _ _).drewN _)).mono ?_;rintro m w5⟨q,rfl,d⟩;have c:=VH d;clear d);all_goals go_wp2_with fail;go_ret;exact⟨q,_,rfl,c.out.own,c.out.turns,aJ.out⟩
end
end Go.Proofs.YtmddhediccmhbaaGreatDoor
