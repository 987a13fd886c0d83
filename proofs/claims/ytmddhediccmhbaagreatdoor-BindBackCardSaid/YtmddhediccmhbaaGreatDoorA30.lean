/- floats are written: nought. -/
import Derived.Lib.ItoaLen
import Derived.Test.YtmddhediccmhbaaGreatDoorA29
set_option linter.all false
set_option maxHeartbeats 400000000
set_option maxRecDepth 100000
namespace Go.Proofs.YtmddhediccmhbaaGreatDoor
open Go.RowKit
open Go.Proofs.Tryz
open Lib renaming hid→VH
open Lib renaming nDigits→Wx
open List renaming length_append→VK
open List renaming length_cons→VM
open Nat renaming le_trans→VS
variable {w w' U w1:World}{k n nd:Nat}{v:Value}{dp:Int}{l:List Nat}
def iY(a:Nat):List Nat:=if a=0 then[]else[46]++zs a
theorem qN{w0:World}{blk:Nat}{f:Nat->Nat}{dv:Value}{neg:Bool}(h:ER w0 blk nd f [] v w)(hp:k<=20)(K:(if neg then[45]else[])++[48]++iY k=l):Calls prog 276 #[v,.bool neg,dv,.int .i64 0,.int .i64 0,.int .i64 (k:Nat),.int .u8 102,.bool false] w fun e w'=>∃v',e=.returned v'/\ER w0 blk nd f l v' w':=by
 have H:=VH h;have J:=VH K;clear h K;obtain⟨i0,p,q,r,t⟩:=info_parts A.rm;go_enter func276,ntmps276;go_upto_if 178 with fail;go_cut[0](fun s0 wx=>ER w0 blk nd f (if neg then[45]else[]) s0 wx)
 case first=>
  cases neg with
  |false=>go_wp2_with fail;go_meet;exact H.out
  |true=>
   obtain⟨L,G,c0,rfl,b⟩:=H.out.iu;have a:=VH H.out;have c:=VH b;have aa:G<=5:=by rw[<-b];decide
   clear b;go_wp2_with(first|(at_builtin;refine aX _ rfl (.tmp 179) (.tmp 180) _ _ rfl _ 5 i0 _ 1 1 underlying102 p q r t rfl _ _ _ rfl ((a.out.ib c.out).alloc _) _ 1 [.int .u8 45] rfl (iv _ _) (by simp only[maxLen];omega) (by omega) (VS a.out.turns.size (by simp)) ?_;intro u E I m j d;have n:=VH (ER.ik _ a.out c.out 45 j m d);clear m j d));go_meet;exact n.out
 case rest=>
  rename_i s0 wx;have y:=VH hcut;clear hcut H;have T:(if neg then[45]else[]:List Nat).length<=1:=by cases neg<;>decide
  generalize(if neg then[45]else[]:List Nat)=C at*;obtain⟨Z,V,c9,rfl,b⟩:=y.out.iu;have c:=VH b;have Q:V<=1:=by omega
  have a:=y;clear b;go_upto_if 183 with fail;go_cut[0](fun s0 wx=>ER w0 blk nd f (C++[48]) s0 wx);case first=>go_wp2_with(first|(at_builtin;refine aX _ rfl (.tmp 209) (.tmp 210) _ _ rfl _ 5 i0 _ 1 1 underlying102 p q r t rfl _ _ _ rfl ((a.out.ib c.out).alloc _) _ 1 [.int .u8 48] rfl (iv _ _) (by simp only[maxLen];omega) (by omega) (VS a.out.turns.size (by simp)) ?_;intro u E I m j d;have n:=VH (ER.ik _ a.out c.out 48 j m d);clear m j d));go_meet;exact n.out
  case rest=>
   rename_i s1 wy;have z:=VH hcut;have ab:(C++[48]).length<=2100:=by simp;omega
   clear hcut y a c Q;generalize C++[48]=D at*;obtain⟨Y,U,c8,rfl,b⟩:=z.out.iu;have c:=VH b;have a:=z;have ad:U<=2100:=by omega
   clear b T;by_cases F:k=0
   ·have x:=VH (show iY k=[]from by unfold iY;rw[if_pos F]);have X:¬(0:Int)<(k:Int):=by omega
    go_wp2_with fail;go_ret;exact⟨_,rfl,by rw[<-J.out,x.out,List.append_nil];exact z.out⟩
   ·have X:(0:Int)<(k:Int):=by omega
    have x:=VH (show iY k=[46]++zs k from by unfold iY;rw[if_neg F]);have x2:min (k:Int) 0=0:=by omega
    have x4:IntKind.i64.wrap (k:Int)=(k:Int):=IntWalk.i64_in _ (by omega);have x8:max (0:Int) (k:Int)=(k:Int):=by omega
    clear F;go_wp2_with(first|(at_builtin;refine aX _ rfl (.tmp 214) (.tmp 215) _ _ rfl _ 5 i0 _ 1 1 underlying102 p q r t rfl _ _ _ rfl ((a.out.ib c.out).alloc _) _ 1 [.int .u8 46] rfl (iv _ _) (by simp only[maxLen];omega) (by omega) (VS a.out.turns.size (by simp)) ?_;intro u E I m j d;have n:=VH (ER.ik _ a.out c.out 46 j m d);clear m j d));go_loopg[0,240]0(fun g s0 o wr=>g=0/\o=.int .i64 0/\ER w0 blk nd f (D++[46]) s0 wr);case atStart=>exact⟨rfl,rfl,n.out⟩
    case round=>
     obtain⟨rfl,rfl,hrel⟩:=hrel;have M:=VH hrel;clear hrel;go_wp2_with fail;go_loopg[0,30,247]0(fun g s0 sc o wr=>g=0/\o=.int .i64 0/\ER w0 blk nd f (D++[46]) s0 wr);case atStart=>exact⟨rfl,rfl,M.out⟩
     case round=>
      obtain⟨rfl,rfl,hrel⟩:=hrel;have N:=VH hrel;clear hrel;go_wp2_with fail;go_loopg[0,261](k)(fun g s0 o wr=>∃i:Nat,g=k-i/\i<=k/\o=.int .i64 (i:Nat)/\ER w0 blk nd f ((D++[46])++zs i) s0 wr);case atStart=>exact⟨0,rfl,Nat.zero_le _,rfl,by rw[show zs 0=[]from rfl,List.append_nil];exact N.out⟩
      case round=>
       obtain⟨i,rfl,O,rfl,hrel⟩:=hrel;obtain⟨L,G,c0,rfl,b⟩:=hrel.iu;have c:=VH b;have a:=VH hrel;have S:G<=8000:=by rw[<-b];simp only[VK,jP,jC,VM,List.length_nil];omega
       by_cases P:i<k
       ·have W:(i:Int)<((k:Nat):Int):=by omega
        have q0:(0:Int)<=(i:Int):=by omega
        have e1:IntKind.i64.wrap ((i:Int)+1)=((i+1:Nat):Int):=ak (by omega);clear hrel b;go_wp2_with(first|(at_builtin;refine aX _ rfl (.tmp 263) (.tmp 264) _ _ rfl _ 5 i0 _ 1 1 underlying102 p q r t rfl _ _ _ rfl ((a.out.ib c.out).alloc _) _ 1 [.int .u8 48] rfl (iv _ _) (by simp only[maxLen];omega) (by omega) (VS a.out.turns.size (by simp)) ?_;intro u E I m j d;have n:=VH (ER.ik _ a.out c.out 48 j m d);clear m j d));go_roundg(k-(i+1));case measure=>omega
        case rel=>exact⟨i+1,rfl,by omega,rfl,by rw[sM,<-List.append_assoc];exact n.out⟩
       ·obtain rfl:k=i:=by omega
        have W:¬(((k:Nat):Int))<((k:Nat):Int):=by omega
        clear hrel S P O b;go_wp2_with fail;go_ret;exact⟨_,rfl,by rw[<-J.out,x.out,<-List.append_assoc];exact a.out⟩
section
open Go.RowKit Go.Sort
theorem yp(n:Nat)(w:World):(callFunc 273 #[.float .f64 n]).run prog w=.ok (.value (.int .u64 (n:Nat))) w:=by rw[run_callFunc_extern func273 (by kernel_rfl) (by kernel_rfl) (by kernel_rfl) (e:=Extern.MathFloatBits.float64bits) (by kernel_rfl)];rfl
theorem sI(a:k<=20):(iY k).length<=30:=by
 unfold iY;split;. decide
 ·simp only[VK,VM,List.length_nil,jC];omega
theorem Av(w:World)(t:TypeId)(n:Nat):Holds gH (w.alloc (.cells (Array.replicate n (.int .u8 0)) t)) w.heap.size 0 (Array.replicate n (0:UInt8)):=by
 intro j b;have c:j<n:=by simpa using b
 have a:=ad.new w t (Array.replicate n (.int .u8 0));refine⟨?_,by rw[Nat.zero_add];exact a.frozen j⟩;rw[Nat.zero_add,a.cell j,getElem!_pos _ j b];simp[c]
theorem Au{blk:Nat}{d:Array UInt8}(h:Holds gH w blk 0 d)(c:blk<w.heap.size)(i:aa ab w w'):Holds gH w' blk 0 d:=by intro j f;have e:=i.block blk c id;obtain⟨a,b⟩:=h j f;refine⟨(World.cell?_of_block e).trans a,?_⟩;rw[<-b];simp only[World.frozen?];rw[e]
theorem Tt(h:¬k=0):1<=tz (gp k) (Wx k):=by
 have b:gp k 0≠48:=by
  have c:=P2 h;have m:=Lib.lt_pow_nDigits k;have d:=Lib.nDigits_pos k;have e:10^Wx k=10^(Wx k-1)*10:=by rw[<-Nat.pow_succ];congr 1;omega
  unfold gp Lib.dg;rw[Nat.sub_zero];generalize 10^(Wx k-1)=p at*
  have j:0<p:=by
   rcases Nat.eq_zero_or_pos p with e|e;. subst e;omega
   ·exact e
  have o:1<=k/p:=(Nat.one_le_div_iff j).2 c;have f:k/p<10:=Nat.div_lt_of_lt_mul (by omega);have a:(UInt8.ofNat (48+k/p%10)).toNat=48+k/p:=by rw[Nat.mod_eq_of_lt f];simp;omega
  rw[a];omega
 have :∀n,1<=tz (gp k) (n+1):=by intro n;induction n with|zero=>unfold tz;rw[if_neg b];exact Nat.le_refl _|succ n l=>unfold tz;split;exact l;omega
 have d:=Lib.nDigits_pos k;obtain⟨n,i⟩:∃n,Wx k=n+1:=⟨Wx k-1,by omega⟩;rw[i];exact this n
theorem zA{f:Nat->Nat}(c:w'.ownsRow w.heap.size 5 1 v 0 [])(h:aa ab w w')(d:aa ab w' U)(l:w'.heap.size<U.heap.size)(a:aa (af w'.heap.size) U w1)(j:∀i,i<nd->w1.cell? ⟨w'.heap.size,i,none⟩=some (.int .u8 (f i:Nat))):ER w w'.heap.size nd f [] v w1:=by
 refine⟨a.own (d.own c fun _ _=>id) fun g k e=>?_,(h.same d).trans a fun b m e=>?_,Nat.lt_of_lt_of_le l a.size,fun e=>?_,j⟩;. have :=c.lt g k;have e:g=w'.heap.size:=e;omega
 ·have e:b=w'.heap.size:=e;have :=h.size;omega
 ·have :=c.lt _ e;omega
theorem Es(neg:Bool)(f:Nat->Nat){prec:Nat}(e:prec<=20)(d:dp<=600):((if neg then[45]else[])++gq f nd dp++kK f nd dp prec).length<=2000:=by
 have a:(gq f nd dp).length<=600:=by
  unfold gq;split;. rw[VK,jP,jC];omega
  ·decide
 have b:(kK f nd dp prec).length<=100:=by
  unfold kK;split;. decide
  ·simp only[VK,jP,jC,VM,List.length_nil,kJ,oO];omega
 rw[VK,VK];have c:((if neg then[45]else[]):List Nat).length<=1:=by cases neg<;>decide
 omega
theorem Gf(a:¬k=0)(h:k<9007199254740992):1<=Lib.bitLen k/\Lib.bitLen k<=53:=⟨(yo a (by omega)).1,Lib.bitLen_le k 53 (by decide) h⟩
def tc(b:World)(e:Ending)(a:World):Prop:=∃v T,e=.returned v/\a.ownsRow b.heap.size 5 1 v T.length (iO T)/\aa ab b a/\T.length<=2000
theorem zJ{s:Bool}(d:k<9218868437227405312)(c:Fl.ae s k=n):((n:Int)/9223372036854775808 !=0)=s/\(∃E m:Nat,k/4503599627370496=E/\k%4503599627370496=m/\E<=2046/\m<4503599627370496/\bits .and .i64 (wrap64 ((n:Int)/4503599627370496)) 2047=(E:Int)/\bits .and .u64 (n:Int) 4503599627370495=(m:Int)):=by
 subst c;have a:Fl.ae s k=(if s then 9223372036854775808 else 0)+k:=by cases s<;>simp[Fl.ae]
 have b:Fl.ae s k<18446744073709551616:=by rw[a];split<;>omega
 refine⟨?_,k/4503599627370496,k%4503599627370496,rfl,rfl,by omega,by omega,?_,?_⟩;. rw[a];cases s;all_goals simp;omega
 ·rw[yg];have hw:wrap64 ((Fl.ae s k:Nat)/4503599627370496:Int)=((Fl.ae s k:Nat)/4503599627370496:Int):=IntWalk.wrap64_in _ ⟨by omega,by omega⟩;rw[hw,a];cases s;all_goals simp;omega
 ·rw[show(4503599627370495:Int)=((4503599627370495:Nat):Int)from rfl,u64_and_nat _ _ b (by decide)];rw[show(4503599627370495:Nat)=2^52-1 from rfl,Nat.and_two_pow_sub_one_eq_mod,a];cases s;. simp
  ·simp;omega
theorem CM(h:k<4503599627370496):bits .or .u64 (k:Int) 4503599627370496=((k+4503599627370496:Nat):Int):=by rw[show(4503599627370496:Int)=((4503599627370496:Nat):Int)from rfl,u64_or_nat _ _ (by omega) (by decide)];have :=nat_join 52 4503599627370496 k (by decide) h;rw[Nat.or_comm]at this;rw[this,Nat.add_comm]
def oq(a b e M:Nat)(d:Int):Prop:=(a/4503599627370496=0/\e=1/\M=a%4503599627370496∨¬a/4503599627370496=0/\e=a/4503599627370496/\M=a%4503599627370496+4503599627370496)/\(1023<=(e:Int)/\d=1+(1+((e:Int)-1023))*78913/262144+b∨(e:Int)<1023/\d=1+b-(-((e:Int)-1023))*78913/262144)
theorem oq.ex(a c:Nat):∃(e M:Nat)(d:Int),oq a c e M d:=by
 obtain⟨e,M,h⟩:∃e M:Nat,(a/4503599627370496=0/\e=1/\M=a%4503599627370496∨¬a/4503599627370496=0/\e=a/4503599627370496/\M=a%4503599627370496+4503599627370496):=by
  by_cases h:a/4503599627370496=0;. exact⟨1,_,.inl ⟨h,rfl,rfl⟩⟩
  ·exact⟨_,_,.inr ⟨h,rfl,rfl⟩⟩
 by_cases b:1023<=(e:Int);. exact⟨e,M,_,h,.inl ⟨b,rfl⟩⟩
 ·exact⟨e,M,_,h,.inr ⟨by omega,rfl⟩⟩
end
end Go.Proofs.YtmddhediccmhbaaGreatDoor
