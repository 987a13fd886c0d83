/- package cell and the small functions of package format. -/
import Derived.Deep.LoopGhost
import Derived.Defers
import Derived.Recover
import Derived.Laws.Pointers
import Derived.Deep.CutBlock
import Derived.Deep.DeepCutAuto
import Derived.StillTailTactics
import Derived.Deep.RegionLaw
import Derived.Deep.RegionWith
import Derived.Laws.Cover4
import Derived.Laws.RangeAny
import Derived.Test.YtmddhediccmhbaaGreatDoorA02
set_option linter.all false
set_option maxHeartbeats 400000000
set_option maxRecDepth 100000
namespace Go.Proofs.YtmddhediccmhbaaGreatDoor
open Go.RowKit
open Tryz
open And renaming intro→VJ
open _root_.Array renaming getElem?_eq_some_iff→VV
open IntKind renaming i64→VL
open Lib renaming hid→VH
open List renaming eq_nil_of_length_eq_zero→VP
open List renaming length_append→VK
open Nat renaming le_refl→VN
open Nat renaming le_trans→VS
open Nat renaming zero_le→VQ
open Tryz renaming prog→VI
open Utf8 renaming decode→Xe
open World renaming ownsRow_nil→Wg
variable {w w' U w1:World}{k n m i g:Nat}{v:Value}{e r c C dp:Int}{s:ByteArray}{S:Nat->Prop}{X:List ByteArray}
def oQ(e:Int):List PanicEntry:=[{v:=.iface 30 (.int .i64 e),recovered:=false}]
theorem GP(f:i<=s.size)(N:s.size<=100000):Calls VI 141 #[.string s,.int .i64 (i:Nat)] w fun e w'=>(e=.returned (.int .i64 (-1))∨∃r:Nat,i<=r/\r<s.size/\e=.returned (.int .i64 (r:Nat)))/\w=w':=by
 go_enter func141,ntmps141;go_wp2_with fail;go_loopg[1,5](s.size-i)(fun g s1 n wr=>∃k D:Nat,g=s.size-k/\i<=k/\k<=s.size/\(1<=D/\D<=k+1)/\s1=.int .i64 (k:Nat)/\n=.int .i64 (D:Nat)/\w=wr);case atStart=>exact⟨i,1,rfl,VN _,f,⟨VN _,by omega⟩,rfl,rfl,rfl⟩
 case round=>
  obtain⟨k,D,rfl,h,J,H,rfl,rfl,rfl⟩:=hrel;by_cases d:k<s.size
  ·skip;have L:k<s.size:=d;have l:(k:Int)<(s.size:Int):=by omega
   have Q:(0:Int)<=(k:Int):=by omega
   have C:VL.wrap ((k:Int)+1)=((k+1:Nat):Int):=ak (by omega);generalize K:k+1=a at*;generalize O:s[k]=x at*;have G:VL.wrap ((D:Int)+1)=((D+1:Nat):Int):=ak (by omega);cases o:((x.toNat:Int)==125)
   case true=>
    have F:VL.wrap ((D:Int)-1)=((D-1:Nat):Int):=ak (by omega);generalize I:D-1=b at*;by_cases q:(b:Int)=0;. have c:((b:Int)==0)=true:=beq_iff_eq.2 q;clear q;go_wp2_with fail;go_ret;exact⟨.inr ⟨k,h,d,rfl⟩,rfl⟩
    ·have c:((b:Int)==0)=false:=beq_eq_false_iff_ne.2 q;clear q;go_wp2_with fail;go_roundg(s.size-a);case measure=>omega
     case rel=>exact⟨a,b,rfl,by omega,by omega,⟨by have :=beq_eq_false_iff_ne.1 c;omega,by omega⟩,rfl,rfl,rfl⟩
   case false=>
    cases p:((x.toNat:Int)==35)
    case' true=>
     by_cases j:a<s.size
     case' pos=>
      have m:((a:Nat):Int)<(s.size:Int):=by omega
      have S:(0:Int)<=(a:Int):=by omega
      have E:VL.wrap ((a:Int)+1)=((a+1:Nat):Int):=ak (by omega);have M:=j;generalize P:s[a]=y at*;cases t:((y.toNat:Int)==123);case' false=>cases u:((y.toNat:Int)==35)
      case' false=>cases z:((y.toNat:Int)==44)
      case' false=>cases A:((y.toNat:Int)==125)
     case' neg=>have m:¬((a:Nat):Int)<(s.size:Int):=by omega
    all_goals go_wp2_with fail;first|(go_roundg(s.size-a);(case measure=>omega);case rel=>first|exact⟨a,D,rfl,by omega,by omega,by omega,rfl,rfl,rfl⟩|exact⟨a,D-1,rfl,by omega,by omega,by omega,rfl,rfl,rfl⟩)|(go_roundg(s.size-(a+1));(case measure=>omega);case rel=>first|exact⟨a+1,D+1,rfl,by omega,by omega,by omega,rfl,rfl,rfl⟩|exact⟨a+1,D,rfl,by omega,by omega,by omega,rfl,rfl,rfl⟩)
  ·have l:¬(k:Int)<(s.size:Int):=by omega
   go_wp2_with fail;go_ret;exact⟨.inl rfl,rfl⟩
theorem CT(c:Int)(L:s.size<=100000):Calls VI 170 #[.string s,.int .u8 c] w fun e w'=>(e=.returned (.int .i64 (-1))∨∃r:Nat,r<s.size/\e=.returned (.int .i64 (r:Nat)))/\w=w':=by
 go_enter func170,ntmps170;go_wp2_with fail;go_loopg[5,6]s.size(fun g l m wr=>∃k D:Nat,g=s.size-k/\0<=k/\k<=s.size/\D<=k/\m=.int .i64 (k:Nat)/\l=.int .i64 (D:Nat)/\w=wr);case atStart=>exact⟨0,0,rfl,VN _,VQ _,VN _,rfl,rfl,rfl⟩
 case round=>
  obtain⟨k,D,rfl,G,H,F,rfl,rfl,rfl⟩:=hrel;by_cases b:k<s.size
  ·skip;have J:k<s.size:=b;have i:(k:Int)<(s.size:Int):=by omega
   have O:(0:Int)<=(k:Int):=by omega
   have z:VL.wrap ((k:Int)+1)=((k+1:Nat):Int):=ak (by omega);generalize I:k+1=a at*;generalize M:s[k]=x at*;have E:VL.wrap ((D:Int)+1)=((D+1:Nat):Int):=ak (by omega);cases u:((D:Int)==0);case' true=>cases n:((x.toNat:Int)==c)
   case true.true=>go_wp2_with fail;go_ret;exact⟨.inr ⟨k,b,rfl⟩,rfl⟩
   all_goals
    cases d:((x.toNat:Int)==125)
    case' true=>
     by_cases g:0<(D:Int);case' pos=>have C:VL.wrap ((D:Int)-1)=((D-1:Nat):Int):=ak (by omega);have g1:decide (0<(D:Int))=true:=decide_eq_true g
     case' neg=>have g1:decide (0<(D:Int))=false:=decide_eq_false g;have f:((x.toNat:Int)==35)=false:=by have :=beq_iff_eq.1 d;exact beq_eq_false_iff_ne.2 (by omega)
    case' false=>
     cases f:((x.toNat:Int)==35)
     case' true=>
      by_cases h:a<s.size
      case' pos=>
       have j:((a:Nat):Int)<(s.size:Int):=by omega
       have P:(0:Int)<=(a:Int):=by omega
       have A:VL.wrap ((a:Int)+1)=((a+1:Nat):Int):=ak (by omega);have K:=h;generalize N:s[a]=y at*;cases o:((y.toNat:Int)==123);case' false=>cases p:((y.toNat:Int)==35)
       case' false=>cases q:((y.toNat:Int)==44)
       case' false=>cases t:((y.toNat:Int)==125)
      case' neg=>have j:¬((a:Nat):Int)<(s.size:Int):=by omega
    all_goals go_wp2_with fail;first|(go_roundg(s.size-a);(case measure=>omega);case rel=>first|exact⟨a,D,rfl,by omega,by omega,by omega,rfl,rfl,rfl⟩|exact⟨a,D-1,rfl,by omega,by omega,by omega,rfl,rfl,rfl⟩)|(go_roundg(s.size-(a+1));(case measure=>omega);case rel=>first|exact⟨a+1,D+1,rfl,by omega,by omega,by omega,rfl,rfl,rfl⟩|exact⟨a+1,D,rfl,by omega,by omega,by omega,rfl,rfl,rfl⟩)
  ·have i:¬(k:Int)<(s.size:Int):=by omega
   go_wp2_with fail;go_ret;exact⟨.inl rfl,rfl⟩
def Fx(S:Nat->Prop)(w:World)(Q:Value->World->Prop)(e:Ending)(a:World):Prop:=aa S w a/\((∃k,e=.panicked (oQ k))∨∃v,e=.returned v/\Q v a)
structure bf(w:World)(M S:Nat)(deep steps:Int):Prop where
 mb:ad w M 221 #[.slice (some ⟨S,0,none⟩) 1 1,.int .i64 deep,.int .i64 steps]
 sc:ad w S 46 #[.slice none 0 0,.slice none 0 0]
 ne:M≠S
theorem bf.cells(h:bf w k n e r):w.cell? ⟨k,0,none⟩=some (.slice (some ⟨n,0,none⟩) 1 1)/\w.cell? ⟨k,1,none⟩=some (.int .i64 e)/\w.cell? ⟨k,2,none⟩=some (.int .i64 r)/\w.cell? ⟨n,0,none⟩=some (.slice none 0 0)/\w.cell? ⟨n,1,none⟩=some (.slice none 0 0)/\w.frozen? ⟨k,1,none⟩=false/\w.frozen? ⟨k,2,none⟩=false:=⟨h.mb.cell 0,h.mb.cell 1,h.mb.cell 2,h.sc.cell 0,h.sc.cell 1,h.mb.frozen 1,h.mb.frozen 2⟩
theorem bf.still(h:bf w k n e r)(a:aa ab w w'):bf w' k n e r:=⟨a.blk h.mb id,a.blk h.sc id,h.ne⟩
theorem bf.aC{S:Nat}{T:Nat->Prop}(h:bf w k S e r)(a:aa T w w')(b:¬T k)(c:¬T S):bf w' k S e r:=⟨a.blk h.mb b,a.blk h.sc c,h.ne⟩
theorem bf.j_(h:bf w k n r c)(d:Int):bf (w.setCell ⟨k,1,none⟩ (.int .i64 d)) k n d c:=⟨h.mb.aj 1 _,h.sc.an (p:=⟨k,1,none⟩) (fun e=>h.ne e.symm) _,h.ne⟩
theorem bf.pG(h:bf w k n r c)(a:Int):bf (w.setCell ⟨k,2,none⟩ (.int .i64 a)) k n r a:=⟨h.mb.aj 2 _,h.sc.an (p:=⟨k,2,none⟩) (fun e=>h.ne e.symm) _,h.ne⟩
theorem gB(w:World)(e:Int):Calls VI 142 #[.bool true,.int .i64 e] w fun a w'=>a=.returned (.tuple #[])/\w=w':=by go_enter func142,ntmps142;go_wp2_with fail;go_end0;exact⟨rfl,rfl⟩
theorem eF(w:World)(e:Int):Calls VI 142 #[.bool false,.int .i64 e] w fun a w'=>a=.panicked (oQ e)/\w=w':=by go_enter func142,ntmps142;go_wp2_with fail;exact⟨rfl,rfl,rfl⟩
theorem pI(w:World)(s:ByteArray):Calls VI 161 #[.string s] w (Fx ab w fun v _=>v=.string s/\s.size<=8192):=by
 by_cases h:s.size<=8192;. have g:decide ((s.size:Int)<=8192)=true:=decide_eq_true (by omega);go_enter func161,ntmps161;go_wp2_with(go_at_call 142;refine(gB _ _).mono ?_;rintro a b⟨rfl,rfl⟩);go_ret;exact⟨aa.refl _ _,.inr ⟨_,rfl,rfl,h⟩⟩
 ·have g:decide ((s.size:Int)<=8192)=false:=decide_eq_false (by omega);go_enter func161,ntmps161;go_wp2_with(go_at_call 142;refine(eF _ _).mono ?_;rintro a b⟨rfl,rfl⟩);exact⟨rfl,aa.refl _ _,.inl ⟨_,rfl⟩⟩
theorem lq(w:World)(s:ByteArray):Calls VI 54 #[.string s] w fun e w'=>(∃b,e=.returned (.bool b))/\w=w':=by cases g1:s.toList==([]:List UInt8)with|true=>go_enter func54,ntmps54;go_wp2_with fail;go_ret;exact⟨⟨_,rfl⟩,rfl⟩|false=>cases a:s.toList==([48]:List UInt8)with|true=>go_enter func54,ntmps54;go_wp2_with fail;go_ret;exact⟨⟨_,rfl⟩,rfl⟩|false=>go_enter func54,ntmps54;go_wp2_with fail;go_ret;exact⟨⟨_,rfl⟩,rfl⟩
theorem I'(w:World)(b:Bool):Calls VI 172 #[.bool b] w fun e w'=>(∃s:ByteArray,s.size=1/\e=.returned (.string s))/\w=w':=by cases b;all_goals go_enter func172,ntmps172;go_wp2_with fail;go_ret;exact⟨⟨_,rfl,rfl⟩,rfl⟩
theorem z7(w:World)(c:Int):Calls VI 144 #[.int .u8 c] w fun e w'=>(∃s:ByteArray,s.size<=12/\e=.returned (.string s))/\w=w':=by cases g0:c==(83:Int)with|true=>go_enter func144,ntmps144;go_wp2_with fail;go_ret;exact⟨⟨_,by decide,rfl⟩,rfl⟩|false=>cases g1:c==(87:Int)with|true=>go_enter func144,ntmps144;go_wp2_with fail;go_ret;exact⟨⟨_,by decide,rfl⟩,rfl⟩|false=>cases a:c==(73:Int)with|true=>go_enter func144,ntmps144;go_wp2_with fail;go_ret;exact⟨⟨_,by decide,rfl⟩,rfl⟩|false=>cases g3:c==(80:Int)with|true=>go_enter func144,ntmps144;go_wp2_with fail;go_ret;exact⟨⟨_,by decide,rfl⟩,rfl⟩|false=>cases g4:c==(70:Int)with|true=>go_enter func144,ntmps144;go_wp2_with fail;go_ret;exact⟨⟨_,by decide,rfl⟩,rfl⟩|false=>cases b:c==(84:Int)with|true=>go_enter func144,ntmps144;go_wp2_with fail;go_ret;exact⟨⟨_,by decide,rfl⟩,rfl⟩|false=>cases g6:c==(68:Int)with|true=>go_enter func144,ntmps144;go_wp2_with fail;go_ret;exact⟨⟨_,by decide,rfl⟩,rfl⟩|false=>cases d:c==(72:Int)with|true=>go_enter func144,ntmps144;go_wp2_with fail;go_ret;exact⟨⟨_,by decide,rfl⟩,rfl⟩|false=>go_enter func144,ntmps144;go_wp2_with fail;go_ret;exact⟨⟨_,by decide,rfl⟩,rfl⟩
theorem IU(w:World)(a:ByteArray):Calls VI 163 #[.agg #[.slice none 0 0,.slice none 0 0],.string a] w fun e w'=>e=.returned (.tuple #[.string ⟨#[]⟩,.bool false])/\aa ab w w':=by go_enter func163,ntmps163;go_wp2_with fail;refine wp_loop_rounds 1 ?_;rw[rounds_succ];go_wp2_with fail;refine bodyPost_ret (results_tmp2 rfl _ _ _) rfl ?_;exact⟨rfl,(aa.refl _ _).alloc _⟩
theorem sA(h:bf w k n r c)(d:ByteArray):Calls VI 145 #[.pointer (some ⟨k,0,none⟩),.string d] w fun e w'=>e=.returned (.tuple #[.string ⟨#[]⟩,.bool false])/\aa ab w w':=by obtain⟨c0,c1,c2,s0,s1,-,-⟩:=h.cells;have H:=VH h;clear h;go_enter func145,ntmps145;go_wp2_with fail;refine wp_loop_rounds 2 ?_;rw[rounds_succ];go_wp2_with(go_at_call 163;refine(IU _ _).mono ?_;rintro f i⟨rfl,a⟩;have b:=VH a;clear a);rw[rounds_succ];go_wp2_with fail;refine bodyPost_ret (results_tmp2 rfl _ _ _) rfl ?_;exact⟨rfl,b.out⟩
theorem SI(h:bf w k n e (m:Nat))(o:m<=100000):Calls VI 160 #[.pointer (some ⟨k,0,none⟩)] w (Fx (af k) w fun v b=>v=.tuple #[]/\m+1<=10000/\bf b k n e ((m+1:Nat):Int)):=by
 obtain⟨c0,c1,c2,s0,s1,i,j⟩:=h.cells;have l:=h.mb.lt;have H:=VH h;have f:VL.wrap ((m:Int)+1)=((m+1:Nat):Int):=ak (by omega);clear h;generalize p:m+1=a at*;by_cases d:a<=10000;. have g:decide ((a:Int)<=10000)=true:=decide_eq_true (by omega);go_enter func160,ntmps160;go_wp2_with(go_at_call 142;refine(gB _ _).mono ?_;rintro c b⟨rfl,rfl⟩);go_end0;exact⟨(aa.refl (af k) w).setCell (p:=⟨k,2,none⟩) (.inl rfl) _,.inr ⟨_,rfl,rfl,d,H.out.pG _⟩⟩
 ·have g:decide ((a:Int)<=10000)=false:=decide_eq_false (by omega);go_enter func160,ntmps160;go_wp2_with(go_at_call 142;refine(eF _ _).mono ?_;rintro c b⟨rfl,rfl⟩);exact⟨rfl,(aa.refl (af k) w).setCell (p:=⟨k,2,none⟩) (.inl rfl) _,.inl ⟨_,rfl⟩⟩
def strs(l:List ByteArray):List Value:=l.map Value.string
theorem Eh(a b:List ByteArray):strs (a++b)=strs a++strs b:=List.map_append
theorem A.ux:(VI.info? 9).map (fun i=>(i.zero,i.size,i.bytes))=some (some (.string ⟨#[]⟩),1,16):=by kernel_rfl
theorem se(w:World)(u:ByteArray):Src VI 1 51 (.slice (some ⟨w.heap.size,0,none⟩) 1 1) 1 [.string u] (w.alloc (.cells #[.string u] 9)):=by
 refine Src.ofSlice _ underlying51 ⟨_,0,none⟩ 1 1 _ rfl (fun j u b=>?_) (by simp[Value.oneCell']);have a:(⟨w.heap.size,0,none⟩:Addr).add j=⟨w.heap.size,j,none⟩:=by unfold Addr.add;split<;>simp_all
 rw[a,cell_of_row _ w.heap.size _ _ _ (0,0) (heap_alloc_new w _),<-b];simp
theorem Sw(h:ad w g 9 #[.string s]):Src VI 1 51 (.slice (some ⟨g,0,none⟩) 1 1) 1 [.string s] w:=by
 refine Src.ofSlice _ underlying51 ⟨_,0,none⟩ 1 1 _ rfl (fun j s b=>?_) (by simp[Value.oneCell']);have a:(⟨g,0,none⟩:Addr).add j=⟨g,j,none⟩:=by unfold Addr.add;split<;>simp_all
 rw[a,h.cell j,<-b];simp
structure fH(w:World)(n:Nat)(L:List ByteArray)(v:Value)(wr:World):Prop where
 own:wr.ownsRow w.heap.size 9 1 v L.length (strs L)
 turns:aa ab w wr
 fit:∀x∈L,x.size<=n
def Fv(w:World)(n N:Nat)(e:Ending)(a:World):Prop:=∃v L,e=.returned v/\1<=L.length/\L.length<=N/\fH w n L v a
theorem fH.sl(h:fH w k X v w'):∃A m c,v=.slice A m c/\X.length=m:=by obtain⟨A,c,e⟩:=aE h.own;exact⟨A,_,c,e,rfl⟩
theorem fH.row(h:fH w k X v w')(b:aa ab w' U)(a:X.length=n):U.ownsRow w.heap.size 9 1 v n (strs X):=by subst a;exact b.own h.own fun _ _=>id
theorem fH.push{w2:World}{A:Option Addr}{u:ByteArray}(h:fH w k X v w')(c:X.length=n)(j:u.size<=k)(i:aa ab w' U)(f:w2.ownsRow w.heap.size 9 1 (.slice A (n+1) m) (n+1) (strs X++[.string u]))(d:U.grownBy w2 v.ownBlock):fH w k (X++[u]) (.slice A (n+1) m) w2:=by
 subst c;refine⟨by rw[VK,Eh];exact f,?_,fun x a=>?_⟩;. refine(h.turns.same i).grown d fun b o e=>?_;have :=h.own.lt b e;omega
 ·rcases List.mem_append.1 a with a|a;. exact h.fit x a
  ·rw[List.mem_singleton.1 a];exact j
theorem jm(s:ByteArray)(a b:Nat):(s.extract a b).size<=s.size:=by rw[ByteArray.size_extract];omega
theorem vH(M:s.size<=100000)(N:Nat)(U:1<=N/\N<=10):Calls VI 180 #[.string s,.int .i64 (N:Nat)] w (Fv w s.size N):=by
 obtain⟨i0,q,u,x,y⟩:=info_parts A.ux;have X:VL.wrap ((N:Int)-1)=((N-1:Nat):Int):=ak (by omega);obtain⟨n,J⟩:∃n,s.size=n:=⟨_,rfl⟩;rw[J]at M⊢;generalize V:N-1=b at*;go_enter func180,ntmps180;go_wp2_with fail;go_loopg[0,5,6]b(fun g s0 P _ wr=>∃(t:ByteArray)(L:List ByteArray),g=b-L.length/\L.length<=b/\t.size<=n/\s0=.string t/\fH w n L P wr);case atStart=>exact⟨s,[],rfl,VQ _,by omega,rfl,Wg _ _ _ _,aa.refl _ _,fun _ h=>by cases h⟩
 case round=>
  obtain⟨t,L,rfl,H,k,rfl,j⟩:=hrel;obtain⟨D,m,c0,rfl,o⟩:=j.sl;have c:=VH j;have a:=VH o;rw[o]at H;have Z:=j.turns.size;clear j o;by_cases W:m<b
  ·have O:(m:Int)<(b:Int):=by omega
   go_wp2_with fail;refine(CT (s:=t) 44 (by omega)).mono ?_;rintro e w1⟨rfl|⟨r,Y,rfl⟩,rfl⟩;. go_wp2_with(at_builtin;refine aX _ rfl (.tmp 26) (.tmp 28) _ _ rfl _ 9 i0 _ 1 16 underlying51 q u x y rfl _ _ _ rfl (c.out.row ((aa.refl _ wr).alloc _) a.out) _ _ _ rfl (se _ _) (by simp only[maxLen];omega) (by omega) (by simp;omega) ?_;intro E F Q i f p;have d:=VH (c.out.push a.out k ((aa.refl _ wr).alloc _) i f);clear i f p);go_ret;exact⟨_,L++[t],rfl,by simp,by rw[VK,a.out];simp;omega,d.out⟩
   ·have q0:¬(r:Int)<0:=by omega
    have q1:(0:Int)<=(r:Int):=by omega
    have q2:(r:Int)<=(t.size:Int):=by omega
    have G:VL.wrap ((r:Int)+1)=((r+1:Nat):Int):=ak (by omega);obtain⟨l,K⟩:∃l,r+1=l:=⟨_,rfl⟩;rw[K]at G;have q3:(0:Int)<=(l:Int):=by omega
    have q4:(l:Int)<=(t.size:Int):=by omega
    go_upto_region 5 with fail;go_region_law(refine iw _ (by rfl) _ _ _ _ (by rfl) w.heap.size 9 i0 _ 1 16 underlying51 q u x y (by rfl) (.slice D m c0) m (strs L) (by rfl) (by exact c.out.row (by first|exact(aa.refl _ wr).alloc _|exact((aa.refl _ wr).drewN _).alloc _|exact(((aa.refl _ wr).drewN 1).drewN _).alloc _) a.out) _ 1 [.string (t.extract 0 r)] (by rfl) (by exact Sw (ad.new wr _ _)) (by simp only[maxLen];omega) (by omega) (by simp;omega) ?_;intro S T w6 C z I;have d:=VH (c.out.push a.out (VS (jm t 0 r) k) (by first|exact(aa.refl _ wr).alloc _|exact((aa.refl _ wr).drewN _).alloc _|exact(((aa.refl _ wr).drewN 1).drewN _).alloc _) C z);clear C z I)
    all_goals
     go_wp2_with fail;go_roundg(b-(L++[t.extract 0 r]).length);case measure=>rw[VK,a.out];simp;omega
     case rel=>exact⟨_,_,rfl,by rw[VK,a.out];simp;omega,VS (jm t _ _) k,rfl,d.out⟩
  ·have O:¬(m:Int)<(b:Int):=by omega
   go_wp2_with(at_builtin;refine aX _ rfl (.tmp 26) (.tmp 28) _ _ rfl _ 9 i0 _ 1 16 underlying51 q u x y rfl _ _ _ rfl (c.out.row ((aa.refl _ wr).alloc _) a.out) _ _ _ rfl (se _ _) (by simp only[maxLen];omega) (by omega) (by simp;omega) ?_;intro E F Q i f p;have d:=VH (c.out.push a.out k ((aa.refl _ wr).alloc _) i f);clear i f p);go_ret;exact⟨_,L++[t],rfl,by simp,by rw[VK,a.out];simp;omega,d.out⟩
def cY(l:List Int):List Value:=l.map (Value.int .i32)
def ba(w:World)(D:Nat):Prop:=∃r h m a b:Int,ad w D 371 #[.int .i32 r,.int .i64 h,.int .i64 m,.int .u8 a,.int .u8 b]
def qn(w:World)(D:Nat)(n:Nat)(e:Ending)(a:World):Prop:=∃v l,e=.returned v/\l.length<=n/\a.ownsRow w.heap.size 21 1 v l.length (cY l)/\ba a D/\aa (af D) w a
theorem Oy(w:World):Calls VI 249 #[] w fun e w'=>e=.returned (.pointer (some ⟨w.heap.size,0,none⟩))/\ba w' w.heap.size/\aa ab w w':=by go_enter func249,ntmps249;go_wp2_with fail;go_ret;exact⟨rfl,⟨0,0,0,0,0,ad.new w _ _⟩,(aa.refl _ w).alloc _⟩
theorem tO{D:Nat}(a:ad w D 371 #[.int .i32 e,.int .i64 r,.int .i64 c,.int .u8 C,.int .u8 dp]):w.cell? ⟨D,0,none⟩=some (.int .i32 e)/\w.cell? ⟨D,1,none⟩=some (.int .i64 r)/\w.cell? ⟨D,2,none⟩=some (.int .i64 c)/\w.cell? ⟨D,3,none⟩=some (.int .u8 C)/\w.cell? ⟨D,4,none⟩=some (.int .u8 dp)/\w.frozen? ⟨D,0,none⟩=false/\w.frozen? ⟨D,1,none⟩=false/\w.frozen? ⟨D,2,none⟩=false/\w.frozen? ⟨D,3,none⟩=false/\w.frozen? ⟨D,4,none⟩=false:=⟨a.cell 0,a.cell 1,a.cell 2,a.cell 3,a.cell 4,a.frozen 0,a.frozen 1,a.frozen 2,a.frozen 3,a.frozen 4⟩
theorem ba.s0{D:Nat}(h:ba w D)(v:Int):ba (w.setCell ⟨D,0,none⟩ (.int .i32 v)) D:=by obtain⟨r,h,m,b,c,a⟩:=h;exact⟨_,_,_,_,_,a.aj 0 _⟩
theorem ba.s1{D:Nat}(h:ba w D)(v:Int):ba (w.setCell ⟨D,1,none⟩ (.int .i64 v)) D:=by obtain⟨r,h,m,b,c,a⟩:=h;exact⟨_,_,_,_,_,a.aj 1 _⟩
theorem ba.s2{D:Nat}(h:ba w D)(v:Int):ba (w.setCell ⟨D,2,none⟩ (.int .i64 v)) D:=by obtain⟨r,h,m,b,c,a⟩:=h;exact⟨_,_,_,_,_,a.aj 2 _⟩
theorem ba.s3{D:Nat}(h:ba w D)(v:Int):ba (w.setCell ⟨D,3,none⟩ (.int .u8 v)) D:=by obtain⟨r,h,m,b,c,a⟩:=h;exact⟨_,_,_,_,_,a.aj 3 _⟩
theorem ba.s4{D:Nat}(h:ba w D)(v:Int):ba (w.setCell ⟨D,4,none⟩ (.int .u8 v)) D:=by obtain⟨r,h,m,b,c,a⟩:=h;exact⟨_,_,_,_,_,a.aj 4 _⟩
theorem ba.alloc{w:World}{D:Nat}(h:ba w D)(o:Obj):ba (w.alloc o) D:=by obtain⟨r,h,m,b,c,a⟩:=h;exact⟨_,_,_,_,_,a.alloc o⟩
theorem ba.still{D:Nat}(h:ba w D)(b:aa ab w w'):ba w' D:=by obtain⟨r,h,m,c,d,a⟩:=h;exact⟨_,_,_,_,_,b.blk a id⟩
theorem ba.only{D B:Nat}(h:ba w D)(c:aa (af B) w w')(b:D≠B):ba w' D:=by obtain⟨r,h,m,d,e,a⟩:=h;exact⟨_,_,_,_,_,c.blk a b⟩
theorem az{D:Nat}(h:aa (af D) w w')(i:Nat)(v:Value):aa (af D) w (w'.setCell ⟨D,i,none⟩ v):=h.setCell (p:=⟨D,i,none⟩) (.inl rfl) v
theorem nI(h:aa S w w')(n:Nat)(a:w'.heap.size=n)(k:Int):(w'.alloc (.cells #[.int .i32 k] 21)).ownsRow w.heap.size 21 1 (.slice (some ⟨n,0,none⟩) 1 1) 1 (cY [k]):=by subst a;exact⟨rfl,.inr ⟨w'.heap.size,1,#[.int .i32 k],rfl,h.size,ad.new w' _ _,VN _,by decide,rfl,rfl⟩⟩
theorem yl{D:Nat}(o:ba w D)(x:Int):Calls VI 265 #[.pointer (some ⟨D,0,none⟩),.int .u8 x] w (qn w D 1):=by
 have a:=VH o;obtain⟨r,h,m,J,K,f⟩:=o;obtain⟨c0,c1,c2,c3,c4,L,M,N,O,P⟩:=tO f;have Q:=f.lt;clear f;by_cases k:x<128;. have G:decide (x<128)=true:=decide_eq_true k;go_enter func265,ntmps265;go_wp2_with fail;go_ret;exact⟨_,[_],rfl,VN _,nI (az (az (aa.refl _ w) 3 _) 4 _) w.heap.size (by simp) _,ba.alloc ((a.out.s3 _).s4 _) _,aa.alloc (az (az (aa.refl _ w) 3 _) 4 _) _⟩
 ·have G:decide (x<128)=false:=decide_eq_false k;by_cases l:194<=x
  ·have H:decide (194<=x)=true:=decide_eq_true l;by_cases n:x<=223;. have I:decide (x<=223)=true:=decide_eq_true n;go_enter func265,ntmps265;go_wp2_with fail;go_ret;exact⟨_,[],rfl,VQ _,Wg _ _ _ _,(((((a.out.s3 _).s4 _).s0 _).s2 _).s1 _),(az (az (az (az (az (aa.refl _ w) 3 _) 4 _) 0 _) 2 _) 1 _)⟩
   ·have I:decide (x<=223)=false:=decide_eq_false n;by_cases g1:224<=x
    ·have y:decide (224<=x)=true:=decide_eq_true g1;by_cases i:x<=239
     ·have z:decide (x<=239)=true:=decide_eq_true i;by_cases b:x=224;. have p:(x==224)=true:=beq_iff_eq.2 b;clear b;go_enter func265,ntmps265;go_wp2_with fail;go_ret;exact⟨_,[],rfl,VQ _,Wg _ _ _ _,((((((a.out.s3 _).s4 _).s0 _).s2 _).s3 _).s1 _),(az (az (az (az (az (az (aa.refl _ w) 3 _) 4 _) 0 _) 2 _) 3 _) 1 _)⟩
      ·have p:(x==224)=false:=beq_eq_false_iff_ne.2 b;by_cases c:x=237;. have q:(x==237)=true:=beq_iff_eq.2 c;clear c;go_enter func265,ntmps265;go_wp2_with fail;go_ret;exact⟨_,[],rfl,VQ _,Wg _ _ _ _,((((((a.out.s3 _).s4 _).s0 _).s2 _).s4 _).s1 _),(az (az (az (az (az (az (aa.refl _ w) 3 _) 4 _) 0 _) 2 _) 4 _) 1 _)⟩
       ·have q:(x==237)=false:=beq_eq_false_iff_ne.2 c;go_enter func265,ntmps265;go_wp2_with fail;go_ret;exact⟨_,[],rfl,VQ _,Wg _ _ _ _,(((((a.out.s3 _).s4 _).s0 _).s2 _).s1 _),(az (az (az (az (az (aa.refl _ w) 3 _) 4 _) 0 _) 2 _) 1 _)⟩
     ·have z:decide (x<=239)=false:=decide_eq_false i;by_cases g3:240<=x
      ·have A:decide (240<=x)=true:=decide_eq_true g3;by_cases g4:x<=244
       ·have C:decide (x<=244)=true:=decide_eq_true g4;by_cases d:x=240;. have t:(x==240)=true:=beq_iff_eq.2 d;clear d;go_enter func265,ntmps265;go_wp2_with fail;go_ret;exact⟨_,[],rfl,VQ _,Wg _ _ _ _,((((((a.out.s3 _).s4 _).s0 _).s2 _).s3 _).s1 _),(az (az (az (az (az (az (aa.refl _ w) 3 _) 4 _) 0 _) 2 _) 3 _) 1 _)⟩
        ·have t:(x==240)=false:=beq_eq_false_iff_ne.2 d;by_cases e:x=244;. have u:(x==244)=true:=beq_iff_eq.2 e;clear e;go_enter func265,ntmps265;go_wp2_with fail;go_ret;exact⟨_,[],rfl,VQ _,Wg _ _ _ _,((((((a.out.s3 _).s4 _).s0 _).s2 _).s4 _).s1 _),(az (az (az (az (az (az (aa.refl _ w) 3 _) 4 _) 0 _) 2 _) 4 _) 1 _)⟩
         ·have u:(x==244)=false:=beq_eq_false_iff_ne.2 e;go_enter func265,ntmps265;go_wp2_with fail;go_ret;exact⟨_,[],rfl,VQ _,Wg _ _ _ _,(((((a.out.s3 _).s4 _).s0 _).s2 _).s1 _),(az (az (az (az (az (aa.refl _ w) 3 _) 4 _) 0 _) 2 _) 1 _)⟩
       ·have C:decide (x<=244)=false:=decide_eq_false g4;go_enter func265,ntmps265;go_wp2_with fail;go_ret;exact⟨_,[_],rfl,VN _,nI (az (az (aa.refl _ w) 3 _) 4 _) w.heap.size (by simp) _,ba.alloc ((a.out.s3 _).s4 _) _,aa.alloc (az (az (aa.refl _ w) 3 _) 4 _) _⟩
      ·have A:decide (240<=x)=false:=decide_eq_false g3;omega
    ·have y:decide (224<=x)=false:=decide_eq_false g1;omega
  ·have H:decide (194<=x)=false:=decide_eq_false l;by_cases g6:224<=x;. have E:decide (224<=x)=true:=decide_eq_true g6;omega
   ·have E:decide (224<=x)=false:=decide_eq_false g6;by_cases j:240<=x;. have F:decide (240<=x)=true:=decide_eq_true j;omega
    ·have F:decide (240<=x)=false:=decide_eq_false j;go_enter func265,ntmps265;go_wp2_with fail;go_ret;exact⟨_,[_],rfl,VN _,nI (az (az (aa.refl _ w) 3 _) 4 _) w.heap.size (by simp) _,ba.alloc ((a.out.s3 _).s4 _) _,aa.alloc (az (az (aa.refl _ w) 3 _) 4 _) _⟩
theorem wM{B:Nat}{l:List Int}(h:w.ownsRow B 21 1 v l.length (cY l)):Src VI 1 318 v l.length (cY l) w:=by
 have b:=h;rcases h.2 with⟨rfl,a⟩|⟨g,f,i,rfl,p,q,a,m,n,o⟩;. have d:l=[]:=VP a;subst d;exact Src.ofNil w underlying318 0
 ·refine Src.ofSlice w underlying318 ⟨g,0,none⟩ _ _ _ (by simp[cY]) (fun j u c=>b.cells (g:=g) rfl j u c) ?_;intro u e;obtain⟨k,-,rfl⟩:=List.mem_map.1 e;rfl
theorem A.AE:(VI.info? 21).map (fun i=>(i.zero,i.size,i.bytes))=some (some (.int .i32 0),1,4):=by kernel_rfl
theorem JC{D:Nat}{A:Option Addr}{a:List Int}(d:aa (af D) w w')(t:w'.heap.size=k)(o:aa (af D) (w'.alloc (.cells #[.int .i32 65533] 21)) U)(p:ba U D)(C:D<w.heap.size)(q:a.length=m)(E:m<=1)(u:w1.ownsRow w.heap.size 21 1 (.slice A (1+m) n) (1+m) (cY [65533]++cY a))(i:U.grownBy w1 (some k)):qn w D 2 (.returned (.slice A (1+m) n)) w1:=by
 subst q t;have x:aa (af D) w U:=(d.alloc _).same o;have z:=d.size;have c:(65533::a).length=1+a.length:=by simp;omega
 refine⟨_,65533::a,rfl,by rw[c];omega,by rw[c];exact u,?_,x.grown i fun b f e=>by injection e with e;omega⟩;obtain⟨r,h,y,j,l,f⟩:=p;exact⟨r,h,y,j,l,f.grown i fun e=>by injection e with e;omega⟩
theorem IQ{D:Nat}(z:ba w D)(x:Int):Calls VI 250 #[.pointer (some ⟨D,0,none⟩),.int .u8 x] w (qn w D 2):=by
 have j:=VH z;obtain⟨r,h,m,f,o,p⟩:=z;obtain⟨c0,c1,c2,c3,c4,Z,f1,f2,f3,f4⟩:=tO p;have O:=p.lt;clear p;by_cases q:h=0;. have L:(h==0)=true:=beq_iff_eq.2 q;clear q;go_enter func250,ntmps250;go_wp2_with fail;refine(yl j.out x).mono ?_;rintro e U⟨v,l,rfl,k,a,i,b⟩;have H:=VH (VJ k (VJ a (VJ i b)));clear k a i b;go_wp2_with fail;go_ret;exact⟨v,l,rfl,by have :=H.out.1;omega,H.out.2.1,H.out.2.2.1,H.out.2.2.2⟩
 ·have L:(h==0)=false:=beq_eq_false_iff_ne.2 q;by_cases C:x<f∨o<x
  ·obtain⟨i0,N,Q,S,T⟩:=info_parts A.AE
   have J:decide (x<f)=true∨(decide (x<f)=false/\decide (o<x)=true):=by
    by_cases y:x<f;. exact .inl (decide_eq_true y)
    ·exact .inr ⟨decide_eq_false y,decide_eq_true (by omega)⟩
   clear C;rcases J with u|⟨u,K⟩;all_goals go_enter func250,ntmps250;go_wp2_with fail;refine(yl ((j.out.s1 0).alloc _) x).mono ?_;rintro e U⟨v,l,rfl,k,a,i,b⟩;obtain⟨V,X,rfl⟩:=aE a;have n:=VH (VJ k (VJ i b));have I:=VH (wM a);have G:=VH (b.own (nI (az (aa.refl (af D) w) 1 (.int .i64 0)) w.heap.size (by simp) 65533) fun g d e=>by have e:g=D:=e;injection d with d;subst e;simp at d;omega);generalize E:l.length=c at*;have F:=VH E;have P:=b.size;clear E a i b;go_wp2_with(at_builtin;refine aX _ rfl (.tmp 32) (.tmp 35) _ _ rfl _ 21 i0 _ 1 4 underlying318 N Q S T rfl _ _ _ rfl G.out _ _ _ rfl I.out (by simp only[maxLen];omega) (by omega) (by simp at P;omega) ?_;intro W Y w2 a d M;have t:=VH (VJ a d);clear a d M);go_ret;exact JC (az (aa.refl (af D) w) 1 (.int .i64 0)) (by simp) n.out.2.2 n.out.2.1 O F.out n.out.1 t.out.1 t.out.2
  ·have u:decide (x<f)=false:=decide_eq_false (by omega);have K:decide (o<x)=false:=decide_eq_false (by omega);clear C;go_enter func250,ntmps250;go_wp2_with fail;. go_ret;exact⟨_,[],rfl,VQ _,Wg _ _ _ _,(((((j.out.s0 _).s3 _).s4 _).s1 _).s2 _),(az (az (az (az (az (aa.refl _ w) 0 _) 3 _) 4 _) 1 _) 2 _)⟩
   ·go_ret;exact⟨_,[_],rfl,Nat.le_succ 1,nI (az (az (az (az (az (az (aa.refl _ w) 0 _) 3 _) 4 _) 1 _) 2 _) 1 _) w.heap.size (by simp) _,((((((j.out.s0 _).s3 _).s4 _).s1 _).s2 _).s1 _).alloc _,(az (az (az (az (az (az (aa.refl _ w) 0 _) 3 _) 4 _) 1 _) 2 _) 1 _).alloc _⟩
theorem Ht{D:Nat}(d:ba w D):Calls VI 251 #[.pointer (some ⟨D,0,none⟩)] w (qn w D 1):=by
 have c:=VH d;obtain⟨r,h,m,f,i,a⟩:=d;obtain⟨c0,c1,c2,c3,c4,j,k,l,n,o⟩:=tO a;have p:=a.lt;clear a;by_cases b:h=0;. have e:(h==0)=true:=beq_iff_eq.2 b;clear b;go_enter func251,ntmps251;go_wp2_with fail;go_ret;exact⟨_,[],rfl,VQ _,Wg _ _ _ _,c.out,aa.refl _ w⟩
 ·have e:(h==0)=false:=beq_eq_false_iff_ne.2 b;go_enter func251,ntmps251;go_wp2_with fail;go_ret;exact⟨_,[_],rfl,VN _,nI (az (aa.refl _ w) 1 _) w.heap.size (by simp) _,(c.out.s1 _).alloc _,(az (aa.refl _ w) 1 _).alloc _⟩
structure kr(w:World)(D:Nat)(n:Nat)(L:List Int)(v:Value)(wr:World):Prop where
 own:wr.ownsRow w.heap.size 21 1 v L.length (cY L)
 dec:ba wr D
 turns:aa ab w wr
 len:L.length<=2*n
 low:w.heap.size<=D
theorem kr.sl{D:Nat}{L:List Int}(h:kr w D k L v w'):∃A m c,v=.slice A m c/\L.length=m:=by obtain⟨A,c,e⟩:=aE h.own;exact⟨A,_,c,e,rfl⟩
theorem JI(a b:List Int):cY (a++b)=cY a++cY b:=List.map_append
theorem kr.step{D:Nat}{L l:List Int}{A:Option Addr}(h:kr w D k L v w')(q:aa (af D) w' U)(p:ba U D)(o:L.length=n)(t:l.length=m)(x:w1.ownsRow w.heap.size 21 1 (.slice A (n+m) i) (n+m) (cY L++cY l))(c:U.grownBy w1 v.ownBlock):w1.ownsRow w.heap.size 21 1 (.slice A (n+m) i) (L++l).length (cY (L++l))/\ba w1 D/\aa ab w w1:=by
 subst o t;have u:v.ownBlock≠some D:=by obtain⟨r,j,n,d,f,a⟩:=h.dec;exact a_ h.own a (by decide)
 refine⟨by rw[VK,JI];exact x,?_,?_⟩;. obtain⟨r,j,n,d,f,a⟩:=p;exact⟨_,_,_,_,_,a.grown c fun e=>u e.symm⟩
 ·refine(h.turns.trans q fun b a e=>?_).grown c fun b a e=>?_;. have e:b=D:=e;have :=h.low;omega
  ·have :=h.own.lt b e;omega
theorem kr.row{D:Nat}{L:List Int}(h:kr w D k L v w')(c:aa (af D) w' U)(a:L.length=n):U.ownsRow w.heap.size 21 1 v n (cY L):=by subst a;refine c.own h.own fun g d e=>?_;have e:g=D:=e;subst e;obtain⟨r,j,n,f,i,b⟩:=h.dec;exact a_ h.own b (by decide) d
theorem wh(w:World)(s:ByteArray)(hs:s.size<=1000000):Calls VI 229 #[.string s] w fun e w'=>∃v l,e=.returned v/\l.length<=2*s.size+1/\w'.ownsRow w.heap.size 21 1 v l.length (cY l)/\aa ab w w':=by
 obtain⟨i0,E,F,G,H⟩:=info_parts A.AE;go_enter func229,ntmps229;go_wp2_with fail;refine(Oy w).mono ?_;rintro e U⟨rfl,f,b⟩;have K:=VH (show kr w w.heap.size 0 [] (.slice none 0 0) U from⟨Wg _ _ _ _,f,b,VN _,VN _⟩);clear f b;generalize C:w.heap.size=D at*;have Y:=VH C;clear C;go_wp2_with fail;go_loopg[3,5,9](s.size)(fun g s3 _ T wr=>∃(k:Nat)(L:List Int),g=s.size-k/\k<=s.size/\T=.int .i64 (k:Nat)/\kr w D k L s3 wr);case atStart=>exact⟨0,[],rfl,VQ _,rfl,K.out⟩
 case round=>
  obtain⟨k,L,rfl,O,rfl,q⟩:=hrel;obtain⟨X,m,c0,rfl,u⟩:=q.sl;have ad:m<=2*k:=by rw[<-u];exact q.len
  have d:=VH q;have h:=VH u;clear q u;by_cases Q:k<s.size
  ·have S:(k:Int)<(s.size:Int):=by omega
   have p2:(0:Int)<=(k:Int):=by omega
   have Z:VL.wrap ((k:Int)+1)=((k+1:Nat):Int):=ak (by omega);generalize hx:s[k]=x at*;go_wp2_with fail;refine(IQ d.out.dec _).mono ?_;rintro e V⟨v,l,rfl,P,a,f,b⟩;obtain⟨I,M,rfl⟩:=aE a;have t:=VH (wM a);have r:=VH (d.out.row b h.out);have n:=VH (VJ b f);have z:=VS d.out.turns.size b.size;generalize o:l.length=c at*;have j:=VH o;clear o a f b;go_wp2_with(at_builtin;go_loud(refine aX _ rfl (.tmp 12) (.tmp 17) _ _ rfl _ 21 i0 _ 1 4 underlying318 E F G H rfl _ _ _ rfl r.out _ _ _ rfl t.out (by simp only[maxLen];omega) (by omega) z ?_);intro J N W a p y;have i:=VH (d.out.step n.out.1 n.out.2 h.out j.out a p);clear a p y);go_roundg(s.size-(k+1));case measure=>omega
   case rel=>refine⟨k+1,L++l,rfl,by omega,rfl,i.out.1,i.out.2.1,i.out.2.2,?_,d.out.low⟩;have :=h.out;have :=j.out;rw[VK];omega
  ·obtain rfl:k=s.size:=by omega
   have S:¬(s.size:Int)<(s.size:Int):=by omega
   clear Q O;go_wp2_with fail;refine(Ht d.out.dec).mono ?_;rintro e V⟨v,l,rfl,P,a,f,b⟩;obtain⟨I,M,rfl⟩:=aE a;have t:=VH (wM a);have r:=VH (d.out.row b h.out);have n:=VH (VJ b f);have z:=VS d.out.turns.size b.size;generalize o:l.length=c at*;have j:=VH o;clear o a f b;go_wp2_with(at_builtin;refine aX _ rfl (.tmp 20) (.tmp 22) _ _ rfl _ 21 i0 _ 1 4 underlying318 E F G H rfl _ _ _ rfl r.out _ _ _ rfl t.out (by simp only[maxLen];omega) (by omega) z ?_;intro J N W a p y;have i:=VH (d.out.step n.out.1 n.out.2 h.out j.out a p);clear a p y);go_ret;refine⟨_,L++l,rfl,?_,i.out.1,i.out.2.2⟩;have :=h.out;have :=j.out;rw[VK];omega
def pn(l:List (Int×Int)):List Value:=l.flatMap fun x=>[.int .i32 x.1,.int .i32 x.2]
theorem C6:∀(l:List (Int×Int))(i:Nat)(h:i<l.length),(pn l)[i*2]?=some (.int .i32 l[i].1)/\(pn l)[i*2+1]?=some (.int .i32 l[i].2)|x::l,0,_=>⟨rfl,rfl⟩|x::l,i+1,h=>by have :=C6 l i (by simpa using h);have e:pn (x::l)=.int .i32 x.1::.int .i32 x.2::pn l:=rfl;rw[e,show(i+1)*2=i*2+2 by omega];simpa using this
def bO(r:Int)(l:List (Int×Int)):Bool:=l.any fun x=>decide (x.1<=r)&&decide (r<=x.2)
theorem JO{l:List (Int×Int)}(h:k<l.length):bO r (l.drop k)=(decide (l[k].1<=r)&&decide (r<=l[k].2)||bO r (l.drop (k+1))):=by rw[List.drop_eq_getElem_cons h];rfl
theorem xa{c:Nat}(r:Int)(l:List (Int×Int))(A:ad w k 210 (pn l).toArray)(G:l.length<=100):Calls VI 116 #[.int .i32 r,.slice (some ⟨k,0,none⟩) l.length c] w fun e w'=>e=.returned (.bool (bO r l))/\aa ab w w':=by
 have E:=VH A;have H:(l.length:Int)<=100:=by omega
 have t:=VH (show bO r (l.drop 0)=bO r l from rfl);clear A;go_enter func116,ntmps116;go_wp2_with fail;go_loopw[9](fun i wr=>∃a:Nat,i=.int .i64 a/\a<=l.length/\bO r (l.drop a)=bO r l/\aa ab w wr)(fun i _=>l.length-(intOf i).toNat);case atStart=>exact⟨0,rfl,VQ _,t.out,aa.refl _ _⟩
 case round=>
  obtain⟨a,rfl,F,C,D⟩:=hrel;have f:=VH D;have u:=VH C;clear D C t;by_cases h:a<l.length
  ·have hB:=f.out.blk E.out id;have n:=C6 l a h;have c0:=(hB.cell (a*2)).trans (by simpa using n.1);have c1:=(hB.cell (a*2+1)).trans (by simpa using n.2);have I:=hB.lt;have o:=JO (r:=r) h;rw[u.out]at o;have d:=VH o;clear hB n o;generalize l[a]=x at c0 c1 d;obtain⟨q,p⟩:=x;dsimp only at c0 c1 d;by_cases y:q<=r
   ·have j:decide (q<=r)=true:=decide_eq_true y;by_cases z:r<=p;. have m:decide (r<=p)=true:=decide_eq_true z;have b:=VH (show bO r l=true by rw[d.out,j,m];rfl);go_wp2_with fail;go_ret;exact⟨by rw[b.out];rfl,f.out.alloc _⟩
    ·have m:decide (r<=p)=false:=decide_eq_false z;have b:=VH (show bO r (l.drop (a+1))=bO r l by rw[d.out,m,Bool.and_false,Bool.false_or]);go_wp2_with fail;go_roundw;case rel=>exact⟨a+1,by go_num,h,b.out,f.out.alloc _⟩
     case measure=>simp[intOf];omega
   ·have j:decide (q<=r)=false:=decide_eq_false y;have b:=VH (show bO r (l.drop (a+1))=bO r l by rw[d.out,j,Bool.false_and,Bool.false_or]);go_wp2_with fail;go_roundw;case rel=>exact⟨a+1,by go_num,h,b.out,f.out.alloc _⟩
    case measure=>simp[intOf];omega
  ·have b:=VH (show bO r l=false by rw[<-u.out,List.drop_eq_nil_of_le (by omega)];rfl);go_wp2_with fail;go_ret;exact⟨by rw[b.out];rfl,f.out⟩
def oi:List (Int×Int):=[(768,879),(8203,8207),(65024,65039)]
def ob:List (Int×Int):=[(4352,4447),(11904,12350),(12353,19903),(19968,42191),(44032,55203),(63744,64255),(65072,65135),(65280,65376),(65504,65510),(127744,128591),(129280,129535),(131072,262141)]
def dN(r:Int):Int:=if r<32∨1114111<r∨bO r [(127,159)]=true then-1 else if bO r oi then 0 else if bO r ob then 2 else 1
theorem ES(w:World)(r:Int):Calls VI 76 #[.int .i32 r] w fun e w'=>e=.returned (.int .i64 (dN r))/\aa ab w w':=by
 by_cases c:r<32;. have u:decide (r<32)=true:=decide_eq_true c;have f:=VH (show dN r=-1 by rw[dN,if_pos (.inl c)]);go_enter func76,ntmps76;go_wp2_with fail;go_ret;exact⟨by rw[f.out];rfl,aa.refl _ _⟩
 ·have u:decide (r<32)=false:=decide_eq_false c;by_cases d:1114111<r;. have x:decide (1114111<r)=true:=decide_eq_true d;have f:=VH (show dN r=-1 by rw[dN,if_pos (.inr (.inl d))]);go_enter func76,ntmps76;go_wp2_with fail;go_ret;exact⟨by rw[f.out];rfl,aa.refl _ _⟩
  ·have x:decide (1114111<r)=false:=decide_eq_false d;have h:=VH (xa (w:=w.alloc (.cells #[.int .i32 127,.int .i32 159] 210)) (c:=1) r [(127,159)] (ad.new w 210 #[.int .i32 127,.int .i32 159]) (by decide));have b:=VH (show dN r=if bO r [(127,159)]=true then-1 else if bO r oi then 0 else if bO r ob then 2 else 1 by simp[dN,c,d]);generalize bO r [(127,159)]=p at h b;go_enter func76,ntmps76;go_wp2_with fail;refine h.out.mono ?_;rintro e n⟨rfl,a⟩;have k:=VH (((aa.refl ab w).alloc _).same a);clear a h;cases p with|true=>go_wp2_with fail;go_ret;exact⟨by rw[b.out];rfl,k.out⟩|false=>have i:=VH (xa (w:=n.alloc (.cells #[.int .i32 768,.int .i32 879,.int .i32 8203,.int .i32 8207,.int .i32 65024,.int .i32 65039] 210)) (c:=3) r oi (ad.new n 210 #[.int .i32 768,.int .i32 879,.int .i32 8203,.int .i32 8207,.int .i32 65024,.int .i32 65039]) (by decide));generalize bO r oi=q at i b;go_wp2_with fail;refine i.out.mono ?_;rintro e o⟨rfl,a⟩;have l:=VH ((k.out.alloc _).same a);clear a i k;cases q with|true=>go_wp2_with fail;go_ret;exact⟨by rw[b.out];rfl,l.out⟩|false=>have j:=VH (xa (w:=o.alloc (.cells #[.int .i32 4352,.int .i32 4447,.int .i32 11904,.int .i32 12350,.int .i32 12353,.int .i32 19903,.int .i32 19968,.int .i32 42191,.int .i32 44032,.int .i32 55203,.int .i32 63744,.int .i32 64255,.int .i32 65072,.int .i32 65135,.int .i32 65280,.int .i32 65376,.int .i32 65504,.int .i32 65510,.int .i32 127744,.int .i32 128591,.int .i32 129280,.int .i32 129535,.int .i32 131072,.int .i32 262141] 210)) (c:=12) r ob (ad.new o 210 #[.int .i32 4352,.int .i32 4447,.int .i32 11904,.int .i32 12350,.int .i32 12353,.int .i32 19903,.int .i32 19968,.int .i32 42191,.int .i32 44032,.int .i32 55203,.int .i32 63744,.int .i32 64255,.int .i32 65072,.int .i32 65135,.int .i32 65280,.int .i32 65376,.int .i32 65504,.int .i32 65510,.int .i32 127744,.int .i32 128591,.int .i32 129280,.int .i32 129535,.int .i32 131072,.int .i32 262141]) (by decide));generalize bO r ob=t at j b;go_wp2_with fail;refine j.out.mono ?_;rintro e y⟨rfl,a⟩;have m:=VH ((l.out.alloc _).same a);clear a j l;cases t with|true=>go_wp2_with fail;go_ret;exact⟨by rw[b.out];rfl,m.out⟩|false=>go_wp2_with fail;go_ret;exact⟨by rw[b.out];rfl,m.out⟩
def lx(r:Int):Nat:=(dN r).toNat
theorem EP(r:Int):dN r=-1∨dN r=0∨dN r=1∨dN r=2:=by
 unfold dN;repeat' split
 all_goals simp
theorem wY(r:Int):lx r<=2:=by have :=EP r;unfold lx;omega
theorem w_(w:World)(r:Int):Calls VI 230 #[.int .i32 r] w fun e w'=>e=.returned (.int .i64 (lx r:Nat))/\aa ab w w':=by
 have c:=VH (ES w r);have f:=EP r;have a:=VH (show lx r=(dN r).toNat from rfl);generalize dN r=p at*;generalize lx r=q at*;go_enter func230,ntmps230;go_wp2_with fail;refine c.out.mono ?_;rintro e h⟨rfl,d⟩;have b:=VH d;clear d c;rcases f with rfl|rfl|rfl|rfl;all_goals go_wp2_with fail;go_ret
 all_goals exact⟨by rw[a.out];rfl,b.out⟩
theorem wg{B:Nat}{l:List Int}(h:w.ownsRow B 21 1 v l.length (cY l)):(convert 318 9 v).run VI w=.ok (.string (runesBytes l)) w:=by
 have c:=h;rcases h.2 with⟨rfl,a⟩|⟨g,b,f,rfl,n,o,a,i,k,m⟩;. have e:l=[]:=VP a;subst e;exact run_convert_runes_nil w _ _ _ _ _ underlying318 underlying21 underlying9
 ·have :=run_convert_runes (P:=VI) w 318 9 21 ⟨g,0,none⟩ l.length b l (VN _) underlying318 underlying21 underlying9 (fun j d=>by refine c.cells (g:=g) rfl j _ ?_;simp[cY,List.getD,d]);rw[List.take_length]at this;exact this
theorem Rh{B:Nat}{l:List Int}(h:w.ownsRow B 21 1 (.slice (some ⟨g,0,none⟩) n k) n (cY l))(b:l.length=n)(p:Nat)(d:p<=n):(convert 318 9 (.slice (some ⟨g,p,none⟩) (n-p) (k-p))).run VI w=.ok (.string (runesBytes (l.drop p))) w:=by
 have :=run_convert_runes (P:=VI) w 318 9 21 ⟨g,p,none⟩ (n-p) (k-p) (l.drop p) (by simp[b]) underlying318 underlying21 underlying9 (fun j c=>by
  have a:p+j<l.length:=by simp at c;omega
  have :=h.cells (g:=g) rfl (p+j) (.int .i32 (l[p+j])) (by simp[cY,a]);rw[show(⟨g,0,none⟩:Addr).add (p+j)=(⟨g,p,none⟩:Addr).add j from by unfold Addr.add;split<;>split<;>simp_all]at this;rw[this];simp[List.getD,a]);rw[List.take_of_length_le (by simp[b])]at this;exact this
theorem Ri(w:World)(g c n:Nat)(b:n=0):(convert 318 9 (.slice (some ⟨g,0,none⟩) n c)).run VI w=.ok (.string (runesBytes [])) w:=by subst b;have :=run_convert_runes (P:=VI) w 318 9 21 ⟨g,0,none⟩ 0 c [] (VN _) underlying318 underlying21 underlying9 (fun j a=>absurd a (by simp));simpa using this
theorem DS{l:List Int}{p:Nat}(a:l.length=k)(d:k<=200001):(runesBytes (l.drop p)).size<=1000000:=by
 have b:=runesBytes_size_le (l.drop p);have c:(l.drop p).length<=k:=by rw[List.length_drop,a];omega
 omega
theorem zf(s:ByteArray)(pos:Nat):1<=(Xe s pos).2:=by
 simp only[Xe];repeat' split
 all_goals simp_all
theorem ze(s:ByteArray)(pos:Nat)(h:pos<s.size):pos+(Xe s pos).2<=s.size:=by
 simp only[Xe];repeat' split
 all_goals simp_all
 all_goals omega
def fY(w:World)(g:Nat)(s:ByteArray)(p:Nat):Prop:=w.heap[g]?=some (.stringIter s p)
def World.setIter(w:World)(g:Nat)(s:ByteArray)(p:Nat):World:={w with heap:=w.heap.setIfInBounds g (.stringIter s p)}
theorem AT(a:aa S w w')(d:S g∨w.heap.size<=g)(s:ByteArray)(p:Nat):aa S w (World.setIter w' g s p):=by
 refine⟨a.os,a.tape,a.output,by simpa[World.setIter]using a.size,fun b c hs=>?_⟩;rw[<-a.block b c hs];show(w'.heap.setIfInBounds g (.stringIter s p))[b]?=w'.heap[b]?;rw[Array.getElem?_setIfInBounds_ne];rintro rfl;rcases d with e|e;. exact hs e
 ·omega
theorem AS(h:fY w g s k)(q:Nat):fY (World.setIter w g s q) g s q:=by have a:g<w.heap.size:=(VV.1 h).1;show(w.heap.setIfInBounds g (.stringIter s q))[g]?=_;simp[a]
theorem fY.still(h:fY w g s k)(a:aa ab w w'):fY w' g s k:=(a.block g (VV.1 h).1 id).trans h
theorem run_next_at(h:fY w g s k)(b:TypeId)(a:k<s.size):(Instr.next (.pointer (some ⟨g,0,none⟩)) true b).run VI w=.ok (.tuple #[.bool true,.int .i64 k,.int .i32 (Xe s k).1]) (World.setIter w g s (k+(Xe s k).2)):=by unfold fY at h;simp only[Instr.next,getObj,setObj,Sem.run_bind,Sem.run,h,Result.andThen,a,if_true];simp[goInt,World.setIter]
theorem run_next_end_at(h:fY w g s k)(b:TypeId)(a:¬k<s.size):(Instr.next (.pointer (some ⟨g,0,none⟩)) true b).run VI w=.ok (.tuple #[.bool false]) w:=by unfold fY at h;simp[Instr.next,getObj,Sem.run,h,a]
theorem yS(w:World)(s:ByteArray)(K:s.size<=100000):Calls VI 205 #[.string s] w fun e w'=>(∃k:Nat,k<=10000000/\e=.returned (.int .i64 (k:Nat)))/\aa ab w w':=by
 go_enter func205,ntmps205;go_wp2_with fail;refine(wh w s (by omega)).mono ?_;rintro e a⟨v,l,rfl,y,j,h⟩;have E:=wg j;have A:=runesBytes_size_le l;generalize runesBytes l=t at*;have L:t.size<=1000000:=by omega
 have o:=VH h.size;have H:=VH (VJ (show fY (a.iter t 0) a.heap.size t 0 from World.iter_heap a t 0) (show aa ab w (a.iter t 0)from h.alloc _));clear j h A y;go_wp2_with fail;go_loopg[3,5](t.size)(fun g s3 _ wr=>∃p n:Nat,g=t.size-p/\p<=t.size/\n<=2*p/\s3=.int .i64 (n:Nat)/\fY wr a.heap.size t p/\aa ab w wr);case atStart=>exact⟨0,0,rfl,VQ _,VN _,rfl,H.out.1,H.out.2⟩
 case round=>
  obtain⟨p,n,rfl,J,I,rfl,b,d⟩:=hrel;by_cases f:p<t.size
  ·have z:=run_next_at b 0 f;have F:p+1<=p+(Xe t p).2:=by have :=zf t p;omega
   have x:=ze t p f;have i:=VH (VJ (AS b (p+(Xe t p).2)) (AT d (.inr o.out) t (p+(Xe t p).2)));generalize(Xe t p).1=r at*;generalize p+(Xe t p).2=q at*;generalize World.setIter wr a.heap.size t q=C at*;clear b d;go_wp2_with fail;have G:=wY r;have u:=VH (w_ C r);generalize lx r=k at*;refine u.out.mono ?_;rintro e M⟨rfl,m⟩;have c:=VH m;have D:VL.wrap ((n:Int)+(k:Int))=((n+k:Nat):Int):=ak (by omega);clear m;go_wp2_with fail;go_roundg(t.size-q);case measure=>omega
   case rel=>exact⟨q,n+k,rfl,x,by omega,rfl,i.out.1.still c.out,i.out.2.same c.out⟩
  ·have z:=run_next_end_at b 0 f;have c:=VH d;clear b d;go_wp2_with fail;go_ret;exact⟨⟨n,by omega,rfl⟩,c.out⟩
theorem Hi(w:World)(s:ByteArray)(Q:s.size<=100000)(n:Int)(O:n<=1000000):Calls VI 203 #[.string s,.int .i64 n] w fun e w'=>(∃t:ByteArray,t.size<=1000000/\e=.returned (.string t))/\aa ab w w':=by
 by_cases G:n<0;. go_enter func203,ntmps203;go_wp2_with fail;go_ret;exact⟨⟨_,by decide,rfl⟩,aa.refl _ _⟩
 ·obtain⟨N,rfl⟩:∃N:Nat,n=(N:Int):=⟨n.toNat,by omega⟩;go_enter func203,ntmps203;go_wp2_with fail;refine(wh w s (by omega)).mono ?_;rintro e a⟨v,l,rfl,A,j,i⟩;have I:=wg j;have D:=runesBytes_size_le l;generalize runesBytes l=t at*;have S:t.size<=1000000:=by omega
  have u:=VH i.size;have H:=VH (VJ (show fY (a.iter t 0) a.heap.size t 0 from World.iter_heap a t 0) (show aa ab w (a.iter t 0)from i.alloc _));clear j i D A;go_wp2_with fail;go_loopg[1,5,6](t.size)(fun g s1 _ _ wr=>∃p m:Nat,g=t.size-p/\p<=t.size/\m<=N/\s1=.int .i64 (m:Nat)/\fY wr a.heap.size t p/\aa ab w wr);case atStart=>exact⟨0,N,rfl,VQ _,VN _,rfl,H.out.1,H.out.2⟩
  case round=>
   obtain⟨p,m,rfl,P,M,rfl,c,d⟩:=hrel;by_cases h:p<t.size
   ·have C:=run_next_at c 0 h;have J:p+1<=p+(Xe t p).2:=by have :=zf t p;omega
    have z:=ze t p h;have f:=VH (VJ (AS c (p+(Xe t p).2)) (AT d (.inr u.out) t (p+(Xe t p).2)));generalize(Xe t p).1=r at*;generalize p+(Xe t p).2=q at*;generalize World.setIter wr a.heap.size t q=E at*;clear c d;go_wp2_with fail;have K:=wY r;have x:=VH (w_ E r);generalize lx r=k at*;refine x.out.mono ?_;rintro e V⟨rfl,o⟩;have b:=VH o;clear o;by_cases L:k<=m
    ·have y:VL.wrap ((m:Int)-(k:Int))=((m-k:Nat):Int):=ak (by omega);go_wp2_with fail;go_roundg(t.size-q);case measure=>omega
     case rel=>exact⟨q,m-k,rfl,z,by omega,rfl,f.out.1.still b.out,f.out.2.same b.out⟩
    ·have y:VL.wrap ((m:Int)-(k:Int))=(m:Int)-(k:Int):=IntWalk.i64_in _ (by omega);have F:(m:Int)-(k:Int)<0:=by omega
     have U:(p:Int)<=(t.size:Int):=by omega
     have T:(0:Int)<=(p:Int):=by omega
     go_wp2_with fail;go_ret;refine⟨⟨_,?_,rfl⟩,f.out.2.same b.out⟩;rw[ByteArray.size_extract];omega
   ·have C:=run_next_end_at c 0 h;have b:=VH d;clear c d;go_wp2_with fail;go_ret;exact⟨⟨t,by omega,rfl⟩,b.out⟩
theorem Hm(w:World)(s:ByteArray)(hs:s.size<=100000)(n:Int)(M:-1000000<=n/\n<=1000000):Calls VI 202 #[.string s,.int .i64 n] w fun e w'=>(∃t:ByteArray,t.size<=1000000/\e=.returned (.string t))/\aa ab w w':=by
 go_enter func202,ntmps202;go_wp2_with fail;refine(wh w s (by omega)).mono ?_;rintro e D⟨v,l,rfl,hl,f,a⟩;obtain⟨A,c,rfl⟩:=aE f;have H:=VH (VJ f a);clear f a;generalize I:l.length=L at*;have j:=VH I;clear I;go_wp2_with fail;go_loopg[1,6]L(fun g s1 s6 wr=>∃(p:Nat)(m:Int),g=p/\p<=L/\-1000000<=m/\m<=1000000/\s6=.int .i64 (p:Nat)/\s1=.int .i64 m/\aa ab D wr);case atStart=>exact⟨L,n,rfl,VN _,M.1,M.2,rfl,rfl,aa.refl _ _⟩
 case round=>
  obtain⟨p,m,rfl,Z,af,ag,rfl,rfl,a⟩:=hrel;by_cases h0:0<gk
  ·obtain⟨q,rfl⟩:∃q,gk=q+1:=⟨gk-1,by omega⟩
   obtain⟨g,r,X,C,u⟩:∃g r,A=some ⟨g,0,none⟩/\D.cell? ⟨g,q,none⟩=some (.int .i32 r)/\g<D.heap.size:=by
    have f:=H.out.1;rcases f.2 with⟨d,G⟩|⟨g,P,Q,d,hb,u,V,h2,h3,h4⟩;. omega
    ·injection d with d G e3;have hq:q<l.length:=by rw[j.out];omega
     refine⟨g,l[q],d,?_,(VV.1 u).1⟩;have :=f.cells (g:=g) (by rw[d];rfl) q (.int .i32 l[q]) (by simp[cY,hq]);rw[show(⟨g,0,none⟩:Addr).add q=⟨g,q,none⟩from by unfold Addr.add;split<;>simp_all]at this;exact this
   subst X;have hk:=wY r;have y:=VH (fun W=>w_ W r);generalize lx r=k at*;have J:=(a.cell (p:=⟨g,q,none⟩) u id).trans C;have z:=VH a;have HQ:=VH C;have p0:(0:Int)<((q+1:Nat):Int):=by omega
   have d:VL.wrap (((q+1:Nat):Int)-1)=(q:Int):=ak (by omega);have p1:(0:Int)<=(q:Int):=by omega
   have p2:(q:Int)<(L:Int):=by omega
   have F:=VH u;clear a C;generalize ah:q+1=x at*;by_cases K:(k:Int)<=m
   ·have S:decide ((k:Int)<=m)=true:=decide_eq_true K;go_wp2_with fail;refine(y.out wr).mono ?_;rintro e E⟨rfl,i⟩;have J:=(i.cell (p:=⟨g,q,none⟩) (Nat.lt_of_lt_of_le F.out z.out.size) id).trans J;have b:=VH (z.out.same i);have ae:=Nat.lt_of_lt_of_le F.out b.out.size;clear i;go_wp2_with fail;refine(y.out E).mono ?_;rintro e w3⟨rfl,N⟩;have O:=VH (b.out.same N);have G:VL.wrap (m-(k:Int))=m-(k:Int):=IntWalk.i64_in _ (by omega);clear N;go_wp2_with fail;go_roundg q;case measure=>omega
    case rel=>exact⟨q,m-k,rfl,by omega,by omega,by omega,rfl,rfl,O.out⟩
   ·have S:decide ((k:Int)<=m)=false:=decide_eq_false K;go_wp2_with fail;refine(y.out wr).mono ?_;rintro e E⟨rfl,i⟩;have b:=VH (z.out.same i);have ad:=(H.out.1.2).elim (fun h=>absurd h.2 (by omega)) fun⟨g',P,Q,d,_,_,V,_⟩=>(show L<=c from by injection d with _ _ e3;omega);have T:=Rh (b.out.own H.out.1 fun _ _=>id) j.out x Z;have U:=DS (p:=x) j.out (by omega);have o:=VH U;clear i;by_cases Y:c=x;. have f2:=Ri E g 0 0 rfl;subst Y;go_wp2_with fail;go_ret;exact⟨⟨_,by decide,rfl⟩,H.out.2.same b.out⟩
    ·generalize runesBytes (l.drop x)=t at*;go_wp2_with fail;go_ret;exact⟨⟨_,o.out,rfl⟩,H.out.2.same b.out⟩
  ·obtain rfl:gk=0:=by omega
   have T:=wg (l:=l) (by rw[j.out];exact a.own H.out.1 fun _ _=>id);have o:=VH (DS (p:=0) j.out (by omega));rw[List.drop_zero]at o;have b:=VH a;clear a;generalize runesBytes l=t at*;go_wp2_with fail;go_ret;exact⟨⟨_,o.out,rfl⟩,H.out.2.same b.out⟩
end Go.Proofs.YtmddhediccmhbaaGreatDoor
