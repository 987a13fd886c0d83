/- package format: texts. -/
import Derived.Test.YtmddhediccmhbaaGreatDoorA13
import Derived.Test.YtmddhediccmhbaaGreatDoorA14
set_option linter.all false
set_option maxHeartbeats 400000000
set_option maxRecDepth 100000
namespace Go.Proofs.YtmddhediccmhbaaGreatDoor
open Go.RowKit
open Go.Proofs.Tryz
open And renaming intro→VJ
open _root_.Array renaming length_toList→Wz
open IntKind renaming i64→VL
open Lib renaming hid→VH
open List renaming getElem_mem→VZ
open List renaming length_append→VK
open Nat renaming le_trans→VS
open Nat renaming lt_of_lt_of_le→VO
open Nat renaming zero_le→VQ
open Go.Proofs.Tryz renaming prog→VI
variable {w w' U w1:World}{k n m i j d q g:Nat}{v u z:Value}{e r c:Int}{s x:ByteArray}{t:TypeId}{a:UInt8}{F:Array Value}{P:Program}{p:List UInt8}{X:List ByteArray}
structure FE(w:World)(B:Nat):Prop where
 iy:bC w B
 iA:gh w
 low:i_ w
 err:∃a,ki w a
theorem FE.aC{w e:World}{B:Nat}{S:Nat->Prop}(h:FE w B)(d:aa S w e)(c:∀b,b<B->¬S b):FE e B:=by obtain⟨a,f⟩:=h.err;have hB:=h.iy.gl;have j:=h.iy.le;refine⟨h.iy.aC d c,h.iA.aC d fun b i=>c b (by omega),h.low.aC d fun b i=>c b (by omega),a,?_⟩;exact(d.cell (p:=⟨5,0,none⟩) (VO (show 5<20 from by decide) (by omega)) (c _ (VO (show 5<20 from by decide) hB))).trans f
theorem FE.still{B:Nat}(h:FE w B)(a:aa ab w w'):FE w' B:=h.aC a fun _ _=>id
theorem FE.only{B:Nat}(h:FE w B)(a:aa (af k) w w')(c:B<=k):FE w' B:=h.aC a fun b d e=>by have e:b=k:=e;omega
def mH(M S:Nat)(d:Int)(v:Value)(a:World):Prop:=∃(t:ByteArray)(n:Nat),v=.string t/\t.size<=8192/\n<=10000/\bf a M S d (n:Nat)
def pZ(M S:Nat)(d:Int)(v:Value)(a:World):Prop:=∃(t:ByteArray)(n:Nat),v=.string t/\n<=10000/\bf a M S d (n:Nat)
def dD(d:Nat):Prop:=∀(w:World)(M S B n:Nat)(s:ByteArray),FE w B->B<=M->bf w M S (d:Nat) (n:Nat)->n<=10000->s.size<=8192->Calls VI 130 #[.pointer (some ⟨M,0,none⟩),.string s] w (Fx (af M) w (mH M S (d:Nat)))
def sP(d:Nat):Prop:=∀(w:World)(M S B n:Nat)(s:ByteArray),FE w B->B<=M->bf w M S (d:Nat) (n:Nat)->n<=10000->s.size<=8192->Calls VI 143 #[.pointer (some ⟨M,0,none⟩),.string s] w (Fx (af M) w (mH M S (d:Nat)))
def je(l:List UInt8):List Value:=l.map fun b=>Value.int .u8 (b.toNat:Int)
theorem Gd(a b:List UInt8):je (a++b)=je a++je b:=List.map_append
theorem A.J7:(VI.info? 5).map (fun i=>(i.zero,i.size,i.bytes))=some (some (.int .u8 0),1,1):=by kernel_rfl
theorem Ee(h:ad w g 5 #[.int .u8 e]):Src VI 1 102 (.slice (some ⟨g,0,none⟩) 1 1) 1 [.int .u8 e] w:=by
 refine Src.ofSlice _ underlying102 ⟨_,0,none⟩ 1 1 _ rfl (fun j u b=>?_) (by simp[Value.oneCell']);have a:(⟨g,0,none⟩:Addr).add j=⟨g,j,none⟩:=by unfold Addr.add;split<;>simp_all
 rw[a,h.cell j,<-b];simp
theorem A.yD(w:World):(convert 102 9 (.slice none 0 0)).run VI w=.ok (.string ⟨#[]⟩) w:=by kernel_rfl
theorem Rf{B:Nat}{l:List UInt8}(h:w.ownsRow B 5 1 v l.length (je l)):(convert 102 9 v).run VI w=.ok (.string ⟨l.toArray⟩) w:=by
 have c:=h;rcases h.2 with⟨rfl,a⟩|⟨g,b,f,rfl,n,o,a,i,k,m⟩;. have e:l=[]:=List.eq_nil_of_length_eq_zero a;subst e;exact A.yD w
 ·refine run_convert_bytes_back w 102 9 5 ⟨g,0,none⟩ b l underlying102 underlying5 underlying9 (fun j d=>?_);refine c.cells (g:=g) rfl j _ ?_;simp[je,d]
theorem BF(h:k+1<=8192):decide ((k:Int)+1<=8192)=true:=decide_eq_true (by omega)
theorem BI(h:¬k+1<=8192):decide ((k:Int)+1<=8192)=false:=decide_eq_false (by omega)
theorem BH(h:k+n<=8192):decide ((k:Int)+(n:Int)<=8192)=true:=decide_eq_true (by omega)
theorem BJ(h:¬k+n<=8192):decide ((k:Int)+(n:Int)<=8192)=false:=decide_eq_false (by omega)
theorem TL(h:bf w k n r c)(a:ByteArray):Calls VI 145 #[.pointer (some ⟨k,0,none⟩),.string a] w fun e w'=>(∃z:ByteArray,z.size=0/\e=.returned (.tuple #[.string z,.bool false]))/\aa ab w w':=(sA h a).mono fun _ _⟨b,ht⟩=>⟨⟨_,rfl,b⟩,ht⟩
structure jL(w:World)(M S:Nat)(d n:Nat)(L:List UInt8)(v:Value)(wr:World):Prop where
 own:wr.ownsRow w.heap.size 5 1 v L.length (je L)
 jV:bf wr M S (d:Nat) (n:Nat)
 turns:aa (af M) w wr
 n10:n<=10000
theorem jL.sl(h:jL w k n i j p v w'):∃A m c,v=.slice A m c/\p.length=m:=by obtain⟨A,c,e⟩:=aE h.own;exact⟨A,_,c,e,rfl⟩
theorem jL.row(h:jL w k n m i p v w')(c:aa (af k) w' U)(a:p.length=j):U.ownsRow w.heap.size 5 1 v j (je p):=by subst a;refine c.own h.own fun g b e=>?_;have e:g=k:=e;subst e;exact a_ h.own h.jV.mb (by decide) b
theorem jL.push{w2:World}{l:List UInt8}{A:Option Addr}(h:jL w k n m i p v w')(c:p.length=d)(o:l.length=q)(D:aa (af k) w' U)(r:bf U k n (m:Nat) (j:Nat))(t:j<=10000)(C:w2.ownsRow w.heap.size 5 1 (.slice A (d+q) g) (d+q) (je p++je l))(f:U.grownBy w2 v.ownBlock):jL w k n m j (p++l) (.slice A (d+q) g) w2:=by subst c o;have a:=(aa.refl (fun b=>v.ownBlock=some b) U).grown f fun _ _ e=>e;have z:v.ownBlock≠some k:=a_ h.own h.jV.mb (by decide);have y:v.ownBlock≠some n:=a_ h.own h.jV.sc (by decide);refine⟨by rw[VK,Gd];exact C,r.aC a z y,?_,t⟩;refine(h.turns.same D).trans a fun b a e=>?_;have :=(h.own.lt b e);omega
theorem uo(X:sP k):dD k:=by
 intro w M S B n s Y hB ae hn hs;obtain⟨i0,J,K,N,O⟩:=info_parts A.J7;have Q:=VH (VJ Y hB);have aj:=VH X;have H0:=VH (show jL w M S k n [] (.slice none 0 0) w from⟨World.ownsRow_nil _ _ _ _,ae,aa.refl _ _,hn⟩);clear Y X ae hn hB;go_enter func130,ntmps130;go_wp2_with fail;go_loopg[5,6,7,8,9,10](s.size+1)(fun g s5 s6 _ _ _ _ wr=>∃(b n:Nat)(L:List UInt8),g=s.size+1-b/\b<=s.size+1/\s6=.int .i64 (b:Nat)/\L.length<=8192/\jL w M S k n L s5 wr);case atStart=>exact⟨0,n,[],rfl,VQ _,rfl,VQ _,H0.out⟩
 case round=>
  obtain⟨b,n,L,rfl,hk,rfl,Z,E⟩:=hrel;obtain⟨A0,m,c0,rfl,I⟩:=E.sl;have a:=VH E;have f:=VH I;rw[I]at Z;have ai:=E.turns.size;by_cases ao:b<s.size
  ·have ay:b<s.size:=ao;have p1:(b:Int)<(s.size:Int):=by omega
   have p2:(0:Int)<=(b:Int):=by omega
   have q1:VL.wrap ((b:Int)+1)=((b+1:Nat):Int):=ak (by omega);have q2:VL.wrap ((b:Int)+2)=((b+2:Nat):Int):=ak (by omega);clear E I;generalize av:b+1=o at*;generalize ax:b+2=y at*;have q3:VL.wrap ((o:Int)+1)=((y:Nat):Int):=ak (by omega);generalize hx:s[b]=x at*;go_upto_region 6 with fail;go_cut[27]from 11 to 94(fun ar wx=>∃t:Bool,ar=.bool t/\(t=true->o<s.size)/\wr=wx)
   case first=>
    cases x1:((x.toNat:Int)==35)with
    |true=>
     by_cases an:o<s.size
     ·have p3:(o:Int)<(s.size:Int):=by omega
      go_wp2_with fail;go_meet;exact⟨_,rfl,fun _=>an,rfl⟩
     ·have p3:¬(o:Int)<(s.size:Int):=by omega
      go_wp2_with fail;go_meet;exact⟨_,rfl,fun e=>Bool.noConfusion e,rfl⟩
    |false=>go_wp2_with fail;go_meet;exact⟨_,rfl,fun e=>Bool.noConfusion e,rfl⟩
   case rest=>
    obtain⟨tb,rfl,U,rfl⟩:=hcut;cases tb
    case' true=>
     have aw:o<s.size:=U rfl;have p3:(o:Int)<(s.size:Int):=by omega
     have p4:(0:Int)<=(o:Int):=by omega
     clear U;generalize hy:s[o]=c at*;cases g1:((c.toNat:Int)==35);case' false=>cases g2:((c.toNat:Int)==44)
     case' false=>cases g3:((c.toNat:Int)==125)
     case' false=>cases g4:((c.toNat:Int)==123)
     case true.true|true.false.true|true.false.false.true=>
      by_cases d:m+1<=8192;case' pos=>have C:=BF d;have h:=VH @gB
      case' neg=>have C:=BI d;have h:=VH @eF
      all_goals go_wp2_with(first|(go_at_call 142;refine(h.out _ _).mono ?_;rintro F H⟨rfl,rfl⟩)|(at_builtin;refine aX _ rfl (.tmp 49) (.tmp 51) _ _ rfl _ 5 i0 _ 1 1 underlying102 J K N O rfl _ _ _ rfl (a.out.row (((aa.refl (af M) wr)).alloc _) f.out) _ _ _ rfl (Ee (ad.new wr _ _)) (by simp only[maxLen];omega) (by omega) (by simp;omega) ?_;intro P T W l j D;have i:=VH (a.out.push (l:=[c]) f.out rfl ((aa.refl (af M) wr).alloc _) (a.out.jV.still ((aa.refl ab wr).alloc _)) a.out.n10 l j);clear l j D));first|exact⟨rfl,i.out.turns,.inl ⟨_,rfl⟩⟩|(go_roundg(s.size+1-y);(case measure=>omega);case rel=>exact⟨y,_,_,rfl,by omega,rfl,by rw[VK,f.out];exact d,i.out⟩)
     case true.false.false.false.true=>
      go_wp2_with fail;refine(GP (s:=s) (i:=y) (by omega) (by omega)).mono ?_;rintro e w3⟨rfl|⟨r,az,aA,rfl⟩,rfl⟩;. go_wp2_with(go_at_call 142;refine(eF _ _).mono ?_;rintro F H⟨rfl,rfl⟩);exact⟨rfl,a.out.turns,.inl ⟨_,rfl⟩⟩
      ·have q0:(0:Int)<=(r:Int):=by omega
       have q4:(y:Int)<=(r:Int):=by omega
       have q5:(r:Int)<=(s.size:Int):=by omega
       have q6:(0:Int)<=(y:Int):=by omega
       have q7:VL.wrap ((r:Int)+1)=((r+1:Nat):Int):=ak (by omega);have al:(s.extract y r).size<=8192:=VS (jm _ _ _) hs;go_wp2_with(go_at_call 142;refine(gB _ _).mono ?_;rintro F H⟨rfl,rfl⟩);refine(aj.out wr M S B n _ (Q.out.1.only a.out.turns Q.out.2) Q.out.2 a.out.jV a.out.n10 al).mono ?_;rintro e w4⟨q,⟨kk,rfl⟩|⟨vv,rfl,t,n2,rfl,aB,ah,ag⟩⟩;. have p:=VH (a.out.turns.same q);clear q;go_wp2_with fail;exact⟨rfl,p.out,.inl ⟨_,rfl⟩⟩
       ·have p:=VH (VJ q (VJ ag ah));have G:t.data.toList.length=t.size:=Wz;have V:=VS ai q.size;clear q ag ah;by_cases d:m+t.size<=8192;case' pos=>have C:=BH d;have h:=VH @gB
        case' neg=>have C:=BJ d;have h:=VH @eF
        all_goals go_wp2_with(first|(go_at_call 142;refine(h.out _ _).mono ?_;rintro F H⟨rfl,rfl⟩)|(at_builtin;refine aX _ rfl (.tmp 65) (.tmp 72) _ _ rfl _ 5 i0 _ 1 1 underlying102 J K N O rfl _ _ _ rfl (a.out.row p.out.1 f.out) _ _ _ rfl (Src.ofString _ underlying9 t) (by simp only[maxLen];omega) (by omega) (V) ?_;intro P T W l j D;have i:=VH (a.out.push (l:=t.data.toList) f.out G p.out.1 p.out.2.1 p.out.2.2 l j);clear l j D));first|exact⟨rfl,i.out.turns,.inl ⟨_,rfl⟩⟩|(go_roundg(s.size+1-(r+1));(case measure=>omega);case rel=>exact⟨(r+1),_,_,rfl,by omega,rfl,by rw[VK,f.out];rw[G];exact d,i.out⟩)
    case' false=>clear U
    all_goals
     go_wp2_with fail;refine(z7 _ _).mono ?_;rintro e w3⟨⟨u,hu,rfl⟩,rfl⟩
     cases aC:u.toList==([]:List UInt8)with
     |true=>
      by_cases d:m+1<=8192;case' pos=>have C:=BF d;have h:=VH @gB
      case' neg=>have C:=BI d;have h:=VH @eF
      all_goals go_wp2_with(first|(go_at_call 142;refine(h.out _ _).mono ?_;rintro F H⟨rfl,rfl⟩)|(at_builtin;refine aX _ rfl (.tmp 32) (.tmp 36) _ _ rfl _ 5 i0 _ 1 1 underlying102 J K N O rfl _ _ _ rfl (a.out.row (((aa.refl (af M) wr)).alloc _) f.out) _ _ _ rfl (Ee (ad.new wr _ _)) (by simp only[maxLen];omega) (by omega) (by simp;omega) ?_;intro P T W l j D;have i:=VH (a.out.push (l:=[x]) f.out rfl ((aa.refl (af M) wr).alloc _) (a.out.jV.still ((aa.refl ab wr).alloc _)) a.out.n10 l j);clear l j D));first|exact⟨rfl,i.out.turns,.inl ⟨_,rfl⟩⟩|(go_roundg(s.size+1-o);(case measure=>omega);case rel=>exact⟨o,_,_,rfl,by omega,rfl,by rw[VK,f.out];exact d,i.out⟩)
     |false=>
      go_wp2_with fail;refine(z7 _ _).mono ?_;rintro e w3⟨⟨u2,aD,rfl⟩,rfl⟩;go_wp2_with fail;refine(TL a.out.jV u2).mono ?_;rintro e w4⟨⟨z,aq,rfl⟩,q⟩;have p:=VH (VJ (q.mono (S':=af M) fun _ _ e=>e.elim) (a.out.jV.still q));have V:=VS ai q.size;have G:z.data.toList.length=z.size:=Wz;have aE:z.size<=8192:=by omega
      clear q aq;by_cases d:m+z.size<=8192;case' pos=>have C:=BH d;have h:=VH @gB
      case' neg=>have C:=BJ d;have h:=VH @eF
      all_goals go_wp2_with(first|(go_at_call 142;refine(h.out _ _).mono ?_;rintro F H⟨rfl,rfl⟩)|(at_builtin;refine aX _ rfl (.tmp 86) (.tmp 87) _ _ rfl _ 5 i0 _ 1 1 underlying102 J K N O rfl _ _ _ rfl (a.out.row p.out.1 f.out) _ _ _ rfl (Src.ofString _ underlying9 z) (by simp only[maxLen];omega) (by omega) (V) ?_;intro P T W l j D;have i:=VH (a.out.push (l:=z.data.toList) f.out G p.out.1 p.out.2 a.out.n10 l j);clear l j D));first|exact⟨rfl,i.out.turns,.inl ⟨_,rfl⟩⟩|(go_roundg(s.size+1-y);(case measure=>omega);case rel=>exact⟨y,_,_,rfl,by omega,rfl,by rw[VK,f.out];rw[G];exact d,i.out⟩)
  ·have p1:¬(b:Int)<(s.size:Int):=by omega
   have au:=Rf (l:=L) E.own;clear E I;go_wp2_with fail;go_ret;refine⟨a.out.turns,.inr ⟨_,rfl,_,n,rfl,?_,a.out.n10,a.out.jV⟩⟩;show L.toArray.size<=8192;rw[List.size_toArray,f.out];exact Z
theorem vB(h:fH w k X v w')(m:1<=X.length):∃g c,v=.slice (some ⟨g,0,none⟩) X.length c/\w.heap.size<=g/\g<w'.heap.size/\∀i(hi:i<X.length),w'.cell? ⟨g,i,none⟩=some (.string X[i]):=by
 have b:=h.own;rcases h.own.2 with⟨_,l⟩|⟨g,a,j,e,d,f,_⟩;. omega
 ·subst e;refine⟨g,a,rfl,d,(Array.getElem?_eq_some_iff.1 f).1,fun i hi=>?_⟩;have :=b.cells (g:=g) rfl i (.string X[i]) (by simp[strs,hi]);rw[show(⟨g,0,none⟩:Addr).add i=⟨g,i,none⟩from by unfold Addr.add;split<;>simp_all]at this;exact this
def FI(M S:Nat)(d:Int)(v:Value)(c:World):Prop:=∃(a b:ByteArray)(n:Nat),v=.tuple #[.string a,.string b]/\a.size<=8192/\b.size<=8192/\n<=10000/\bf c M S d (n:Nat)
theorem Ey(D:dD k){B:Nat}(G:FE w B)(hB:B<=n)(A:bf w n m (k:Nat) (i:Nat))(J:i<=10000)(N:s.size<=8192):Calls VI 171 #[.pointer (some ⟨n,0,none⟩),.string s] w (Fx (af n) w (FI n m (k:Nat))):=by
 have aa:=A.mb.lt;have f:=VH (VJ G hB);have E:=VH D;have C:=VH (VJ A J);have Q:=VH (vH (w:=w) (s:=s) (by omega) 2 (by decide));clear G hB A J D;go_enter func171,ntmps171;go_wp2_with fail;refine Q.out.mono ?_;rintro e w1⟨v,L,rfl,H,T,j⟩;obtain⟨g,c,rfl,ab,I,r⟩:=vB j H;have p:=VH (j.turns.mono (S':=af n) fun _ _ e=>e.elim);have P:=VH (C.out.1.still j.turns);have u:=j.fit;clear j;by_cases F:L.length=2
 ·obtain⟨a,b,rfl⟩:∃a b,L=[a,b]:=by match L,F with|[a,b],_=>exact⟨a,b,rfl⟩
  have c0:=r 0 (by simp);have c1:=r 1 (by simp);have U:=VS (u a (by simp)) N;have V:=VS (u b (by simp)) N;simp only[List.getElem_cons_zero,List.getElem_cons_succ,List.length_cons,List.length_nil,Nat.zero_add,Nat.reduceAdd]at*;have O:=VH c1;clear r u F H T;go_wp2_with(go_at_call 142;refine(gB _ _).mono ?_;rintro S w'⟨rfl,rfl⟩);refine(E.out w1 n m B i a (f.out.1.only p.out f.out.2) f.out.2 P.out C.out.2 U).mono ?_;rintro e w2⟨d,⟨W,rfl⟩|⟨Z,rfl,t,X,rfl,o,K,l⟩⟩;. have h:=VH (p.out.same d);clear d;go_wp2_with fail;exact⟨rfl,h.out,.inl ⟨_,rfl⟩⟩
  ·have h:=VH (p.out.same d);have x:=VH (VJ l (VJ K o));have c1:=(d.cell (p:=⟨g,1,none⟩) I (fun e=>by have e:g=n:=e;omega)).trans O.out;have ad:=VO I d.size;clear d l K o c0;go_wp2_with fail;refine(E.out w2 n m B X b (f.out.1.only h.out f.out.2) f.out.2 x.out.1 x.out.2.1 V).mono ?_;rintro e w3⟨d,⟨W,rfl⟩|⟨Z,rfl,t3,Y,rfl,o,M,l⟩⟩;. have z:=VH (h.out.same d);clear d;go_wp2_with fail;exact⟨rfl,z.out,.inl ⟨_,rfl⟩⟩
   ·have z:=VH (h.out.same d);have y:=VH (VJ l (VJ M o));clear d l M o;go_wp2_with fail;refine bodyPost_ret (results_tmp2 rfl _ _ _) rfl ?_;exact⟨z.out,.inr ⟨_,rfl,t,t3,Y,rfl,x.out.2.2,y.out.2.2,y.out.2.1,y.out.1⟩⟩
 ·have q:((L.length:Int)==2)=false:=beq_eq_false_iff_ne.2 (by omega);clear r u;go_wp2_with(go_at_call 142;refine(eF _ _).mono ?_;rintro S w'⟨rfl,rfl⟩);exact⟨rfl,p.out,.inl ⟨_,rfl⟩⟩
theorem Sx(h:ad w g 9 #[.string s,.string x]):Src VI 1 51 (.slice (some ⟨g,0,none⟩) 2 2) 2 [.string s,.string x] w:=by
 refine Src.ofSlice _ underlying51 ⟨_,0,none⟩ 2 2 _ rfl (fun j u b=>?_) (by simp[Value.oneCell']);have a:(⟨g,0,none⟩:Addr).add j=⟨g,j,none⟩:=by unfold Addr.add;split<;>simp_all
 rw[a,h.cell j,<-b];simp
theorem PI{A:Option Addr}(h:fH w k X v w')(p:X.length=n)(F:1<=n)(u:s.size<=k)(y:x.size<=k)(t:aa ab w' U)(r:w1.ownsRow w.heap.size 9 1 (.slice A (n+2) m) (n+2) (strs X++[.string s,.string x]))(q:U.grownBy w1 v.ownBlock):∃g f i j,A=some ⟨g,0,none⟩/\w.heap.size<=g/\g<w1.heap.size/\w1.cell? ⟨g,0,none⟩=some (.string f)/\w1.cell? ⟨g,1,none⟩=some (.string i)/\w1.cell? ⟨g,2,none⟩=some (.string j)/\f.size<=k/\i.size<=k/\j.size<=k/\aa ab w w1:=by
 subst p
 have c:fH w k (X++[s,x]) (.slice A (X.length+2) m) w1:=by
  refine⟨by rw[VK,Eh];exact r,?_,fun z a=>?_⟩;. refine(h.turns.same t).grown q fun b E e=>?_;have :=h.own.lt b e;omega
  ·rcases List.mem_append.1 a with a|a;. exact h.fit z a
   ·simp at a;rcases a with rfl|rfl;. exact u
    ·exact y
 obtain⟨g,D,e,l,o,d⟩:=vB c (by simp);injection e with e;have C:2<(X++[s,x]).length:=by simp;omega
 exact⟨g,(X++[s,x])[0],(X++[s,x])[1],(X++[s,x])[2],e,l,o,d 0 (by omega),d 1 (by omega),d 2 C,c.fit _ (VZ _),c.fit _ (VZ _),c.fit _ (VZ _),c.turns⟩
theorem Ik(HT:dD k){B:Nat}(hF:FE w B)(hB:B<=n)(P:bf w n m (k:Nat) (i:Nat))(hn:i<=10000)(T:s.size<=8192):Calls VI 169 #[.pointer (some ⟨n,0,none⟩),.string s] w (Fx (af n) w (mH n m (k:Nat))):=by
 obtain⟨i0,ao,au,av,aw⟩:=info_parts A.ux;have ay:=P.mb.lt;have I:=VH (VJ hF hB);have ai:=VH HT;have J:=VH (VJ P hn);have ah:=VH (vH (w:=w) (s:=s) (by omega) 3 (by decide));clear hF hB P hn HT;go_enter func169,ntmps169;go_wp2_with fail;refine ah.out.mono ?_;rintro e V⟨v,L,rfl,ab,aj,D⟩;obtain⟨A0,U,c0,rfl,O⟩:=D.sl;have HP:=VH D;have Y:=VH O;have hz:=D.turns.size;rw[O]at ab aj;clear D O
 go_wp2_with(
  at_builtin;refine aX _ rfl (.tmp 9) (.tmp 10) _ _ rfl _ 9 i0 _ 1 16 underlying51 ao au av aw rfl _ _ _ rfl (HP.out.row ((aa.refl _ V).alloc _) Y.out) _ _ _ rfl (Sx (ad.new V _ _)) (by simp only[maxLen];omega) (by omega) (by simp;omega) ?_;intro A2 ax w3 ho hg ak;have HN:=VH (PI HP.out Y.out ab (VQ _) (VQ _) ((aa.refl _ V).alloc _) ho hg);clear ho hg ak;obtain⟨g,F,x1,x2,rfl,al,E,c0,c1,c2,N,z,C,Q⟩:=HN.out;have q0:(0:Int)<(U:Int)+2:=by omega
  have q1:(1:Int)<(U:Int)+2:=by omega
  have q2:(2:Int)<(U:Int)+2:=by omega
  have K:=VH (VJ (Q.mono (S':=af n) fun _ _ e=>e.elim) (J.out.1.still Q));have G:=VH (VJ c0 (VJ c1 c2));have N:=VS N T;have z:=VS z T;have C:=VS C T;have aA:w.heap.size<=g:=al;clear HN Q);refine(sA K.out.2 F).mono ?_;rintro e w4⟨rfl,a⟩;have y:=VH (K.out.1.same (a.mono fun _ _ e=>e.elim));have Z:=VH (K.out.2.still a);have c0:=(a.cell (p:=⟨g,0,none⟩) E id).trans G.out.1;have H:=VH (VJ c0 (VJ ((a.cell (p:=⟨g,1,none⟩) E id).trans G.out.2.1) ((a.cell (p:=⟨g,2,none⟩) E id).trans G.out.2.2)));have p:=VO E a.size;clear a c1 c2;go_wp2_with fail;refine(Tryz.strings_Contains_one F 35 _).mono ?_;rintro e w5⟨rfl,rfl⟩;have r:=VH (show∀(W:World)(l:Nat)(x:ByteArray),aa (af n) w W->bf W n m (k:Nat) (l:Nat)->l<=10000->x.size<=8192->Calls VI 130 #[.pointer (some ⟨n,0,none⟩),.string x] W (Fx (af n) W (mH n m (k:Nat)))from fun W l x hT hk aq hx=>ai.out W n m B l x (I.out.1.only hT I.out.2) I.out.2 hk aq hx)
 cases az:decide (0<=Lib.indexByte F.data.toList 35)with
 |true=>
  go_wp2_with fail;refine(r.out w5 i F y.out Z.out J.out.2 N).mono ?_;rintro e w6⟨a,⟨l,rfl⟩|⟨q,rfl,t,n2,rfl,aB,ae,d⟩⟩;. have f:=VH (y.out.same a);clear a;go_wp2_with fail;exact⟨rfl,f.out,.inl ⟨_,rfl⟩⟩
  ·have f:=VH (VJ (y.out.same a) (VJ d ae));have ag:¬af n g:=fun e=>by have e:g=n:=e;omega
   have c1:=(a.cell (p:=⟨g,1,none⟩) p ag).trans H.out.2.1;have c2:=(a.cell (p:=⟨g,2,none⟩) p ag).trans H.out.2.2;have S:=VO p a.size;clear a d ae c0;go_wp2_with fail;refine(pI _ _).mono ?_;rintro e u⟨a,⟨l,rfl⟩|⟨q,rfl,rfl,ar⟩⟩;. have c:=VH (f.out.1.same (a.mono fun _ _ e=>e.elim));clear a;go_wp2_with fail;exact⟨rfl,c.out,.inl ⟨_,rfl⟩⟩
   ·have c:=VH (VJ (f.out.1.same (a.mono fun _ _ e=>e.elim)) (f.out.2.1.still a));have c1:=(a.cell (p:=⟨g,1,none⟩) S id).trans c1;have c2:=(a.cell (p:=⟨g,2,none⟩) S id).trans c2;have an:=VO S a.size;clear a;go_wp2_with fail;refine(lq _ _).mono ?_;rintro e w8⟨⟨M,rfl⟩,rfl⟩;cases M
    ·go_wp2_with fail;refine(r.out u n2 x2 c.out.1 c.out.2 f.out.2.2 C).mono ?_;rintro e X⟨a,⟨l,rfl⟩|⟨q,rfl,t9,o,rfl,j,h,d⟩⟩;. have b:=VH (c.out.1.same a);clear a;go_wp2_with fail;exact⟨rfl,b.out,.inl ⟨_,rfl⟩⟩
     ·have b:=VH (VJ (c.out.1.same a) (VJ d (VJ h j)));clear a d h j;go_wp2_with fail;go_ret;exact⟨b.out.1,.inr ⟨_,rfl,t9,o,rfl,b.out.2.2.2,b.out.2.2.1,b.out.2.1⟩⟩
    ·go_wp2_with fail;refine(r.out u n2 x1 c.out.1 c.out.2 f.out.2.2 z).mono ?_;rintro e X⟨a,⟨l,rfl⟩|⟨q,rfl,t9,o,rfl,j,h,d⟩⟩;. have b:=VH (c.out.1.same a);clear a;go_wp2_with fail;exact⟨rfl,b.out,.inl ⟨_,rfl⟩⟩
     ·have b:=VH (VJ (c.out.1.same a) (VJ d (VJ h j)));clear a d h j;go_wp2_with fail;go_ret;exact⟨b.out.1,.inr ⟨_,rfl,t9,o,rfl,b.out.2.2.2,b.out.2.2.1,b.out.2.1⟩⟩
 |false=>
  obtain⟨c1,c2⟩:=H.out.2;have f:=VH (VJ y.out (VJ Z.out J.out.2));go_wp2_with fail;refine(pI _ _).mono ?_;rintro e u⟨a,⟨l,rfl⟩|⟨q,rfl,rfl,ar⟩⟩;. have c:=VH (f.out.1.same (a.mono fun _ _ e=>e.elim));clear a;go_wp2_with fail;exact⟨rfl,c.out,.inl ⟨_,rfl⟩⟩
  ·have c:=VH (VJ (f.out.1.same (a.mono fun _ _ e=>e.elim)) (f.out.2.1.still a));have c1:=(a.cell (p:=⟨g,1,none⟩) p id).trans c1;have c2:=(a.cell (p:=⟨g,2,none⟩) p id).trans c2;have an:=VO p a.size;clear a;go_wp2_with fail;refine(lq _ _).mono ?_;rintro e w8⟨⟨M,rfl⟩,rfl⟩;cases M
   ·go_wp2_with fail;refine(r.out u i x2 c.out.1 c.out.2 f.out.2.2 C).mono ?_;rintro e X⟨a,⟨l,rfl⟩|⟨q,rfl,t9,o,rfl,j,h,d⟩⟩;. have b:=VH (c.out.1.same a);clear a;go_wp2_with fail;exact⟨rfl,b.out,.inl ⟨_,rfl⟩⟩
    ·have b:=VH (VJ (c.out.1.same a) (VJ d (VJ h j)));clear a d h j;go_wp2_with fail;go_ret;exact⟨b.out.1,.inr ⟨_,rfl,t9,o,rfl,b.out.2.2.2,b.out.2.2.1,b.out.2.1⟩⟩
   ·go_wp2_with fail;refine(r.out u i x1 c.out.1 c.out.2 f.out.2.2 z).mono ?_;rintro e X⟨a,⟨l,rfl⟩|⟨q,rfl,t9,o,rfl,j,h,d⟩⟩;. have b:=VH (c.out.1.same a);clear a;go_wp2_with fail;exact⟨rfl,b.out,.inl ⟨_,rfl⟩⟩
    ·have b:=VH (VJ (c.out.1.same a) (VJ d (VJ h j)));clear a d h j;go_wp2_with fail;go_ret;exact⟨b.out.1,.inr ⟨_,rfl,t9,o,rfl,b.out.2.2.2,b.out.2.2.1,b.out.2.1⟩⟩
theorem Pm(h:bf w k n r c)(a:Int):Calls VI 182 #[.pointer (some ⟨k,0,none⟩),.int .u8 a] w fun e w'=>e=.returned (.slice none 0 0)/\w=w':=by obtain⟨c0,c1,c2,s0,s1,-,-⟩:=h.cells;clear h;go_enter func182,ntmps182;go_wp2_with fail;refine wp_loop_rounds 2 ?_;rw[rounds_succ];go_wp2_with fail;refine wp_loop_rounds 1 ?_;rw[rounds_succ];go_wp2_with fail;rw[rounds_succ];go_wp2_with fail;go_ret;exact⟨rfl,rfl⟩
theorem uO(o:bf w k n (m:Nat) (i:Nat))(r:i<=10000)(F:s.size<=8192)(u:Int):Calls VI 174 #[.pointer (some ⟨k,0,none⟩),.int .u8 u,.string s] w (Fx (af k) w (pZ k n (m:Nat))):=by
 have d:=VH (VJ o r);have y:=VH (vH (w:=w) (s:=s) (by omega) 2 (by decide));clear o r;go_enter func174,ntmps174;go_wp2_with fail;refine y.out.mono ?_;rintro e a⟨v,L,rfl,D,E,f⟩;have z:=VH f.turns;have x:=VH (d.out.1.still f.turns);clear f;have q:=Lib.fresh_isBuilder 104 5 a;have l:=x.out.still ((aa.refl ab a).alloc (.cells #[.pointer none,.slice none 0 0] 104));have A:=VH ((aa.refl ab a).alloc (.cells #[.pointer none,.slice none 0 0] 104));have t:a.heap.size<=(a.alloc (.cells #[.pointer none,.slice none 0 0] 104)).heap.size:=by simp
 have c:=VH (VJ q (VJ l t));clear q l t;go_upto_region 3 with fail;generalize a.alloc (.cells #[.pointer none,.slice none 0 0] 104)=G at*;go_wp2_with fail;refine(Pm c.out.2.1 u).mono ?_;rintro e H⟨rfl,rfl⟩;go_wp2_with fail;refine wp_loop_rounds 1 ?_;rw[rounds_succ];go_wp2_with fail;refine(Tryz.Builder_String_empty _ _ _ c.out.1 c.out.2.2).mono ?_;rintro e C⟨rfl,p⟩;have j:=VH (show aa ab w C from z.out.same (A.out.trans (aa.eO (S:=fun b=>a.heap.size<=b) p fun b h _=>h) fun b h e=>by omega));clear p;go_wp2_with fail;go_ret;exact⟨j.out.mono fun _ _ e=>e.elim,.inr ⟨_,rfl,_,i,rfl,d.out.2,d.out.1.still j.out⟩⟩
theorem NW{L:List Md}(h:iE w k L v w'):∃A c,v=.slice A L.length c/\∀i(hi:i<L.length),∃g,A=some ⟨g,0,none⟩/\w.heap.size<=g/\g<w'.heap.size/\w'.cell? ⟨g,i*5,none⟩=some (.int .u8 L[i].c)/\w'.cell? ⟨g,i*5+1,none⟩=some (.int .i64 L[i].n)/\w'.cell? ⟨g,i*5+2,none⟩=some (.bool L[i].bl)/\w'.cell? ⟨g,i*5+3,none⟩=some (.string L[i].a)/\w'.cell? ⟨g,i*5+4,none⟩=some (.string L[i].b):=by
 have a:=h.own;rcases h.own.2 with⟨e,f⟩|⟨g,d,m,e,j,l,_⟩;. subst e;exact⟨none,0,by rw[f],fun i hi=>absurd hi (by omega)⟩
 ·subst e;refine⟨_,d,rfl,fun i hi=>⟨g,rfl,j,(Array.getElem?_eq_some_iff.1 l).1,?_⟩⟩;have b:=Cn L i hi;have n:=Co L;refine⟨?_,?_,?_,?_,?_⟩;. rw[a.cellAt _ (by omega)];exact b.1
  ·rw[a.cellAt _ (by omega)];exact b.2.1
  ·rw[a.cellAt _ (by omega)];exact b.2.2.1
  ·rw[a.cellAt _ (by omega)];exact b.2.2.2.1
  ·rw[a.cellAt _ (by omega)];exact b.2.2.2.2
theorem NX{L:List Md}(h:iE w k L v w')(j:k<=8192):∃A f,v=.slice A L.length f/\∀i,i<L.length->∃(x:Md)(g:Nat),lC 8192 x.c x.n x.a x.b/\A=some ⟨g,0,none⟩/\w.heap.size<=g/\g<w'.heap.size/\w'.cell? ⟨g,i*5,none⟩=some (.int .u8 x.c)/\w'.cell? ⟨g,i*5+1,none⟩=some (.int .i64 x.n)/\w'.cell? ⟨g,i*5+2,none⟩=some (.bool x.bl)/\w'.cell? ⟨g,i*5+3,none⟩=some (.string x.a)/\w'.cell? ⟨g,i*5+4,none⟩=some (.string x.b):=by obtain⟨A,f,e,m⟩:=NW h;refine⟨A,f,e,fun i hi=>?_⟩;obtain⟨g,l⟩:=m i hi;have d:=h.fit L[i] (VZ hi);exact⟨L[i],g,⟨d.n1,VS d.a1 j,VS d.b1 j,d.one⟩,l⟩
theorem N_(HT:dD k){B:Nat}(hF:FE w B)(hB:B<=m)(aj:bf w m i (k:Nat) (j:Nat))(hn:j<=10000)(hs:s.size<=8192):Calls VI 176 #[.pointer (some ⟨m,0,none⟩),.string s] w (Fx (af m) w (mH m i (k:Nat))):=by
 have aR:=aj.mb.lt;have y:=VH (VJ hF hB);have aq:=VH HT;have V:=VH (VJ aj hn);have aF:=VH (Oc hF.low (s:=s) (by omega));clear hF hB aj hn HT;go_enter func176,ntmps176;go_wp2_with fail;refine aF.out.mono ?_;rintro e w1⟨f,⟨d,rfl⟩|⟨U,rfl,lv,L,rest,rfl,aQ,aC,ay⟩⟩;. have X:=VH (f.mono (S':=af m) fun _ _ e=>e.elim);clear f;go_wp2_with fail;exact⟨rfl,X.out,.inl ⟨_,rfl⟩⟩
 ·have X:=VH f;obtain⟨A0,c0,rfl,ax⟩:=NX ay hs;have al:=VH ax;have aL:=VS aC hs;clear f ay ax aC;generalize aH:L.length=o at*;clear aH;go_wp2_with fail;go_loopg[7,8,10,22]o(fun g s7 s8 _ aO wr=>∃(d:Nat)(Y Z:Bool),g=o-d/\d<=o/\aO=.int .i64 (d:Nat)/\s7=.bool Y/\s8=.bool Z/\aa ab w1 wr);case atStart=>exact⟨0,false,false,rfl,VQ _,rfl,rfl,rfl,aa.refl _ _⟩
  case round=>
   obtain⟨d,Y,Z,rfl,hk,rfl,rfl,rfl,l⟩:=hrel;have ao:=VH l;by_cases ad:d<o
   ·have q1:(d:Int)<(o:Int):=by omega
    have q2:(0:Int)<=(d:Int):=by omega
    have e9:VL.wrap ((d:Int)+1)=((d+1:Nat):Int):=ak (by omega);obtain⟨x,g,-,rfl,aI,p,G,H,I,J,M⟩:=al.out d ad;have G:=(l.cell (p:=⟨g,d*5,none⟩) p id).trans G;have H:=(l.cell (p:=⟨g,d*5+1,none⟩) p id).trans H;have I:=(l.cell (p:=⟨g,d*5+2,none⟩) p id).trans I;have J:=(l.cell (p:=⟨g,d*5+3,none⟩) p id).trans J;have M:=(l.cell (p:=⟨g,d*5+4,none⟩) p id).trans M;have aJ:=VO p l.size;clear l;cases Y
    all_goals
     cases Z
     all_goals
      go_wp2_with fail;go_roundg(o-(d+1));case measure=>omega
      case rel=>exact⟨d+1,_,_,rfl,by omega,rfl,rfl,rfl,ao.out.alloc _⟩
   ·obtain rfl:o=d:=by omega
    have q1:¬(o:Int)<(o:Int):=by omega
    have ai:=VH (VJ (X.out.same l) ((X.out.same l).mono (S':=af m) fun _ _ e=>e.elim));have ag:=VH (V.out.1.still ai.out.1);clear l ad hk;go_upto_if 41 with fail;go_cut[11,12](fun T _ F=>∃(t:ByteArray)(E:Nat),T=.string t/\E<=10000/\bf F m i (k:Nat) (E:Nat)/\aa (af m) w F/\aa (af m) wr F)
    case first=>
     cases Y with
     |true=>go_wp2_with fail;go_meet;exact⟨_,j,rfl,V.out.2,ag.out,ai.out.2,aa.refl _ _⟩
     |false=>
      go_wp2_with fail;refine(sA ag.out rest).mono ?_;rintro e w4⟨rfl,f⟩;have z:=VH (VJ (ai.out.2.same (f.mono fun _ _ e=>e.elim)) (VJ (ag.out.still f) (f.mono (S':=af m) fun _ _ e=>e.elim)));clear f;go_wp2_with fail;refine(Tryz.strings_Contains_one rest 35 _).mono ?_;rintro e w5⟨rfl,rfl⟩
      cases aT:decide (0<=Lib.indexByte rest.data.toList 35)with
      |true=>
       go_wp2_with fail;refine(aq.out w5 m i B j rest (y.out.1.only z.out.1 y.out.2) y.out.2 z.out.2.1 V.out.2 aL).mono ?_;rintro e w6⟨f,⟨d,rfl⟩|⟨U,rfl,t,E,rfl,D,S,A⟩⟩;. have P:=VH (z.out.1.same f);clear f;go_wp2_with fail;exact⟨rfl,P.out,.inl ⟨_,rfl⟩⟩
       ·have P:=VH (VJ (z.out.1.same f) (VJ A (VJ S (z.out.2.2.same f))));clear f A S D;go_wp2_with fail;go_meet;exact⟨t,E,rfl,P.out.2.2.1,P.out.2.1,P.out.1,P.out.2.2.2⟩
      |false=>go_wp2_with fail;go_meet;exact⟨_,j,rfl,V.out.2,z.out.2.1,z.out.1,z.out.2.2⟩
    case rest=>
     obtain⟨t,E,rfl,S,A,ar,av⟩:=hcut;have N:=VH (VJ S (VJ A (VJ ar av)));clear S A ar av;go_wp2_with fail;refine(pI _ _).mono ?_;rintro e w7⟨f,⟨d,rfl⟩|⟨U,rfl,rfl,aD⟩⟩;. have aG:=VH (N.out.2.2.1.same (f.mono fun _ _ e=>e.elim));clear f;go_wp2_with fail;exact⟨rfl,aG.out,.inl ⟨_,rfl⟩⟩
     ·have r:=VH (VJ (N.out.2.2.1.same (f.mono fun _ _ e=>e.elim)) (VJ (N.out.2.1.still f) (N.out.2.2.2.same (f.mono fun _ _ e=>e.elim))));clear f;go_upto_if 59 with fail;go_cut[11](fun T F=>∃(t:ByteArray)(n3:Nat),T=.string t/\t.size<=8192/\n3<=10000/\bf F m i (k:Nat) (n3:Nat)/\aa (af m) w F/\aa (af m) wr F)
      case first=>
       cases Z with
       |false=>go_wp2_with fail;go_meet;exact⟨t,E,rfl,aD,N.out.1,r.out.2.1,r.out.1,r.out.2.2⟩
       |true=>
        obtain⟨-,m1,-,-,-,-,-⟩:=r.out.2.1.cells;have aS:=r.out.2.1.mb.lt;by_cases hd:k<16
        ·have g8:decide ((k:Int)<16)=true:=decide_eq_true (by omega);go_wp2_with(go_at_call 142;refine(gB _ _).mono ?_;rintro en w'⟨rfl,rfl⟩);refine(aq.out _ m i B E t (y.out.1.only r.out.1 y.out.2) y.out.2 r.out.2.1 N.out.1 aD).mono ?_;rintro e w8⟨f,⟨d,rfl⟩|⟨U,rfl,t8,n8,rfl,D,aA,A⟩⟩;. have q:=VH (r.out.1.same f);clear f;go_wp2_with fail;exact⟨rfl,q.out,.inl ⟨_,rfl⟩⟩
         ·have q:=VH (VJ (r.out.1.same f) (VJ A (VJ aA (VJ D (r.out.2.2.same f)))));clear f A aA D;go_wp2_with fail;go_meet;exact⟨t8,n8,rfl,q.out.2.2.2.1,q.out.2.2.1,q.out.2.1,q.out.1,q.out.2.2.2.2⟩
        ·have g8:decide ((k:Int)<16)=false:=decide_eq_false (by omega);go_wp2_with(go_at_call 142;refine(eF _ _).mono ?_;rintro en w'⟨rfl,rfl⟩);exact⟨rfl,r.out.1,.inl ⟨_,rfl⟩⟩
      case rest=>
       obtain⟨t9,n9,rfl,aM,aB,az,au,aw⟩:=hcut;have O:=VH (VJ aB (VJ az au))
       have aE:=VH (show∀C,C<o->∃(x:Md)(g:Nat),lC 8192 x.c x.n x.a x.b/\A0=some ⟨g,0,none⟩/\g<wc.heap.size/\wc.cell? ⟨g,C*5,none⟩=some (.int .u8 x.c)/\wc.cell? ⟨g,C*5+1,none⟩=some (.int .i64 x.n)/\wc.cell? ⟨g,C*5+2,none⟩=some (.bool x.bl)/\wc.cell? ⟨g,C*5+3,none⟩=some (.string x.a)/\wc.cell? ⟨g,C*5+4,none⟩=some (.string x.b)from by
        intro C hi;obtain⟨x,g,hx,hA,aI,p,G,H,I,J,M⟩:=al.out C hi;have l:=(ao.out.mono (S':=af m) fun _ _ e=>e.elim).same aw;have aK:¬af m g:=fun e=>by have e:g=m:=e;omega
        have K:∀ae,wc.cell? ⟨g,ae,none⟩=w1.cell? ⟨g,ae,none⟩:=fun ae=>l.cell (p:=⟨g,ae,none⟩) p aK;exact⟨x,g,hx,hA,VO p l.size,(K _).trans G,(K _).trans H,(K _).trans I,(K _).trans J,(K _).trans M⟩);clear aB az au aw;go_wp2_with fail;go_loopg[11,14,71]o(fun g T _ aP wr=>∃(d:Nat)(t:ByteArray),g=o-d/\d<=o/\aP=.int .i64 (d:Nat)/\T=.string t/\t.size<=8192/\aa ab wc wr);case atStart=>exact⟨0,t9,rfl,VQ _,rfl,rfl,aM,aa.refl _ _⟩
       case round=>
        obtain⟨d,t,rfl,hk,rfl,rfl,D,l⟩:=hrel;have Q:=VH l;by_cases ad:d<o
        ·have q1:(d:Int)<(o:Int):=by omega
         have q2:(0:Int)<=(d:Int):=by omega
         have e9:VL.wrap ((d:Int)+1)=((d+1:Nat):Int):=ak (by omega);obtain⟨x,g,hx,rfl,p,G,H,I,J,M⟩:=aE.out d ad;have G:=(l.cell (p:=⟨g,d*5,none⟩) p id).trans G;have H:=(l.cell (p:=⟨g,d*5+1,none⟩) p id).trans H;have I:=(l.cell (p:=⟨g,d*5+2,none⟩) p id).trans I;have J:=(l.cell (p:=⟨g,d*5+3,none⟩) p id).trans J;have M:=(l.cell (p:=⟨g,d*5+4,none⟩) p id).trans M;have aJ:=VO p l.size;have HX:=VH hx;have an:=VH (fun(W:World)(h:aa ab wc W)=>y.out.1.only (O.out.2.2.same (h.mono fun _ _ e=>e.elim)) y.out.2);clear l hx;go_wp2_with fail;refine(FX (an.out _ (Q.out.alloc _)).low (an.out _ (Q.out.alloc _)).iA D HX.out).mono ?_;rintro e w8⟨f,⟨kk,rfl⟩|⟨U,rfl,u,rfl⟩⟩;. have q:=VH (O.out.2.2.same (((Q.out.alloc _).same f).mono fun _ _ e=>e.elim));clear f;go_wp2_with fail;exact⟨rfl,q.out,.inl ⟨_,rfl⟩⟩
         ·have q:=VH ((Q.out.alloc _).same f);clear f;go_wp2_with fail;refine(pI _ _).mono ?_;rintro e w9⟨f,⟨kk,rfl⟩|⟨U,rfl,rfl,aN⟩⟩;. have ah:=VH (O.out.2.2.same ((q.out.same f).mono fun _ _ e=>e.elim));clear f;go_wp2_with fail;exact⟨rfl,ah.out,.inl ⟨_,rfl⟩⟩
          ·have ah:=VH (q.out.same f);clear f;go_wp2_with fail;go_roundg(o-(d+1));case measure=>omega
           case rel=>exact⟨d+1,u,rfl,by omega,rfl,rfl,aN,ah.out⟩
        ·have q1:¬(d:Int)<(o:Int):=by omega
         clear l;go_wp2_with fail;go_ret;exact⟨O.out.2.2.same (Q.out.mono fun _ _ e=>e.elim),.inr ⟨_,rfl,t,n9,rfl,D,O.out.1,O.out.2.1.still Q.out⟩⟩
def qi(d:Nat):Prop:=∀(w:World)(M S B n:Nat)(p s:ByteArray),FE w B->B<=M->bf w M S (d:Nat) (n:Nat)->n<=10000->p.size<=8192->s.size<=8192->Calls VI 175 #[.pointer (some ⟨M,0,none⟩),.string p,.string s] w (Fx (af M) w (pZ M S (d:Nat)))
theorem Fx.made{a:Ending}(h:Fx (af k) w (mH k n e) a w'):Fx (af k) w (pZ k n e) a w':=by
 obtain⟨b,⟨f,rfl⟩|⟨v,rfl,t,i,rfl,_,d,c⟩⟩:=h;. exact⟨b,.inl ⟨f,rfl⟩⟩
 ·exact⟨b,.inr ⟨_,rfl,t,i,rfl,d,c⟩⟩
theorem uu(h:(s.toList==([a]:List UInt8))=true):0<s.size:=by
 have e:=beq_iff_eq.1 h;rw[show s.toList=s.data.toList from Lib.toList_data s]at e;have :s.data.toList.length=1:=by rw[e];rfl
 rw[Wz]at this;show 0<s.data.size;omega
theorem NQ(I:dD k)(H:qi k){B:Nat}(L:FE w B)(hB:B<=n)(M:bf w n m (k:Nat) (i:Nat))(N:i<=10000)(C:s.size<=8192):Calls VI 162 #[.pointer (some ⟨n,0,none⟩),.string s] w (Fx (af n) w (pZ n m (k:Nat))):=by
 have p:=VH (VJ L hB);have A:=VH (VJ I H);have l:=VH (VJ M N);have S:=VH (fun W=>Tryz.strings_CutPrefix s ⟨#[63]⟩ W);have ai:=tJ s ⟨#[63]⟩;generalize ag:(⟨(Lib.trimPrefix s.data.toList (⟨#[63]⟩:ByteArray).data.toList).toArray⟩:ByteArray)=s2 at*;generalize Lib.hasPrefix s.data.toList (⟨#[63]⟩:ByteArray).data.toList=ok at*;clear ag L hB M N I H;go_enter func162,ntmps162;go_wp2_with fail;refine(S.out _).mono ?_;rintro e E⟨rfl,rfl⟩
 cases ok with
 |true=>
  go_wp2_with fail;refine(Ik A.out.1 p.out.1 p.out.2 l.out.1 l.out.2 (VS ai C)).mono ?_;rintro e w2⟨a,⟨q,rfl⟩|⟨y,rfl,t,j,rfl,ao,h,f⟩⟩;. have o:=VH a;clear a;go_wp2_with fail;exact⟨rfl,o.out,.inl ⟨_,rfl⟩⟩
  ·have o:=VH (VJ a (VJ f h));clear a f h;go_wp2_with fail;go_ret;exact⟨o.out.1,.inr ⟨_,rfl,t,j,rfl,o.out.2.2,o.out.2.1⟩⟩
 |false=>
  go_wp2_with fail;refine(CT (s:=s) 58 (by omega)).mono ?_;rintro e w2⟨rfl|⟨r,hr,rfl⟩,rfl⟩;. go_wp2_with fail;refine(sA l.out.1 s).mono ?_;rintro e w3⟨rfl,a⟩;have o:=VH a;clear a;go_wp2_with fail;go_ret;exact⟨o.out.mono fun _ _ e=>e.elim,.inr ⟨_,rfl,_,i,rfl,l.out.2,l.out.1.still o.out⟩⟩
  ·have D:¬(r:Int)<0:=by omega
   have q1:(0:Int)<=(r:Int):=by omega
   have q2:(r:Int)<=(s.size:Int):=by omega
   have K:VL.wrap ((r:Int)+1)=((r+1:Nat):Int):=ak (by omega);obtain⟨u,ad⟩:∃u,r+1=u:=⟨_,rfl⟩;rw[ad]at K;have q3:(0:Int)<=(u:Int):=by omega
   have q4:(u:Int)<=(s.size:Int):=by omega
   go_upto_region 8 with fail;go_quiet(fail);have Y:=VS (jm s 0 r) C;have z:=VS (jm s u s.size) C;have G:=VH (show aa ab E (E.drewN nq)from(aa.refl _ E).drewN nq);generalize E.drewN nq=w3 at*;have d:=VH (VJ (p.out.1.still G.out) (VJ (l.out.1.still G.out) (G.out.mono (S':=af n) fun _ _ e=>e.elim)));generalize Z:s.extract 0 r=c at*;generalize ae:s.extract u s.size=rs at*;clear Z ae D q1 q2 q3 q4 K;cases g0:c.toList==([61,61]:List UInt8);case' false=>cases g1:c.toList==([33,61]:List UInt8)
   case' false=>cases g2:c.toList==([60]:List UInt8)
   case' false=>cases g3:c.toList==([62]:List UInt8)
   case' false=>cases g4:c.toList==([60,61]:List UInt8)
   case' false=>cases g5:c.toList==([62,61]:List UInt8)
   case' false=>cases g6:c.toList==([124,124]:List UInt8)
   case' false=>cases g7:c.toList==([38,38]:List UInt8)
   case' false=>cases g8:c.toList==([109]:List UInt8)
   case false=>
    cases X:c.toList==([83]:List UInt8)with
    |true=>
     have O:=uu X;have D:(0:Int)<(c.size:Int):=by omega
     generalize P:c[0]=x at*;go_wp2_with fail;refine(uO d.out.2.1 l.out.2 z _).mono ?_;rintro e F⟨a,⟨q,rfl⟩|⟨y,rfl,t,j,rfl,h,f⟩⟩;. have b:=VH (d.out.2.2.same a);clear a;go_wp2_with fail;exact⟨rfl,b.out,.inl ⟨_,rfl⟩⟩
     ·have b:=VH (VJ (d.out.2.2.same a) (VJ f h));clear a f h;go_wp2_with fail;go_ret;exact⟨b.out.1,.inr ⟨_,rfl,t,j,rfl,b.out.2.2,b.out.2.1⟩⟩
    |false=>
     cases U:c.toList==([87]:List UInt8)with
     |true=>
      have O:=uu U;have D:(0:Int)<(c.size:Int):=by omega
      generalize P:c[0]=x at*;go_wp2_with fail;refine(uO d.out.2.1 l.out.2 z _).mono ?_;rintro e F⟨a,⟨q,rfl⟩|⟨y,rfl,t,j,rfl,h,f⟩⟩;. have b:=VH (d.out.2.2.same a);clear a;go_wp2_with fail;exact⟨rfl,b.out,.inl ⟨_,rfl⟩⟩
      ·have b:=VH (VJ (d.out.2.2.same a) (VJ f h));clear a f h;go_wp2_with fail;go_ret;exact⟨b.out.1,.inr ⟨_,rfl,t,j,rfl,b.out.2.2,b.out.2.1⟩⟩
     |false=>
      cases V:c.toList==([80]:List UInt8)with
      |true=>
       have O:=uu V;have D:(0:Int)<(c.size:Int):=by omega
       generalize P:c[0]=x at*;go_wp2_with fail;refine(uO d.out.2.1 l.out.2 z _).mono ?_;rintro e F⟨a,⟨q,rfl⟩|⟨y,rfl,t,j,rfl,h,f⟩⟩;. have b:=VH (d.out.2.2.same a);clear a;go_wp2_with fail;exact⟨rfl,b.out,.inl ⟨_,rfl⟩⟩
       ·have b:=VH (VJ (d.out.2.2.same a) (VJ f h));clear a f h;go_wp2_with fail;go_ret;exact⟨b.out.1,.inr ⟨_,rfl,t,j,rfl,b.out.2.2,b.out.2.1⟩⟩
      |false=>
       have T:=VH (fun W=>Tryz.strings_CutPrefix c ⟨#[101,124]⟩ W);have aj:=tJ c ⟨#[101,124]⟩;generalize ah:(⟨(Lib.trimPrefix c.data.toList (⟨#[101,124]⟩:ByteArray).data.toList).toArray⟩:ByteArray)=s3 at*;generalize Lib.hasPrefix c.data.toList (⟨#[101,124]⟩:ByteArray).data.toList=ok at*;clear ah;go_wp2_with fail;refine(T.out _).mono ?_;rintro e F⟨rfl,rfl⟩
       cases ok with
       |true=>
        go_wp2_with fail;refine(A.out.2 _ n m B i s3 rs d.out.1 p.out.2 d.out.2.1 l.out.2 (VS aj Y) z).mono ?_;rintro e Q⟨a,⟨q,rfl⟩|⟨y,rfl,t,j,rfl,h,f⟩⟩;. have b:=VH (d.out.2.2.same a);clear a;go_wp2_with fail;exact⟨rfl,b.out,.inl ⟨_,rfl⟩⟩
        ·have b:=VH (VJ (d.out.2.2.same a) (VJ f h));clear a f h;go_wp2_with fail;go_ret;exact⟨b.out.1,.inr ⟨_,rfl,t,j,rfl,b.out.2.2,b.out.2.1⟩⟩
       |false=>
        go_wp2_with fail;refine(N_ A.out.1 d.out.1 p.out.2 d.out.2.1 l.out.2 C).mono ?_;rintro e Q⟨a,⟨q,rfl⟩|⟨y,rfl,t,j,rfl,_,h,f⟩⟩;. have b:=VH (d.out.2.2.same a);clear a;go_wp2_with fail;exact⟨rfl,b.out,.inl ⟨_,rfl⟩⟩
        ·have b:=VH (VJ (d.out.2.2.same a) (VJ f h));clear a f h;go_wp2_with fail;go_ret;exact⟨b.out.1,.inr ⟨_,rfl,t,j,rfl,b.out.2.2,b.out.2.1⟩⟩
   all_goals
    go_wp2_with fail;refine(Ey A.out.1 d.out.1 p.out.2 d.out.2.1 l.out.2 z).mono ?_;rintro e F⟨a,⟨q,rfl⟩|⟨y,rfl,ta,tb,j,rfl,al,an,h,f⟩⟩;. have b:=VH (d.out.2.2.same a);clear a;go_wp2_with fail;exact⟨rfl,b.out,.inl ⟨_,rfl⟩⟩
    ·have b:=VH (VJ (d.out.2.2.same a) (VJ f h));clear a f h;go_wp2_with fail;refine(G9 (by omega) (by omega)).mono ?_;rintro e Q⟨⟨bb,rfl⟩,a⟩;have J:=VH (VJ (b.out.1.same (a.mono fun _ _ e=>e.elim)) (b.out.2.1.still a));clear a;go_wp2_with fail;refine(I' _ _).mono ?_;rintro e w6⟨⟨fs,_,rfl⟩,rfl⟩;go_wp2_with fail;go_ret;exact⟨J.out.1,.inr ⟨_,rfl,_,j,rfl,b.out.2.2,J.out.2⟩⟩
theorem zF(h:16<=k):sP k:=by intro w M S B n s b hB a f i;obtain⟨-,m1,-,-,-,-,-⟩:=a.cells;have e:=a.mb.lt;have d:decide ((k:Int)<16)=false:=decide_eq_false (by omega);clear a b;go_enter func143,ntmps143;go_wp2_with(go_at_call 142;refine(eF _ _).mono ?_;rintro c j⟨rfl,rfl⟩);exact⟨rfl,aa.refl _ _,.inl ⟨_,rfl⟩⟩
theorem IG(h:k<16)(q:dD (k+1))(p:qi (k+1)):sP k:=by
 intro w M S B n s x hB f z N;obtain⟨-,m1,-,-,-,-,-⟩:=f.cells;have X:=f.mb.lt;have W:decide ((k:Int)<16)=true:=decide_eq_true (by omega);have T:VL.wrap ((k:Int)+1)=((k+1:Nat):Int):=ak (by omega);have U:VL.wrap (((k+1:Nat):Int)-1)=(k:Int):=ak (by omega);have j:=VH (VJ x hB);have r:=VH (VJ q p);have o:=VH (VJ f z);clear x f z hB q p;generalize L:k+1=l at*;clear L;go_enter func143,ntmps143;go_wp2_with(go_at_call 142;refine(gB _ _).mono ?_;rintro V Z⟨rfl,rfl⟩);refine(SI o.out.1 (by have :=o.out.2;omega)).mono ?_;rintro e Q⟨a,⟨D,rfl⟩|⟨G,rfl,rfl,A,b⟩⟩;. have H:=VH a;clear a;go_wp2_with fail;exact⟨rfl,H.out,.inl ⟨_,rfl⟩⟩
 ·have i:=VH (VJ a (VJ b A));have K:=b.mb.lt;obtain⟨-,E,-,-,-,F,-⟩:=b.cells;clear a b A m1;go_upto_region 4 with fail;have u:=i.out.2.1.j_ (l:Int);have y:=i.out.1.setCell (p:=⟨M,1,none⟩) (.inl rfl) (.int .i64 (l:Int));generalize Q.setCell ⟨M,1,none⟩ (.int .i64 (l:Int))=w3 at*;have c:=VH (VJ u y);clear u y E F K;go_wp2_with fail;refine(NQ r.out.1 r.out.2 (j.out.1.only c.out.2 j.out.2) j.out.2 c.out.1 i.out.2.2 N).mono ?_;rintro e w4⟨a,⟨D,rfl⟩|⟨G,rfl,t,P,rfl,C,b⟩⟩;. have I:=VH (c.out.2.same a);clear a;go_wp2_with fail;exact⟨rfl,I.out,.inl ⟨_,rfl⟩⟩
  ·have d:=VH (VJ (c.out.2.same a) (VJ b C));clear a b C;go_wp2_with fail;refine(pI _ _).mono ?_;rintro e w5⟨a,⟨D,rfl⟩|⟨G,rfl,rfl,O⟩⟩;. have J:=VH (d.out.1.same (a.mono fun _ _ e=>e.elim));clear a;go_wp2_with fail;exact⟨rfl,J.out,.inl ⟨_,rfl⟩⟩
   ·have b:=d.out.2.1.still a;have m:=VH (VJ (d.out.1.same (a.mono fun _ _ e=>e.elim)) b);have Y:=b.mb.lt;obtain⟨-,E,-,-,-,F,-⟩:=b.cells;clear a b;go_wp2_with fail;go_ret;exact⟨m.out.1.setCell (p:=⟨M,1,none⟩) (.inl rfl) _,.inr ⟨_,rfl,t,P,rfl,O,d.out.2.2,m.out.2.j_ _⟩⟩
theorem S7(c:∀d,(∀e,d<=e->dD e)->qi d):∀d,dD d:=by
 have key:∀k d,16<=d+k->dD d:=by
  intro k
  induction k with
  |zero=>intro d h;exact uo (zF (by omega))
  |succ k b=>
   intro d h;rcases Nat.lt_or_ge d 16 with a|a;. exact uo (IG a (b (d+1) (by omega)) (c (d+1) fun e f=>b e (by omega)))
   ·exact uo (zF a)
 exact fun d=>key 16 d (by omega)
theorem kL(h:w.heap.size=k):ad (w.alloc (.cells F t)) k t F:=by subst h;exact ad.new _ _ _
theorem A.Iy(e:Int)(w:World):(Instr.typeAssert (.iface 30 (.int .i64 e)) 20 30 true).run VI w=.ok (.tuple #[.int .i64 e,.bool true]) w:=by kernel_rfl
theorem Aq{a:Code}{Q:Exit->Act->World->Prop}{tmps tmps':Array Value}{d:List Deferred}(h:tmps=tmps')(hw:a.wp P Q {tmps:=tmps',defers:=d} w):a.wp P Q {tmps:=tmps,defers:=d} w:=by rw[h];exact hw
theorem Jv(w:World)(args:Array Value)(a b c:Nat)(j:args=#[.pointer (some ⟨a,0,none⟩),.pointer (some ⟨b,0,none⟩),.pointer (some ⟨c,0,none⟩)]):CallsD VI 129 args .returning w fun i n d=>i=.returned (.tuple #[])/\n=.returning/\aa ab w d:=by
 subst j;refine callsD_of_wpS func129 rfl fun h cs f=>?_;apply wpS_seq;apply wpS_region;simp[wpOpsS,go_sem,recoverD,f,ntmps129,Exit.thenS];refine wpS_of_wp ?_;refine Code.wp_mono (Q:=fun ex e d=>(ex=.normal∨ex=.ret)/\e.defers=[]/\aa ab w d) ?_ ?_;. rintro ex e d⟨l,k,m⟩;rcases l with rfl|rfl;all_goals refine⟨k,.returning,?_,.tuple #[],by simp[results,results129],rfl,rfl,m⟩;cases h;simp_all
 clear f;refine Aq (tmps':=#[.pointer (some ⟨a,0,none⟩),.pointer (some ⟨b,0,none⟩),.pointer (some ⟨c,0,none⟩),.nilIface,undef,undef,.nilIface,undef,undef,undef,undef,undef,undef,undef,undef,undef,undef,undef]) (by kernel_rfl) ?_;go_wp2_with fail;exact aa.refl _ w
abbrev DW:Value:=.agg #[.slice none 0 0,.slice none 0 0]
def sf(w:World):World:=(((((w.alloc (.cells #[.slice none 0 0,.slice none 0 0] 46)).alloc (.cells #[.string ⟨#[]⟩] 9)).alloc (.cells #[.int .i64 0] 3)).alloc (.cells #[.int .i64 0] 30)).alloc (.cells #[.slice none 0 0,.slice none 0 0] 46)).alloc (.cells #[.slice (some ⟨w.heap.size+1+1+1+1,0,none⟩) 1 1,.int .i64 0,.int .i64 0] 221)
structure mD(w w1:World):Prop where
 a:ad w1 (w.heap.size+1) 9 #[.string ⟨#[]⟩]
 b:ad w1 (w.heap.size+1+1) 3 #[.int .i64 0]
 c:ad w1 (w.heap.size+1+1+1) 30 #[.int .i64 0]
 turns:aa ab w w1
theorem Sy(w:World):bf (sf w) (w.heap.size+1+1+1+1+1) (w.heap.size+1+1+1+1) 0 0/\mD w (sf w):=by
 have a:aa ab w (sf w):=((((((aa.refl ab w).alloc _).alloc _).alloc _).alloc _).alloc _).alloc _;refine⟨⟨?_,?_,by omega⟩,?_,?_,?_,a⟩;. exact kL (by simp[go_sem])
 ·exact ad.alloc (kL (by simp[go_sem])) _
 ·exact ad.alloc (ad.alloc (ad.alloc (ad.alloc (kL (by simp[go_sem])) _) _) _) _
 ·exact ad.alloc (ad.alloc (ad.alloc (kL (by simp[go_sem])) _) _) _
 ·exact ad.alloc (ad.alloc (kL (by simp[go_sem])) _) _
theorem mD.only(h:mD w w')(d:aa (af (w.heap.size+1+1+1+1+1)) w' U):mD w U:=⟨d.blk h.a (fun e=>by have :w.heap.size+1=_:=e;omega),d.blk h.b (fun e=>by have :w.heap.size+1+1=_:=e;omega),d.blk h.c (fun e=>by have :w.heap.size+1+1+1=_:=e;omega),h.turns.trans d fun b f e=>by have :b=_:=e;omega⟩
structure sQ(w:World)(a b c:Nat)(e:Int)(w':World):Prop where
 ca:ad w' a 9 #[.string ⟨#[]⟩]
 cb:ad w' b 3 #[.int .i64 0]
 cc:ad w' c 30 #[.int .i64 e]
 turns:aa (fun k=>k=a∨k=b∨k=c) w w'
theorem IM(b:ad w k 9 #[v])(c:ad w n 3 #[u])(d:ad w m 30 #[z])(a:aa ab w w1):sQ w k n m e (((w1.setCell ⟨k,0,none⟩ (.string ⟨#[]⟩)).setCell ⟨n,0,none⟩ (.int .i64 0)).setCell ⟨m,0,none⟩ (.int .i64 e)):=by
 have f:k≠n:=ad.fB b c (by decide);have h:k≠m:=ad.fB b d (by decide);have i:n≠m:=ad.fB c d (by decide);refine⟨?_,?_,?_,?_⟩;. exact(((a.blk b id).aj 0 _).an (p:=⟨n,0,none⟩) f _).an (p:=⟨m,0,none⟩) h _
 ·exact(((a.blk c id).an (p:=⟨k,0,none⟩) f.symm _).aj 0 _).an (p:=⟨m,0,none⟩) i _
 ·exact(((a.blk d id).an (p:=⟨k,0,none⟩) h.symm _).an (p:=⟨n,0,none⟩) i.symm _).aj 0 _
 ·exact(((a.mono fun _ _ e=>e.elim).setCell (p:=⟨k,0,none⟩) (.inl (.inl rfl)) _).setCell (p:=⟨n,0,none⟩) (.inl (.inr (.inl rfl))) _).setCell (p:=⟨m,0,none⟩) (.inl (.inr (.inr rfl))) _
def Fi(w:World)(a b c:Nat)(e:Int)(ex:Exit)(d:Act)(f:World):Prop:=(ex=.normal∨ex=.ret)/\d.defers=[]/\sQ w a b c e f
theorem Jw(w:World)(a b c:Nat)(e:Int)(u x y:Value)(d:ad w a 9 #[u])(f:ad w b 3 #[x])(h:ad w c 30 #[y]):CallsD VI 129 #[.pointer (some ⟨a,0,none⟩),.pointer (some ⟨b,0,none⟩),.pointer (some ⟨c,0,none⟩)] (.panicking (oQ e)) w fun l t j=>l=.returned (.tuple #[])/\t=.panicking [{v:=.iface 30 (.int .i64 e),recovered:=true}]/\sQ w a b c e j:=by
 have z:=A.Iy e;refine callsD_of_wpS func129 rfl fun D cs i=>?_;apply wpS_seq;apply wpS_region;unfold oQ at i;simp[wpOpsS,go_sem,recoverD,i,ntmps129,Exit.thenS];refine wpS_of_wp ?_;refine Code.wp_mono (Q:=Fi w a b c e) ?_ ?_;. rintro ex C j⟨r,q,p⟩;rcases r with rfl|rfl;all_goals exact⟨q,_,rfl,.tuple #[],by simp[results,results129],rfl,rfl,p⟩
 have m:=d.cell 0;have n:=f.cell 0;have o:=h.cell 0;simp at m n o;have E:=d.frozen 0;have fb:=f.frozen 0;have fc:=h.frozen 0;have H:=d.lt;have J:=f.lt;have K:=h.lt;have F:a≠b:=ad.fB d f (by decide);have G:a≠c:=ad.fB d h (by decide);have I:b≠c:=ad.fB f h (by decide);have k:=VH (fun(W:World)=>IM (w:=w) (w1:=W) (e:=e) d f h);clear d f h i;refine Aq (tmps':=#[.pointer (some ⟨a,0,none⟩),.pointer (some ⟨b,0,none⟩),.pointer (some ⟨c,0,none⟩),.iface 30 (.int .i64 e),undef,undef,.iface 30 (.int .i64 e),undef,undef,undef,undef,undef,undef,undef,undef,undef,undef,undef]) (by kernel_rfl) ?_;go_wp2_with fail;exact⟨.inl rfl,rfl,k.out _ (aa.refl _ w)⟩
theorem mD.done(h:mD w w')(d:aa ab (((((w'.setCell ⟨w.heap.size+1,0,none⟩ (.string s)).setCell ⟨w.heap.size+1,0,none⟩ (.string s)).setCell ⟨w.heap.size+1+1,0,none⟩ (.int .i64 e)).setCell ⟨w.heap.size+1+1+1,0,none⟩ (.int .i64 0)).drew) U):U.cell? ⟨w.heap.size+1,0,none⟩=some (.string s)/\U.cell? ⟨w.heap.size+1+1,0,none⟩=some (.int .i64 e)/\U.cell? ⟨w.heap.size+1+1+1,0,none⟩=some (.int .i64 0)/\aa ab w U:=by have f:=(((h.a.aj 0 (.string s)).aj 0 (.string s)).an (p:=⟨w.heap.size+1+1,0,none⟩) (by dsimp only;omega) (.int .i64 e)).an (p:=⟨w.heap.size+1+1+1,0,none⟩) (by dsimp only;omega) (.int .i64 0);have i:=(((h.b.an (p:=⟨w.heap.size+1,0,none⟩) (by dsimp only;omega) (.string s)).an (p:=⟨w.heap.size+1,0,none⟩) (by dsimp only;omega) (.string s)).aj 0 (.int .i64 e)).an (p:=⟨w.heap.size+1+1+1,0,none⟩) (by dsimp only;omega) (.int .i64 0);have c1:=(((h.c.an (p:=⟨w.heap.size+1,0,none⟩) (by dsimp only;omega) (.string s)).an (p:=⟨w.heap.size+1,0,none⟩) (by dsimp only;omega) (.string s)).an (p:=⟨w.heap.size+1+1,0,none⟩) (by dsimp only;omega) (.int .i64 e)).aj 0 (.int .i64 0);refine⟨((d.blk (ad.drew f) id).cell 0).trans rfl,((d.blk (ad.drew i) id).cell 0).trans rfl,((d.blk (ad.drew c1) id).cell 0).trans rfl,?_⟩;exact(aa.drew ((((h.turns.setCell (p:=⟨w.heap.size+1,0,none⟩) (.inr (by dsimp only;omega)) _).setCell (p:=⟨w.heap.size+1,0,none⟩) (.inr (by dsimp only;omega)) _).setCell (p:=⟨w.heap.size+1+1,0,none⟩) (.inr (by dsimp only;omega)) _).setCell (p:=⟨w.heap.size+1+1+1,0,none⟩) (.inr (by dsimp only;omega)) _)).same d
def Fh(w:World)(e:Ending)(a:World):Prop:=aa ab w a/\∃(t:ByteArray)(n k:Int),e=.returned (.tuple #[.string t,.int .i64 n,.int .i64 k])
theorem IE(x:∀d,dD d){B:Nat}(r:FE w B)(s:ByteArray):Calls VI 95 #[.string s,DW] w (Fh w):=by
 have Q:∀(D:Fn)(first y:Array Value)(w:World),(Instr.makeFunc D first y).run VI w=.ok (.func D first y) w:=fun _ _ _ _=>rfl;have q:=VH (VJ r (VJ r.iy.le x));clear r x;by_cases N:s.size<=8192
 ·have M:¬(8192:Int)<(s.size:Int):=by omega
  go_enter_defers func95,ntmps95;go_wp2_with fail;have j:=VH (Sy w);refine(q.out.2.2 0 (sf w) (w.heap.size+1+1+1+1+1) (w.heap.size+1+1+1+1) B 0 s (q.out.1.still j.out.2.turns) (by have :=q.out.2.1;omega) j.out.1 (VQ _) N).mono ?_;rintro e X⟨p,⟨k,rfl⟩|⟨W,rfl,t,V,rfl,T,S,H⟩⟩;. have f:=j.out.2.only p;have h:=VH f;clear p f;go_wp2_with fail;refine leaves_cons (f:=129) (args:=#[.pointer (some ⟨w.heap.size+1,0,none⟩),.pointer (some ⟨w.heap.size+1+1,0,none⟩),.pointer (some ⟨w.heap.size+1+1+1,0,none⟩)]) (by simp) (by simp[go_sem]) ?_;refine(Jw _ _ _ _ _ _ _ _ h.out.a h.out.b h.out.c).mono ?_;rintro e u Z⟨rfl,rfl,i⟩;have l:=i.ca.cell 0;have m:=i.cb.cell 0;have n:=i.cc.cell 0;simp at l m n;simp[Leaves,settle,results,results95,go_sem,l,m,n];exact⟨h.out.turns.trans i.turns fun b P e=>by rcases e with e|e|e<;>omega,_,_,_,rfl⟩
  ·have f:=j.out.2.only p;obtain⟨m0,m1,U,-,-,-,-⟩:=H.cells;have l:=f.a.cell 0;have m:=f.b.cell 0;have n:=f.c.cell 0;have O:=f.a.frozen 0;have fb:=f.b.frozen 0;have fc:=f.c.frozen 0;simp at l m n;have h:=VH f;clear p f H;go_wp2_with fail;go_region;all_goals go_wp2_with fail;refine leaves_cons (f:=129) (args:=#[.pointer (some ⟨w.heap.size+1,0,none⟩),.pointer (some ⟨w.heap.size+1+1,0,none⟩),.pointer (some ⟨w.heap.size+1+1+1,0,none⟩)]) (by simp) (by simp[go_sem]) ?_;refine(Jv _ _ (w.heap.size+1) (w.heap.size+1+1) (w.heap.size+1+1+1) rfl).mono ?_;rintro e u Y⟨rfl,rfl,i⟩;have o:=h.out.done i;have J:=o.1;have K:=o.2.1;have L:=o.2.2.1;simp[Leaves,settle,results,results95,go_sem,J,K,L];exact⟨o.2.2.2,_,_,_,rfl⟩
 ·have M:(8192:Int)<(s.size:Int):=by omega
  go_enter_defers func95,ntmps95;have E:ad (((((w.alloc (.cells #[.slice none 0 0,.slice none 0 0] 46)).alloc (.cells #[.string ⟨#[]⟩] 9)).alloc (.cells #[.int .i64 0] 3)).alloc (.cells #[.int .i64 2] 30))) (w.heap.size+1) 9 #[.string ⟨#[]⟩]:=ad.alloc (ad.alloc (kL (by simp[go_sem])) _) _;have F:ad (((((w.alloc (.cells #[.slice none 0 0,.slice none 0 0] 46)).alloc (.cells #[.string ⟨#[]⟩] 9)).alloc (.cells #[.int .i64 0] 3)).alloc (.cells #[.int .i64 2] 30))) (w.heap.size+1+1) 3 #[.int .i64 0]:=ad.alloc (kL (by simp[go_sem])) _;have G:ad (((((w.alloc (.cells #[.slice none 0 0,.slice none 0 0] 46)).alloc (.cells #[.string ⟨#[]⟩] 9)).alloc (.cells #[.int .i64 0] 3)).alloc (.cells #[.int .i64 2] 30))) (w.heap.size+1+1+1) 30 #[.int .i64 2]:=kL (by simp[go_sem]);have I:=VH (((((aa.refl ab w).alloc (.cells #[.slice none 0 0,.slice none 0 0] 46)).alloc (.cells #[.string ⟨#[]⟩] 9)).alloc (.cells #[.int .i64 0] 3)).alloc (.cells #[.int .i64 2] 30));have z:=E.cell 0;have A:=F.cell 0;have C:=G.cell 0;clear E F G;simp at z A C;go_wp2_with fail;simp[bodyPostD,Leaves,results,results95,go_sem,z,A,C];exact⟨I.out,_,_,_,rfl⟩
theorem zE(a:∀d,dD d){B:Nat}(b:FE w B)(s:ByteArray):Calls VI 53 #[.string s,DW] w fun e w'=>aa ab w w'/\∃(t:ByteArray)(k:Int),e=.returned (.tuple #[.string t,.int .i64 k]):=by have h:=VH (b.still ((aa.refl ab w).alloc (.cells #[.slice none 0 0,.slice none 0 0] 46)));have i:=VH ((aa.refl ab w).alloc (.cells #[.slice none 0 0,.slice none 0 0] 46));have j:=VH a;clear b a;go_enter func53,ntmps53;go_wp2_with fail;refine(IE j.out h.out s).mono ?_;rintro e l⟨c,t,n,k,rfl⟩;have f:=VH (i.out.same c);clear c;go_wp2_with fail;refine bodyPost_ret (results_tmp2 rfl _ _ _) rfl ?_;exact⟨f.out,t,k,rfl⟩
end Go.Proofs.YtmddhediccmhbaaGreatDoor
