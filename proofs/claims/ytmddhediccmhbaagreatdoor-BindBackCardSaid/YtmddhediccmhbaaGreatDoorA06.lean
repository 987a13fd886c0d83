/- the decimal of strconv is set. -/
import Derived.Test.YtmddhediccmhbaaGreatDoorA05
set_option linter.all false
set_option maxHeartbeats 400000000
set_option maxRecDepth 100000
namespace Go.Proofs.YtmddhediccmhbaaGreatDoor
open Go.RowKit
open Tryz
open And renaming intro→VJ
open IntKind renaming i64→VL
open IntWalk renaming i64_in→VR
open Lib renaming hid→VH
open List renaming getD_eq_getElem?_getD→VW
variable {w:World}{k n m i:Nat}{s:ByteArray}{l:List Nat}
def eC(c:Nat):Prop:=48<=c/\c<=57
structure Pl(l:List Nat)(p m q:Nat):Prop where
 size:l.length<=64
 p0:0<p
 pm:p<=m
 ml:m<=l.length
 cd:∀i,i<m->i≠p->eC (l.getD i 0)
 dot:p<m->l.getD p 0=46/\p+1<m
 exp:m<l.length->(l.getD m 0=101∨l.getD m 0=69)/\(q=m+1∨q=m+2/\(l.getD (m+1) 0=43∨l.getD (m+1) 0=45))/\q<l.length/\∀i,q<=i->i<l.length->eC (l.getD i 0)
theorem Pl.any(h:Pl l k n m)(b:i<n):eC (l.getD i 0)∨i=k/\l.getD i 0=46:=by
 by_cases a:i=k;. subst a;exact .inr ⟨rfl,(h.dot b).1⟩
 ·exact .inl (h.cd i b a)
def lY(a:Dc.D×Bool)(c:Nat):Dc.D×Bool:=if c=46 then(⟨a.1.ds,a.1.ds.length,a.1.tr⟩,true)else if c=48/\a.1.ds=[]then(⟨[],a.1.dp-1,a.1.tr⟩,a.2)else(⟨a.1.ds++[c-48],a.1.dp,a.1.tr⟩,a.2)
def cF(l:List Nat):Dc.D×Bool:=l.foldl lY (⟨[],0,false⟩,false)
theorem Cp(l:List Nat)(c:Nat):cF (l++[c])=lY (cF l) c:=by simp[cF]
def cC(l:List Nat):Nat:=l.foldl (fun e c=>if e<10000 then e*10+(c-48)else e) 0
theorem zx(l:List Nat)(c:Nat):cC (l++[c])=if cC l<10000 then cC l*10+(c-48)else cC l:=by rw[cC,List.foldl_append];rfl
theorem mi(h:k<l.length):l.take (k+1)=l.take k++[l.getD k 0]:=by rw[List.take_succ_eq_append_getElem h,VW,List.getElem?_eq_getElem h];rfl
structure Fp(l:List Nat)(i:Nat)(st:Dc.D×Bool):Prop where
 ok:Dc.Ok st.1
 len:st.1.ds.length<=i
 dp:-(i:Int)<=st.1.dp/\st.1.dp<=(i:Int)
 tr:st.1.tr=false
theorem uS(h:Pl l k n m):∀i,i<=n->Fp l i (cF (l.take i))/\((cF (l.take i)).2=decide (k<i)):=by
 intro i
 induction i with
 |zero=>intro _;exact⟨⟨⟨fun x a=>by simp[cF]at a,by simp[cF],fun x a=>by simp[cF]at a⟩,by simp[cF],by simp[cF],rfl⟩,by simp[cF]⟩
 |succ i t=>
  intro A;obtain⟨⟨b,a2,a3,a4⟩,a5⟩:=t (by omega);have C:=h.ml;have E:=h.size;rw[mi (by omega),Cp];generalize cF (l.take i)=u at*;obtain⟨⟨j,w,G⟩,F⟩:=u;dsimp only at b a2 a3 a4 a5;have q:=h.any (i:=i) (by omega);have r:i=k->l.getD i 0=46:=fun e=>by subst e;exact(h.dot (by omega)).1
  generalize l.getD i 0=c at*;unfold lY;dsimp only;rcases q with d|⟨d,p⟩
  ·rw[if_neg (by have :=d.1;omega)];have D:i≠k:=fun e=>by have :=r e;obtain⟨f,z⟩:=d;omega
   have o:decide (k<i+1)=decide (k<i):=by simp;omega
   split;. rename_i f;obtain⟨rfl,rfl⟩:=f;exact⟨⟨⟨b.cd,b.len,b.head⟩,by simp,by dsimp only;omega,a4⟩,by rw[o];exact a5⟩
   ·rename_i f;refine⟨⟨⟨fun x a=>?_,by simp;omega,fun x a=>?_⟩,by simp;omega,by dsimp only;omega,a4⟩,by rw[o];exact a5⟩
    ·rcases List.mem_append.1 a with a|a;. exact b.cd x a
     ·rw[List.mem_singleton.1 a];have :=d.2;omega
    ·cases j with|nil=>simp at a;have :¬c=48:=fun e=>f ⟨e,rfl⟩;have :=d.1;omega|cons y j=>exact b.head x a
  ·rw[if_pos p];exact⟨⟨⟨b.cd,b.len,b.head⟩,by dsimp only;omega,by dsimp only;omega,a4⟩,by simp;omega⟩
theorem Cd(a:k=101∨k=69):Calls prog 254 #[.int .u8 k] w fun e w'=>e=.returned (.int .u8 101)/\w=w':=by go_enter func254,ntmps254;rcases a with rfl|rfl;all_goals go_wp2_with fail;go_ret;exact⟨rfl,rfl⟩
theorem kB(b:k<s.size):(bytesOf s).getD k 0=s[k].toNat:=by have :=bytesOf_drop s b;have a:=congrArg List.head? this;rw[List.head?_drop]at a;rw[VW,a];rfl
def jy(l:List Nat)(p m q:Nat):Dc.D:=let d:=(cF (l.take m)).1;let a:=if p<m then d.dp else(d.ds.length:Int);let e:=if m<l.length then(if q=m+2/\l.getD (m+1) 0=45 then-(cC (l.drop q):Int)else(cC (l.drop q):Int))else 0;⟨d.ds,a+e,d.tr⟩
theorem Rz{b:Nat}(h:aT w b false ⟨[],0,false⟩)(O:Pl (bytesOf s) k n m):Calls prog 296 #[.pointer (some ⟨b,0,none⟩),.string s] w fun e w'=>e=.returned (.bool true)/\aT w' b false (jy (bytesOf s) k n m)/\aa (af b) w w':=by
 have V:=VH O;have G:(bytesOf s).length=s.size:=jh s;have bt:s.size<=64:=by rw[<-G];exact O.size
 have bp:n<=s.size:=by rw[<-G];exact O.ml
 have az:0<n:=by have :=O.p0;have :=O.pm;omega
 obtain⟨A,f,E,F⟩:=h.at_;have H:=VH h;have hb:=h.len.2;obtain⟨X,f1,L,M,l,fz⟩:=f.facts;have q2:=l 802;have q3:=l 803;have aE:eC (s[0]'(by omega)).toNat:=by rw[<-kB];exact O.cd 0 az (by have :=O.p0;omega)
 have HS:=VH (show aT ((w.setCell ⟨b,802,none⟩ (.bool false)).setCell ⟨b,803,none⟩ (.bool false)) b false ⟨[],0,false⟩/\aa (af b) w ((w.setCell ⟨b,802,none⟩ (.bool false)).setCell ⟨b,803,none⟩ (.bool false))from⟨⟨A,0,by decide,(f.Rx false).wm false,fun i hi=>absurd hi (by omega),rfl⟩,((aa.refl (af b) w).setCell (p:=⟨b,802,none⟩) (.inl rfl) _).setCell (p:=⟨b,803,none⟩) (.inl rfl) _⟩);generalize hx:(s[0]'(by omega))=x0 at aE;obtain⟨T,aQ⟩:=aE;have aM:(0:Int)<(s.size:Int):=by omega
 have bu:¬s=ByteArray.empty:=fun e=>by rw[e]at aM;exact absurd aM (by decide)
 have bq:((x0.toNat:Int)==43)=false:=beq_eq_false_iff_ne.2 (by omega);have br:((x0.toNat:Int)==45)=false:=beq_eq_false_iff_ne.2 (by omega);clear f E F h O l X f1;go_enter func296,ntmps296;have I:=VH (fun i(hi:i<s.size)=>kB (s:=s) hi);go_upto_block 1 with fail;go_cut[5,6,7](fun s5 s6 s7 wx=>s5=.int .i64 (n:Nat)/\(∃d:Bool,s6=.bool d/\d=decide (k<n))/\s7=.bool true/\aT wx b false (cF ((bytesOf s).take n)).1/\aa (af b) w wx)
 case first=>
  have bo:=az;generalize bd:(w.setCell ⟨b,802,none⟩ (.bool false)).setCell ⟨b,803,none⟩ (.bool false)=w0 at*;clear bd;go_wp2_with fail;go_loopg[5,6,7]n(fun g s5 s6 s7 wr=>∃(i:Nat)(d sg:Bool),g=n-i/\i<=n/\s5=.int .i64 (i:Nat)/\s6=.bool d/\s7=.bool sg/\sg=decide (0<i)/\aT wr b false (cF ((bytesOf s).take i)).1/\(cF ((bytesOf s).take i)).2=d/\aa (af b) w wr);case atStart=>exact⟨0,false,false,rfl,Nat.zero_le _,rfl,rfl,rfl,rfl,HS.out.1,rfl,HS.out.2⟩
  case round=>
   obtain⟨i,d,sg,rfl,a7,rfl,rfl,rfl,av,N,Q,S⟩:=hrel;obtain⟨q,ag⟩:=uS V.out i a7;have J:=VH (VJ av (VJ N (VJ Q S)));have bk:=VH q;by_cases ae:i<n
   ·have aq:i<s.size:=by omega
    have bn:(i:Int)<(s.size:Int):=by omega
    have hc:=V.out.any ae;have bh:=VH (show i=k->s[i].toNat=46 from fun e=>by rw[<-I.out i aq];subst e;exact(V.out.dot ae).1);have u:=VH (show cF ((bytesOf s).take (i+1))=lY (cF ((bytesOf s).take i)) s[i].toNat from by rw[mi (by omega),Cp,I.out i aq]);rw[I.out i aq]at hc;obtain⟨A,f,E,F⟩:=N.at_;have au:=q.len;have an:=q.dp;have bs:=q.ok;have aP:=q.tr;generalize cF ((bytesOf s).take i)=st at*;obtain⟨⟨a,z,aS⟩,bg⟩:=st;dsimp only at Q f E F au an aP ag;obtain rfl:d=bg:=Q.symm;subst aP;have aZ:=VH ag;have c:=VH (VJ f (VJ E F));obtain⟨X,f1,L,M,l,fz⟩:=f.facts;have g0:=l 800;have g1:=l 801;clear N f E F q av ag;generalize hx:s[i]=x at*;have p1:(0:Int)<=(i:Int):=by omega
    have e1:VL.wrap ((i:Int)+1)=((i+1:Nat):Int):=ak (by omega);have ad:=VH (show(true:Bool)=decide (0<i+1)from by simp);rcases hc with⟨T,aQ⟩|⟨aK,aR⟩
    ·have n1:¬(x.toNat:Int)=95:=by omega
     have n2:¬(x.toNat:Int)=46:=by omega
     have n3:(48:Int)<=(x.toNat:Int):=by omega
     have n4:(x.toNat:Int)<=57:=by omega
     by_cases D:x.toNat=48/\a=[]
     ·obtain⟨D,rfl⟩:=D;have m1:(x.toNat:Int)=48:=by omega
      have W:VL.wrap (z-1)=z-1:=VR _ (by omega);have j:=VH (show cF ((bytesOf s).take (i+1))=(⟨[],z-1,false⟩,d)from by rw[u.out,lY,if_neg (by omega),if_pos ⟨D,rfl⟩]);have X:wr.cell? ⟨b,800,none⟩=some (.int .i64 0):=X;clear l L M D;go_wp2_with fail;go_roundg(n-(i+1));case measure=>omega
      case rel=>exact⟨i+1,d,true,rfl,by omega,rfl,rfl,rfl,ad.out,by rw[j.out];exact⟨A,0,by decide,c.out.1.ir (z-1),c.out.2.1,rfl⟩,by rw[j.out],J.out.2.2.2.setCell (p:=⟨b,801,none⟩) (.inl rfl) _⟩
     ·have j:=VH (show cF ((bytesOf s).take (i+1))=(⟨a++[x.toNat-48],z,false⟩,d)from by rw[u.out,lY,if_neg (by omega),if_neg D])
      have a6:¬(x.toNat:Int)=48∨¬(a.length:Int)=0:=by
       by_cases h:x.toNat=48;. exact .inr (fun e=>D ⟨h,List.eq_nil_of_length_eq_zero (by omega)⟩)
       ·exact .inl (by omega)
      have ar:a.length<800:=by omega
      have f9:=c.out.1.cell ar;have g9:=l a.length;have r:=VH (show aT (((wr.setCell ⟨b,a.length,none⟩ (.int .u8 x.toNat)).setCell ⟨b,800,none⟩ (.int .i64 ((a.length:Int)+1))).drewN 1) b false ⟨a++[x.toNat-48],z,false⟩/\aa (af b) w (((wr.setCell ⟨b,a.length,none⟩ (.int .u8 x.toNat)).setCell ⟨b,800,none⟩ (.int .i64 ((a.length:Int)+1))).drewN 1)from⟨⟨A.set a.length x.toNat,a.length+1,by omega,((c.out.1.k8 ar x.toNat).iU ((a.length:Int)+1)).still ((aa.refl ab _).drewN 1),c.out.2.1.set (by rw[c.out.1.len];exact ar) T aQ,by rw[mV c.out.1.len ar,c.out.2.2]⟩,((J.out.2.2.2.setCell (p:=⟨b,a.length,none⟩) (.inl rfl) _).setCell (p:=⟨b,800,none⟩) (.inl rfl) _).drewN 1⟩);generalize a.length=len at*;generalize A.getD len 0=y0 at f9;have m2:(len:Int)<800:=by omega
      have m3:(0:Int)<=(len:Int):=by omega
      have W:VL.wrap ((len:Int)+1)=(len:Int)+1:=VR _ (by omega);clear l L M D;rcases a6 with aJ|aJ
      ·go_wp2_with fail;go_region;go_wp2_with fail;go_roundg(n-(i+1));case measure=>omega
       case rel=>exact⟨i+1,d,true,rfl,by omega,rfl,rfl,rfl,ad.out,by rw[j.out];exact r.out.1,by rw[j.out],r.out.2⟩
      ·have bm:((len:Int)==0)=false:=beq_eq_false_iff_ne.2 aJ;by_cases D:(x.toNat:Int)=48;case' pos=>rw[D]at r
       all_goals
        go_wp2_with fail;go_region;go_wp2_with fail;go_roundg(n-(i+1));case measure=>omega
        case rel=>exact⟨i+1,d,true,rfl,by omega,rfl,rfl,rfl,ad.out,by rw[j.out];exact r.out.1,by rw[j.out],r.out.2⟩
    ·have bj:=VH aK;have bz:¬(x.toNat:Int)=95:=by omega
     have bx:(x.toNat:Int)=46:=by omega
     have bb:d=false:=by rw[aZ.out];exact decide_eq_false (by omega)
     subst bb;have j:=VH (show cF ((bytesOf s).take (i+1))=(⟨a,a.length,false⟩,true)from by rw[u.out,lY,if_pos aR]);have aB:sg=true:=by rw[J.out.1];exact decide_eq_true (by have :=V.out.p0;omega)
     have r:=VH (show aT (wr.setCell ⟨b,801,none⟩ (.int .i64 (a.length:Nat))) b false ⟨a,a.length,false⟩/\aa (af b) w (wr.setCell ⟨b,801,none⟩ (.int .i64 (a.length:Nat)))from⟨⟨A,a.length,by omega,c.out.1.ir _,c.out.2.1,c.out.2.2⟩,J.out.2.2.2.setCell (p:=⟨b,801,none⟩) (.inl rfl) _⟩);subst aB;generalize a.length=len at*;clear l L M aR aK;go_wp2_with fail;go_roundg(n-(i+1));case measure=>omega
     case rel=>exact⟨i+1,true,true,rfl,by omega,rfl,rfl,rfl,ad.out,by rw[j.out];exact r.out.1,by rw[j.out],r.out.2⟩
   ·obtain rfl:i=n:=by omega
    have aB:sg=true:=by rw[av];exact decide_eq_true az
    subst aB;have HE:=VH (show d=decide (k<i)from by rw[<-Q];exact ag);clear av N Q S q ag;by_cases Y:i<s.size
    case' pos=>
     have aH:=(V.out.exp (by omega)).1;rw[I.out i Y]at aH;generalize hx:s[i]=x at*;have p1:(0:Int)<=(i:Int):=by omega
     have p2:(i:Int)<(s.size:Int):=by omega
     have n1:¬(x.toNat:Int)=95:=by omega
     have n2:¬(x.toNat:Int)=46:=by omega
     have n3:(48:Int)<=(x.toNat:Int):=by omega
     have n4:¬(x.toNat:Int)<=57:=by omega
     clear aH
    case' neg=>have p2:¬(i:Int)<(s.size:Int):=by omega
    all_goals go_wp2_with fail;go_meet;exact⟨rfl,⟨d,rfl,HE.out⟩,rfl,J.out.2.1,J.out.2.2.2⟩
 case rest=>
  obtain⟨rfl,⟨d,rfl,Q⟩,rfl,N,S⟩:=hcut;have q:=(uS V.out n (Nat.le_refl _)).1;have aY:=VH (rfl:jy (bytesOf s) k n m=jy (bytesOf s) k n m);obtain⟨U,ax⟩:∃U,(cF ((bytesOf s).take n)).1=U:=⟨_,rfl⟩;have aj:jy (bytesOf s) k n m=⟨U.ds,(if k<n then U.dp else(U.ds.length:Int))+(if n<(bytesOf s).length then(if m=n+2/\(bytesOf s).getD (n+1) 0=45 then-(cC ((bytesOf s).drop m):Int)else(cC ((bytesOf s).drop m):Int))else 0),U.tr⟩:=by rw[<-ax];rfl
  have au:=q.len;have an:=q.dp;rw[ax]at N au an;clear ax q aY;obtain⟨a,z,aS⟩:=U;dsimp only at au an aj;obtain⟨A,f,E,F⟩:=N.at_;dsimp only at f E F;obtain⟨K,al⟩:∃x,(if k<n then z else(a.length:Int))=x:=⟨_,rfl⟩;rw[al]at aj;have bl:-64<=K/\K<=64:=by rw[<-al];split<;>omega
  have ai:=VH aj;have t:=VH (VJ f (VJ S (VJ Q al)));obtain⟨X,f1,L,M,l,fz⟩:=f.facts;have g1:=l 801;have aU:=VH (VJ E F);clear N f E F S Q al aj L M l;generalize bc:wc=bE at*;clear bc;go_upto_if 120 with fail;go_cut[](fun wx=>aI wx b A (a.length:Nat) K false aS/\aa (af b) w wx);case first=>cases d with|true=>have HX:=VH (show K=z from by have :=t.out.2.2.2;have C:=t.out.2.2.1;rw[if_pos (of_decide_eq_true C.symm)]at this;exact this.symm);go_wp2_with fail;go_meet;exact⟨by rw[HX.out];exact t.out.1,t.out.2.1⟩|false=>have HX:=VH (show K=a.length from by have :=t.out.2.2.2;have C:=t.out.2.2.1;rw[if_neg (of_decide_eq_false C.symm)]at this;exact this.symm);go_wp2_with fail;go_meet;exact⟨by rw[HX.out];exact t.out.1.ir _,t.out.2.1.setCell (p:=⟨b,801,none⟩) (.inl rfl) _⟩
  case rest=>
   obtain⟨f,S⟩:=hcut;have c:=VH (VJ f aU.out);have HW:=VH (VJ f S);obtain⟨X,f1,L,M,l,fz⟩:=f.facts;have g1:=l 801;clear f S L M l t X;by_cases Y:n<s.size
   ·obtain⟨hx,aO,aA,aN⟩:=V.out.exp (by rw[G];exact Y);rw[I.out n Y]at hx;have a_:n+1<s.size:=by omega
    have aD:=VH (show∀i,m<=i->i<s.size->eC ((bytesOf s).getD i 0)from fun i h1 C=>aN i h1 (by rw[G];exact C));have aA:m<s.size:=by omega
    have o:=aD.out m (Nat.le_refl _) aA;have ah:=VH (I.out (n+1) a_);rw[I.out m aA]at o
    have ba:(m=n+1/\eC s[n+1].toNat)∨(m=n+2/\s[n+1].toNat=43)∨(m=n+2/\s[n+1].toNat=45):=by
     rcases aO with h|⟨h1,C|C⟩;. exact .inl ⟨h,by subst h;exact o⟩
     ·exact .inr (.inl ⟨h1,by rw[<-ah.out];exact C⟩)
     ·exact .inr (.inr ⟨h1,by rw[<-ah.out];exact C⟩)
    clear aO aN;generalize bA:s[n]=xm at*;generalize bw:s[n+1]=x1 at*;generalize bB:s[m]=p at*;have a8:=VH (Cd (w:=wc) hx);have p1:(n:Int)<(s.size:Int):=by omega
    have p2:(0:Int)<=(n:Int):=by omega
    have p3:(n:Int)+1<(s.size:Int):=by omega
    have p4:¬(s.size:Int)<=(n:Int)+1:=by omega
    have p5:(m:Int)<(s.size:Int):=by omega
    have p6:(0:Int)<=(m:Int):=by omega
    clear hx;rcases ba with⟨P,a1⟩|⟨P,T⟩|⟨P,T⟩
    case' inl=>
     have Z:=VH P;have m1:((p.toNat:Int)==43)=false:=beq_eq_false_iff_ne.2 (by have :=o.1;omega);have m2:((p.toNat:Int)==45)=false:=beq_eq_false_iff_ne.2 (by have :=o.1;omega);have m3:(48:Int)<=(p.toNat:Int):=by have :=o.1;omega
     have m4:(p.toNat:Int)<=57:=by have :=o.2;omega
     have e7:VL.wrap ((n:Int)+1)=(m:Int):=ak (by omega);have p7:¬(s.size:Int)<=(m:Int):=by omega
     clear a1 o P
    case' inr.inl=>
     have Z:=VH (VJ P T);have m1:((x1.toNat:Int)==43)=true:=beq_iff_eq.2 (by omega);have e7:VL.wrap ((n:Int)+1)=(n:Int)+1:=VR _ (by omega);have e8:VL.wrap ((n:Int)+1+1)=(m:Int):=ak (by omega);have m3:(48:Int)<=(p.toNat:Int):=by have :=o.1;omega
     have m4:(p.toNat:Int)<=57:=by have :=o.2;omega
     have p7:¬(s.size:Int)<=(m:Int):=by omega
     have p8:decide ((s.size:Int)<=(m:Int))=false:=decide_eq_false p7;have p9:decide (s.size<=m)=false:=decide_eq_false (by omega);have fP:decide ((p.toNat:Int)<48)=false:=decide_eq_false (by omega);have bf:decide ((57:Int)<(p.toNat:Int))=false:=decide_eq_false (by omega);clear P T o
    case' inr.inr=>
     have Z:=VH (VJ P T);have m1:((x1.toNat:Int)==43)=false:=beq_eq_false_iff_ne.2 (by omega);have m2:((x1.toNat:Int)==45)=true:=beq_iff_eq.2 (by omega);have e7:VL.wrap ((n:Int)+1)=(n:Int)+1:=VR _ (by omega);have e8:VL.wrap ((n:Int)+1+1)=(m:Int):=ak (by omega);have m3:(48:Int)<=(p.toNat:Int):=by have :=o.1;omega
     have m4:(p.toNat:Int)<=57:=by have :=o.2;omega
     have p7:¬(s.size:Int)<=(m:Int):=by omega
     have p8:decide ((s.size:Int)<=(m:Int))=false:=decide_eq_false p7;have p9:decide (s.size<=m)=false:=decide_eq_false (by omega);have fP:decide ((p.toNat:Int)<48)=false:=decide_eq_false (by omega);have bf:decide ((57:Int)<(p.toNat:Int))=false:=decide_eq_false (by omega);clear P T o
    all_goals
     go_wp2_with fail;refine a8.out.mono ?_;rintro _ _⟨rfl,rfl⟩;go_wp2_with fail;go_loopg[5,9](s.size-m)(fun g s5 s9 wr=>∃i e:Nat,g=s.size-i/\m<=i/\i<=s.size/\s5=.int .i64 (i:Nat)/\s9=.int .i64 (e:Nat)/\e=cC (((bytesOf s).drop m).take (i-m))/\e<=99999/\wc=wr);case atStart=>exact⟨m,0,rfl,Nat.le_refl _,by omega,rfl,rfl,by simp[cC],by decide,rfl⟩
     case round=>
      obtain⟨i,e,rfl,a',aq,rfl,rfl,he,ay,rfl⟩:=hrel;have aC:=VH he;clear he;by_cases ae:i<s.size
      ·have aF:=aD.out i a' ae;have u:=VH (show cC (((bytesOf s).drop m).take (i+1-m))=if e<10000 then e*10+((bytesOf s).getD i 0-48)else e from by rw[show i+1-m=(i-m)+1 by omega,mi (by rw[List.length_drop,G];omega),zx,<-aC.out];congr 3;rw[VW,List.getElem?_drop,VW,show m+(i-m)=i by omega]);rw[I.out i ae]at aF u;generalize hy:s[i]=y at*;obtain⟨bC,bD⟩:=aF;have p1:(i:Int)<(s.size:Int):=by omega
       have p2:(0:Int)<=(i:Int):=by omega
       have n1:(48:Int)<=(y.toNat:Int):=by omega
       have n2:(y.toNat:Int)<=57:=by omega
       have n3:¬(y.toNat:Int)=95:=by omega
       have e1:VL.wrap ((i:Int)+1)=((i+1:Nat):Int):=ak (by omega);by_cases ao:e<10000
       ·have p3:(e:Int)<10000:=by omega
        have j:=VH (show cC (((bytesOf s).drop m).take (i+1-m))=e*10+(y.toNat-48)from by rw[u.out,if_pos ao]);have e3:VL.wrap ((e:Int)*10)=(e:Int)*10:=VR _ (by omega);have e4:VL.wrap ((e:Int)*10+(y.toNat:Int))=(e:Int)*10+(y.toNat:Int):=VR _ (by omega);obtain⟨W,aG⟩:∃W,e*10+(y.toNat-48)=W:=⟨_,rfl⟩;have e5:VL.wrap ((e:Int)*10+(y.toNat:Int)-48)=(W:Int):=ak (by omega);have e6:VL.wrap (y.toNat:Int)=(y.toNat:Int):=VR _ (by omega);have aV:=VH (show W<=99999 from by omega);rw[aG]at j;clear ay ao aG u;go_wp2_with fail;go_roundg(s.size-(i+1));case measure=>omega
        case rel=>exact⟨i+1,W,rfl,by omega,by omega,rfl,rfl,j.out.symm,aV.out,rfl⟩
       ·have p3:¬(e:Int)<10000:=by omega
        have j:=VH (show cC (((bytesOf s).drop m).take (i+1-m))=e from by rw[u.out,if_neg ao]);have aW:=VH ay;clear ay ao u;go_wp2_with fail;go_roundg(s.size-(i+1));case measure=>omega
        case rel=>exact⟨i+1,e,rfl,by omega,by omega,rfl,rfl,j.out.symm,aW.out,rfl⟩
      ·obtain rfl:i=s.size:=by omega
       have p1:¬(s.size:Int)<(s.size:Int):=by omega
       have aw:=VH (show e=cC ((bytesOf s).drop m)from by rw[aC.out,List.take_of_length_le (by rw[List.length_drop,G];omega)]);go_wp2_with fail;go_ret;refine⟨rfl,?_,HW.out.2.setCell (p:=⟨b,801,none⟩) (.inl rfl) _⟩;refine⟨A,a.length,by omega,?_,c.out.2.1,?_⟩;. rw[ai.out];dsimp only;first|(rw[G,if_pos Y,if_neg (by have :=Z.out;omega),<-aw.out];exact c.out.1.ir (K+(e:Int)))|(rw[G,if_pos Y,if_neg (fun h=>by have :=h.2;rw[ah.out,Z.out.2]at this;exact absurd this (by decide)),<-aw.out];exact c.out.1.ir (K+(e:Int)))|(rw[G,if_pos Y,if_pos ⟨Z.out.1,by rw[ah.out,Z.out.2]⟩,<-aw.out];exact c.out.1.ir (K+-(e:Int)))
       ·rw[ai.out];exact c.out.2.2
   ·have aL:n=s.size:=by omega
    have aX:=VH aL;have p1:¬(n:Int)<(s.size:Int):=by omega
    have p2:(n:Int)=(s.size:Int):=by omega
    clear aL;go_wp2_with fail;go_ret;refine⟨rfl,?_,HW.out.2⟩;refine⟨A,a.length,by omega,?_,c.out.2.1,?_⟩;. rw[ai.out];dsimp only;rw[if_neg (by have :=aX.out;omega),Int.add_zero];exact c.out.1
    ·rw[ai.out];exact c.out.2.2
end Go.Proofs.YtmddhediccmhbaaGreatDoor
