/- strconv reads a float. -/
import Derived.Test.YtmddhediccmhbaaGreatDoorA06
import Derived.Test.YtmddhediccmhbaaGreatDoorA07
set_option linter.all false
set_option maxHeartbeats 400000000
set_option maxRecDepth 100000
namespace Go.Proofs.YtmddhediccmhbaaGreatDoor
open Go.RowKit
open Go.Proofs.Tryz
open IntKind renaming i64→VL
open IntWalk renaming i64_in→VR
open Lib renaming hid→VH
open Nat renaming le_refl→VN
variable {w:World}{k n m:Nat}{s:ByteArray}{l:List Nat}
structure RF where
 bj:Nat
 tr:Bool
 sd:Bool
 nd:Nat
 nm:Nat
 dp:Int
def eU(s:RF)(c:Nat):RF:=if c=46 then⟨s.bj,s.tr,true,s.nd,s.nm,s.nd⟩else if c=48/\s.nd=0 then⟨s.bj,s.tr,s.sd,s.nd,s.nm,s.dp-1⟩else if s.nm<19 then⟨(s.bj*10+(c-48))%18446744073709551616,s.tr,s.sd,s.nd+1,s.nm+1,s.dp⟩else⟨s.bj,s.tr||(c !=48),s.sd,s.nd+1,s.nm,s.dp⟩
def cH(l:List Nat):RF:=l.foldl eU ⟨0,false,false,0,0,0⟩
theorem vX(l:List Nat)(c:Nat):cH (l++[c])=eU (cH l) c:=by rw[cH,List.foldl_append];rfl
structure FB(i p:Nat)(s:RF):Prop where
 bj:s.bj<18446744073709551616
 nd:s.nd<=i
 nm:s.nm<=i
 dp:-(i:Int)<=s.dp/\s.dp<=(i:Int)
 sd:s.sd=decide (p<i)
theorem vW(h:Pl l k n m):∀i,i<=n->FB i k (cH (l.take i)):=by
 intro i
 induction i with
 |zero=>intro _;exact⟨by show(0:Nat)<_;decide,VN 0,VN 0,by show-((0:Nat):Int)<=0/\(0:Int)<=((0:Nat):Int);decide,by simp[cH]⟩
 |succ i p=>
  intro t;obtain⟨a,a2,a3,a4,a5⟩:=p (by omega);have u:=h.ml;rw[mi (by omega),vX];generalize cH (l.take i)=q at*;have j:=h.any (i:=i) (by omega);have o:i=k->l.getD i 0=46:=fun e=>by subst e;exact(h.dot (by omega)).1
  generalize l.getD i 0=c at*;obtain⟨bj,A,z,x,y,r⟩:=q;dsimp only at a a2 a3 a4 a5;unfold eU;dsimp only;rcases j with b|⟨b,f⟩
  ·have w:i≠k:=fun e=>by have :=o e;have :=b.1;omega
   have d:decide (k<i+1)=decide (k<i):=by simp;omega
   rw[if_neg (by have :=b.1;omega)];split;. exact⟨a,by dsimp only;omega,by dsimp only;omega,by dsimp only;omega,by rw[d];exact a5⟩
   ·split;. exact⟨Nat.mod_lt _ (by decide),by dsimp only;omega,by dsimp only;omega,by dsimp only;omega,by rw[d];exact a5⟩
    ·exact⟨a,by dsimp only;omega,by dsimp only;omega,by dsimp only;omega,by rw[d];exact a5⟩
  ·rw[if_pos f];exact⟨a,by dsimp only;omega,by dsimp only;omega,by dsimp only;omega,by simp;omega⟩
def fh(l:List Nat)(m q:Nat):Int:=if m<l.length then(if q=m+2/\l.getD (m+1) 0=45 then-(cC (l.drop q):Int)else(cC (l.drop q):Int))else 0
theorem Ij(l:List Nat)(h:∀x∈l,eC x):cC l<=99999:=by
 rcases List.eq_nil_or_concat l with rfl|⟨i,x,rfl⟩;. decide
 ·rw[List.concat_eq_append]at h⊢;revert h;generalize i++[x]=l;intro h;have :∀(l:List Nat)(e:Nat),(∀x∈l,eC x)->e<=99999->l.foldl (fun e c=>if e<10000 then e*10+(c-48)else e) e<=99999:=by intro l;induction l with|nil=>intro e _ a;exact a|cons c l f=>intro e b a;refine f _ (fun x d=>b x (List.mem_cons_of_mem _ d)) ?_;have :=(b c List.mem_cons_self).2;show(if e<10000 then e*10+(c-48)else e)<=99999;split<;>omega
  exact this l 0 h (by decide)
def iT(l:List Nat)(p m q:Nat):Int:=let r:=cH (l.take m);if r.bj=0 then 0 else(if p<m then r.dp else(r.nd:Int))+fh l m q-r.nm
theorem Sk(a:0<s.size)(b:eC (s[0]'a).toNat):Calls prog 289 #[.string s] w fun e w'=>e=.returned (.tuple #[.float .f64 0,.int .i64 0,.bool false])/\w=w':=by
 generalize d:(s[0]'a)=x at b;obtain⟨f,h⟩:=b;have o:(0:Int)<(s.size:Int):=by omega
 have c:¬s=ByteArray.empty:=fun e=>by subst e;exact absurd a (by decide)
 have i:¬(x.toNat:Int)=43:=by omega
 have j:¬(x.toNat:Int)=45:=by omega
 have k:¬(x.toNat:Int)=105:=by omega
 have l:¬(x.toNat:Int)=73:=by omega
 have m:¬(x.toNat:Int)=110:=by omega
 have n:¬(x.toNat:Int)=78:=by omega
 go_enter func289,ntmps289;go_wp2_with fail;go_ret3;exact⟨rfl,rfl⟩
theorem rZ{a:Func}{b t2 t3 t4 t5 c d:Tmp}(h:a.results=#[.tmp b,.tmp t2,.tmp t3,.tmp t4,.tmp t5,.tmp c,.tmp d])(tmps:Array Value)(P:Program)(w:World):(results a tmps).run P w=.ok (.tuple #[tmps.getD b undef,tmps.getD t2 undef,tmps.getD t3 undef,tmps.getD t4 undef,tmps.getD t5 undef,tmps.getD c undef,tmps.getD d undef]) w:=by simp[results,h]
theorem NF{w:World}(c:k<256)(b:k≠120/\k≠88):∃y:Nat,y≠120/\∀w,Calls prog 254 #[.int .u8 k] w fun e w'=>e=.returned (.int .u8 y)/\w=w':=by
 have key:∀k:Fin 256,k.val≠120->k.val≠88->((k.val|||32:Nat))≠120:=by decide
 have a:=u8_or (k:Int) 32 (by omega) (by omega) (by omega) (by omega);refine⟨k|||32,key ⟨k,c⟩ b.1 b.2,fun w=>?_⟩;have a:bits .or .u8 (k:Int) 32=((k|||32:Nat):Int):=by rw[a];simp
 go_enter func254,ntmps254;go_wp2_with fail;go_ret;exact⟨rfl,rfl⟩
theorem QK(t:Pl (bytesOf s) k n m):Calls prog 290 #[.string s] w fun e w'=>e=.returned (.tuple #[.int .u64 (cH ((bytesOf s).take n)).bj,.int .i64 (iT (bytesOf s) k n m),.bool false,.bool (cH ((bytesOf s).take n)).tr,.bool false,.int .i64 (s.size:Nat),.bool true])/\w=w':=by
 have I:=VH t;have u:(bytesOf s).length=s.size:=jh s;have bw:s.size<=64:=by rw[<-u];exact t.size
 have bs:n<=s.size:=by rw[<-u];exact t.ml
 have aP:0<n:=by have :=t.p0;have :=t.pm;omega
 have aJ:eC (s[0]'(by omega)).toNat:=by rw[<-kB];exact t.cd 0 aP (by have :=t.p0;omega)
 have aZ:=VH (show∀h:1<s.size,(s[1]'h).toNat≠120/\(s[1]'h).toNat≠88 from fun h=>by
  rw[<-kB];by_cases P:1<n
  ·rcases t.any P with j|⟨_,j⟩;. have :=j.2;omega
   ·omega
  ·obtain rfl:n=1:=by omega
   rcases(t.exp (by omega)).1 with j|j<;>omega);generalize S:(s[0]'(by omega))=x0 at aJ;obtain⟨L,bl⟩:=aJ;have aQ:(0:Int)<(s.size:Int):=by omega
 have bx:¬s=ByteArray.empty:=fun e=>by rw[e]at aQ;exact absurd aQ (by decide)
 have bt:((x0.toNat:Int)==43)=false:=beq_eq_false_iff_ne.2 (by omega);have bu:((x0.toNat:Int)==45)=false:=beq_eq_false_iff_ne.2 (by omega);clear t;have A:=VH (fun i(hi:i<s.size)=>kB (s:=s) hi);go_enter func290,ntmps290;go_wp2_with fail;go_step3;go_upto_region 12 with fail;go_cut[54]from 36 to 54(fun bn wx=>bn=.bool false/\w=wx)
 case first=>
  by_cases bp:2<s.size
  ·have Y:(2:Int)<(s.size:Int):=by omega
   cases D:((x0.toNat:Int)==48)with
   |true=>
    have a7:1<s.size:=by omega
    have Z:(1:Int)<(s.size:Int):=by omega
    obtain⟨ax,ay⟩:=aZ.out a7;generalize bk:s[1]=x1 at*;obtain⟨y,T,aU⟩:=NF (w:=w) x1.toNat_lt ⟨ax,ay⟩;have bB:((y:Int)==120)=false:=beq_eq_false_iff_ne.2 (by omega);have HY:=VH (aU w);clear aU T ax ay;go_wp2_with fail;refine HY.out.mono ?_;rintro _ _⟨rfl,rfl⟩;go_wp2_with fail;go_meet;exact⟨rfl,rfl⟩
   |false=>go_wp2_with fail;go_meet;exact⟨rfl,rfl⟩
  ·have Y:¬(2:Int)<(s.size:Int):=by omega
   go_wp2_with fail;go_meet;exact⟨rfl,rfl⟩
 case rest=>
  obtain⟨rfl,rfl⟩:=hcut;go_wp2_with fail;go_step3;go_upto_block 1 with fail;go_cut[2,5,7,9,13,14,15,16,17](fun s2 s5 s7 s9 az aA aB aC aa wx=>s9=.bool false/\∃R:RF,R=cH ((bytesOf s).take n)/\s2=.int .u64 (R.bj:Nat)/\s5=.bool R.tr/\s7=.int .i64 (n:Nat)/\az=.bool R.sd/\aA=.bool true/\aB=.int .i64 (R.nd:Nat)/\aC=.int .i64 (R.nm:Nat)/\aa=.int .i64 R.dp/\w=wx)
  case first=>
   go_wp2_with fail;go_loopg[2,5,7,9,13,14,15,16,17]n(fun g s2 s5 s7 s9 az aA aB aC aa wr=>s9=.bool false/\∃(i bj a b:Nat)(d f sg:Bool)(c:Int),cH ((bytesOf s).take i)=⟨bj,d,f,a,b,c⟩/\g=n-i/\i<=n/\s2=.int .u64 (bj:Nat)/\s5=.bool d/\s7=.int .i64 (i:Nat)/\az=.bool f/\aA=.bool sg/\aB=.int .i64 (a:Nat)/\aC=.int .i64 (b:Nat)/\aa=.int .i64 c/\sg=decide (0<i)/\w=wr);case atStart=>exact⟨rfl,0,0,0,0,false,false,false,0,rfl,rfl,Nat.zero_le _,rfl,rfl,rfl,rfl,rfl,rfl,rfl,rfl,rfl,rfl⟩
   case round=>
    obtain⟨rfl,i,bj,a,b,d,f,sg,c,z,rfl,a',rfl,rfl,rfl,rfl,rfl,rfl,rfl,rfl,ai,rfl⟩:=hrel;have W:=vW I.out i a';rw[z]at W;obtain⟨aq,ar,au,an,G⟩:=W;dsimp only at aq ar au an G;have al:=VH z;have a1:=VH G;have a6:=VH ai;by_cases V:i<n
    ·have ah:i<s.size:=by omega
     have br:(i:Int)<(s.size:Int):=by omega
     have hc:=I.out.any V;have bo:=VH (show i=k->s[i].toNat=46 from fun e=>by rw[<-A.out i ah];subst e;exact(I.out.dot V).1);have q:=VH (show cH ((bytesOf s).take (i+1))=eU ⟨bj,d,f,a,b,c⟩ s[i].toNat from by rw[mi (by omega),vX,A.out i ah,al.out]);rw[A.out i ah]at hc;clear ai G z;generalize S:s[i]=x at*;have X:(0:Int)<=(i:Int):=by omega
     have e1:VL.wrap ((i:Int)+1)=((i+1:Nat):Int):=ak (by omega);have N:=VH (show(true:Bool)=decide (0<i+1)from by simp);rcases hc with⟨L,bl⟩|⟨ba,aT⟩
     ·have n1:((x.toNat:Int)==95)=false:=beq_eq_false_iff_ne.2 (by omega);have n2:((x.toNat:Int)==46)=false:=beq_eq_false_iff_ne.2 (by omega);have n3:(48:Int)<=(x.toNat:Int):=by omega
      have n4:(x.toNat:Int)<=57:=by omega
      by_cases D:x.toNat=48/\a=0
      ·have o:=VH (show cH ((bytesOf s).take (i+1))=⟨bj,d,f,a,b,c-1⟩from by rw[q.out,eU,if_neg (by omega),if_pos D]);have m1:((x.toNat:Int)==48)=true:=beq_iff_eq.2 (by omega);have m2:((a:Int)==0)=true:=beq_iff_eq.2 (by omega);have J:VL.wrap (c-1)=c-1:=VR _ (by omega);clear D;go_wp2_with fail;go_roundg(n-(i+1));case measure=>omega
       case rel=>exact⟨rfl,i+1,bj,a,b,d,f,true,c-1,o.out,rfl,by omega,rfl,rfl,rfl,rfl,rfl,rfl,rfl,rfl,N.out,rfl⟩
      ·have aO:((x.toNat:Int)==48)=false∨((x.toNat:Int)==48)=true/\((a:Int)==0)=false:=by
        by_cases h:x.toNat=48;. exact .inr ⟨beq_iff_eq.2 (by omega),beq_eq_false_iff_ne.2 (fun e=>D ⟨h,by omega⟩)⟩
        ·exact .inl (beq_eq_false_iff_ne.2 (by omega))
       have J:VL.wrap ((a:Int)+1)=((a+1:Nat):Int):=ak (by omega);by_cases ae:b<19
       ·have o:=VH (show cH ((bytesOf s).take (i+1))=⟨(bj*10+(x.toNat-48))%18446744073709551616,d,f,a+1,b+1,c⟩from by rw[q.out,eU,if_neg (by omega),if_neg D,if_pos ae]);have Z:(b:Int)<19:=by omega
        obtain⟨M,hM⟩:∃M,bj*10%18446744073709551616=M:=⟨_,rfl⟩;obtain⟨Q,hQ⟩:∃Q,(M+(x.toNat-48))%18446744073709551616=Q:=⟨_,rfl⟩;have e3:IntKind.u64.wrap ((bj:Int)*10)=(M:Int):=by rw[<-hM,<-nZ];rfl
        obtain⟨y,T⟩:∃y,x.toNat-48=y:=⟨_,rfl⟩;have e4:IntKind.u8.wrap ((x.toNat:Int)-48)=(y:Int):=by rw[IntWalk.u8_in _ (by omega)];omega
        rw[T]at hQ;have e5:IntKind.u64.wrap (y:Int)=(y:Int):=IntWalk.u64_in _ (by omega);have e6:IntKind.u64.wrap ((M:Int)+(y:Int))=(Q:Int):=by rw[<-hQ,<-nZ];rfl
        have e7:VL.wrap ((b:Int)+1)=((b+1:Nat):Int):=ak (by omega);have aG:=VH (show cH ((bytesOf s).take (i+1))=⟨Q,d,f,a+1,b+1,c⟩from by rw[o.out,T];congr 1;omega);clear hM hQ T D ae;rcases aO with E|⟨E,a_⟩
        all_goals
         go_wp2_with fail;go_roundg(n-(i+1));case measure=>omega
         case rel=>exact⟨rfl,i+1,Q,a+1,b+1,d,f,true,c,aG.out,rfl,by omega,rfl,rfl,rfl,rfl,rfl,rfl,rfl,rfl,N.out,rfl⟩
       ·have o:=VH (show cH ((bytesOf s).take (i+1))=⟨bj,d||(x.toNat !=48),f,a+1,b,c⟩from by rw[q.out,eU,if_neg (by omega),if_neg D,if_neg ae]);have Z:¬(b:Int)<19:=by omega
        clear D ae;rcases aO with E|⟨E,a_⟩
        ·have hb:((x.toNat:Int)!=48)=true:=by simp[bne,E]
         have HT:=VH (show(d||(x.toNat !=48))=true from by rw[bne_iff_ne.2 (fun e=>by rw[e]at E;exact absurd E (by decide))];simp);go_wp2_with fail;go_roundg(n-(i+1));case measure=>omega
         case rel=>exact⟨rfl,i+1,bj,a+1,b,true,f,true,c,by rw[o.out,HT.out],rfl,by omega,rfl,rfl,rfl,rfl,rfl,rfl,rfl,rfl,N.out,rfl⟩
        ·have hb:((x.toNat:Int)!=48)=false:=by simp[bne,E]
         have HT:=VH (show(d||(x.toNat !=48))=d from by rw[show(x.toNat !=48)=false from by have :=beq_iff_eq.1 E;simp;omega];simp);go_wp2_with fail;go_roundg(n-(i+1));case measure=>omega
         case rel=>exact⟨rfl,i+1,bj,a+1,b,d,f,true,c,by rw[o.out,HT.out],rfl,by omega,rfl,rfl,rfl,rfl,rfl,rfl,rfl,rfl,N.out,rfl⟩
     ·have n1:((x.toNat:Int)==95)=false:=beq_eq_false_iff_ne.2 (by omega);have n2:((x.toNat:Int)==46)=true:=beq_iff_eq.2 (by omega);have bh:f=false:=by rw[a1.out];exact decide_eq_false (by omega)
      have aw:sg=true:=by rw[a6.out];exact decide_eq_true (by have :=I.out.p0;omega)
      have o:=VH (show cH ((bytesOf s).take (i+1))=⟨bj,d,true,a,b,a⟩from by rw[q.out,eU,if_pos aT]);subst bh aw;clear aT ba;go_wp2_with fail;go_roundg(n-(i+1));case measure=>omega
      case rel=>exact⟨rfl,i+1,bj,a,b,d,true,true,a,o.out,rfl,by omega,rfl,rfl,rfl,rfl,rfl,rfl,rfl,rfl,N.out,rfl⟩
    ·obtain rfl:i=n:=by omega
     have aw:sg=true:=by rw[ai];exact decide_eq_true aP
     subst aw;clear ai G z;by_cases K:i<s.size
     case' pos=>
      have aN:=(I.out.exp (by omega)).1;rw[A.out i K]at aN;generalize S:s[i]=x at*;have X:(0:Int)<=(i:Int):=by omega
      have Y:(i:Int)<(s.size:Int):=by omega
      have n1:((x.toNat:Int)==95)=false:=beq_eq_false_iff_ne.2 (by omega);have n2:((x.toNat:Int)==46)=false:=beq_eq_false_iff_ne.2 (by omega);have n3:(48:Int)<=(x.toNat:Int):=by omega
      have n4:¬(x.toNat:Int)<=57:=by omega
      clear aN
     case' neg=>have Y:¬(i:Int)<(s.size:Int):=by omega
     all_goals go_wp2_with fail;go_meet;exact⟨rfl,_,al.out.symm,rfl,rfl,rfl,rfl,rfl,rfl,rfl,rfl,rfl⟩
  case rest=>
   obtain⟨rfl,R,z,rfl,rfl,rfl,rfl,rfl,rfl,rfl,rfl,rfl⟩:=hcut;have W:=vW I.out n (VN _);have U:=VH (show iT (bytesOf s) k n m=if R.bj=0 then 0 else(if k<n then R.dp else(R.nd:Int))+fh (bytesOf s) n m-R.nm from by rw[z];rfl);rw[<-z]at W;obtain⟨bj,d,f,a,b,c⟩:=R;have ad:=VH z.symm;clear z;obtain⟨aq,ar,au,an,G⟩:=W;dsimp only at aq ar au an G U;obtain⟨C,af⟩:∃x,(if k<n then c else(a:Int))=x:=⟨_,rfl⟩;rw[af]at U;have bq:-64<=C/\C<=64:=by rw[<-af];split<;>omega
   have HC:=VH (And.intro G af);clear G af;go_upto_if 142 with fail;go_cut[17](fun aa wx=>aa=.int .i64 C/\w=wx);case first=>cases f with|true=>have HX:=VH (show C=c from by have :=HC.out.2;have j:=HC.out.1;rw[if_pos (of_decide_eq_true j.symm)]at this;exact this.symm);go_wp2_with fail;go_meet;exact⟨by rw[HX.out],rfl⟩|false=>have HX:=VH (show C=a from by have :=HC.out.2;have j:=HC.out.1;rw[if_neg (of_decide_eq_false j.symm)]at this;exact this.symm);go_wp2_with fail;go_meet;exact⟨by rw[HX.out],rfl⟩
   case rest=>
    obtain⟨rfl,rfl⟩:=hcut;by_cases K:n<s.size
    ·obtain⟨S,aS,av,aR⟩:=I.out.exp (by rw[u];exact K);rw[A.out n K]at S;have bc:n+1<s.size:=by omega
     have aH:=VH (show∀i,m<=i->i<s.size->eC ((bytesOf s).getD i 0)from fun i P j=>aR i P (by rw[u];exact j));have av:m<s.size:=by omega
     have p:=aH.out m (VN _) av;have ab:=VH (A.out (n+1) bc);rw[A.out m av]at p
     have bg:(m=n+1/\eC s[n+1].toNat)∨(m=n+2/\s[n+1].toNat=43)∨(m=n+2/\s[n+1].toNat=45):=by
      rcases aS with h|⟨P,j|j⟩;. exact .inl ⟨h,by subst h;exact p⟩
      ·exact .inr (.inl ⟨P,by rw[<-ab.out];exact j⟩)
      ·exact .inr (.inr ⟨P,by rw[<-ab.out];exact j⟩)
     clear aS aR;generalize bz:s[n]=xm at*;generalize bk:s[n+1]=x1 at*;generalize bA:s[m]=l at*;have bb:=VH (Cd (w:=w) S);have X:(n:Int)<(s.size:Int):=by omega
     have Y:(0:Int)<=(n:Int):=by omega
     have Z:(n:Int)+1<(s.size:Int):=by omega
     have p4:¬(s.size:Int)<=(n:Int)+1:=by omega
     have p5:(m:Int)<(s.size:Int):=by omega
     have p6:(0:Int)<=(m:Int):=by omega
     clear S;rcases bg with⟨F,a8⟩|⟨F,L⟩|⟨F,L⟩
     case' inl=>
      have O:=VH F;have m1:((l.toNat:Int)==43)=false:=beq_eq_false_iff_ne.2 (by have :=p.1;omega);have m2:((l.toNat:Int)==45)=false:=beq_eq_false_iff_ne.2 (by have :=p.1;omega);have m3:(48:Int)<=(l.toNat:Int):=by have :=p.1;omega
      have m4:(l.toNat:Int)<=57:=by have :=p.2;omega
      have e7:VL.wrap ((n:Int)+1)=(m:Int):=ak (by omega);have p7:¬(s.size:Int)<=(m:Int):=by omega
      have p9:decide (s.size<=m)=false:=decide_eq_false (by omega);have fP:decide ((l.toNat:Int)<48)=false:=decide_eq_false (by omega);have aV:decide ((57:Int)<(l.toNat:Int))=false:=decide_eq_false (by omega);clear a8 p F
     case' inr.inl=>
      have O:=VH (And.intro F L);have m1:((x1.toNat:Int)==43)=true:=beq_iff_eq.2 (by omega);have e7:VL.wrap ((n:Int)+1)=(n:Int)+1:=VR _ (by omega);have e8:VL.wrap ((n:Int)+1+1)=(m:Int):=ak (by omega);have m3:(48:Int)<=(l.toNat:Int):=by have :=p.1;omega
      have m4:(l.toNat:Int)<=57:=by have :=p.2;omega
      have p7:¬(s.size:Int)<=(m:Int):=by omega
      have p8:decide ((s.size:Int)<=(m:Int))=false:=decide_eq_false p7;have p9:decide (s.size<=m)=false:=decide_eq_false (by omega);have fP:decide ((l.toNat:Int)<48)=false:=decide_eq_false (by omega);have aV:decide ((57:Int)<(l.toNat:Int))=false:=decide_eq_false (by omega);clear F L p
     case' inr.inr=>
      have O:=VH (And.intro F L);have m1:((x1.toNat:Int)==43)=false:=beq_eq_false_iff_ne.2 (by omega);have m2:((x1.toNat:Int)==45)=true:=beq_iff_eq.2 (by omega);have e7:VL.wrap ((n:Int)+1)=(n:Int)+1:=VR _ (by omega);have e8:VL.wrap ((n:Int)+1+1)=(m:Int):=ak (by omega);have m3:(48:Int)<=(l.toNat:Int):=by have :=p.1;omega
      have m4:(l.toNat:Int)<=57:=by have :=p.2;omega
      have p7:¬(s.size:Int)<=(m:Int):=by omega
      have p8:decide ((s.size:Int)<=(m:Int))=false:=decide_eq_false p7;have p9:decide (s.size<=m)=false:=decide_eq_false (by omega);have fP:decide ((l.toNat:Int)<48)=false:=decide_eq_false (by omega);have aV:decide ((57:Int)<(l.toNat:Int))=false:=decide_eq_false (by omega);clear F L p
     all_goals
      go_wp2_with fail;refine bb.out.mono ?_;rintro _ _⟨rfl,rfl⟩;go_wp2_with fail;go_loopg[7,9,20](s.size-m)(fun g s7 s9 bm wr=>s9=.bool false/\∃i e:Nat,g=s.size-i/\m<=i/\i<=s.size/\s7=.int .i64 (i:Nat)/\bm=.int .i64 (e:Nat)/\e=cC (((bytesOf s).drop m).take (i-m))/\e<=99999/\w=wr);case atStart=>exact⟨rfl,m,0,rfl,VN _,by omega,rfl,rfl,by simp[cC],by decide,rfl⟩
      case round=>
       obtain⟨rfl,i,e,rfl,bf,ah,rfl,rfl,he,ao,rfl⟩:=hrel;have aD:=VH he;clear he;by_cases V:i<s.size
       ·have aK:=aH.out i bf V;have q:=VH (show cC (((bytesOf s).drop m).take (i+1-m))=if e<10000 then e*10+((bytesOf s).getD i 0-48)else e from by rw[show i+1-m=(i-m)+1 by omega,mi (by rw[List.length_drop,u];omega),zx,<-aD.out];congr 3;rw[List.getD_eq_getElem?_getD,List.getElem?_drop,List.getD_eq_getElem?_getD,show m+(i-m)=i by omega]);rw[A.out i V]at aK q;generalize T:s[i]=y at*;obtain⟨ax,ay⟩:=aK;have X:(i:Int)<(s.size:Int):=by omega
        have Y:(0:Int)<=(i:Int):=by omega
        have n1:(48:Int)<=(y.toNat:Int):=by omega
        have n2:(y.toNat:Int)<=57:=by omega
        have n3:((y.toNat:Int)==95)=false:=beq_eq_false_iff_ne.2 (by omega);have e1:VL.wrap ((i:Int)+1)=((i+1:Nat):Int):=ak (by omega);by_cases ag:e<10000
        ·have Z:(e:Int)<10000:=by omega
         have o:=VH (show cC (((bytesOf s).drop m).take (i+1-m))=e*10+(y.toNat-48)from by rw[q.out,if_pos ag]);have e3:VL.wrap ((e:Int)*10)=(e:Int)*10:=VR _ (by omega);have e4:VL.wrap ((e:Int)*10+(y.toNat:Int))=(e:Int)*10+(y.toNat:Int):=VR _ (by omega);obtain⟨J,aL⟩:∃J,e*10+(y.toNat-48)=J:=⟨_,rfl⟩;have e5:VL.wrap ((e:Int)*10+(y.toNat:Int)-48)=(J:Int):=ak (by omega);have e6:VL.wrap (y.toNat:Int)=(y.toNat:Int):=VR _ (by omega);have aX:=VH (show J<=99999 from by omega);rw[aL]at o;clear ao ag aL q;go_wp2_with fail;go_roundg(s.size-(i+1));case measure=>omega
         case rel=>exact⟨rfl,i+1,J,rfl,by omega,by omega,rfl,rfl,o.out.symm,aX.out,rfl⟩
        ·have Z:¬(e:Int)<10000:=by omega
         have o:=VH (show cC (((bytesOf s).drop m).take (i+1-m))=e from by rw[q.out,if_neg ag]);have aY:=VH ao;clear ao ag q;go_wp2_with fail;go_roundg(s.size-(i+1));case measure=>omega
         case rel=>exact⟨rfl,i+1,e,rfl,by omega,by omega,rfl,rfl,o.out.symm,aY.out,rfl⟩
       ·obtain rfl:i=s.size:=by omega
        have X:¬(s.size:Int)<(s.size:Int):=by omega
        have aj:=VH (show e=cC ((bytesOf s).drop m)from by rw[aD.out,List.take_of_length_le (by rw[List.length_drop,u];omega)]);by_cases r:bj=0;. subst r;have H:=VH (show iT (bytesOf s) k n m=0 from by rw[U.out,if_pos rfl]);go_wp2_with fail;refine bodyPost_ret (rZ rfl _ _ _) rfl ?_;refine⟨?_,rfl⟩;rw[H.out,ad.out];rfl
        ·have bd:((bj:Int)!=0)=true:=bne_iff_ne.2 (by omega);have H:=VH (show iT (bytesOf s) k n m=C+fh (bytesOf s) n m-b from by rw[U.out,if_neg r]);clear r;go_wp2_with fail;refine bodyPost_ret (rZ rfl _ _ _) rfl ?_;refine⟨?_,rfl⟩;rw[H.out,ad.out];first|(rw[show fh (bytesOf s) n m=(e:Int)from by rw[fh,u,if_pos K,if_neg (by have :=O.out;omega),<-aj.out]];rfl)|(rw[show fh (bytesOf s) n m=(e:Int)from by rw[fh,u,if_pos K,if_neg (fun h=>by have :=h.2;rw[ab.out,O.out.2]at this;exact absurd this (by decide)),<-aj.out]];rfl)|(rw[show fh (bytesOf s) n m=-(e:Int)from by rw[fh,u,if_pos K,if_pos ⟨O.out.1,by rw[ab.out,O.out.2]⟩,<-aj.out]];rfl)
    ·have r:n=s.size:=by omega
     have aF:=VH r;have X:¬(n:Int)<(s.size:Int):=by omega
     have aI:fh (bytesOf s) n m=0:=by rw[fh,if_neg (by rw[u];omega)]
     have aW:=VH aI;clear r aI;have aM:fh (bytesOf s) n m=0:=by rw[aW.out]
     have aE:=VH (show iT (bytesOf s) k n m=if bj=0 then 0 else C+0-b from by rw[U.out,aM]);clear aM;by_cases r:bj=0;. subst r;have H:=VH (show iT (bytesOf s) k n m=0 from by rw[aE.out,if_pos rfl]);go_wp2_with fail;refine bodyPost_ret (rZ rfl _ _ _) rfl ?_;refine⟨?_,rfl⟩;rw[H.out,ad.out,<-aF.out];rfl
     ·have bd:((bj:Int)!=0)=true:=bne_iff_ne.2 (by omega);have H:=VH (show iT (bytesOf s) k n m=C+0-b from by rw[aE.out,if_neg r]);clear r;go_wp2_with fail;refine bodyPost_ret (rZ rfl _ _ _) rfl ?_;refine⟨?_,rfl⟩;rw[H.out,ad.out,<-aF.out,Int.add_zero];rfl
end Go.Proofs.YtmddhediccmhbaaGreatDoor
