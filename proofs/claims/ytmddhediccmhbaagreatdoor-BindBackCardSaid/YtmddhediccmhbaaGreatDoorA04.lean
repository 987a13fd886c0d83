/- the decimal of strconv. -/
import GoSem.PinnedTables
import Derived.Deep.LoopGhost
import Derived.Deep.DeepCutAuto
import Derived.Deep.CutBlock
import Derived.Test.YtmddhediccmhbaaGreatDoorA02
set_option linter.all false
set_option maxHeartbeats 400000000
set_option maxRecDepth 100000
namespace Go.Proofs.YtmddhediccmhbaaGreatDoor
open Go.RowKit
open Tryz
open And renaming intro→VJ
open IntKind renaming i64→VL
open IntKind renaming u64→Wf
open IntWalk renaming u64_in→Wi
open Lib renaming hid→VH
open List renaming append_assoc→Wh
open List renaming cons_ne_nil→XP
open List renaming drop_eq_getElem_cons→Wm
open List renaming drop_eq_nil_of_le→Wk
open List renaming getD_eq_getElem?_getD→VW
open List renaming getElem?_eq_getElem→VX
open List renaming length_append→VK
open List renaming length_cons→VM
open List renaming length_take→WK
open List renaming mem_append→V_
open List renaming mem_cons→We
open List renaming mem_cons_of_mem→VT
open List renaming mem_cons_self→V6
open List renaming mem_of_mem_take→XT
open List renaming mem_singleton→VU
open List renaming not_mem_nil→V1
open List renaming take_of_length_le→V2
open Nat renaming add_mul→XM
open Nat renaming add_sub_cancel→YD
open Nat renaming div_lt_of_lt_mul→Yi
open Nat renaming le_refl→VN
open Nat renaming le_trans→VS
open Nat renaming lt_of_mul_lt_mul_right→WV
open Nat renaming lt_or_ge→Wb
open Nat renaming lt_succ_self→W5
open Nat renaming mod_lt→XQ
open Nat renaming mul_assoc→V7
open Nat renaming mul_comm→Xa
open Nat renaming mul_le_mul_right→V3
open Nat renaming mul_lt_mul_of_pos_right→WD
open Nat renaming mul_right_comm→Xh
open Nat renaming pow_le_pow_right→Wu
open Nat renaming pow_succ→WY
open Nat renaming two_pow_pos→Wc
open Nat renaming zero_le→VQ
open Tryz renaming prog→VI
variable {w:World}{k n m i nd:Nat}{e r:Int}{b:Bool}{l L:List Nat}{S:Nat->Prop}
namespace Dc
def val(l:List Nat):Nat:=l.foldl (fun a d=>a*10+d) 0
def lr(n:Nat)(l:List Nat):Nat:=l.foldl (fun a d=>a*10+d) n
theorem EH(l:List Nat):∀n,lr n l=n*10^l.length+val l:=by
 induction l with
 |nil=>intro n;simp[lr,val]
 |cons d l a=>
  intro n;have b:lr n (d::l)=lr (n*10+d) l:=rfl;have c:val (d::l)=lr (0*10+d) l:=rfl;rw[b,c,a,a,VM,WY];have :(n*10+d)*10^l.length=n*(10^l.length*10)+d*10^l.length:=by rw[XM,V7,Xa 10]
  rw[this];simp[Nat.add_assoc]
theorem n_(d:Nat)(l:List Nat):val (d::l)=d*10^l.length+val l:=by have h:val (d::l)=lr (0*10+d) l:=rfl;rw[h,EH];simp
theorem EI(l m:List Nat):val (l++m)=val l*10^m.length+val m:=by
 have h:val (l++m)=lr (val l) m:=by simp[val,lr]
 rw[h,EH]
theorem EJ(l:List Nat)(d:Nat):val (l++[d])=val l*10+d:=by rw[EI];simp[val]
def bL(l:List Nat):Prop:=∀d∈l,d<10
theorem pQ(h:bL l):val l<10^l.length:=by induction l with|nil=>simp[val]|cons d l b=>rw[n_,VM,WY];have c:=b fun x a=>h x (VT _ a);have e:d<10:=h d V6;have f:d*10^l.length<=9*10^l.length:=V3 _ (by omega);omega
theorem TH(h:1<=k):10^l.length<=val (k::l):=by rw[n_];have :1*10^l.length<=k*10^l.length:=V3 _ h;omega
structure D where
 ds:List Nat
 dp:Int
 tr:Bool
structure Ok(d:D):Prop where
 cd:bL d.ds
 len:d.ds.length<=800
 head:∀x,d.ds.head?=some x->1<=x
def bQ:List Nat->List Nat|[]=>[]|d::l=>match bQ l with|[]=>if d=0 then[]else[d]|m=>d::m
theorem tK(h:bL l):bL (bQ l):=by
 induction l with
 |nil=>exact h
 |cons d l e=>
  have c:=e fun x a=>h x (VT _ a);have b:d<10:=h d V6;unfold bQ;split
  ·split;. intro x a;cases a
   ·intro x a;rw[VU.1 a];exact b
  ·intro x a;rcases We.1 a with rfl|a;. exact b
   ·exact c x a
theorem tL(l:List Nat):(bQ l).length<=l.length:=by
 induction l with
 |nil=>exact VN _
 |cons d l a=>
  unfold bQ;split;. split<;>simp
  ·simp only[VM];omega
theorem qF(h:1<=k):(bQ (k::l)).head?=some k:=by
 unfold bQ;split;. rw[if_neg (by omega)];rfl
 ·rfl
theorem Hh(l:List Nat):bQ (l++[0])=bQ l:=by induction l with|nil=>rfl|cons d l a=>simp only[List.cons_append,bQ,a]
theorem Hg(h:k≠0):bQ (l++[k])=l++[k]:=by induction l with|nil=>simp[bQ,h]|cons x l a=>simp only[List.cons_append,bQ,a];cases l<;>rfl
def trim(d:D):D:=⟨bQ d.ds,if bQ d.ds=[]then 0 else d.dp,d.tr⟩
def grow(k:Nat)(n r:Nat):Nat->Nat×Nat|0=>(n,r)|f+1=>if n/2^k=0 then grow k (n*10) (r+1) f else(n,r)
def pick(k:Nat):Nat->Nat->List Nat->Nat×Nat×List Nat|n,r,ds=>if n/2^k≠0 then(n,r,ds)else match ds with|[]=>let g:=grow k n r 64;(g.1,g.2,[])|d::ds=>pick k (n*10+d) (r+1) ds termination_by _ _ ds=>ds.length
def h_(k:Nat):Nat->List Nat->List Nat×Nat|n,[]=>([],n)|n,d::ds=>let m:=h_ k (n%2^k*10+d) ds;(n/2^k::m.1,m.2)
def rest(k:Nat):Nat->Nat->List Nat|0,_=>[]|f+1,n=>if n=0 then[]else n/2^k::rest k f (n%2^k*10)
def eI(k:Nat)(a:List Nat):List Nat×Nat:=let p:=pick k 0 0 a;let m:=h_ k p.1 p.2.2;(m.1++rest k (k+2) m.2,p.2.1)
def cut(l:List Nat)(a:Bool):List Nat×Bool:=(l.take 800,a||(l.drop 800).any (·≠0))
def cV(k:Nat)(d:D):D:=if d.ds=[]then⟨[],d.dp,d.tr⟩else let o:=eI k d.ds;let c:=cut o.1 d.tr;trim ⟨c.1,d.dp-(o.2-1:Int),c.2⟩
theorem JD:∀(f n r:Nat),n≠0->2^k<=n*10^f->n<10*2^k->1<=(grow k n r f).1/2^k/\(grow k n r f).1<10*2^k/\r<=(grow k n r f).2:=by
 intro f
 induction f with
 |zero=>intro n r j d e;simp only[grow];rw[Nat.pow_zero,Nat.mul_one]at d;exact⟨(Nat.le_div_iff_mul_le (Wc k)).2 (by omega),e,VN _⟩
 |succ f l=>
  intro n r j d e;simp only[grow];split
  ·rename_i h
   have m:n<2^k:=by
    rcases Wb n (2^k)with i|i;. exact i
    ·have :=(Nat.le_div_iff_mul_le (Wc k)).2 (show 1*2^k<=n by omega);omega
   obtain⟨a,b,c⟩:=l (n*10) (r+1) (by omega) (by rw[WY]at d;rw[V7,Xa 10];exact d) (by omega);exact⟨a,b,by omega⟩
  ·rename_i h;exact⟨Nat.pos_of_ne_zero h,e,VN _⟩
theorem Dd(t:k<=60):∀(f:List Nat)(n r:Nat),bL f->n<10*2^k->(n≠0∨∃d l,f=d::l/\1<=d)->1<=(pick k n r f).1/2^k/\(pick k n r f).1<10*2^k/\r<=(pick k n r f).2.1/\bL (pick k n r f).2.2:=by
 intro f
 induction f with
 |nil=>
  intro n r i o j;have j:n≠0:=by rcases j with h|⟨d,l,h,_⟩;exact h;cases h
  unfold pick;split;. rename_i h;exact⟨Nat.pos_of_ne_zero h,o,VN _,i⟩
  ·obtain⟨a,b,c⟩:=JD (k:=k) 64 n r j (VS (Wu (by decide) t) (VS (show 2^60<=1*10^64 by decide) (V3 _ (by omega)))) o;exact⟨a,b,c,i⟩
 |cons d l w=>
  intro n r i o j;unfold pick;split;. rename_i h;exact⟨Nat.pos_of_ne_zero h,o,VN _,i⟩
  ·rename_i h
   have y:n<2^k:=by
    rcases Wb n (2^k)with p|p;. exact p
    ·have :=(Nat.le_div_iff_mul_le (Wc k)).2 (show 1*2^k<=n by omega);omega
   have z:d<10:=i d V6
   have u:n*10+d≠0:=by
    rcases j with h|⟨x,m,e,q⟩;. omega
    ·injection e with e _;omega
   obtain⟨a,b,c,e⟩:=w (n*10+d) (r+1) (fun x q=>i x (VT _ q)) (by omega) (.inl u);dsimp only;exact⟨a,b,by omega,e⟩
theorem N4:∀(e:List Nat)(n:Nat),bL e->n<10*2^k->bL (h_ k n e).1/\(h_ k n e).2<10*2^k/\(h_ k n e).1.length=e.length:=by
 intro e
 induction e with
 |nil=>intro n _ i;exact⟨fun x f=>(V1 f).elim,i,rfl⟩
 |cons d l j=>
  intro n h i;have m:n%2^k<2^k:=XQ _ (Wc k);have o:d<10:=h d V6;obtain⟨a,b,c⟩:=j (n%2^k*10+d) (fun x f=>h x (VT _ f)) (by omega);refine⟨fun x f=>?_,b,by simp[h_,c]⟩;rcases We.1 f with rfl|f;. exact Yi (by omega)
  ·exact a x f
theorem QW:∀(f n:Nat),n<10*2^k->bL (rest k f n):=by
 intro f
 induction f with
 |zero=>intro n _ x a;exact(V1 a).elim
 |succ f b=>
  intro n d x a;simp only[rest]at a;split at a;. exact(V1 a).elim
  ·have c:n%2^k<2^k:=XQ _ (Wc k);rcases We.1 a with rfl|a;. exact Yi (by omega)
   ·exact b _ (by omega) x a
theorem Aj:∀(f n r:Nat),r<=(grow k n r f).2:=by
 intro f
 induction f with
 |zero=>intro n r;exact VN _
 |succ f a=>
  intro n r;simp only[grow];split;. exact VS (Nat.le_succ r) (a _ _)
  ·exact VN _
theorem vF:∀(a:List Nat)(n r:Nat),r<=(pick k n r a).2.1:=by
 intro a
 induction a with
 |nil=>
  intro n r;unfold pick;split;. exact VN _
  ·exact Aj 64 n r
 |cons d l b=>
  intro n r;unfold pick;split;. exact VN _
  ·exact VS (Nat.le_succ r) (b _ _)
theorem PQ{ds:List Nat}{r:Nat}(h:(pick k n r ds).2.1=r):(pick k n r ds).1=n:=by
 cases ds with
 |nil=>
  unfold pick at h⊢;split at h;. rename_i a;rw[if_pos a]
  ·rename_i a;have b:n/2^k=0:=Decidable.not_not.1 a;have :r+1<=(grow k n r 64).2:=by rw[show grow k n r 64=if n/2^k=0 then grow k (n*10) (r+1) 63 else(n,r)from rfl,if_pos b];exact Aj 63 _ _
   dsimp only at h;omega
 |cons d l=>
  unfold pick at h⊢;split at h;. rename_i a;rw[if_pos a]
  ·dsimp only at h;have :=vF (k:=k) l (n*10+d) (r+1);omega
theorem Rc(u:1<=k)(w:k<=60)(o:bL (n::l))(E:1<=n):bL (eI k (n::l)).1/\1<=(eI k (n::l)).2/\∃x m,(eI k (n::l)).1=x::m/\1<=x/\((eI k (n::l)).2=1->x<n):=by
 have z:bL l:=fun x i=>o x (VT _ i);have G:n<10:=o n V6;have e:pick k 0 0 (n::l)=pick k n 1 l:=by rw[pick,if_neg (by simp)];simp
 have H:0<2^k:=Wc k;obtain⟨a,b,c,f⟩:=Dd w l n 1 z (by omega) (.inl (by omega));have j:=PQ (k:=k) (ds:=l) (n:=n) (r:=1);unfold eI;rw[e];generalize F:pick k n 1 l=p at a b c f j⊢;obtain⟨d,r,t⟩:=p;dsimp only at a b c f j⊢;obtain⟨m1,D,m3⟩:=N4 (k:=k) t d f b;refine⟨fun x i=>?_,c,?_⟩
 ·rcases V_.1 i with i|i;. exact m1 x i
  ·exact QW _ _ D x i
 ·have A:d≠0:=fun h=>by subst h;simp at a
  have q:r=1->d/2^k<n:=fun C=>by rw[j C];have :2^1<=2^k:=Wu (by decide) u;exact Nat.div_lt_self (by omega) (by omega)
  cases t with|nil=>refine⟨d/2^k,rest k (k+1) (d%2^k*10),?_,a,q⟩;show([]:List Nat)++rest k (k+1+1) d=_;rw[show rest k (k+1+1) d=if d=0 then[]else d/2^k::rest k (k+1) (d%2^k*10)from rfl,if_neg A];rfl|cons y t=>exact⟨d/2^k,_,rfl,a,q⟩
theorem DQ{d:D}(r:1<=k)(w:k<=60)(h:Ok d)(i:d.ds=n::l):Ok (cV k d)/\∃y m,(cV k d).ds=y::m/\((cV k d).dp<d.dp∨(cV k d).dp=d.dp/\y<n):=by
 have G:1<=n:=h.head n (by rw[i];rfl);obtain⟨a,b,y,m,e,H,A⟩:=Rc (l:=l) r w (by rw[<-i];exact h.cd) G;have C:d.ds≠[]:=by rw[i];exact XP _ _
 have c:=qF (l:=m.take 799) H;have F:(eI k d.ds).1.take 800=y::m.take 799:=by rw[i,e];rfl
 have E:cV k d=⟨bQ (y::m.take 799),d.dp-((eI k d.ds).2-1:Int),(cut (eI k d.ds).1 d.tr).2⟩:=by unfold cV trim cut;rw[if_neg C];dsimp only;rw[F,if_neg (fun p=>by rw[p]at c;cases c)]
 rw[E];have j:∃z,bQ (y::m.take 799)=y::z:=by cases o:bQ (y::m.take 799)with|nil=>rw[o]at c;cases c|cons q z=>rw[o]at c;injection c with c;exact⟨z,by rw[c]⟩
 obtain⟨z,j⟩:=j;have x:=tL (y::m.take 799)
 have u:bL (y::m.take 799):=fun q f=>a q (by
  rw[e];rcases We.1 f with rfl|f;. exact V6
  ·exact VT _ (XT f));refine⟨⟨tK u,?_,fun q f=>?_⟩,y,z,j,?_⟩;. simp only[VM,WK]at x⊢;omega
 ·have f:(bQ (y::m.take 799)).head?=some q:=f;rw[c]at f;injection f with f;omega
 ·rw[i];dsimp only;rcases Wb 1 (eI k (n::l)).2 with t|t;. left;omega
  ·right;have :(eI k (n::l)).2=1:=by omega
   exact⟨by omega,A this⟩
theorem PL:∀(a:List Nat)(n r:Nat),(pick k n r a).2.2=a.drop ((pick k n r a).2.1-r):=by
 intro a
 induction a with
 |nil=>intro n r;unfold pick;split<;>simp
 |cons d l b=>
  intro n r;have c:=vF (k:=k) l (n*10+d) (r+1);unfold pick;split;. simp
  ·dsimp only;rw[b,show(pick k (n*10+d) (r+1) l).2.1-r=(pick k (n*10+d) (r+1) l).2.1-(r+1)+1 by omega];rfl
theorem Db(h:n/2^k=0):pick k n m []=((grow k n m 64).1,(grow k n m 64).2,[]):=by unfold pick;rw[if_neg (by simp[h])]
theorem vE(h:n/2^k=0):pick k n m (i::l)=pick k (n*10+i) (m+1) l:=by rw[pick,if_neg (by simp[h])]
theorem vG(h:n/2^k≠0):pick k n m l=(n,m,l):=by cases l<;>rw[pick,if_pos h]
theorem grow_step{f:Nat}(h:n/2^k=0):grow k n m (f+1)=grow k (n*10) (m+1) f:=by rw[grow,if_pos h]
theorem JE{f:Nat}(h:n/2^k≠0):grow k n m f=(n,m):=by cases f with|zero=>rfl|succ f=>rw[grow,if_neg h]
theorem JA:∀(f n r:Nat),(grow k n r f).2<=r+f:=by
 intro f
 induction f with
 |zero=>intro n r;exact VN _
 |succ f a=>
  intro n r;simp only[grow];split;. have :=a (n*10) (r+1);omega
  ·show r<=r+(f+1);omega
theorem PN:∀(a:List Nat)(n r:Nat),(pick k n r a).2.1<=r+a.length+64:=by
 intro a
 induction a with
 |nil=>
  intro n r;by_cases h:n/2^k=0;. rw[Db h];exact JA 64 n r
  ·rw[vG h];show r<=_;omega
 |cons d l b=>
  intro n r;by_cases h:n/2^k=0;. rw[vE h];have :=b (n*10+d) (r+1);rw[VM];omega
  ·rw[vG h];show r<=_;omega
end Dc
namespace Dc
def aF(n:Nat):List Nat:=if n=0 then[]else aF (n/10)++[n%10]termination_by n decreasing_by omega
theorem jR:aF 0=[]:=by rw[aF];rfl
theorem jQ(h:k≠0):aF k=aF (k/10)++[k%10]:=by rw[aF,if_neg h]
theorem tS(n:Nat):val (aF n)=n:=by
 induction n using Nat.strongRecOn with
 |_ n a=>
  by_cases h:n=0;. subst h;rw[jR];rfl
  ·rw[jQ h,EJ,a (n/10) (by omega)];omega
theorem zh(n:Nat):bL (aF n):=by
 induction n using Nat.strongRecOn with
 |_ n b=>
  by_cases h:n=0;. subst h;rw[jR];intro x a;cases a
  ·rw[jQ h];intro x a;rcases V_.1 a with a|a;. exact b (n/10) (by omega) x a
   ·rw[VU.1 a];omega
theorem tP(n:Nat):∀x,(aF n).head?=some x->1<=x:=by
 induction n using Nat.strongRecOn with
 |_ n b=>
  intro x a;by_cases h:n=0;. subst h;rw[jR]at a;cases a
  ·rw[jQ h]at a
   cases hd:aF (n/10)with
   |nil=>
    rw[hd]at a;injection a with a;have c:n/10=0:=by have :=tS (n/10);rw[hd]at this;exact this.symm
    omega
   |cons y l=>rw[hd]at a;injection a with a;subst a;exact b (n/10) (by omega) y (by rw[hd];rfl)
theorem zi(b:10^n<=k)(c:k<10^(n+1)):(aF k).length=n+1:=by
 induction n generalizing k with
 |zero=>
  have a:k≠0:=by have :10^0=1:=rfl;omega
  have :k/10=0:=by have :10^(0+1)=10:=rfl;omega
  rw[jQ a,this,jR];rfl
 |succ n d=>
  have a:k≠0:=by have :=Nat.pow_pos (n:=n+1) (show 0<10 by decide);omega
  rw[jQ a,VK,d];. rfl
  ·rw[WY]at b;omega
  ·rw[WY]at c;omega
def carry(k:Nat):List Nat->Nat×List Nat|[]=>(0,[])|d::l=>let c:=carry k l;let m:=c.1+d*2^k;(m/10,m%10::c.2)
theorem kC(k:Nat)(l:List Nat):(carry k l).1*10^l.length+val (carry k l).2=val l*2^k/\(carry k l).2.length=l.length/\bL (carry k l).2:=by
 induction l with
 |nil=>exact⟨by simp[carry,val],rfl,fun x e=>(V1 e).elim⟩
 |cons d l i=>
  obtain⟨a,b,c⟩:=i;refine⟨?_,by simp[carry,b],fun x e=>?_⟩
  ·show(((carry k l).1+d*2^k)/10)*10^(l.length+1)+val (((carry k l).1+d*2^k)%10::(carry k l).2)=val (d::l)*2^k;rw[n_,n_,b,WY];generalize h:(carry k l).1+d*2^k=m
   have f:m/10*(10^l.length*10)+(m%10*10^l.length+val (carry k l).2)=m*10^l.length+val (carry k l).2:=by
    have :m/10*(10^l.length*10)=m/10*10*10^l.length:=by rw[Xa (10^l.length),V7]
    rw[this,<-Nat.add_assoc,<-XM];congr 2;omega
   rw[f,<-h,XM,XM,<-a,Xh d];omega
  ·rcases We.1 e with rfl|e;. omega
   ·exact c x e
def bR(k:Nat)(a:List Nat):List Nat:=aF (carry k a).1++(carry k a).2
theorem Cf(k:Nat)(b:List Nat):bL (bR k b):=fun x a=>by
 rcases V_.1 a with a|a;. exact zh _ x a
 ·exact(kC k b).2.2 x a
def c_:List Nat->List Nat->Bool|_,[]=>false|[],_::_=>true|x::b,y::s=>if x=y then c_ b s else decide (x<y)
theorem TI{s:List Nat}(h:∀x,s.getLast?=some x->x≠0)(a:s≠[]):0<val s:=by obtain⟨l,x,rfl⟩:∃l x,s=l++[x]:=⟨s.dropLast,s.getLast a,(List.dropLast_concat_getLast a).symm⟩;have :=h x (by simp);rw[EJ];omega
theorem PY:∀(b s:List Nat),bL b->bL s->(∀x,s.getLast?=some x->x≠0)->(c_ b s=true↔val b*10^s.length<val s*10^b.length):=by
 intro b
 induction b with
 |nil=>intro s _ _ c;cases s with|nil=>simp[c_,val]|cons y s=>have h:0<val (y::s):=TI c (XP _ _);have e:val []=0:=rfl;simp only[c_,e,Nat.zero_mul,List.length_nil,Nat.pow_zero,Nat.mul_one,h]
 |cons x b A=>
  intro s p u c
  cases s with
  |nil=>simp[c_,val]
  |cons y s=>
   have f:bL b:=fun z a=>p z (VT _ a);have j:bL s:=fun z a=>u z (VT _ a);have t:∀z,s.getLast?=some z->z≠0:=fun z a=>c z (by cases s with|nil=>cases a|cons q s=>rw[List.getLast?_cons_cons];exact a);have k:val (x::b)*10^(y::s).length=x*(10^b.length*(10^s.length*10))+val b*10^s.length*10:=by rw[n_,VM,WY,XM,V7,V7 (val b)]
   have l:val (y::s)*10^(x::b).length=y*(10^b.length*(10^s.length*10))+val s*10^b.length*10:=by rw[n_,VM,WY,XM,V7,V7 (val s),Nat.mul_left_comm (10^b.length)]
   have r:=pQ f;have w:=pQ j;have D:0<10^b.length:=Nat.pow_pos (by decide);have E:0<10^s.length:=Nat.pow_pos (by decide);have m:val b*10^s.length*10<10^b.length*(10^s.length*10):=by rw[V7];exact WD r (by omega)
   have n:val s*10^b.length*10<10^b.length*(10^s.length*10):=by rw[V7,Nat.mul_left_comm (10^b.length),];exact WD w (by omega)
   rw[k,l];generalize 10^b.length*(10^s.length*10)=M at m n⊢;have C:=A s f j t;unfold c_;split;. rename_i h;subst h;rw[C];omega
   ·rename_i h;rw[decide_eq_true_iff];constructor
    ·intro i;have :x*M+M<=y*M:=by rw[<-Nat.succ_mul];exact V3 _ i
     omega
    ·intro i;rcases Wb x y with d|d;. exact d
     ·have o:y<x:=by omega
      have :y*M+M<=x*M:=by rw[<-Nat.succ_mul];exact V3 _ o
      omega
def dG(k:Nat):Nat×List Nat:=((Go.Pinned.cheatRows.getD k (0,[])).1,(Go.Pinned.cheatRows.getD k (0,[])).2.map (·.toNat-48))
def yM(k:Nat):Bool:=decide (1<=(dG k).1)&&decide (10^((dG k).1-1)<=2^k)&&decide (2^k<10^(dG k).1)&&decide (val (dG k).2=5^k)&&decide ((dG k).1+(dG k).2.length=k+1)&&(dG k).2.all (fun x=>decide (x<10))&&decide ((dG k).2.getLast?≠some 0)
theorem GJ:(List.range 60).all (fun i=>yM (i+1))=true:=by decide+kernel
structure xy(k D:Nat)(C:List Nat):Prop where
 one:1<=D
 low:10^(D-1)<=2^k
 high:2^k<10^D
 I7:val C=5^k
 sum:D+C.length=k+1
 cd:bL C
 last:∀x,C.getLast?=some x->x≠0
theorem GG(l:1<=k)(m:k<=60):xy k (dG k).1 (dG k).2:=by have h:=List.all_eq_true.1 GJ (k-1) (List.mem_range.2 (by omega));rw[show k-1+1=k by omega]at h;simp only[yM,Bool.and_eq_true,decide_eq_true_eq,List.all_eq_true]at h;obtain⟨⟨⟨⟨⟨⟨a,b⟩,c⟩,d⟩,e⟩,f⟩,g⟩:=h;exact⟨a,b,c,d,e,f,fun x i j=>g (by rw[i,j])⟩
theorem NK{D:Nat}(i:xy k D L)(q:bL (n::l))(K:1<=n):(bR k (n::l)).length+(if c_ (n::l) L then 1 else 0)=(n::l).length+D:=by
 obtain⟨a,b,_⟩:=kC k (n::l);have J:=pQ (kC k (n::l)).2.2;rw[b]at J;have A:=pQ q;have C:10^l.length<=val (n::l):=TH K;have u:=PY (n::l) L q i.cd i.last;have F:(bR k (n::l)).length=(aF (carry k (n::l)).1).length+(n::l).length:=by rw[bR,VK,b]
 rw[F];obtain⟨f,z⟩:∃f,D=f+1:=⟨D-1,by have :=i.one;omega⟩;have t:=i.low;have U:=i.high;have X:=i.sum;have E:=i.I7;subst z;rw[YD]at t;have j:10^k=2^k*5^k:=by rw[<-Nat.mul_pow]
 rw[show k=f+L.length by omega]at j;rw[<-show k=f+L.length by omega]at j;have j:10^f*10^L.length=2^k*val L:=by rw[E,<-j,<-Nat.pow_add];congr 1;omega
 generalize H:(n::l).length=d at*;have I:d=l.length+1:=by rw[<-H];rfl
 generalize Q:val (n::l)=V at*;generalize T:(carry k (n::l)).1=c at*;generalize W:val (carry k (n::l)).2=r at*;have fP:0<10^d:=Nat.pow_pos (by decide);have M:0<10^L.length:=Nat.pow_pos (by decide);have w:0<2^k:=Wc k
 have S:c<2^k:=by
  have :c*10^d<2^k*10^d:=by have :V*2^k<10^d*2^k:=WD A w;rw[Xa (2^k)];omega
  exact WV this
 cases o:c_ (n::l) L with
 |false=>
  have p:¬V*10^L.length<val L*10^d:=fun h=>by rw[u.2 h]at o;cases o
  have x:val L*10^d<=V*10^L.length:=by omega
  have y:10^f*10^d<=V*2^k:=by
   have :(10^f*10^d)*10^L.length<=(V*2^k)*10^L.length:=by
    calc(10^f*10^d)*10^L.length=2^k*(val L*10^d):=by rw[Xh,j,V7]
     _<=2^k*(V*10^L.length):=Nat.mul_le_mul_left _ x
     _=(V*2^k)*10^L.length:=by rw[<-V7,Xa (2^k)]
   exact Nat.le_of_mul_le_mul_right this M
  have m:10^f<=c:=by
   rcases Wb c (10^f)with h|h
   ·have :c*10^d+10^d<=10^f*10^d:=by rw[<-Nat.succ_mul];exact V3 _ h
    omega
   ·exact h
  rw[zi m (by omega)];simp;omega
 |true=>
  have p:V*10^L.length<val L*10^d:=u.1 o
  have y:V*2^k<10^f*10^d:=by
   have :(V*2^k)*10^L.length<(10^f*10^d)*10^L.length:=by
    calc(V*2^k)*10^L.length=2^k*(V*10^L.length):=by rw[<-V7,Xa (2^k)]
     _<2^k*(val L*10^d):=Nat.mul_lt_mul_of_pos_left p w
     _=(10^f*10^d)*10^L.length:=by rw[Xh,j,V7]
   exact WV this
  have m:c<10^f:=by
   have :c*10^d<10^f*10^d:=by omega
   exact WV this
  have G:(aF c).length=f:=by
   cases f with
   |zero=>
    have :c=0:=by have :10^0=1:=rfl;omega
    rw[this,jR];rfl
   |succ e=>
    refine zi ?_ m;have N:10^l.length*10^(e+1)<=V*2^k:=Nat.mul_le_mul C t;rcases Wb c (10^e)with h|h
    ·have O:c*10^d+10^d<=10^e*10^d:=by rw[<-Nat.succ_mul];exact V3 _ h
     have P:10^e*10^d=10^l.length*10^(e+1):=by rw[I,WY,WY,<-V7,<-V7,Xa (10^e)]
     omega
    ·exact h
  rw[G];simp;omega
def cO(k:Nat)(d:D):D:=if d.ds=[]then d else let c:=cut (bR k d.ds) d.tr;trim ⟨c.1,d.dp+((bR k d.ds).length-d.ds.length:Int),c.2⟩
theorem NI(d:1<=k)(i:1<=n):∃y m,bR k (n::l)=y::m/\1<=y/\((bR k (n::l)).length=(n::l).length->n<y):=by
 obtain⟨a,b,_⟩:=kC k (n::l);unfold bR
 cases hd:aF (carry k (n::l)).1 with
 |nil=>
  have e:(carry k (n::l)).1=0:=by have :=tS (carry k (n::l)).1;rw[hd]at this;exact this.symm
  have c:(carry k (n::l)).1=((carry k l).1+n*2^k)/10:=rfl;have f:n*2<=n*2^k:=Nat.mul_le_mul_left n (VS (show 2<=2^1 by decide) (Wu (by decide) d));rw[c]at e;refine⟨((carry k l).1+n*2^k)%10,(carry k l).2,rfl,by omega,fun _=>by omega⟩
 |cons y m=>refine⟨y,m++(carry k (n::l)).2,rfl,tP _ y (by rw[hd];rfl),fun h=>?_⟩;rw[VK,b]at h;simp at h
theorem Ce{d:D}(p:1<=k)(h:Ok d)(i:d.ds=n::l):Ok (cO k d)/\∃y m,(cO k d).ds=y::m/\(d.dp<(cO k d).dp∨(cO k d).dp=d.dp/\n<y):=by
 have F:1<=n:=h.head n (by rw[i];rfl);obtain⟨y,m,e,G,x⟩:=NI (l:=l) p F;have a:=Cf k (n::l);obtain⟨_,b,_⟩:=kC k (n::l);have I:(n::l).length<=(bR k (n::l)).length:=by rw[bR,VK,b];omega
 have A:d.ds≠[]:=by rw[i];exact XP _ _
 have c:=qF (l:=m.take 799) G;have E:(bR k d.ds).take 800=y::m.take 799:=by rw[i,e];rfl
 have C:cO k d=⟨bQ (y::m.take 799),d.dp+((bR k d.ds).length-d.ds.length:Int),(cut (bR k d.ds) d.tr).2⟩:=by unfold cO trim cut;rw[if_neg A];dsimp only;rw[E,if_neg (fun o=>by rw[o]at c;cases c)]
 rw[C];obtain⟨z,H⟩:∃z,bQ (y::m.take 799)=y::z:=by cases j:bQ (y::m.take 799)with|nil=>rw[j]at c;cases c|cons q z=>rw[j]at c;injection c with c;exact⟨z,by rw[c]⟩
 have w:=tL (y::m.take 799)
 have u:bL (y::m.take 799):=fun q f=>a q (by
  rw[e];rcases We.1 f with rfl|f;. exact V6
  ·exact VT _ (XT f));refine⟨⟨tK u,?_,fun q f=>?_⟩,y,z,H,?_⟩;. simp only[VM,WK]at w⊢;omega
 ·have f:(bQ (y::m.take 799)).head?=some q:=f;rw[c]at f;injection f with f;omega
 ·rw[i];dsimp only;rcases Wb (n::l).length (bR k (n::l)).length with r|r;. left;omega
  ·right;have t:(bR k (n::l)).length=(n::l).length:=by omega
   exact⟨by omega,x t⟩
end Dc
section
def mQ(x:Nat):Value:=.int .u8 x
def iL(A:List Nat)(b a:Int)(neg c:Bool):Array Value:=(A.map mQ++([.int .i64 b,.int .i64 a,.bool neg,.bool c]:List Value)).toArray
structure aI(w:World)(b:Nat)(A:List Nat)(nd dp:Int)(neg tr:Bool):Prop where
 len:A.length=800
 blk:ad w b 387 (iL A nd dp neg tr)
section
variable{w w':World}{b:Nat}{A:List Nat}{nd dp:Int}{neg tr:Bool}
theorem aI.cell(h:aI w b A nd dp neg tr){i:Nat}(c:i<800):w.cell? ⟨b,i,none⟩=some (.int .u8 (A.getD i 0:Nat)):=by have d:=h.len;rw[h.blk.cell];simp only[iL,List.getElem?_toArray];rw[List.getElem?_append_left (by simp[d,c]),List.getElem?_map,VX (by omega),VW,VX (by omega)];rfl
theorem aI.tail(h:aI w b A nd dp neg tr)(i:Nat):w.cell? ⟨b,800+i,none⟩=[Value.int .i64 nd,.int .i64 dp,.bool neg,.bool tr][i]?:=by have a:=h.len;rw[h.blk.cell];simp only[iL,List.getElem?_toArray];rw[List.getElem?_append_right (by simp[a])];simp[a]
theorem aI.facts(h:aI w b A nd dp neg tr):w.cell? ⟨b,800,none⟩=some (.int .i64 nd)/\w.cell? ⟨b,801,none⟩=some (.int .i64 dp)/\w.cell? ⟨b,802,none⟩=some (.bool neg)/\w.cell? ⟨b,803,none⟩=some (.bool tr)/\(∀i,w.frozen? ⟨b,i,none⟩=false)/\b<w.heap.size:=⟨h.tail 0,h.tail 1,h.tail 2,h.tail 3,h.blk.frozen,h.blk.lt⟩
theorem qJ{A:List Nat}(a:A.length=800)(t:List Value)(i:Nat)(u:Value):((A.map mQ++t).toArray).setIfInBounds (800+i) u=(A.map mQ++t.set i u).toArray:=by rw[List.setIfInBounds_toArray,List.set_append_right _ _ (by simp[a])];simp[a]
theorem aI.iU(h:aI w b A nd dp neg tr)(v:Int):aI (w.setCell ⟨b,800,none⟩ (.int .i64 v)) b A v dp neg tr:=⟨h.len,by have :=h.blk.aj 800 (.int .i64 v);rw[iL,qJ h.len _ 0]at this;exact this⟩
theorem aI.ir(h:aI w b A nd dp neg tr)(v:Int):aI (w.setCell ⟨b,801,none⟩ (.int .i64 v)) b A nd v neg tr:=⟨h.len,by have :=h.blk.aj 801 (.int .i64 v);rw[iL,qJ h.len _ 1]at this;exact this⟩
theorem aI.Rx(h:aI w b A nd dp neg tr)(v:Bool):aI (w.setCell ⟨b,802,none⟩ (.bool v)) b A nd dp v tr:=⟨h.len,by have :=h.blk.aj 802 (.bool v);rw[iL,qJ h.len _ 2]at this;exact this⟩
theorem aI.wm(h:aI w b A nd dp neg tr)(v:Bool):aI (w.setCell ⟨b,803,none⟩ (.bool v)) b A nd dp neg v:=⟨h.len,by have :=h.blk.aj 803 (.bool v);rw[iL,qJ h.len _ 3]at this;exact this⟩
theorem aI.k8(h:aI w b A nd dp neg tr)(a:i<800)(v:Nat):aI (w.setCell ⟨b,i,none⟩ (.int .u8 v)) b (A.set i v) nd dp neg tr:=⟨by rw[List.length_set,h.len],by have :=h.blk.aj i (.int .u8 v);rw[iL,List.setIfInBounds_toArray,List.set_append_left _ _ (by simp[h.len,a])]at this;rw[iL,List.map_set];exact this⟩
theorem aI.still(h:aI w b A nd dp neg tr)(a:aa ab w w'):aI w' b A nd dp neg tr:=⟨h.len,a.blk h.blk id⟩
theorem aI.kept(h:aI w b A nd dp neg tr)(c:aa S w w')(a:¬S b):aI w' b A nd dp neg tr:=⟨h.len,c.blk h.blk a⟩
end
def ao(A:List Nat)(a:Nat):List Nat:=(A.take a).map (·-48)
def dC(A:List Nat)(a:Nat):Prop:=∀i:Nat,i<a->48<=A.getD i 0/\A.getD i 0<=57
theorem tN{A:List Nat}(h:dC A k):Dc.bL (ao A k):=by intro d a;obtain⟨y,c,rfl⟩:=List.mem_map.1 a;obtain⟨i,b,rfl⟩:=List.getElem_of_mem c;rw[WK]at b;have :=h i (by omega);rw[List.getElem_take,VW,VX (by omega)]at*;simp at this;omega
theorem iM{A:List Nat}(h:nd<=A.length):(ao A nd).length=nd:=by simp[ao];omega
theorem za{A:List Nat}(b:A.length=800)(a:k<800):ao A (k+1)=ao A k++[A.getD k 0-48]:=by unfold ao;rw[List.take_succ_eq_append_getElem (by omega),List.map_append,VW,VX (by omega)];rfl
theorem uq{A:List Nat}(a:k<A.length)(v:Nat):(A.set k v).getD k 0=v:=by rw[VW,List.getElem?_set_self a];rfl
theorem getD_set_ne{A:List Nat}(h:k≠n)(v:Nat):(A.set k v).getD n 0=A.getD n 0:=by rw[VW,List.getElem?_set_ne h,VW]
theorem S4(A:List Nat)(h:n<=k)(v:Nat):(A.set k v).take n=A.take n:=by rw[List.take_set_of_le h]
theorem mV{A:List Nat}(b:A.length=800)(a:i<800)(v:Nat):ao (A.set i v) (i+1)=ao A i++[v-48]:=by rw[za (by rw[List.length_set,b]) a,uq (by omega)];unfold ao;rw[S4 A (VN i)]
theorem dC.set{A:List Nat}{i:Nat}(h:dC A i)(d:i<A.length){v:Nat}(b:48<=v)(c:v<=57):dC (A.set i v) (i+1):=by
 intro j e;by_cases a:i=j;. subst a;rw[uq d];exact⟨b,c⟩
 ·rw[getD_set_ne a];exact h j (by omega)
theorem qM{A:List Nat}{neg:Bool}(h:aI w k A n r neg b)(Q:n<=800)(I:dC A n):Calls VI 314 #[.pointer (some ⟨k,0,none⟩)] w fun e w'=>e=.returned (.tuple #[])/\∃m:Nat,m<=n/\ao A m=Dc.bQ (ao A n)/\aI w' k A m (if m=0 then 0 else r) neg b/\aa (af k) w w':=by
 have H:=VH (VJ h I);clear h I;go_enter func314,ntmps314;go_wp2_with fail;go_loopg[]n(fun g wr=>∃m:Nat,g=m/\m<=n/\Dc.bQ (ao A m)=Dc.bQ (ao A n)/\aI wr k A m r neg b/\aa (af k) w wr);case atStart=>exact⟨n,rfl,VN _,rfl,H.out.1,aa.refl _ _⟩
 case round=>
  obtain⟨m,rfl,N,u,i,y⟩:=hrel;rcases gk with _|a;. obtain⟨f,z,C,D,l,t⟩:=i.facts;have d:=VH (VJ u (VJ i y));have f:wr.cell? ⟨k,800,none⟩=some (.int .i64 0):=f;have q:=l 801;clear u i y l z C D;go_wp2_with fail;go_quiet(fail);have c:=VH (show aI (wr.drewN nq) k A 0 r neg b/\aa (af k) w (wr.drewN nq)from⟨d.out.2.1.still ((aa.refl _ _).drewN nq),d.out.2.2.drewN nq⟩);generalize wr.drewN nq=K at*;obtain⟨g0,g1,o,g3,j,G⟩:=c.out.1.facts;have M:=j 801;clear f q t o g3 j;go_wp2_with fail;go_end0;refine⟨rfl,0,VQ _,d.out.1,c.out.1.ir 0,c.out.2.setCell (p:=⟨k,801,none⟩) (.inl rfl) _⟩
  ·have J:a<800:=by omega
   obtain⟨f,z,C,D,l,t⟩:=i.facts;have F:=i.cell J;have L:=VH (H.out.2 a (by omega));have d:=VH (VJ u (VJ i y));have E:=VH (za i.len J);have f:wr.cell? ⟨k,800,none⟩=some (.int .i64 ((a:Int)+1)):=f;have q:=l 800;clear u i y l z C D;generalize p:A.getD a 0=x at*;have O:=VH p;clear p;have P:VL.wrap ((a:Int)+1-1)=(a:Int):=ak (by omega);have T:(0:Int)<(a:Int)+1:=by omega
   have U:(0:Int)<=(a:Int):=by omega
   have V:(a:Int)<800:=by omega
   have c:=fun nq=>VH (show aI (wr.drewN nq) k A ((a:Int)+1) r neg b/\aa (af k) w (wr.drewN nq)from⟨d.out.2.1.still ((aa.refl _ _).drewN nq),d.out.2.2.drewN nq⟩);by_cases p:x=48
   ·subst p;go_wp2_with fail;go_quiet(fail);have c:=c nq;generalize wr.drewN nq=K at*;obtain⟨g0,g1,o,g3,j,G⟩:=c.out.1.facts;have M:=j 800;clear f q F t g1 o g3 j;go_wp2_with fail;go_roundg a;case measure=>exact W5 a
    case rel=>refine⟨a,rfl,by omega,?_,c.out.1.iU a,c.out.2.setCell (p:=⟨k,800,none⟩) (.inl rfl) _⟩;rw[<-d.out.1,E.out,Dc.Hh]
   ·have p:¬(x:Int)=48:=by omega
    have S:((a:Int)+1==0)=false:=by simp;omega
    go_wp2_with fail;go_quiet(fail);have c:=c nq;generalize wr.drewN nq=K at*;obtain⟨g0,g1,o,g3,j,G⟩:=c.out.1.facts;clear f q F t g1 o g3 j;go_wp2_with fail;go_end0;refine⟨rfl,a+1,N,?_,c.out.1,c.out.2⟩;rw[<-d.out.1,E.out,Dc.Hg (by have :=L.out;omega)]
end
def bu(A:List Nat)(b:Nat)(a:Int)(c:Bool):Dc.D:=⟨ao A b,a,c⟩
def pw(k:Nat):Nat:=2^k
theorem k6(k:Nat):0<pw k:=Wc k
theorem nM(a:k<=60):pw k<=1152921504606846976:=Wu (by decide) a
theorem nE:af k k:=rfl
theorem bits_mask(d:k<=60)(j:n<10*pw k):bits .and .u64 (n:Int) ((pw k-1:Nat):Int)=((n%pw k:Nat):Int):=by
 have h:=nM d;have c:=k6 k;have i:n%pw k<pw k:=XQ _ c;have e:((n:Int)%18446744073709551616).toNat=n:=by omega
 have f:(((pw k-1:Nat):Int)%18446744073709551616).toNat=pw k-1:=by omega
 have a:n&&&(pw k-1)=n%pw k:=Nat.and_two_pow_sub_one_eq_mod n k;have b:2^Wf.bits=18446744073709551616:=rfl;simp only[bits,BitVec.toNat_and,BitVec.ofInt_natCast,BitVec.toNat_ofNat,b];rw[Nat.mod_eq_of_lt (show n<18446744073709551616 by omega),Nat.mod_eq_of_lt (show pw k-1<18446744073709551616 by omega),a,Wi _ (by omega)]
theorem Rb{A:List Nat}{neg:Bool}(h:aI w k A n e neg b)(hn:n<=800)(D:dC A n)(h1:1<=m)(hk:m<=60)(hx:ao A n=i::l)(h0:1<=i)(aL:-1000000000<=e/\e<=1000000000):Calls VI 316 #[.pointer (some ⟨k,0,none⟩),.int .u64 m] w fun Y w'=>Y=.returned (.tuple #[])/\∃z p aJ Z,p<=800/\aI w' k z (p:Nat) aJ neg Z/\dC z p/\bu z p aJ Z=Dc.cV m (bu A n e b)/\aa (af k) w w':=by
 have H:=VH (VJ h D);have HX:=VH hx;clear h D hx;go_enter func316,ntmps316;obtain⟨N,R,hP⟩:∃N R,(Dc.pick m 0 0 (ao A n)).1=N/\(Dc.pick m 0 0 (ao A n)).2.1=R:=⟨_,_,rfl,rfl⟩;have U:=VH hP;clear hP;have aN:(ao A n).length=n:=by simp[ao,H.out.1.len];omega
 have HD:=VH (show∀c,c<n->(ao A n).drop c=(A.getD c 0-48)::(ao A n).drop (c+1)from fun c hi=>by rw[Wm (by omega)];congr 1;have :=H.out.1.len;simp[ao,VW,VX (show c<A.length by omega)]);have aV:0<n:=by rw[<-aN,HX.out];exact Nat.succ_pos _
 have aF:=VH (show 1<=A.getD 0 0-48 from by have h:=HD.out 0 aV;rw[List.drop_zero,HX.out]at h;injection h with h;omega);clear aN;go_upto_block 0 with fail;go_cut[4,6](fun s4 X wx=>s4=.int .i64 R/\X=.int .u64 N/\wx=w)
 case first=>
  go_wp2_with fail;go_loopg[4,6]n(fun g s4 X wr=>∃r a:Nat,s4=.int .i64 r/\X=.int .u64 a/\g=n-r/\r<=n/\a<10*pw m/\Dc.pick m a r ((ao A n).drop r)=Dc.pick m 0 0 (ao A n)/\(a≠0∨r=0)/\wr=w);case atStart=>exact⟨0,0,rfl,rfl,rfl,VQ _,by have :=k6 m;omega,rfl,.inr rfl,rfl⟩
  case round=>
   obtain⟨r,a,rfl,rfl,rfl,hr,aq,hp,aQ,rfl⟩:=hrel;obtain⟨f0,J,K,Q,C,fz⟩:=H.out.1.facts;have HN:=VH (VJ hp (VJ aQ aq));have aX:=nM hk;clear hp aQ J K Q C;by_cases hz:a/2^m=0
   ·have a7:((a:Int)/2^m==0)=true:=by
     have :((a/2^m:Nat):Int)=0:=by rw[hz];rfl
     simp at this⊢;exact this
    have HZ:=VH hz;clear hz;by_cases aw:r<n
    ·have aC:(r:Int)<(n:Int):=by omega
     have fr:=H.out.1.cell (show r<800 by omega);have ag:=H.out.2 r aw;have ax:=VH (HD.out r aw);have aF:=VH (show r=0->1<=A.getD r 0-48 from fun Y=>by subst Y;exact aF.out);generalize A.getD r 0=i at*
     have aA:a<pw m:=by
      rcases Wb a (pw m)with h|h;. exact h
      ·have h2:pw m/pw m<=a/pw m:=Nat.div_le_div_right h;rw[Nat.div_self (k6 m)]at h2;have h3:a/pw m=0:=HZ.out;omega
     have e1:Wf.wrap ((a:Int)*10)=(a:Int)*10:=Wi _ (by omega);have e2:Wf.wrap ((a:Int)*10+(i:Int))=(a:Int)*10+(i:Int):=Wi _ (by omega);have e3:Wf.wrap ((a:Int)*10+(i:Int)-48)=((a*10+(i-48):Nat):Int):=by rw[Wi _ (by omega)];omega
     have e4:VL.wrap ((r:Int)+1)=((r+1:Nat):Int):=ak (by omega);have e5:Wf.wrap (i:Int)=(i:Int):=Wi _ (by omega);have p1:(0:Int)<=(r:Int):=by omega
     have p2:(r:Int)<800:=by omega
     have HL:=VH (VJ aA ag);clear aA ag aq;go_wp2_with fail;go_roundg(n-(r+1));case measure=>omega
     case rel=>
      refine⟨r+1,a*10+(i-48),rfl,rfl,rfl,by omega,by have :=HL.out;omega,?_,?_,rfl⟩;. rw[<-HN.out.1,ax.out,Dc.vE HZ.out]
      ·have :=HN.out.2.1;have :=aF.out;by_cases aY:r=0;. left;have :=this aY;omega
       ·left;omega
    ·have aC:(n:Int)<=(r:Int):=by omega
     have aZ:r=n:=by omega
     subst aZ;have aP:a≠0:=by rcases HN.out.2.1 with h|h;exact h;omega
     have bh:((a:Int)==0)=false:=by simp;omega
     have HL:=VH (VJ aq (show r<=800 from hn));have HE:=VH (show(R,N)=((Dc.grow m a r 64).2,(Dc.grow m a r 64).1)from by have h:=HN.out.1;rw[show(ao A r).drop r=[]from Wk (by simp[ao];omega),Dc.Db HZ.out]at h;rw[<-U.out.1,<-U.out.2,<-h]);clear aq aC;go_wp2_with fail;go_loopg[4,6]64(fun g s4 X aE=>∃T o:Nat,s4=.int .i64 T/\X=.int .u64 o/\Dc.grow m o T g=Dc.grow m a r 64/\o≠0/\o<10*pw m/\pw m<=o*10^g/\T+g=r+64/\aE=wr)
     case atStart=>
      refine⟨r,a,rfl,rfl,rfl,aP,HL.out.1,?_,rfl,rfl⟩;have :1*10^64<=a*10^64:=V3 _ (by omega);have bb:(1152921504606846976:Nat)<=1*10^64:=by decide
      omega
     case round=>
      obtain⟨T,o,rfl,rfl,hg,bg,aO,ay,aR,rfl⟩:=hrel;by_cases ah:o/2^m=0
      ·have a8:((o:Int)/2^m==0)=true:=by
        have :((o/2^m:Nat):Int)=0:=by rw[ah];rfl
        simp at this⊢;exact this
       have aA:o<pw m:=by
        rcases Wb o (pw m)with h|h;. exact h
        ·have h2:pw m/pw m<=o/pw m:=Nat.div_le_div_right h;rw[Nat.div_self (k6 m)]at h2;have h3:o/pw m=0:=ah;omega
       rcases gk with _|g;. rw[Nat.pow_zero]at ay;omega
       have bj:=HL.out.2;have e1:Wf.wrap ((o:Int)*10)=((o*10:Nat):Int):=by rw[Wi _ (by omega)];omega
       have e4:VL.wrap ((T:Int)+1)=((T+1:Nat):Int):=ak (by omega);have HG:=VH (show Dc.grow m (o*10) (T+1) g=Dc.grow m a r 64/\o*10≠0/\o*10<10*pw m/\pw m<=o*10*10^g/\T+1+g=r+64 from⟨by rw[<-hg,Dc.grow_step ah],by omega,by omega,by rw[V7,Xa 10,<-WY];exact ay,by omega⟩);clear hg ay aO aA ah aR;go_wp2_with fail;go_roundg g;case measure=>exact W5 g
       case rel=>exact⟨T+1,o*10,rfl,rfl,HG.out.1,HG.out.2.1,HG.out.2.2.1,HG.out.2.2.2.1,HG.out.2.2.2.2,rfl⟩
      ·have a8:((o:Int)/2^m==0)=false:=by
        have :((o/2^m:Nat):Int)≠0:=by omega
        simp at this⊢;exact this
       have HG:=VH (show(R,N)=(T,o)from by rw[HE.out,<-hg,Dc.JE ah]);clear hg ay aO ah aR;go_wp2_with fail;go_meet;have h:=HG.out;injection h with h1 h2;exact⟨by rw[h1],by rw[h2],rfl⟩
   ·have a7:((a:Int)/2^m==0)=false:=by
     have :((a/2^m:Nat):Int)≠0:=by omega
     simp at this⊢;exact this
    have HZ:=VH hz;clear hz aq;go_wp2_with fail;go_meet;have h:=HN.out.1;rw[Dc.vG HZ.out]at h;refine⟨?_,?_,rfl⟩;. rw[<-U.out.2,<-h]
    ·rw[<-U.out.1,<-h]
 case rest=>
  obtain⟨rfl,rfl,rfl⟩:=hcut;have aX:=nM hk
  have HS:=VH (show 1<=N/2^m/\N<10*pw m/\1<=R/\R<=864 from by
   have h:=Dc.Dd hk (ao A n) 0 0 (tN H.out.2) (by have :=k6 m;unfold pw at this;omega) (.inr ⟨i,l,HX.out,h0⟩);have h2:=Dc.PN (k:=m) (ao A n) 0 0;rw[U.out.1]at h;have h3:=Dc.vF (k:=m) l i 1;have h4:Dc.pick m 0 0 (ao A n)=Dc.pick m i 1 l:=by rw[HX.out,Dc.vE (by simp)];simp
   rw[<-U.out.2];refine⟨h.1,h.2.1,by rw[h4];exact h3,?_⟩;have :(ao A n).length<=800:=by simp[ao];omega
   omega);obtain⟨f0,J,K,Q,C,fz⟩:=H.out.1.facts;have f8:=C 801;obtain⟨a1,a6,bk,bl⟩:=HS.out;have e1:VL.wrap ((R:Int)-1)=(R:Int)-1:=IntWalk.i64_in _ (by omega);have e2:VL.wrap (e-((R:Int)-1))=e-((R:Int)-1):=IntWalk.i64_in _ (by have :=aL.1;have :=aL.2;omega);clear K Q C a1 a6
  have bf:Wf.wrap (Wf.wrap ((2:Int)^m)-1)=((pw m-1:Nat):Int):=by
   have hc:((2:Int)^m)=((pw m:Nat):Int):=by unfold pw;rw[Int.natCast_pow];rfl
   have h:=k6 m;rw[hc,Wi (pw m:Int) (by omega),Wi _ (by omega)];omega
  go_wp2_with fail;have HW:=VH (show aI (wc.setCell ⟨k,801,none⟩ (.int .i64 (e-((R:Int)-1)))) k A n (e-((R:Int)-1)) neg b/\aa (af k) wc (wc.setCell ⟨k,801,none⟩ (.int .i64 (e-((R:Int)-1))))from⟨H.out.1.ir _,(aa.refl (af k) wc).setCell (p:=⟨k,801,none⟩) (.inl nE) _⟩);generalize wc.setCell ⟨k,801,none⟩ (.int .i64 (e-((R:Int)-1)))=w2 at*;clear f0 J fz f8;go_loopg[4,5,6](n-R)(fun g s4 s5 X wr=>∃(c r p:Nat)(z:List Nat),s4=.int .i64 r/\s5=.int .i64 c/\X=.int .u64 p/\g=n-r/\c+R=r/\(c=0∨r<=n)/\p<10*pw m/\aI wr k z n (e-((R:Int)-1)) neg b/\dC z c/\ao z c++(Dc.h_ m p ((ao A n).drop r)).1=(Dc.h_ m N ((ao A n).drop R)).1/\(Dc.h_ m p ((ao A n).drop r)).2=(Dc.h_ m N ((ao A n).drop R)).2/\(∀j,c<=j->z.getD j 0=A.getD j 0)/\aa (af k) wc wr);case atStart=>exact⟨0,R,N,A,rfl,rfl,rfl,rfl,by omega,.inl rfl,HS.out.2.1,HW.out.1,fun j hj=>(Nat.not_lt_zero _ hj).elim,rfl,rfl,fun _ _=>rfl,HW.out.2⟩
  case round=>
   obtain⟨c,r,p,z,rfl,rfl,rfl,rfl,bd,aB,hm,F,t,ho,ad,ae,u⟩:=hrel;obtain⟨f0,J,K,Q,C,fz⟩:=F.facts;have HR:=VH (VJ aB (VJ t (VJ ho (VJ ad (VJ ae u)))));have G:=VH F;by_cases aw:r<n
   ·have aC:(r:Int)<(n:Int):=by omega
    have fr:=F.cell (show r<800 by omega);rw[ae r (by omega)]at fr;have ag:=H.out.2 r aw;have ax:=VH (HD.out r aw);have fi:wr.cell? ⟨k,c,none⟩=some (.int .u8 (z.getD c 0:Nat)):=F.cell (show c<800 by omega);have f9:=C c;generalize A.getD r 0=i at*;generalize z.getD c 0=y at*;have p1:(0:Int)<=(r:Int):=by omega
    have p2:(r:Int)<800:=by omega
    have p3:(0:Int)<=(c:Int):=by omega
    have p4:(c:Int)<800:=by omega
    have e5:Wf.wrap (i:Int)=(i:Int):=Wi _ (by omega);clear aB t ho ad ae u F J K Q C;obtain⟨q,x⟩:∃q:Nat,p%pw m=q:=⟨_,rfl⟩;obtain⟨d,D⟩:∃d:Nat,p/pw m=d:=⟨_,rfl⟩;have eb:bits .and .u64 (p:Int) ((pw m-1:Nat):Int)=(q:Int):=by rw[bits_mask hk hm,x]
    have ed:(p:Int)/2^m=(d:Int):=by rw[<-D];unfold pw;simp
    have P:q<pw m:=by rw[<-x];exact XQ _ (k6 m)
    have M:d<10:=by rw[<-D];exact Yi (by rw[Xa];exact hm)
    have e6:Wf.wrap ((d:Int)+48)=(d:Int)+48:=Wi _ (by omega);have e7:IntKind.u8.wrap ((d:Int)+48)=((d+48:Nat):Int):=by rw[IntWalk.u8_in _ (by omega)];omega
    have e8:VL.wrap ((c:Int)+1)=((c+1:Nat):Int):=ak (by omega);have e9:Wf.wrap ((q:Int)*10)=(q:Int)*10:=Wi _ (by omega);have a_:Wf.wrap ((q:Int)*10+(i:Int))=(q:Int)*10+(i:Int):=Wi _ (by omega);have a':Wf.wrap ((q:Int)*10+(i:Int)-48)=((q*10+(i-48):Nat):Int):=by rw[Wi _ (by omega)];omega
    have ba:VL.wrap ((r:Int)+1)=((r+1:Nat):Int):=ak (by omega);have HQ:=VH (VJ x (VJ D (VJ P (VJ M ag))));clear x D P M ag hm;go_wp2_with fail;go_roundg(n-(r+1));case measure=>omega
    case rel=>
     obtain⟨x,D,P,M,ag⟩:=HQ.out;obtain⟨aB,t,ho,ad,ae,u⟩:=HR.out;refine⟨c+1,r+1,q*10+(i-48),z.set c (d+48),rfl,rfl,rfl,rfl,by omega,.inr (by omega),by omega,G.out.k8 (by omega) (d+48),?_,?_,?_,?_,u.setCell (p:=⟨k,c,none⟩) (.inl nE) _⟩;. exact t.set (by have :=G.out.len;omega) (by omega) (by omega)
     ·rw[mV G.out.len (by omega),<-ho,ax.out,YD,Wh];congr 1;show[d]++_=p/2^m::(Dc.h_ m (p%2^m*10+(i-48)) ((ao A n).drop (r+1))).1;rw[show p/2^m=d from D,show p%2^m=q from x];rfl
     ·rw[<-ad,ax.out];show _=(Dc.h_ m (p%2^m*10+(i-48)) ((ao A n).drop (r+1))).2;rw[show p%2^m=q from x]
     ·intro j hj;rw[getD_set_ne (by omega)];exact ae j (by omega)
   ·have aC:(n:Int)<=(r:Int):=by omega
    have aM:(ao A n).drop r=[]:=Wk (by simp[ao];omega);have az:c<800:=by omega
    have HT:=VH (show(Dc.eI m (ao A n)).1=ao z c++Dc.rest m (m+2) p/\(Dc.eI m (ao A n)).2=R from by
     have Y:(Dc.pick m 0 0 (ao A n)).2.2=(ao A n).drop R:=by rw[Dc.PL,U.out.2,Nat.sub_zero]
     unfold Dc.eI;dsimp only;rw[U.out.1,U.out.2,Y,<-ho,<-ad,aM];show(ao z c++[]++_,R).1=_/\_;exact⟨by rw[List.append_nil];rfl,rfl⟩);have HM:=VH hm;have aH:=G;clear aB t ho ad ae u F J K Q C hm aM G;go_wp2_with fail;go_loopg[5,6](m+2)(fun g s5 X aE=>∃(f a j:Nat)(E B:List Nat)(Z:Bool),s5=.int .i64 f/\X=.int .u64 a/\g+j=m+2/\(j<=m->2^j∣a)/\(m<j->a=0)/\a<10*pw m/\E++Dc.rest m g a=(Dc.eI m (ao A n)).1/\f=min E.length 800/\ao B f=E.take 800/\Z=(b||(E.drop 800).any (·≠0))/\aI aE k B n (e-((R:Int)-1)) neg Z/\dC B f/\aa (af k) wc aE);case atStart=>have hl:=iM (A:=z) (nd:=c) (by rw[aH.out.len];omega);exact⟨c,p,0,ao z c,z,b,rfl,rfl,rfl,fun _=>Nat.one_dvd _,fun h=>absurd h (Nat.not_lt_zero _),HM.out,HT.out.1.symm,by omega,(V2 (by omega)).symm,by rw[Wk (by omega)];simp,aH.out,HR.out.2.1,HR.out.2.2.2.2.2⟩
    case round=>
     obtain⟨f,a,j,E,B,Z,rfl,rfl,V,O,S,ab,L,W,hB,I,F,t,u⟩:=hrel;obtain⟨f0,J,K,Q,C,fz⟩:=F.facts;have G:=VH F;have ai:=VH (VJ V (VJ O (VJ S (VJ L (VJ W (VJ hB (VJ I (VJ t u))))))));by_cases aP:0<a
     ·have aU:(0:Int)<(a:Int):=by omega
      have an:j<=m:=by
       rcases Wb m j with h|h;. have :=S h;omega
       ·exact h
      obtain⟨g,rfl⟩:∃g,gk=g+1:=⟨gk-1,by omega⟩;obtain⟨q,x⟩:∃q:Nat,a%pw m=q:=⟨_,rfl⟩;obtain⟨d,D⟩:∃d:Nat,a/pw m=d:=⟨_,rfl⟩;have eb:bits .and .u64 (a:Int) ((pw m-1:Nat):Int)=(q:Int):=by rw[bits_mask hk ab,x]
      have ed:(a:Int)/2^m=(d:Int):=by rw[<-D];unfold pw;simp
      have P:q<pw m:=by rw[<-x];exact XQ _ (k6 m)
      have M:d<10:=by rw[<-D];exact Yi (by rw[Xa];exact ab)
      have HQ:=VH (show q<pw m/\d<10/\(j+1<=m->2^(j+1)∣q*10)/\(m<j+1->q*10=0)/\E++d::Dc.rest m g (q*10)=(Dc.eI m (ao A n)).1 from by
       refine⟨P,M,fun h=>?_,fun h=>?_,?_⟩;. rw[<-x,show(10:Nat)=2*5 from rfl,<-V7,WY];refine Nat.dvd_trans (Nat.mul_dvd_mul ?_ (Nat.dvd_refl 2)) (Nat.dvd_mul_right _ 5);exact(Nat.dvd_mod_iff (Nat.pow_dvd_pow 2 (by omega))).2 (O an)
       ·have :m=j:=by omega
        subst this;have :a%pw m=0:=Nat.mod_eq_zero_of_dvd (O an);omega
       ·rw[<-L,show Dc.rest m (g+1) a=if a=0 then[]else a/2^m::Dc.rest m g (a%2^m*10)from rfl,if_neg (by omega),show a/2^m=d from D,show a%2^m=q from x]);have e6:Wf.wrap ((d:Int)+48)=(d:Int)+48:=Wi _ (by omega);have e7:IntKind.u8.wrap ((d:Int)+48)=((d+48:Nat):Int):=by rw[IntWalk.u8_in _ (by omega)];omega
      have e9:Wf.wrap ((q:Int)*10)=((q*10:Nat):Int):=by rw[Wi _ (by omega)];omega
      by_cases az:f<800
      ·have aT:(f:Int)<800:=by omega
       have fi:wr.cell? ⟨k,f,none⟩=some (.int .u8 (B.getD f 0:Nat)):=F.cell az;have f9:=C f;generalize B.getD f 0=y at*;have p3:(0:Int)<=(f:Int):=by omega
       have e8:VL.wrap ((f:Int)+1)=((f+1:Nat):Int):=ak (by omega);clear V O S L W hB I t u F f0 J K Q C x D P M an ab;go_wp2_with fail;go_roundg g;case measure=>exact W5 g
       case rel=>
        obtain⟨V,O,S,L,W,hB,I,t,u⟩:=ai.out;obtain⟨P,M,ar,au,av⟩:=HQ.out;have al:E.length=f:=by omega
        refine⟨f+1,q*10,j+1,E++[d],B.set f (d+48),Z,rfl,rfl,by omega,ar,au,by omega,by rw[Wh];exact av,?_,?_,?_,G.out.k8 az (d+48),t.set (by have :=G.out.len;omega) (by omega) (by omega),u.setCell (p:=⟨k,f,none⟩) (.inl nE) _⟩;. simp;omega
        ·rw[mV G.out.len az,hB,YD,V2 (by omega),V2 (by simp;omega)]
        ·rw[I,Wk (show E.length<=800 by omega),Wk (show(E++[d]).length<=800 by simp;omega)]
      ·have aT:(800:Int)<=(f:Int):=by omega
       have f9:=C 803;have al:800<=E.length:=by omega
       by_cases aK:d=0
       ·subst aK;clear V O S L W hB I t u F f0 J K Q C x D P M an ab;go_wp2_with fail;go_roundg g;case measure=>exact W5 g
        case rel=>
         obtain⟨V,O,S,L,W,hB,I,t,u⟩:=ai.out;obtain⟨P,M,ar,au,av⟩:=HQ.out;refine⟨f,q*10,j+1,E++[0],B,Z,rfl,rfl,by omega,ar,au,by omega,by rw[Wh];exact av,by simp;omega,?_,?_,G.out,t,u⟩;. rw[hB,List.take_append_of_le_length al]
         ·rw[I,List.drop_append_of_le_length al];simp
       ·have bc:(0:Int)<(d:Int):=by omega
        clear V O S L W hB I t u F f0 J K C x D P M an ab;go_wp2_with fail;go_roundg g;case measure=>exact W5 g
        case rel=>
         obtain⟨V,O,S,L,W,hB,I,t,u⟩:=ai.out;obtain⟨P,M,ar,au,av⟩:=HQ.out;refine⟨f,q*10,j+1,E++[d],B,true,rfl,rfl,by omega,ar,au,by omega,by rw[Wh];exact av,by simp;omega,?_,?_,G.out.wm true,t,u.setCell (p:=⟨k,803,none⟩) (.inl nE) _⟩;. rw[hB,List.take_append_of_le_length al]
         ·rw[List.drop_append_of_le_length al];simp[aK]
     ·have aU:(a:Int)<=0:=by omega
      have HZ:=VH (show a=0 by omega);have f9:=C 800;have HI:=VH (show f<=800 by omega);clear V O S L W hB I t u F J K Q C ab;go_wp2_with fail;refine(qM (G.out.iU f) HI.out ai.out.2.2.2.2.2.2.2.1).mono ?_;rintro Y w3⟨rfl,m',aG,hcut,aj,aD⟩;have HF:=VH (VJ aG (VJ hcut (VJ aj aD)));clear aG hcut aj aD;go_wp2_with fail;go_end0;obtain⟨aG,hcut,aj,aD⟩:=HF.out;obtain⟨V,O,S,L,W,hB,I,t,u⟩:=ai.out;refine⟨rfl,B,m',_,_,by have :=HI.out;omega,aj,fun q x=>t q (by omega),?_,(u.setCell (p:=⟨k,800,none⟩) (.inl nE) _).trans aD (fun q _ x=>x)⟩;have aS:E=(Dc.eI m (ao A n)).1:=by rw[<-L,HZ.out,show Dc.rest m gk 0=[]from by cases gk<;>rfl,List.append_nil]
      have hl:=iM (A:=B) (nd:=m') (by have :=HI.out;rw[aj.len];omega);have aW:ao A n≠[]:=by rw[HX.out];exact XP _ _
      unfold Dc.cV bu Dc.trim Dc.cut;dsimp only;rw[if_neg aW,<-aS,HT.out.2,<-hB,<-hcut,I];congr 1;by_cases h:m'=0;. subst h;rfl
      ·rw[if_neg h,if_neg (fun Y=>h (by rw[Y]at hl;exact hl.symm))]
namespace Dc
def fQ(n:Int)(d:D):D:=if n<0∨(d.ds.length:Int)<=n then d else trim ⟨d.ds.take n.toNat,d.dp,d.tr⟩
end Dc
theorem QH{A:List Nat}{neg:Bool}(h:aI w k A n e neg b)(Y:n<=800)(y:dC A n)(a:Int):Calls VI 319 #[.pointer (some ⟨k,0,none⟩),.int .i64 a] w fun j w'=>j=.returned (.tuple #[])/\∃m u,m<=n/\aI w' k A (m:Nat) u neg b/\bu A m u b=Dc.fQ a (bu A n e b)/\aa (af k) w w':=by
 have D:((bu A n e b).ds.length:Int)=n:=by have :=iM (A:=A) (nd:=n) (by rw[h.len];omega);show((ao A n).length:Int)=n;omega
 have r:=VH D;have H:=VH (VJ h y);obtain⟨U,L,M,O,x,W⟩:=h.facts;have V:=x 800;clear h y D L M O x;go_enter func319,ntmps319;by_cases P:a<0;. have f:=VH (show bu A n e b=Dc.fQ a (bu A n e b)from by rw[Dc.fQ,if_pos (.inl P)]);go_wp2_with fail;refine bodyPost_ret (results_none rfl _ _ _) rfl ?_;first|exact⟨rfl,n,e,VN _,H.out.1,f.out,aa.refl _ _⟩|exact⟨rfl,n,VN _,e,H.out.1,f.out,aa.refl _ _⟩
 ·have Q:0<=a:=by omega
  by_cases S:(n:Int)<=a;. have f:=VH (show bu A n e b=Dc.fQ a (bu A n e b)from by rw[Dc.fQ,if_pos (.inr (by rw[r.out];exact S))]);go_wp2_with fail;refine bodyPost_ret (results_none rfl _ _ _) rfl ?_;first|exact⟨rfl,n,e,VN _,H.out.1,f.out,aa.refl _ _⟩|exact⟨rfl,n,VN _,e,H.out.1,f.out,aa.refl _ _⟩
  ·have X:a<(n:Int):=by omega
   obtain⟨N,rfl⟩:=Int.eq_ofNat_of_zero_le Q;have I:=VH (show Dc.fQ (N:Int) (bu A n e b)=Dc.trim ⟨(ao A n).take N,e,b⟩from by rw[Dc.fQ,if_neg (by rw[r.out];omega)];rfl);have J:=VH (qM (H.out.1.iU N) (show N<=800 by omega) (fun i hi=>H.out.2 i (by omega)));have K:=VH (show ao A N=(ao A n).take N from by unfold ao;rw[List.map_take,List.map_take,List.take_take,Nat.min_eq_left (by omega)]);have t:=VH (show N<=n by omega);go_wp2_with fail;refine J.out.mono ?_;rintro j T⟨rfl,c,p,l,d,o⟩;have G:=VH (VJ p (VJ l (VJ d o)));clear p l d o;go_wp2_with fail;go_end0;obtain⟨p,l,d,o⟩:=G.out;have C:=iM (A:=A) (nd:=c) (by have :=t.out;rw[d.len];omega)
   have z:bu A c (if c=0 then 0 else e) b=Dc.fQ (N:Int) (bu A n e b):=by
    rw[I.out,<-K.out];unfold Dc.trim bu;dsimp only;rw[<-l];congr 1;by_cases h:c=0;. subst h;rfl
    ·rw[if_neg h,if_neg (fun j=>h (by rw[j]at C;exact C.symm))]
   have E:c<=n:=by have :=t.out;omega
   have F:aa (af k) w T:=((aa.refl (af k) w).setCell (p:=⟨k,800,none⟩) (.inl nE) _).trans o (fun q _ hq=>hq);first|exact⟨rfl,c,_,E,d,z,F⟩|exact⟨rfl,c,E,_,d,z,F⟩
namespace Dc
def pP(x y:Nat)(last a pos:Bool):Bool:=bif(x==5&&last)then a||(pos&&(y%2 !=0))else decide (5<=x)
def up(n:Int)(d:D):Bool:=if n<0∨(d.ds.length:Int)<=n then false else pP (d.ds.getD n.toNat 0) (d.ds.getD (n.toNat-1) 0) (decide (n+1=d.ds.length)) d.tr (decide (0<n))
end Dc
theorem lM{A:List Nat}(b:A.length=800)(a:i<nd)(c:nd<=800):(ao A nd).getD i 0=A.getD i 0-48:=by simp[ao,VW,List.getElem?_take,a,VX (show i<A.length by omega)]
theorem TC{A:List Nat}{neg:Bool}(h:aI w k A n r neg b)(o:n<=800)(l:dC A n)(d:Int):Calls VI 317 #[.pointer (some ⟨k,0,none⟩),.int .i64 d] w fun e w'=>e=.returned (.bool (Dc.up d (bu A n r b)))/\aa ab w w':=by
 have m:((bu A n r b).ds.length:Int)=n:=by have :=iM (A:=A) (nd:=n) (by rw[h.len];omega);show((ao A n).length:Int)=n;omega
 have i:=VH m;have H:=VH (VJ h l);obtain⟨L,u,z,O,C,S⟩:=h.facts;clear h l m u z C;go_enter func317,ntmps317;by_cases D:d<0;. have a:=VH (show Dc.up d (bu A n r b)=false from by rw[Dc.up,if_pos (.inl D)]);go_wp2_with fail;go_ret;exact⟨by rw[a.out];rfl,aa.refl _ _⟩
 ·have E:0<=d:=by omega
  by_cases j:(n:Int)<=d;. have a:=VH (show Dc.up d (bu A n r b)=false from by rw[Dc.up,if_pos (.inr (by rw[i.out];exact j))]);go_wp2_with fail;go_ret;exact⟨by rw[a.out];rfl,aa.refl _ _⟩
  ·have T:d<(n:Int):=by omega
   obtain⟨N,rfl⟩:=Int.eq_ofNat_of_zero_le E;have p:=lM (i:=N) H.out.1.len (by omega) o;have a:=VH (show Dc.up N (bu A n r b)=Dc.pP (A.getD N 0-48) ((ao A n).getD (N-1) 0) (decide ((N:Int)+1=n)) b (decide (0<(N:Int)))from by rw[Dc.up,if_neg (by rw[i.out];omega),i.out];show Dc.pP ((ao A n).getD N 0) _ _ _ _=_;rw[p];rfl);have P:=H.out.1.cell (show N<800 by omega);have q:=VH (H.out.2 N (by omega));generalize A.getD N 0=x at*;have V:(N:Int)<800:=by omega
   have K:VL.wrap ((N:Int)+1)=(N:Int)+1:=IntWalk.i64_in _ (by omega);clear p;by_cases G:x=53
   ·subst G;by_cases f:(N:Int)+1=n
    ·cases b with
     |true=>have c:=VH (show Dc.up N (bu A n r true)=true from by rw[a.out,decide_eq_true f];rfl);go_wp2_with fail;go_ret;exact⟨by rw[c.out];rfl,aa.refl _ _⟩
     |false=>
      rcases N with _|M;. have c:=VH (show Dc.up 0 (bu A n r false)=false from by have h:=a.out;rw[decide_eq_true f]at h;exact h);go_wp2_with fail;go_ret;exact⟨by rw[c.out];rfl,aa.refl _ _⟩
      ·have I:=lM (i:=M) H.out.1.len (by omega) o;have Q:=H.out.1.cell (show M<800 by omega);have t:=VH (H.out.2 M (by omega));have c:=VH (show Dc.up (M+1:Nat) (bu A n r false)=((A.getD M 0-48)%2 !=0)from by rw[a.out,decide_eq_true f,YD,I];simp[Dc.pP]);generalize A.getD M 0=y at*;have W:(0:Int)<(M:Int)+1:=by omega
       have J:((M+1:Nat):Int)=(M:Int)+1:=by omega
       have X:VL.wrap ((M:Int)+1-1)=(M:Int):=ak (by omega);have Y:(0:Int)<=(M:Int):=by omega
       have Z:(M:Int)<800:=by omega
       have q5:IntKind.u8.wrap ((y:Int)-48)=((y-48:Nat):Int):=by have :=t.out;rw[IntWalk.u8_in _ (by omega)];omega
       rw[J]at*;go_wp2_with fail;go_ret;refine⟨?_,aa.refl _ _⟩;show Ending.returned (.bool (((y-48:Nat):Int)%2 !=0))=_;rw[show Dc.up ((M:Int)+1) (bu A n r false)=((y-48)%2 !=0)from c.out];congr 2;rw[Bool.eq_iff_iff];simp;omega
    ·have c:=VH (show Dc.up N (bu A n r b)=true from by rw[a.out,decide_eq_false f];rfl);go_wp2_with fail;go_ret;exact⟨by rw[c.out];rfl,aa.refl _ _⟩
   ·have U:¬(x:Int)=53:=by omega
    have c:=VH (show Dc.up N (bu A n r b)=decide (53<=x)from by
     have j:=q.out;have F:(x-48==5)=false:=by simp;omega
     rw[a.out,Dc.pP,F];show decide (5<=x-48)=_;exact decide_eq_decide.2 (by omega));go_wp2_with fail;go_ret;refine⟨?_,aa.refl _ _⟩;rw[c.out];show Ending.returned (.bool (decide ((53:Int)<=(x:Int))))=_;rw[show decide ((53:Int)<=(x:Int))=decide (53<=x)from decide_eq_decide.2 (by omega)]
namespace Dc
theorem Jx{A:List Nat}(a:k<A.length)(v:Nat):(A.set k v).getD k 0=v:=by rw[VW,List.getElem?_set_self a];rfl
theorem Af{A:List Nat}(h:k≠n)(v:Nat):(A.set k v).getD n 0=A.getD n 0:=by rw[VW,List.getElem?_set_ne h,VW]
structure Lw(L A:List Nat)(tr:Bool)(w:Nat)(B:List Nat)(tr':Bool):Prop where
 len:B.length=800
 lo:∀i,i<w->i<800->B.getD i 0=A.getD i 0
 hi:∀i,w<=i->i<800->i<L.length->B.getD i 0=L.getD i 0+48
 cut:tr'=(tr||(L.drop (max 800 w)).any (·≠0))
theorem Lw.start{A:List Nat}{tr:Bool}(a:A.length=800):Lw L A tr L.length A tr:=⟨a,fun _ _ _=>rfl,fun i h1 _ h2=>absurd h2 (by omega),by rw[Wk (by omega)];simp⟩
theorem Lw.put{A B:List Nat}{c:Bool}{v x:Nat}(h:Lw l A b (v+1) B c)(e:v<800)(d:l.getD v 0=x):Lw l A b v (B.set v (x+48)) c:=by
 refine⟨by rw[List.length_set,h.len],fun i h1 h2=>?_,fun i h1 h2 h3=>?_,?_⟩;. rw[Af (by omega)];exact h.lo i (by omega) h2
 ·by_cases a:v=i;. subst a;rw[Jx (by rw[h.len];exact h2),d]
  ·rw[Af a];exact h.hi i (by omega) h2 h3
 ·have :=h.cut;rwa[show max 800 (v+1)=max 800 v by omega]at this
theorem zt{v:Nat}(a:v<l.length)(b:l.getD v 0=k):l.drop v=k::l.drop (v+1):=by rw[Wm a];congr 1;rw[<-b,VW,VX a];rfl
theorem Lw.off{A B:List Nat}{c:Bool}{v:Nat}(h:Lw l A b (v+1) B c)(f:800<=v)(d:v<l.length)(e:l.getD v 0=k):Lw l A b v B (if k=0 then c else true):=by
 refine⟨h.len,fun i h1 h2=>h.lo i (by omega) h2,fun i h1 h2 h3=>absurd h2 (by omega),?_⟩;have :=h.cut;rw[show max 800 (v+1)=v+1 by omega]at this;rw[show max 800 v=v by omega,zt d e,List.any_cons];by_cases a:k=0;. rw[if_pos a,this,a];simp
 ·rw[if_neg a];simp[a]
theorem Lw.ends{A B:List Nat}{a:Bool}(h:Lw l A b 0 B a):(B.take (min l.length 800)).map (·-48)=(Dc.cut l b).1/\a=(Dc.cut l b).2:=by refine⟨?_,by have :=h.cut;rwa[show max 800 0=800 from rfl]at this⟩;unfold Dc.cut;dsimp only;have c:=h.len;refine List.ext_getElem (by simp;omega) fun i h1 h2=>?_;simp only[List.length_map,WK]at h1;have :=h.hi i (VQ _) (by omega) (by omega);rw[VW,VX (by omega),VW,VX (by omega)]at this;simp at this⊢;omega
theorem GA(k:Nat):∀(a:List Nat)(r:Nat),(carry k a).2.drop r=(carry k (a.drop r)).2:=by intro a;induction a with|nil=>intro r;simp[carry]|cons d l b=>intro r;cases r with|zero=>rfl|succ r=>exact b r
theorem yF(h:bL l):(carry k l).1<2^k:=by
 obtain⟨a,b,c⟩:=kC k l;have d:=pQ h;have p:0<10^l.length:=Nat.pow_pos (by decide);have f:val l*2^k<10^l.length*2^k:=WD d (Wc k);have e:(carry k l).1*10^l.length<2^k*10^l.length:=by rw[Xa (2^k)];omega
 exact WV e
theorem yG(b:n<l.length)(a:l.getD n 0=m):carry k (l.drop n)=(((carry k (l.drop (n+1))).1+m*2^k)/10,((carry k (l.drop (n+1))).1+m*2^k)%10::(carry k (l.drop (n+1))).2):=by rw[zt b a];rfl
theorem NG(k:Nat)(a:List Nat)(r:Nat):(bR k a).drop ((aF (carry k a).1).length+r)=(carry k (a.drop r)).2:=by unfold bR;rw[<-GA,List.drop_append,Wk (by omega),List.nil_append];congr 1;omega
theorem NH(c:n<l.length)(b:l.getD n 0=m):(bR k l).getD ((aF (carry k l).1).length+n) 0=((carry k (l.drop (n+1))).1+m*2^k)%10:=by
 have h:=NG k l n;rw[yG c b]at h;have a:((bR k l).drop ((aF (carry k l).1).length+n)).head?=some (((carry k (l.drop (n+1))).1+m*2^k)%10):=by rw[h];rfl
 rw[List.head?_drop]at a;rw[VW,a];rfl
theorem oN(h:k≠0):(aF k).length=(aF (k/10)).length+1:=by rw[jQ h,VK];rfl
theorem NM(k:Nat)(a:List Nat):(bR k a).take (aF (carry k a).1).length=aF (carry k a).1:=by unfold bR;simp
theorem S2(a:k≠0)(h:L.take (aF k).length=aF k):L.take (aF (k/10)).length=aF (k/10)/\L.getD (aF (k/10)).length 0=k%10/\(aF (k/10)).length<L.length:=by
 have b:=oN a;have c:=jQ a;have d:(aF (k/10)).length<L.length:=by have :=congrArg List.length h;rw[WK]at this;omega
 rw[b,c]at h;refine⟨?_,?_,d⟩;. have :=congrArg (List.take (aF (k/10)).length) h;rw[List.take_take,Nat.min_eq_left (by omega),List.take_left]at this;exact this
 ·have :=congrArg (fun l=>l[(aF (k/10)).length]?) h;rw[List.getElem?_take_of_lt (by omega),List.getElem?_append_right (VN _)]at this;rw[VW,this];simp
theorem Ch(k:Nat)(a:List Nat):(bR k a).length=(aF (carry k a).1).length+a.length:=by rw[bR,VK,(kC k a).2.1]
end Dc
namespace Dc
def shl(k:Nat)(d:D):D:=if 60<k then shl (k-60) (cO 60 d)else cO k d termination_by k
def shr(k:Nat)(d:D):D:=if 60<k then shr (k-60) (cV 60 d)else cV k d termination_by k
def shift(k:Int)(d:D):D:=if d.ds=[]then d else if 0<k then shl k.toNat d else if k<0 then shr (-k).toNat d else d
def fI(a:List Nat):Nat->Option (List Nat)|0=>none|i+1=>if a.getD i 0<9 then some (a.take i++[a.getD i 0+1])else fI a i
def iq(n:Int)(d:D):D:=if n<0∨(d.ds.length:Int)<=n then d else match fI d.ds n.toNat with|some l=>⟨l,d.dp,d.tr⟩|none=>⟨[1],d.dp+1,d.tr⟩
theorem Gs(e:bL l)(o:l.length<=800)(f:∀x,l.head?=some x->1<=x)(j:k<=l.length)(h:fI l k=some L):bL L/\L.length<=k/\L≠[]/\∀x,L.head?=some x->1<=x:=by
 induction k with
 |zero=>cases h
 |succ i m=>
  rw[fI]at h;split at h
  ·rename_i n;injection h with h;subst h;refine⟨fun x d=>?_,by simp;omega,by simp,fun x d=>?_⟩
   ·rcases V_.1 d with d|d;. exact e x (XT d)
    ·rw[VU.1 d];omega
   ·cases l with|nil=>simp at j|cons y l=>cases i with|zero=>simp at d;omega|succ i=>simp at d;subst d;exact f _ rfl
  ·obtain⟨a,b,c⟩:=m (by omega) h;exact⟨a,by omega,c⟩
theorem S3{d:D}(h:Ok d)(n:Nat):bL (d.ds.take n)/\(d.ds.take n).length<=800/\∀x,(d.ds.take n).head?=some x->1<=x:=by refine⟨fun x a=>h.cd x (XT a),by have :=h.len;simp;omega,fun x a=>?_⟩;cases n with|zero=>simp at a|succ n=>cases hd:d.ds with|nil=>rw[hd]at a;cases a|cons y l=>rw[hd]at a;exact h.head x (by rw[hd];exact a)
theorem Ex{d:D}(h:Ok d):Ok (trim d):=by refine⟨tK h.cd,VS (tL _) h.len,fun x a=>?_⟩;have a:(bQ d.ds).head?=some x:=a;cases hd:d.ds with|nil=>rw[hd]at a;cases a|cons y l=>have b:=h.head y (by rw[hd];rfl);rw[hd,qF b]at a;injection a with a;omega
theorem Rl{d:D}(h:Ok d)(n:Int):Ok (iq n d):=by
 unfold iq;split;. exact h
 ·rename_i i;split;. rename_i l f;obtain⟨a,b,_,c⟩:=Gs h.cd h.len h.head (by omega) f;exact⟨a,by have :=h.len;show l.length<=800;omega,c⟩
  ·exact⟨fun x e=>by rw[VU.1 e];decide,by show 1<=800;decide,fun x e=>by injection e with e;omega⟩
theorem tQ(h:n<10^m):(aF n).length<=m:=by
 induction m generalizing n with
 |zero=>
  have :n=0:=by have :10^0=1:=rfl;omega
  rw[this,jR];exact VN _
 |succ m b=>
  by_cases a:n=0;. rw[a,jR];exact VQ _
  ·rw[oN a];have :=b (n:=n/10) (by rw[WY]at h;omega);omega
theorem NL(d:k<=60)(c:bL l):(bR k l).length<=l.length+19:=by rw[Ch];have a:=yF (k:=k) c;have b:2^k<=2^60:=Wu (by decide) d;have :=tQ (n:=(carry k l).1) (m:=19) (Nat.lt_of_lt_of_le a (VS b (by decide)));omega
theorem o7(a:k<=60){d:D}(h:Ok d):(cO k d).dp<=max d.dp 0+19:=by
 unfold cO;split;. omega
 ·have :=NL a h.cd;unfold trim;dsimp only;split;. omega
  ·have :((bR k d.ds).length:Int)<=d.ds.length+19:=by omega
   omega
theorem JB:∀(f n r:Nat),(grow k n r f).2<=r+f:=by
 intro f
 induction f with
 |zero=>intro n r;exact VN _
 |succ f a=>
  intro n r;simp only[grow];split;. have :=a (n*10) (r+1);omega
  ·show r<=_;omega
theorem PO:∀(a:List Nat)(n r:Nat),(pick k n r a).2.1<=r+a.length+64:=by
 intro a
 induction a with
 |nil=>
  intro n r;unfold pick;split;. show r<=_;omega
  ·have :=JB (k:=k) 64 n r;show(grow k n r 64).2<=_;simp;omega
 |cons d l b=>
  intro n r;unfold pick;split;. show r<=_;omega
  ·have :=b (n*10+d) (r+1);simp only[VM];omega
theorem pE{d:D}(h:Ok d):min d.dp 0-864<=(cV k d).dp:=by
 unfold cV;split;. show _<=d.dp;omega
 ·have a:=PO (k:=k) d.ds 0 0;have b:=h.len;unfold trim;dsimp only;split;. omega
  ·have :(eI k d.ds).2=(pick k 0 0 d.ds).2.1:=rfl;rw[this];omega
def aO(d:D):Int:=10*d.dp+(d.ds.headD 0:Nat)
theorem js{d:D}(h:Ok d)(a:d.ds≠[]):∃x l,d.ds=x::l/\1<=x/\x<=9:=by cases hd:d.ds with|nil=>exact absurd hd a|cons x l=>exact⟨x,l,rfl,h.head x (by rw[hd];rfl),by have :=h.cd x (by rw[hd];exact V6);omega⟩
theorem pF{d:D}(i:1<=k)(j:k<=60)(h:Ok d)(n:d.ds≠[]):Ok (cV k d)/\(cV k d).ds≠[]/\aO (cV k d)<aO d:=by
 obtain⟨x,l,e,p,q⟩:=js h n;obtain⟨f,y,m,b,o⟩:=DQ i j h e;have c:(cV k d).ds≠[]:=by rw[b];exact XP _ _
 obtain⟨w,u,a,r,t⟩:=js f c;rw[b]at a;injection a with a _;subst a;refine⟨f,c,?_⟩;unfold aO;rw[e,b];simp only[List.headD_cons];omega
theorem o8{d:D}(i:1<=k)(h:Ok d)(j:d.ds≠[]):Ok (cO k d)/\(cO k d).ds≠[]/\aO d<aO (cO k d):=by
 obtain⟨x,l,e,o,p⟩:=js h j;obtain⟨f,y,m,b,n⟩:=Ce i h e;have c:(cO k d).ds≠[]:=by rw[b];exact XP _ _
 obtain⟨u,t,a,q,r⟩:=js f c;rw[b]at a;injection a with a _;subst a;refine⟨f,c,?_⟩;unfold aO;rw[e,b];simp only[List.headD_cons];omega
theorem uQ{d:D}(h:Ok d)(b:d.ds≠[])(a:1<=k:=by decide):d.dp<=(cO k d).dp:=by obtain⟨x,l,e,_⟩:=js h b;obtain⟨_,y,m,_,c⟩:=Ce a h e;omega
theorem v_{d:D}(h:Ok d)(c:d.ds≠[])(a:1<=k:=by decide)(b:k<=60:=by decide):(cV k d).dp<=d.dp:=by obtain⟨x,l,e,_⟩:=js h c;obtain⟨_,y,m,_,f⟩:=DQ a b h e;omega
theorem wz(h:k<=60)(d:D):shl k d=cO k d:=by rw[shl,if_neg (by omega)]
theorem wF(h:k<=60)(d:D):shr k d=cV k d:=by rw[shr,if_neg (by omega)]
theorem wu(h:60<k)(d:D):shl k d=shl (k-60) (cO 60 d):=by rw[shl,if_pos h]
theorem wD(h:60<k)(d:D):shr k d=shr (k-60) (cV 60 d):=by rw[shr,if_pos h]
end Dc
def bytesOf(s:ByteArray):List Nat:=s.data.toList.map (·.toNat)
theorem jh(s:ByteArray):(bytesOf s).length=s.size:=by simp[bytesOf]
theorem bytesOf_drop(s:ByteArray)(a:k<s.size):(bytesOf s).drop k=s[k].toNat::(bytesOf s).drop (k+1):=by rw[Wm (by rw[jh];exact a)];congr 1;simp[bytesOf];rfl
theorem P0(l:List Nat):Dc.c_ l []=false:=by cases l<;>rfl
theorem Di{s:List Nat}:Dc.c_ (k::l) (n::s)=if k=n then Dc.c_ l s else decide (k<n):=rfl
theorem PZ{b cp:Nat}{B:List Nat}(S:n<=800)(hB:B.length=n)(q:∀i,i<n->w.cell? ⟨b,i,none⟩=some (.int .u8 (B.getD i 0:Nat)))(J:b<w.heap.size)(s:ByteArray)(U:s.size<=100):Calls VI 329 #[.slice (some ⟨b,0,none⟩) n cp,.string s] w fun e w'=>e=.returned (.bool (Dc.c_ B (bytesOf s)))/\∃m,w'=w.drewN m:=by
 have o:=VH (fun(W:World)(h:∃m,W=w.drewN m)i(hi:i<n)=>show W.cell? ⟨b,i,none⟩=some (.int .u8 (B.getD i 0:Nat))from by obtain⟨m,rfl⟩:=h;exact q i hi);have D:=VH (show∀i,i<n->B.drop i=B.getD i 0::B.drop (i+1)from fun i hi=>by rw[Wm (by omega),VW,VX (by omega)];rfl);have C:=VH hB;clear q J hB;go_enter func329,ntmps329;go_wp2_with fail;go_loopg[5]s.size(fun g O wr=>∃i:Nat,O=.int .i64 i/\g=s.size-i/\i<=s.size/\i<=n/\Dc.c_ (B.drop i) ((bytesOf s).drop i)=Dc.c_ B (bytesOf s)/\∃m,wr=w.drewN m);case atStart=>exact⟨0,rfl,rfl,VQ _,VQ _,rfl,0,rfl⟩
 case round=>
  obtain⟨i,rfl,rfl,hi,Q,z,A⟩:=hrel;have a:=VH (VJ z A);clear z A;by_cases u:i<s.size
  ·have L:(i:Int)<(s.size:Int):=by omega
   by_cases j:i<n
   ·have K:(i:Int)<(n:Int):=by omega
    have H:=o.out _ a.out.2 i j;have r:=D.out i j;have p:=bytesOf_drop s u;have f:=VH (show Dc.c_ (B.getD i 0::B.drop (i+1)) (s[i].toNat::(bytesOf s).drop (i+1))=Dc.c_ B (bytesOf s)from by rw[<-r,<-p];exact a.out.1);generalize t:B.getD i 0=x at*;have E:=VH t;clear t;obtain⟨y,N⟩:∃y:UInt8,s[i]=y:=⟨_,rfl⟩;rw[N]at f;have V:(0:Int)<=(i:Int):=by omega
    have P:VL.wrap ((i:Int)+1)=((i+1:Nat):Int):=ak (by omega);clear r p;by_cases k:x=y.toNat
    ·subst k;go_wp2_with fail;go_quiet(fail);have d:=VH (show∃m,wr.drewN nq=w.drewN m from by obtain⟨m,c⟩:=a.out.2;exact⟨m+nq,by rw[c];exact World.drewN_drewN _ _ _⟩);generalize wr.drewN nq=l at*;go_wp2_with fail;go_roundg(s.size-(i+1));case measure=>omega
     case rel=>exact⟨i+1,rfl,rfl,by omega,by omega,by rw[<-f.out,Di,if_pos rfl],d.out⟩
    ·have M:¬(x:Int)=(y.toNat:Int):=by omega
     have G:=VH k;clear k;go_wp2_with fail;go_quiet(fail);have d:=VH (show∃m,wr.drewN nq=w.drewN m from by obtain⟨m,c⟩:=a.out.2;exact⟨m+nq,by rw[c];exact World.drewN_drewN _ _ _⟩);have I:=o.out _ d.out i j;rw[E.out]at I;generalize wr.drewN nq=l at*;have T:((x:Int)!=(y.toNat:Int))=true:=by simp[M]
     clear H;go_wp2_with fail;go_quiet(fail);have F:=VH (show∃m,l.drewN nq=w.drewN m from by obtain⟨m,c⟩:=d.out;exact⟨m+nq,by rw[c];exact World.drewN_drewN _ _ _⟩);generalize l.drewN nq=X at*;go_wp2_with fail;go_ret;refine⟨?_,F.out⟩;rw[<-f.out,Di,if_neg G.out];simp
   ·have K:(n:Int)<=(i:Int):=by omega
    go_wp2_with fail;go_ret;refine⟨?_,a.out.2⟩;have h:=a.out.1;rw[Wk (show B.length<=i by have :=C.out;omega),bytesOf_drop s u]at h;rw[<-h];rfl
  ·have L:(s.size:Int)<=(i:Int):=by omega
   go_wp2_with fail;go_ret;refine⟨?_,a.out.2⟩;have h:=a.out.1;rw[Wk (show(bytesOf s).length<=i by rw[jh];omega),P0]at h;rw[<-h];rfl
end Go.Proofs.YtmddhediccmhbaaGreatDoor
