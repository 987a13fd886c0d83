/- what the program has laid. -/
import Derived.JoinedOf
import Derived.OpenShut
import Derived.Deep.Slices
import Derived.Deep.Fields
import Derived.Deep.Strs
import Derived.LaidMore
import Derived.Lay
import Derived.Test.YtmddhediccmhbaaGreatDoorA15
import Derived.Test.YtmddhediccmhbaaGreatDoorA22
set_option linter.all false
set_option maxHeartbeats 400000000
set_option maxRecDepth 100000
namespace Go.Proofs.YtmddhediccmhbaaGreatDoor
open Go.RowKit
open Go.Proofs.Tryz
open Addr renaming add_lit→YB
open DataW renaming trod→X7
open DataW renaming trod_int→Xm
open Go.Pinned renaming cheatRows→XK
open Go.Pinned renaming pow10Rows→Y1
open Go.Proofs.Tryz renaming prog→VI
variable {k n g:Nat}{v:Value}{b:Bool}{t T:TypeId}{E:List Value}{P:Program}
section
open Go.ChangeShapes Go.WideShapes Go.ChangeAt Go.RowKit Go.Deep
abbrev listed:List (String×DataW Unit):=Rows.bindBackRow.laid
theorem laidMet.drop{P:Program}{w:World}:∀(k:Nat){l:List (String×DataW Unit)},laidMet P l w->laidMet P (l.drop k) w|0,_,h=>h|_+1,[],h=>h|k+1,_::_,h=>laidMet.drop k (Go.laidMet.tail h)
theorem lU{W:World}{name:String}{d:DataW Unit}{l rest:List (String×DataW Unit)}(h:laidMet P l W)(e:l.drop k=(name,d)::rest)(j:P.globalNamed name=some g)(r:(P.globals[g]?).map (·.type)=some t):∃(a:List Value)(b base:Nat)(w:Nat->Bool)(held:Bool)(enc:TypeId×Value->Unit)(p:List MemPlace),(∀i,W.cell? ⟨g,i,none⟩=a[i]?)/\X7 enc P W base w held b t a=some (d,p):=by have c:=laidMet.drop k h;rw[e]at c;obtain⟨y,⟨x,z,a,b,p,q,n,o,u,m,_,_⟩,_⟩:=c;obtain rfl:=Option.some.inj (j.symm.trans n);obtain rfl:=Option.some.inj (r.symm.trans o);exact⟨_,_,_,_,_,_,_,fun i=>by rw[World.var?_cell j u i];simp,m⟩
section
variable{H:Type}{enc:TypeId×Value->H}{P:Program}{w:World}{base:Nat}{spare:Nat->Bool}{held:Bool}{fuel:Nat}{t:TypeId}{cs:List Value}{x:DataW H×List MemPlace}
theorem Tn{k:FloatKind}(a:P.underlying t=some (.float k))(h:X7 enc P w base spare held fuel t cs=some x):∃n,cs=[.float k n]/\x=(.lit (.float k n),[]):=by cases fuel with|zero=>simp[X7]at h|succ n=>unfold X7 at h;rw[a]at h;split at h<;>simp_all
end
theorem O9{W:World}(h:laidMet VI listed W):W.cell? ⟨8,0,none⟩=some (.bool true):=by obtain⟨i,k,e,m,l,j,p,c,d⟩:=lU (k:=4) (d:=.lit (.bool true)) h rfl (show VI.globalNamed "internal/strconv.optimize" =some 8 by kernel_rfl) (show _=some 4 by kernel_rfl);obtain⟨b,rfl,a⟩:=DataW.trod_bool underlying4 d;injection a with a _;injection a with a;injection a with a;rw[c,<-a];rfl
theorem EA{W:World}(h:laidMet VI listed W):gh W:=by
 have a:=laidMet.drop 8 h;have e:listed.drop 8=("internal/strconv.uint64pow10",Lib.tabData .u64 Lib.pow10Tab)::listed.drop 9:=by rw[<-show(Rows.laid_internal_strconv_uint64pow10:DataW Unit)=Lib.tabData .u64 Lib.pow10Tab by kernel_rfl];rfl
 rw[e]at a;exact Lib.tabIs_of_head A.sw (show _=some 390 by kernel_rfl) underlying390 underlying178 (by kernel_rfl) (by kernel_rfl) a
theorem Si{W:World}(h:laidMet VI listed W):b9 W:=by
 have a:=laidMet.drop 13 h;have e:listed.drop 13=("strings.asciiSpace",Lib.tabData .u8 Lib.asciiSpaceTab)::listed.drop 14:=by rw[<-show(Rows.laid_strings_asciiSpace:DataW Unit)=Lib.tabData .u8 Lib.asciiSpaceTab by kernel_rfl];rfl
 rw[e]at a;exact Lib.tabIs_of_head (show VI.globalNamed "strings.asciiSpace" =some 0 by kernel_rfl) (show _=some 207 by kernel_rfl) underlying207 underlying5 (by kernel_rfl) (by kernel_rfl) a
theorem ints_at{W:World}{H:Nat->Bool}{u:TypeId×Value->Unit}{l:IntKind}{zs:List Int}{p:List MemPlace}(G:P.underlying t=some (.slice T))(x:P.underlying T=some (.int l))(w:P.cellsOf T=1)(h:X7 u P W k H b n t E=some (.slice (zs.map fun z=>.lit (.int l z)) [],p)):∃a d,E=[.slice (some a) zs.length d]/\∀i,i<zs.length->W.cell? (a.add i)=some (.int l (zs.getD i 0)):=by
 rcases open_slice1 G w h with⟨q,c⟩|⟨a,len,d,m,M,V,D,Pl,q,I,K,J,F,c,y⟩;. cases c
 ·injection c with c _;injection c with h1 h2;have C:zs.length=len:=by have :=congrArg List.length h1;simpa using this
  subst C;have L:zs.length<=m:=by rw[F];split<;>omega
  refine⟨a,d,q,fun i r=>?_⟩;obtain⟨c1,c2⟩:=y i (by omega);obtain⟨z,j,e,-⟩:=Xm x c2;injection j with j;injection e with e _;have o:=congrArg (·[i]?) h1;simp[r,e]at o;rw[c1,j];simp[r,o]
theorem ti{W:World}{a:Addr}(c:W.cell? (a.add 0)=some v):∃b off,a=⟨b,off,none⟩/\b<W.heap.size:=by
 obtain⟨b,off,d⟩:=a;have h:d=none:=by cases d with|none=>rfl|some k=>simp[Addr.add,World.cell?]at c;split at c<;>simp at c
 subst h;refine⟨b,off,rfl,?_⟩;simp only[YB]at c;unfold World.cell? at c;split at c;. rename_i e;exact(Array.getElem?_eq_some_iff.1 e).1
 ·cases c
theorem P3{W:World}(h:laidMet VI listed W):xN W W.heap.size:=by
 obtain⟨o,r,n,u,t,q,p,j,l⟩:=lU (k:=5) (d:=.slice (([1,3,6,9,13,16,19,23,26]:List Int).map fun z=>.lit (.int .i64 z)) []) h rfl (show VI.globalNamed "internal/strconv.powtab" =some 13 by kernel_rfl) (show _=some 130 by kernel_rfl);obtain⟨a,d,rfl,c⟩:=ints_at underlying130 underlying3 (by kernel_rfl) l;obtain⟨b,off,rfl,i⟩:=ti (c 0 (by decide));refine⟨b,off,d,i,j 0,fun k m=>?_⟩;have :=c k m;rw[YB]at this;rw[this];have e:k=0∨k=1∨k=2∨k=3∨k=4∨k=5∨k=6∨k=7∨k=8:=by omega
 rcases e with rfl|rfl|rfl|rfl|rfl|rfl|rfl|rfl|rfl<;>rfl
theorem Ps{W:World}(h:laidMet VI listed W):xL W W.heap.size:=by
 obtain⟨E,G,C,M,J,F,p,t,u⟩:=lU (k:=6) (d:=.slice (eQ.map fun z=>.lit (.float .f64 z)) []) h rfl (show VI.globalNamed "internal/strconv.float64pow10" =some 14 by kernel_rfl) (show _=some 426 by kernel_rfl);rcases open_slice1 underlying426 (by kernel_rfl) u with⟨j,c⟩|⟨a,len,r,m,n,V,D,Pl,j,H,K,I,y,c,l⟩;. cases c
 ·injection c with c _;injection c with h1 h2;have w:(23:Nat)=len:=by have :=congrArg List.length h1;simpa[eQ]using this
  subst w;have L:23<=m:=by rw[y];split<;>omega
  obtain⟨b,off,rfl,x⟩:=ti (l 0 (by omega)).1;subst j;refine⟨b,off,r,x,t 0,fun k o=>?_⟩;obtain⟨c1,c2⟩:=l k (by omega);obtain⟨z,e,d⟩:=Tn underlying290 c2;injection e with e;injection d with d _;have i:=congrArg (·[k]?) h1;have q:eQ.length=23:=rfl;simp[o,d,q]at i;rw[YB]at c1;rw[c1,e];simp[q,o,i]
theorem J5{W:World}(h:laidMet VI listed W):W.cell? ⟨11,0,none⟩=some (.int .u64 52)/\W.cell? ⟨11,1,none⟩=some (.int .u64 11)/\W.cell? ⟨11,2,none⟩=some (.int .i64 (-1023)):=by
 obtain⟨m,G,E,L,H,F,p,j,t⟩:=lU (k:=3) (d:=.agg [.lit (.int .u64 52),.lit (.int .u64 11),.lit (.int .i64 (-1023))]) h rfl (show VI.globalNamed "internal/strconv.float64info" =some 11 by kernel_rfl) (show _=some 399 by kernel_rfl);obtain⟨M,N,O,n,k,l,a,b,c⟩:=trod_struct3 underlying399 t;have o:VI.cellsOf 399=3:=by kernel_rfl
 have r:VI.cellsOf 129=1:=by kernel_rfl
 have q:VI.cellsOf 3=1:=by kernel_rfl
 rw[o]at l;match m,l with|[c0,c1,c2],_=>dsimp only at a b c;rw[r]at a b;rw[q]at c;simp only[List.drop_zero,List.drop_succ_cons,List.take_succ_cons,List.take_zero]at a b c;obtain⟨I,d,y,-⟩:=Xm underlying129 a;obtain⟨J,e,z,-⟩:=Xm underlying129 b;obtain⟨K,i,C,-⟩:=Xm underlying3 c;injection d with d;injection e with e;injection i with i;rw[y,z,C]at k;simp at k;obtain⟨⟨u,w,x⟩,-⟩:=k;rw[j,j,j,d,e,i,<-u,<-w,<-x];exact⟨rfl,rfl,rfl⟩
theorem zC: "*" ++ "errors.errorString" = "*errors.errorString" :=by decide
theorem zB:∀u,VI.typeName? 3 u=some "*errors.errorString" ->u=343:=fun u h=>typeName_ptr_named (nm:= "errors.errorString") (by rw[zC];kernel_rfl) (by kernel_rfl) (by decide) u (by rw[zC];exact h)
theorem Ix{W:World}(h:laidMet VI listed W):(∃a,ki W a)/\∃t p,W.cell? ⟨6,0,none⟩=some (.iface t p):=by have b:=laidMet.drop 10 h;have c:=laidMet.drop 11 h;have e:listed.drop 10=("strconv.ErrRange",.iface "*errors.errorString" (.ptr (.agg [.lit (.string [118,97,108,117,101,32,111,117,116,32,111,102,32,114,97,110,103,101])])))::listed.drop 11:=rfl;have i:listed.drop 11=("strconv.ErrSyntax",.iface "*errors.errorString" (.ptr (.agg [.lit (.string [105,110,118,97,108,105,100,32,115,121,110,116,97,120])])))::listed.drop 12:=rfl;rw[e]at b;rw[i]at c;obtain⟨d,s1,j,-⟩:=laid_sentinel b (show VI.globalNamed "strconv.ErrRange" =some 5 by kernel_rfl) (show _=some 109 by kernel_rfl) underlying109 zB underlying343 underlying345 rfl rfl underlying9 (by kernel_rfl) (by kernel_rfl);obtain⟨a2,s2,v2,-⟩:=laid_sentinel c (show VI.globalNamed "strconv.ErrSyntax" =some 6 by kernel_rfl) (show _=some 109 by kernel_rfl) underlying109 zB underlying343 underlying345 rfl rfl underlying9 (by kernel_rfl) (by kernel_rfl);exact⟨⟨d,World.var?_cell (by kernel_rfl) j 0⟩,_,_,World.var?_cell (by kernel_rfl) v2 0⟩
theorem GI{W:World}(h:laidMet VI listed W):xB W W.heap.size:=by
 obtain⟨U,ai,T,sp,ar,Z,p,L,y⟩:=lU (k:=14) (d:=Go.Pinned.leftcheats) h rfl (show VI.globalNamed "internal/strconv.leftcheats" =some 16 by kernel_rfl) (show _=some 434 by kernel_rfl);unfold Go.Pinned.leftcheats at y;have u:VI.cellsOf 433=2:=by kernel_rfl
 have J:VI.cellsOf 3=1:=by kernel_rfl
 have K:VI.cellsOf 9=1:=by kernel_rfl
 rcases open_slice underlying434 y with⟨x,d⟩|⟨a,len,H,m,n,D,Pl,x,hb,hl,al,O,d,F⟩;. cases d
 ·injection d with d _;injection d with h1 h2;have e:XK.length=61:=by decide+kernel
  have M:(61:Nat)=len:=by have :=congrArg List.length h1;simpa[e]using this
  subst M;have av:61<=m:=by rw[O];split<;>omega
  rw[u]at F
  have C:∀k,k<61->W.cell? (a.add (k*2))=some (.int .i64 ((Dc.dG k).1:Nat))/\W.cell? (a.add (k*2+1))=some (.string (ji k)):=by
   intro k c;obtain⟨I,c1,c2⟩:=F k (by omega);obtain⟨-,-,w⟩:=World.cells?_some c1;obtain⟨z0,z1,n',i,G,j,l⟩:=trod_struct2 underlying433 c2;rw[u]at G
   match I,G with
   |[X,Y],_=>
     dsimp only at j l;rw[J]at j;rw[K]at l;simp only[List.drop_zero,List.drop_succ_cons,List.take_succ_cons,List.take_zero]at j l;obtain⟨P,r,Q,-⟩:=Xm underlying3 j;obtain⟨s1,t,S,-⟩:=DataW.trod_string underlying9 l;injection r with r;injection t with t;rw[Q,S]at i;injection i with i _;have q:=congrArg (·[k]?) h1;simp[c,e,i]at q;have a0:=w 0 (by decide);have o:=w 1 (by decide);rw[Go.Deep.add_add]at a0 o;rw[r]at a0;rw[t]at o;have E:XK.getD k (0,[])=XK[k]'(by rw[e];exact c):=by simp[List.getD,e,c]
     refine⟨a0.trans ?_,o.trans ?_⟩;. unfold Dc.dG;rw[E];show some (Value.int .i64 P)=some (Value.int .i64 (XK[k].fst:Nat));exact congrArg (fun z=>some (Value.int .i64 z)) q.1.symm
     ·unfold ji;rw[E,q.2];show some (Value.string s1)=some (Value.string ⟨s1.data.toList.toArray⟩);simp
  obtain⟨b,off,rfl,N⟩:=ti (C 0 (by decide)).1;subst x;refine⟨b,off,H,N,L 0,fun k c=>?_⟩;have :=C k c;rw[YB,YB,<-Nat.add_assoc]at this;exact this
theorem Rm{W:World}(h:laidMet VI listed W):∀k:Nat,k<696->W.cell? ⟨15,k*2,none⟩=some (.int .u64 ((eV k).1:Nat))/\W.cell? ⟨15,k*2+1,none⟩=some (.int .u64 ((eV k).2:Nat)):=by
 obtain⟨J,L,I,T,M,K,p,n,o⟩:=lU (k:=15) (d:=Go.Pinned.pow10Tab) h rfl (show VI.globalNamed "internal/strconv.pow10Tab" =some 15 by kernel_rfl) (show _=some 430 by kernel_rfl);unfold Go.Pinned.pow10Tab at o;have w:VI.cellsOf 429=2:=by kernel_rfl
 have x:VI.cellsOf 178=1:=by kernel_rfl
 have d:Y1.length=696:=by decide+kernel
 obtain⟨u,m,-,b,N,C,q⟩:=DataW.trod_array underlying430 o;rw[w]at q;injection b with b _;injection b with b;intro k a;have l:=q k a;obtain⟨y,t⟩:∃y,u[k]?=some y:=⟨u[k],by simp[C,a]⟩;rw[t]at l;obtain⟨z0,U,P,r,O,e,i⟩:=trod_struct2 underlying429 l;dsimp only at e i;rw[x]at e i;obtain⟨Q,E,G,-⟩:=Xm underlying178 e;obtain⟨S,F,H,-⟩:=Xm underlying178 i;rw[G,H]at r;have c:=congrArg (·[k]?) b;have z:Y1.getD k (0,0)=Y1[k]'(by rw[d];exact a):=by simp[List.getD,d,a]
 simp[a,d,t,r]at c;have a0:=congrArg (·[0]?) E;have j:=congrArg (·[0]?) F;simp[List.getElem?_drop]at a0 j;unfold eV;rw[n,n,z,a0,j,c.1,c.2];exact⟨rfl,rfl⟩
theorem OE{W:World}(h:laidMet VI listed W):xI W:=by
 refine⟨O9 h,J5 h,fun k a=>?_,Rm h⟩;have :=(EA h).cell A.sw k a;rw[this];have b:∀k:Fin 20,Lib.pow10Tab.getD k 0=((10^(k:Nat):Nat):Int):=by decide+kernel
 rw[b ⟨k,a⟩]
theorem SX{W:World}(h:laidMet VI listed W)(a:20<=W.heap.size):bC W W.heap.size:=⟨Nat.le_refl _,a,GI h,P3 h,Ps h,OE h⟩
theorem IP{W:World}(h:laidMet VI listed W)(b:20<=W.heap.size)(d:∃m,W.cell? ⟨4,0,none⟩=some (.int .i64 m)):FE W W.heap.size:=by obtain⟨⟨a,c⟩,e⟩:=Ix h;exact⟨SX h b,EA h,⟨d,e,⟨_,_,c⟩,b⟩,a,c⟩
end
section
open Go.ChangeShapes Go.WideShapes Go.ChangeAt Go.RowKit Go.Deep
def qq:List (Nat×Nat):=(List.range 16).map fun i=>(Lib.accLo i,Lib.accHi i)
theorem TG{W:World}(h:laidMet VI listed W):Lib.Utf8Tabs 2 3 W:=by
 constructor
 ·have a:=laidMet.drop 16 h;have e:listed.drop 16=("unicode/utf8.first",Lib.tabData .u8 ((List.range 256).map fun c=>((Lib.firstT c:Nat):Int)))::listed.drop 17:=by rw[<-show(Go.Pinned.utf8First:DataW Unit)=Lib.tabData .u8 ((List.range 256).map fun c=>((Lib.firstT c:Nat):Int))by kernel_rfl];rfl
  rw[e]at a;have G:=Lib.tabIs_of_head (show VI.globalNamed "unicode/utf8.first" =some 2 by kernel_rfl) (show _=some 207 by kernel_rfl) underlying207 underlying5 (by kernel_rfl) (by kernel_rfl) a;intro c b;rw[G.cell (by kernel_rfl) c (by simpa using b)];simp[List.getD,b]
 ·obtain⟨N,P,M,Z,Q,O,p,b,E⟩:=lU (k:=9) (d:=.agg (qq.map fun x=>.agg [.lit (.int .u8 x.1),.lit (.int .u8 x.2)])) h rfl (show VI.globalNamed "unicode/utf8.acceptRanges" =some 3 by kernel_rfl) (show _=some 247 by kernel_rfl);have z:VI.cellsOf 246=2:=by kernel_rfl
  have C:VI.cellsOf 5=1:=by kernel_rfl
  have r:qq.length=16:=rfl;obtain⟨w,m,-,d,S,H,q⟩:=DataW.trod_array underlying247 E;rw[z]at q;injection d with d _;injection d with d;intro k i;have a:=q k i;obtain⟨y,u⟩:∃y,w[k]?=some y:=⟨w[k],by simp[H,i]⟩;rw[u]at a;obtain⟨z0,z1,U,t,T,l,n⟩:=trod_struct2 underlying246 a;dsimp only at l n;rw[C]at l n;obtain⟨X,I,K,-⟩:=Xm underlying5 l;obtain⟨Y,J,L,-⟩:=Xm underlying5 n;rw[K,L]at t;have j:=congrArg (·[k]?) d;have F:qq[k]'(by rw[r];exact i)=(Lib.accLo k,Lib.accHi k):=by simp[qq]
  simp[i,r,u,t,F]at j;have a0:=congrArg (·[0]?) I;have o:=congrArg (·[0]?) J;simp[List.getElem?_drop]at a0 o;rw[b,b,Nat.mul_comm 2 k,a0,o,j.1,j.2];exact⟨rfl,rfl⟩
theorem Hs{W:World}(h:laidMet VI listed W)(l:20<=W.heap.size)(s:ByteArray):gL W s:=by intro d a;obtain⟨k,t2⟩:=TG h;have e:Lib.Utf8Tabs 2 3 d:=⟨fun c j=>(a.cell (p:=⟨2,c,none⟩) (by show 2<_;omega) id).trans (k c j),fun i hi=>⟨(a.cell (p:=⟨3,_,none⟩) (by show 3<_;omega) id).trans (t2 i hi).1,(a.cell (p:=⟨3,_,none⟩) (by show 3<_;omega) id).trans (t2 i hi).2⟩⟩;exact(Tryz.utf8_DecodeRuneInString s d e).mono fun _ _⟨h1,h2⟩=>⟨h1,aa.eO h2 fun b h1 h2=>absurd h2 (by omega)⟩
end
end Go.Proofs.YtmddhediccmhbaaGreatDoor
