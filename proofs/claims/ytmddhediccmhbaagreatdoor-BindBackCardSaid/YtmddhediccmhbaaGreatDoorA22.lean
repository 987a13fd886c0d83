/- package bind: print and read. -/
import Derived.Lib.TrimU
import Derived.Test.YtmddhediccmhbaaGreatDoorA21
set_option linter.all false
set_option maxHeartbeats 400000000
set_option maxRecDepth 100000
namespace Go.Proofs.YtmddhediccmhbaaGreatDoor
open Go.RowKit
open Go.Proofs.Tryz
open And renaming intro→VJ
open _root_.Array renaming getElem?_eq_some_iff→VV
open BinOp renaming and→XJ
open Function renaming comp_def→W6
open IntKind renaming i64→VL
open Lib renaming hid→VH
open List renaming all_eq_true→Wj
open List renaming append_nil→Wl
open List renaming drop_eq_getElem_cons→Wm
open List renaming getElem_mem→VZ
open List renaming length→Xn
open List renaming length_append→VK
open List renaming length_cons→VM
open List renaming length_map→V0
open List renaming length_singleton→VY
open List renaming map_cons→V8
open List renaming map_map→W8
open List renaming mem_map→V'
open List renaming mem_singleton→VU
open List renaming take_of_length_le→V2
open Nat renaming le_refl→VN
open Nat renaming le_succ→WN
open Nat renaming le_trans→VS
open Nat renaming lt_of_lt_of_le→VO
open Go.Proofs.Tryz renaming prog→VI
variable {w w':World}{k n:Nat}{v u z tx:Value}{s:ByteArray}{t:TypeId}{a:UInt8}{E:List Value}{O:Option Addr}{F:Array Value}{P:Program}
section
open Lx(Bytes)
open Go.Maps(Keyed)
namespace Bx
def others(m:List BV)(p:Pl):List BV:=m.filter fun y=>!decide (cu y=p)
theorem rS:∀{m:List BV},jD m->∀p,(others m p).length+(if(bh m p).isSome then 1 else 0)=m.length
|[],_,p=>rfl
|y::m,h,p=>by
  obtain⟨d,i⟩:=List.pairwise_cons.1 h;have c:=rS i p;by_cases e:cu y=p
  ·have j:bh m p=none:=rj.2 fun x k q=>d x k (e.trans q.symm);rw[j]at c;have a:others (y::m) p=others m p:=by simp[others,e]
   have b:bh (y::m) p=some y:=by simp[bh,e]
   rw[a,b];simp at c⊢;omega
  ·have a:others (y::m) p=y::others m p:=by simp[others,e]
   have b:bh (y::m) p=bh m p:=by simp[bh,e]
   rw[a,b,VM,VM];omega
theorem nH{m:List BV}{p:Pl}{y:BV}:y∈others m p↔y∈m/\cu y≠p:=by simp[others]
theorem vi{m:List BV}(h:jD m)(p:Pl):jD (others m p):=h.filter _
theorem CP{m:List BV}(h:jD m)(p q:Pl):bh (others m p) q=if q=p then none else bh m q:=by
 by_cases e:q=p;. rw[if_pos e,rj];intro x b;rw[e];exact(nH.1 b).2
 ·rw[if_neg e];cases a:bh m q with|none=>rw[rj]at a⊢;exact fun x b=>a x (nH.1 b).1|some x=>obtain⟨d,c⟩:=(lT h).1 a;exact(lT (vi h p)).2 ⟨nH.2 ⟨d,by rw[c];exact e⟩,c⟩
theorem CR(m:List BV)(t:Bytes)(k:Ky):(others m (t,k)).map (·.1)=drop (m.map (·.1)) t k:=by
 rw[drop,List.filter_map];congr 1;refine List.filter_congr fun y _=>?_;have :decide (cu y=(t,k))=same t k y.1:=by rw[Bool.eq_iff_iff,decide_eq_true_eq,fE]
 simp[this]
theorem AL(b:Bd):∀T:List Bd,(ins b T).Perm (b::T)
|[]=>.refl _
|y::T=>by
  unfold ins;split;. exact .refl _
  ·exact((AL b T).cons y).trans (.swap b y T)
section
variable{H:Type}
end
def eo(b:Bd):Bd:={b with list:=Px.aQ b.list}
end Bx
theorem SO(G:List (List Px.ag)):Px.aQ (Px.aQ G)=Px.aQ G:=by simp[Px.aQ,Px.strip,W8,W6]
section
variable{w w':World}{P M:Nat}{T:List Bx.Bd}{m:List Bx.BV}{D:DataW Value}
theorem cR.len(h:cR w M T m D):m.length=T.length:=by have :=h.perm.length_eq;rwa[V0]at this
theorem cR.put(h:cR w M T m D){b:Bx.Bd}(n:iC b)(E:(Bx.find T b.table b.key).isSome=true∨T.length<500){v:Value}(G:w'.ownsMap VI 68 fJ M (m.length+1) (D.put (eD (Bx.place b)) (.held v)))(H:aa (af M) w w')(I:gK w' (M+1) v b):cR w' M (Bx.put T b) ((b,v)::Bx.others m (Bx.place b)) (D.put (eD (Bx.place b)) (.held v)):=by
 have r:=n.ok;have l:Maps.Tidy D:=h.map.own.tidy A.kX
 have F:∀p,Bx.bh ((b,v)::Bx.others m (Bx.place b)) p=if p=Bx.place b then some (b,v)else Bx.bh m p:=by
  intro p;have o:=Bx.CP h.map.apart (Bx.place b) p;by_cases e:p=Bx.place b;. rw[if_pos e];simp[Bx.bh,Bx.cu,e]
  ·rw[if_neg e]at o⊢;rw[<-o];have z:¬Bx.place b=p:=fun q=>e q.symm;simp[Bx.bh,Bx.cu,z]
 have u:Maps.size (D.put (eD (Bx.place b)) (.held v))=((b,v)::Bx.others m (Bx.place b)).length:=by
  have d:=Bx.rS h.map.apart (Bx.place b);rw[Maps.size_put l,(h.map.agree _ r).1,h.map.size,VM];split;. rename_i hs;rw[if_pos hs]at d;omega
  ·rename_i hs;rw[if_neg hs]at d;omega
 have t:(((b,v)::Bx.others m (Bx.place b)).map (·.1)).Perm (Bx.put T b):=by rw[V8];have e:(Bx.others m (Bx.place b)).map (·.1)=Bx.drop (m.map (·.1)) b.table b.key:=Bx.CR m b.table b.key;rw[e];refine List.Perm.trans ?_ (Bx.AL b (Bx.drop T b.table b.key)).symm;exact(h.perm.filter _).cons b
 refine⟨⟨u▸Px.tight G,h.map.agree.put A.uC l.isMap (x:=(b,v)) r F,?_,u⟩,t,Bx.Qw b h.sorted,?_,?_,?_⟩;. refine List.pairwise_cons.2 ⟨fun y J e=>(Bx.nH.1 J).2 e.symm,Bx.vi h.map.apart _⟩
 ·intro x a;rcases Bx.o0.1 a with rfl|a;. exact n
  ·exact h.bz x (List.mem_filter.1 a).1
 ·intro x a;rcases List.mem_cons.1 a with rfl|a;. exact I
  ·obtain⟨C,Z,d,j,k⟩:=h.each x (Bx.nH.1 a).1;exact⟨C,Z,d,j.aC H fun c e=>by have e:c=M:=e;omega,k⟩
 ·have d:=Bx.rS h.map.apart (Bx.place b);have j:=t.length_eq;rw[V0,VM]at j;have k:=h.len;have K:=h.few;rcases E with i|i;. rw[h.get,Option.isSome_map]at i;have i:(Bx.bh m (Bx.place b)).isSome=true:=i;rw[if_pos i]at d;omega
  ·omega
theorem sq(h:w.mapTurned w' M):aa (af M) w w':=(aa.refl (af M) w).grown h.grown fun b _ e=>by injection e with e;exact e.symm
end
open Lx(Bytes)
theorem bY.ne{T:List Bx.Bd}(h:bY w k n T):k≠n:=by rintro rfl;obtain⟨m,D,c⟩:=h.cI;obtain⟨es,d,b,-⟩:=c.map.own;have a:=h.ptr;unfold ad at a;rw[b]at a;cases a
theorem ND{T:List Bx.Bd}{t:Bytes}{b:Bx.Ky}(h:mB w k T t b v):∃n i j m l c e d,v=.agg #[.string n,.int .i64 i,.int .i64 j,.bool m,.string l,.slice c e d]:=by obtain⟨p,Z,rfl,a,-⟩:=h.at_;obtain⟨A,o,rfl⟩:=aE a.outer;exact⟨_,_,_,_,_,_,_,_,rfl⟩
open Lx(Bytes)
theorem OD(s:ByteArray)(w:World)(c:s.size<=9223372036854775807):Calls VI 41 #[.string s,.string ⟨Bx.gC.toArray⟩] w fun e w'=>e=.returned (.string ⟨(Lib.trimS (sl s) Bx.gC).toArray⟩)/\aa ab w w':=(Any.strings_Trim_ascii Tryz.uI A.E1 (by kernel_rfl) s ⟨Bx.gC.toArray⟩ w c (by simp[ByteArray.size,Bx.gC]) (by
 intro j b a;have :b∈Bx.gC:=List.mem_of_getElem? a;have h:∀b∈Bx.gC,b.toNat<128:=by decide
 exact h b this)).mono fun _ _⟨h1,h2⟩=>⟨h1,aa.eO h2 fun b h1 h2=>absurd h2 (by omega)⟩
theorem Te(s:ByteArray)(w:World)(q:s.size<=9223372036854775807):Calls VI 16 #[.string s] w fun e w'=>e=.returned (.bool (Bx.fw (sl s)))/\aa ab w w':=by
 have c:Bx.fw (sl s)=(!(sl s).isEmpty&&decide ((sl s).length<=64)&&(sl s).all (Bx.gC.contains ·)):=rfl;by_cases d:sl s=[]
 ·have a:Bx.fw (sl s)=false:=by rw[c,d];rfl
  rw[a];have k:s.toList.isEmpty=true:=by rw[aS,d];rfl
  clear c a d;go_enter func16,ntmps16;go_wp2_with fail;go_ret;exact⟨rfl,aa.refl _ _⟩
 have k:s.toList.isEmpty=false:=by rw[aS,List.isEmpty_eq_false_iff];exact d
 by_cases h:s.size<=64
 ·have p:decide ((s.size:Int)<=64)=true:=decide_eq_true (by omega);have a:Bx.fw (sl s)=(sl s).all (Bx.gC.contains ·):=by rw[c,<-aS,k,aS,aL,decide_eq_true h];rfl
  rw[a];have j:=VH (OD s w q);have i:=wT (sl s) Bx.gC;generalize(sl s).all (Bx.gC.contains ·)=b at i⊢;generalize n:(⟨(Lib.trimS (sl s) Bx.gC).toArray⟩:ByteArray)=u at j;have l:sl u=Lib.trimS (sl s) Bx.gC:=by rw[<-n];rfl
  have r:(u.toList==([]:List UInt8))=b:=by rw[Bool.eq_iff_iff,beq_iff_eq,aS,l];exact i
  clear c a d i n l;go_enter func16,ntmps16;go_wp2_with fail;refine j.out.mono ?_;rintro e t⟨rfl,m⟩;have o:=VH m;clear m;go_wp2_with fail;go_ret;exact⟨rfl,o.out⟩
 ·have p:decide ((s.size:Int)<=64)=false:=decide_eq_false (by omega);have a:Bx.fw (sl s)=false:=by rw[c,aL,decide_eq_false h];simp
  rw[a];clear c a d h;go_enter func16,ntmps16;go_wp2_with fail;go_ret;exact⟨rfl,aa.refl _ _⟩
end
section
open Lx(Bytes)
structure dQ(w:World)(B:Nat)(v:Value)(L:List BG):Prop where
 own:w.ownsRow B 36 6 v L.length (dF L)
 each:∀x∈L,∃Z,aD w B (kN x) Z/\aq Z=x.1.list
theorem aD.other{B:Nat}{Z:List (Value×List CQ)}{size:Nat}(h:aD w B u Z)(d:w.ownsRow k 36 size v n E)(a:w.grownBy w' v.ownBlock):aD w' B u Z:=by have i:aa (fun b=>v.ownBlock=some b) w w':=(aa.refl _ w).grown a fun _ _ e=>e;exact⟨i.own h.outer fun g a e=>bS h.outer d (by decide) g a e,fun z c=>i.own (h.inner z c) fun g a e=>bS (h.inner z c) d (by decide) g a e,fun z c q hq=>⟨i.own (h.rows z c q hq).flags fun g a e=>bS (h.rows z c q hq).flags d (by decide) g a e,i.own (h.rows z c q hq).args fun g a e=>bS (h.rows z c q hq).args d (by decide) g a e⟩⟩
theorem dQ.still{w b:World}{B:Nat}{v:Value}{L:List BG}(h:dQ w B v L)(a:aa ab w b):dQ b B v L:=⟨a.own h.own fun _ _=>id,fun x e=>by obtain⟨Z,c,d⟩:=h.each x e;exact⟨Z,c.still a,d⟩⟩
theorem dQ.bU{w:World}{B a:Nat}{v:Value}{L:List BG}(h:dQ w B v L)(hB:a<=B):dQ w a v L:=⟨dX h.own hB,fun x d=>by obtain⟨Z,b,c⟩:=h.each x d;exact⟨Z,b.bU hB,c⟩⟩
theorem dQ.push{w2:World}{B:Nat}{L:List BG}{x:BG}(h:dQ w B v L){Z:List (Value×List CQ)}(k:aD w B (kN x) Z)(j:aq Z=x.1.list)(i:w2.ownsRow B 36 6 u (L.length+1) (dF L++dE x))(b:w.grownBy w2 v.ownBlock):dQ w2 B u (L++[x]):=by
 refine⟨by rw[VK,VY,show dF (L++[x])=dF L++dE x by simp[dF]];exact i,fun y a=>?_⟩;rcases List.mem_append.1 a with a|a;. obtain⟨c,d,e⟩:=h.each y a;exact⟨c,d.other h.own b,e⟩
 ·rw[VU.1 a];exact⟨Z,k.other h.own b,j⟩
theorem grown_of(h:aa ab w w'):w.grownBy w' none:=⟨h.os,h.tape,h.output,h.size,fun i hi _=>h.block i hi id⟩
structure oj(w wr:World)(M it:Nat)(m:List Bx.BV)(D:DataW Value)(left:Lit->Bool)(cnt:Nat)(acc:List Bx.BV)(L:List BG)(v:Value):Prop where
 iter:wr.ranges VI 68 fJ M it m.length D left cnt
 kE:Bx.dB dK eD D m left acc
 row:dQ wr (it+1) v L
 same:L.map (·.1)=acc.map (·.1)
 few:acc.length+cnt<=m.length
 turns:aa ab w wr
 low:w.heap.size<=it
 size:it+1<=wr.heap.size
theorem Ue(Y:P=VI)(w:World){N:Array Oper}{rest:List Oper}{o:Oper}{a:Act}{Q:Exit->Act->World->Prop}(hg:o.guard=none)(K:Operand)(a1:o.op=Op.next K false)(b u M:Nat)(D:DataW Value)(E:Lit->Bool)(F:Nat)(ar:a.eval K=.pointer (some ⟨u,0,none⟩))(h:w.ranges P 68 fJ b u M D E F)(U:F=0->(∀C,E C=false)->wpList P N Q rest (a.put o.dst (.tuple #[.bool false])) w)(X:∀(d:ByteArray)(i j:Int)(x:sN)(l:World)(G:Nat),dK (sl d,⟨i,j⟩)->E (eD (sl d,⟨i,j⟩))=true->(∀O,D.atKey (eD (sl d,⟨i,j⟩)) O=.held (.agg #[.string x.t,.int .i64 x.c,.int .i64 x.m,.bool x.r,.string x.n,.slice x.A x.k x.p]))->l.ranges P 68 fJ b u M D (fun z=>E z&&!z.sameKey (eD (sl d,⟨i,j⟩))) G->G<F->w.grownBy l (some u)->l.heap.size=w.heap.size->(Instr.entry (.pointer (some ⟨u,0,none⟩))).run P l=.ok (.tuple #[.agg #[.string d,.int .i64 i,.int .i64 j],.agg #[.string x.t,.int .i64 x.c,.int .i64 x.m,.bool x.r,.string x.n,.slice x.A x.k x.p]]) l->wpList P N Q rest (a.put o.dst (.tuple #[.bool true,.agg #[.string d,.int .i64 i,.int .i64 j],.agg #[.string x.t,.int .i64 x.c,.int .i64 x.m,.bool x.r,.string x.n,.slice x.A x.k x.p]])) l):wpList P N Q (o::rest) a w:=by
 subst Y;refine wpList_next_ranges w hg K a1 68 A.kX fJ (fun x:ByteArray×Int×Int=>.agg #[.string x.1,.int .i64 x.2.1,.int .i64 x.2.2]) oD (fun key C I=>by obtain⟨d,i,j,rfl,-⟩:=De I;exact⟨(d,i,j),rfl⟩) (fun v y q=>(zy q).1) b u M D E F ar h U ?_;intro x i C y l G I hl q Z a6 aA al a7 ai;obtain⟨d,J,L⟩:=x;obtain⟨t2,c2,m2,e,S⟩:=De I;simp only[Value.agg.injEq,Array.mk.injEq,List.cons.injEq,Value.string.injEq,Value.int.injEq,true_and,and_true]at e;obtain⟨rfl,rfl,rfl⟩:=e;have av:C=eD (sl d,⟨J,L⟩):=by have T:=nj S;have H:keyOf VI 68 (Bx.jZ (sl d,⟨J,L⟩))=some C:=I;rw[T]at H;injection H with H;exact H.symm
 subst av;have hy:y.1=.held (oD i):=by rw[Il]at q;injection q with q;rw[<-q]
 exact X d J L i l G S hl (fun O=>(Z O).trans hy) a6 aA al a7 ai
open Lx(Bytes)
theorem A.JW:(VI.info? 36).map (fun i=>(i.zero,i.size,i.bytes))=some (some oh,6,80):=by kernel_rfl
theorem oj.still{w wr i:World}{M d:Nat}{m:List Bx.BV}{D:DataW Value}{e:Lit->Bool}{c:Nat}{b:List Bx.BV}{L:List BG}{v:Value}(h:oj w wr M d m D e c b L v)(a:aa ab wr i):oj w i M d m D e c b L v:=⟨h.iter.kept (grown_of a) (by simp) (by simp),h.kE,h.row.still a,h.same,h.few,h.turns.same a,h.low,VS h.size a.size⟩
theorem yd{T:List Bx.Bd}(h:bY w k n T):Calls VI 8 #[.pointer (some ⟨k,0,none⟩),.string ⟨#[]⟩] w fun e w'=>∃Ag cp L,e=.returned (.slice Ag L.length cp)/\dQ w' w.heap.size (.slice Ag L.length cp) L/\L.map (·.1)=T/\aa ab w w':=by
 obtain⟨m,D,N⟩:=h.cI;have j:=VH N;have ch:=N.map.own;have p0:w.cell? ⟨k,0,none⟩=some (.map (some n)):=h.ptr.cell 0;have pz:=h.ptr.lt;have ec:m.length<=500:=by rw[N.len];exact N.few
 obtain⟨i0,dq,dv,dz,d'⟩:=info_parts A.JW;clear h N;go_enter func8,ntmps8;go_wp2_with(first|(at_range;refine wpList_range_own _ rfl _ 64 rfl 68 36 A.kX underlying64 _ n m.length D rfl ch ?_;intro w0 cv b5 ds;clear ch));go_frame;have hS:oj w w0 n w.heap.size m D (Maps.has D) (Maps.size D) [] [] (.slice none 0 0):=⟨cv,Bx.dB.start j.out.map.agree j.out.map.apart fun x r=>j.out.ok r,⟨World.ownsRow_nil _ _ _ _,fun _ r=>(List.not_mem_nil r).elim⟩,rfl,by rw[j.out.map.size];simp,(aa.refl _ w).grown b5 (fun b _ e=>by cases e),VN _,by omega⟩;have bt:=VH hS;clear hS ds cv b5 p0 pz;go_loopw[5](fun v wr=>∃bm a1 aA L,oj w wr n w.heap.size m D bm a1 aA L v)(fun _ wr=>wr.rangeLeft n w.heap.size);case atStart=>exact⟨_,_,_,_,bt.out⟩
 case round=>
  obtain⟨bm,a1,aA,L,Y⟩:=hrel;obtain⟨P,X,rfl⟩:=aE Y.row.own;have a:=VH Y;have bd:=Y.iter;clear Y bt;go_wp2_with(first|(at_next;refine Ue rfl _ rfl _ rfl n w.heap.size m.length D bm a1 rfl bd ?_ ?_))
  ·intro dk b';have hp:=a.out.kE.perm j.out.map.apart b';have cn:(L.map (·.1)).Perm T:=by rw[a.out.same];exact(hp.map _).trans j.out.perm
   have de:L.length<=500:=by have q:=congrArg Xn a.out.same;rw[V0,V0]at q;have :=a.out.few;omega
   have bw:=VH (Sd a.out.row.own cn j.out.sorted (by omega));clear hp cn b' bd dk;go_wp2_with fail;refine bw.out.mono ?_;rintro e w'⟨rfl,L2,a6,bA,O,I⟩;have d:=VH (VJ a6 (VJ bA (VJ O I)));have bb:=a6.length_eq;clear a6 bA O I bw;go_wp2_with fail;go_ret;refine⟨P,X,L2,by rw[bb];rfl,?_,d.out.2.1,a.out.turns.grown d.out.2.2.2 fun b hb e=>?_⟩;. refine dQ.bU ⟨by rw[bb];rw[bb]at d;exact d.out.2.2.1,fun x r=>?_⟩ (show w.heap.size<=w.heap.size+1 by omega);obtain⟨Z,q,J⟩:=a.out.row.each x (d.out.1.mem_iff.1 r);exact⟨Z,q.other a.out.row.own d.out.2.2.2,J⟩
   ·have :=(a.out.row.own.lt b e).1;omega
  ·intro t c ar x l dd cg cb al cw ca a8 cA dp;obtain⟨y,hy,dh,bl,b4⟩:=a.out.kE.step A.uC j.out.map.agree j.out.map.apart (fun x r=>j.out.ok r) cg cb al;obtain⟨gv,Z,dc,a',cq⟩:=j.out.each y hy;rw[dc]at bl;obtain⟨H,C,E,G,F,vA,vk,vp⟩:=x;simp only[b_,ah,Value.agg.injEq,Array.mk.injEq,List.cons.injEq,Value.string.injEq,Value.int.injEq,Value.bool.injEq,true_and,and_true]at bl;obtain⟨e1,e2,e3,e4,e5,rfl⟩:=bl;have b2:aa ab w l:=a.out.turns.grown a8 fun b hb e=>by injection e with e;omega
   have da:vk=Z.length:=by obtain⟨Ax,cx,ex⟩:=aE a'.outer;injection ex
   have cz:dQ l (w.heap.size+1) (.slice P L.length X) L:=by
    have cT:aa (fun b=>b=w.heap.size) wr l:=(aa.refl _ wr).grown a8 fun b _ e=>by injection e with e;exact e.symm
    refine⟨cT.own a.out.row.own fun g I e=>by have :=(a.out.row.own.lt g I).1;omega,fun x r=>?_⟩;obtain⟨i,q,J⟩:=a.out.row.each x r;exact⟨i,q.aC cT fun b e=>by omega,J⟩
   have b6:=j.out.bz _ (j.out.mem hy);have M:=VH (VJ a' (VJ cq (VJ b6 da)));have u:=VH (VJ b4 (VJ cw (VJ b2 (VJ cz (VJ ca cA)))));have HE:=VH (show∀z,b_ y.1 z=.agg #[.string H,.int .i64 C,.int .i64 E,.bool G,.string F,z]from fun z=>by simp only[b_,ah,e1,e2,e3,e4,e5]);have ed:w.heap.size<l.heap.size:=by have :=a.out.size;omega
   clear bd b4 cg cb al cw ca a8 cA e1 e2 e3 e4 e5 dh dc a' cq b2 cz b6 da;have Q:=VH (ad.new (l.alloc (.cells #[.string t,.int .i64 c,.int .i64 ar] 68)) 36 #[.string H,.int .i64 C,.int .i64 E,.bool G,.string F,.slice vA vk vp]);rw[show(l.alloc (.cells #[.string t,.int .i64 c,.int .i64 ar] 68)).heap.size=l.heap.size+1 by simp[go_sem]]at Q;have S:=VH (((aa.refl ab l).alloc (.cells #[.string t,.int .i64 c,.int .i64 ar] 68)).alloc (.cells #[.string H,.int .i64 C,.int .i64 E,.bool G,.string F,.slice vA vk vp] 36));dsimp only at dp⊢;go_wp2_with fail;generalize(l.alloc (.cells #[.string t,.int .i64 c,.int .i64 ar] 68)).alloc (.cells #[.string H,.int .i64 C,.int .i64 E,.bool G,.string F,.slice vA vk vp] 36)=w7 at Q S⊢;refine(qu (w:=w7) (Z:=Z) (M.out.1.still (u.out.2.2.1.same S.out)).rd (dj.bare (by rw[M.out.2.1];exact M.out.2.2.1.list))).mono ?_;rintro e w8⟨eb,i,rfl,a7,cj,ht⟩;obtain⟨o,p,rfl⟩:=aE a7.outer;have T8:=VH (S.out.same ht);have B8:=VH (ht.blk Q.out id);have bn:=VH (VJ a7 cj);obtain⟨x0,x1,x2,x3,x4,x5,xf,xz⟩:=bM B8.out;have f5:=xf 5;clear xf ht a7 cj;go_upto_region 7 with fail;have B9:=VH (B8.out.aj 5 (.slice o i.length p));have U:=VH (T8.out.setCell (p:=⟨l.heap.size+1,5,none⟩) (.inr (WN _)) (.slice o i.length p));have bx:=bn.out.1.aC ((aa.refl (af (l.heap.size+1)) w8).setCell (p:=⟨l.heap.size+1,5,none⟩) (.inl rfl) (.slice o i.length p)) fun b e=>by have e:b=l.heap.size+1:=e;have :=Q.out.lt;omega
   have bs:=VH (VJ bx bn.out.2);clear x0 x1 x2 x3 x4 x5 f5 xz bx;generalize w8.setCell ⟨l.heap.size+1,5,none⟩ (.slice o i.length p)=w9 at*;obtain⟨x0,x1,x2,x3,x4,x5,xf,xz⟩:=bM B9.out;have de:L.length+1<=501:=by have q:=congrArg Xn a.out.same;rw[V0,V0]at q;have :=a.out.few;omega
   have ai:=(aa.refl ab w9).alloc (.cells #[.string H,.int .i64 C,.int .i64 E,.bool G,.string F,.slice o i.length p] 36);have b0:=(u.out.2.2.2.1.still U.out).still ai;have b1:=fC (size:=6) underlying38 (ad.new w9 36 #[.string H,.int .i64 C,.int .i64 E,.bool G,.string F,.slice o i.length p]) 1 1 rfl (by simp[Value.oneCell']);have cc:L.length+1<=maxLen:=by simp only[maxLen];omega
   have db:((L.length+1)+(L.length+1+768)/4+512)*80<=281474976710656:=by omega
   have b3:w.heap.size+1<=(w9.alloc (.cells #[.string H,.int .i64 C,.int .i64 E,.bool G,.string F,.slice o i.length p] 36)).heap.size:=by have :=U.out.size;have :=ai.size;omega
   have d:=VH (VJ b0 (VJ b1 (VJ cc (VJ db b3))));have av:=VH ai;clear xf ai b0 b1 cc db b3;go_wp2_with(first|(at_builtin;refine aX _ rfl (.tmp 30) (.tmp 32) _ _ rfl (w.heap.size+1) 36 i0 _ 6 80 underlying38 dq dv dz d' rfl (.slice P L.length X) L.length (dF L) rfl d.out.1.own _ 1 _ rfl d.out.2.1 d.out.2.2.1 d.out.2.2.2.1 d.out.2.2.2.2 ?_;intro A1 ea ee O I al;have K:=VH (VJ I O);clear O I al));have bc:∀b,b<=w.heap.size->some b≠(Value.slice P L.length X).ownBlock:=fun b hb e=>by have :=(d.out.1.own.lt b e.symm).1;omega
   have hM:n<=w.heap.size:=Nat.le_of_lt j.out.map.lt;have b7:=(u.out.2.1.kept (grown_of (U.out.same av.out)) (by simp) (by simp)).kept K.out.1 (bc _ hM) (bc _ (VN _));have HI:=VH b7;clear b7 bc hM;go_roundw
   case rel=>
    refine⟨_,dd,aA++[y],L++[(y.1,o,i.length,p)],⟨HI.out,u.out.1,?_,?_,?_,?_,VN _,?_⟩⟩
    ·refine d.out.1.push (x:=(y.1,o,i.length,p)) (Z:=i) ((bs.out.1.bU ?_).still av.out) ?_ ?_ K.out.1;. have q:=u.out.2.2.2.2.2;have J:=a.out.size;have h3:=S.out.size;omega
     ·show aq i=y.1.list;rw[bs.out.2,M.out.2.1,M.out.2.2.1.bare]
     ·have e:dE (y.1,o,i.length,p)=[.string H,.int .i64 C,.int .i64 E,.bool G,.string F,.slice o i.length p]:=by have h:=HE.out (.slice o i.length p);simp only[b_]at h;injection h with h;exact congrArg Array.toList h
      rw[e];exact K.out.2
    ·rw[List.map_append,List.map_append,a.out.same];rfl
    ·have q:=a.out.few;have J:=u.out.2.2.2.2.1;rw[VK,VY];omega
    ·refine(u.out.2.2.1.same (U.out.same av.out)).grown K.out.1 fun b hb e=>?_;have :=(d.out.1.own.lt b e).1;omega
    ·have q:=d.out.2.2.2.2;have J:=K.out.1.size;omega
   case measure=>rw[HI.out.left_eq,a.out.iter.left_eq];exact u.out.2.2.2.2.1
end
section
open Lx(Bytes)
theorem yL:∀l:List Bytes,Lx.cat l=Lx.jn l
|[]=>rfl
|x::r=>by
  have h:Lx.fj r=Lib.joinTail [32] (r.map Lx.aZ):=by induction r with|nil=>rfl|cons y r a=>simp[Lx.fj,Lib.joinTail]<;>rfl
  rw[Lx.jn,V8,Lib.join_cons,Lx.cat,h]
structure qd(b:Bx.Bd):Prop where
 bz:iC b
 size:(Px.print b.list).length<=100000
 each:∀g∈b.list,∀c∈g,p_ c
theorem A.Is:∀args w,(callFunc 30 args).run VI w=.ok (.enter 30 args) w:=enters_of func30 (by kernel_rfl) rfl
theorem Pp(w:World)(l:List Bytes)(a:l.length<=maxLen):(w.alloc (.cells (l.map ah).toArray 9)).ownsRow w.heap.size 9 1 (.slice (some ⟨w.heap.size,0,none⟩) l.length l.length) l.length (l.map ah):=⟨by simp,.inr ⟨w.heap.size,l.length,(l.map ah).toArray,rfl,VN _,ad.new w _ _,VN _,a,by simp,by rw[Nat.mul_one];exact V2 (by simp)⟩⟩
theorem dr.made(w:World)(l:List Bytes)(a:l.length<=maxLen):dr w l (.slice (some ⟨w.heap.size,0,none⟩) l.length l.length) (w.alloc (.cells (l.map ah).toArray 9)):=⟨Pp w l a,(aa.refl _ w).alloc _⟩
theorem dr.more{wr:World}{L l:List Bytes}(h:dr w L v wr)(a:wr.grownBy w' v.ownBlock)(c:w'.ownsRow w.heap.size 9 1 u (L.length+l.length) (L.map ah++l.map ah)):dr w (L++l) u w':=by refine⟨by rw[VK,List.map_append];exact c,h.turns.grown a fun b d e=>?_⟩;have :=h.own.lt b e;omega
theorem Sv(w:World)(l:List Bytes):Src VI 1 51 (.slice (some ⟨w.heap.size,0,none⟩) l.length l.length) l.length (l.map ah) (w.alloc (.cells (l.map ah).toArray 9)):=fC (size:=1) underlying51 (ad.new w 9 (l.map ah).toArray) l.length l.length (by simp) (by intro u a;simp at a;obtain⟨s,-,rfl⟩:=a;rfl)
theorem dr.strs{wr:World}{L:List Bytes}(h:dr w L v wr)(k:Lx.cost L<=3200000):∃a:List ByteArray,mG wr wr.heap.size v a/\a.map sl=L:=by
 refine⟨L.map fun s=>⟨s.toArray⟩,⟨?_,by rw[W8];simpa[W6,sl]using k⟩,by rw[W8];exact List.map_id'' (fun s=>rfl) L⟩;rcases h.own.2 with⟨rfl,c⟩|⟨g,b,l,rfl,m,d,_⟩;. exact⟨none,0,by rw[V0,c],fun j=>by rw[V0]at j;omega⟩
 ·refine⟨_,b,by rw[V0],fun _=>⟨g,0,rfl,(VV.1 d).1,fun i hi=>?_⟩⟩;rw[Nat.zero_add,h.own.cellAt _ (by simpa using hi)];have e:i<L.length:=by simpa using hi
  simp[e]
theorem Dk:∀G:List (List Px.ag),Px.print G=[]∨∃t,Px.print G=t++[10]
|[]=>.inl rfl
|g::G=>by
  have e:Px.print (g::G)=Px.cG g++Px.print G:=rfl;rcases Dk G with h|⟨t,h⟩
  ·rw[e,h,Wl]
   have key:∀F:List Bytes,(if F=[]then([]:Bytes)else Px.aW F++[10])=[]∨∃t,(if F=[]then([]:Bytes)else Px.aW F++[10])=t++[10]:=by
    intro F;split;. exact .inl rfl
    ·exact .inr ⟨_,rfl⟩
   exact key _
  ·right;exact⟨Px.cG g++t,by rw[e,h,List.append_assoc]⟩
theorem Tl(G:List (List Px.ag))(h:Px.print G≠[]):Lib.trimSuffix (Px.print G) [10]=(Px.print G).dropLast:=by
 rcases Dk G with a|⟨t,a⟩;. exact absurd a h
 ·rw[a];unfold Lib.trimSuffix;have b:Lib.hasSuffix (t++[10]) [10]=true:=by simp[Lib.hasSuffix]
  rw[if_pos b];simp
theorem BY{b:Bx.Bd}(h:qd b):Lx.cost (Bx.bZ b)<=300000:=by
 have c:=kU h.bz.name;have d:=h.bz.note;have e:=h.size
 have i:(Bx.bE b.key).length<=30:=by
  unfold Bx.bE;have :=u5 b.key.code;split
  ·simp only[VK];have a:(if b.key.aw/4%2=1 then([67,45]:Bytes)else[]).length<=2:=by split<;>simp
   have a2:(if b.key.aw/2%2=1 then([77,45]:Bytes)else[]).length<=2:=by split<;>simp
   have a3:(if b.key.aw%2=1 then([83,45]:Bytes)else[]).length<=2:=by split<;>simp
   omega
  ·simp
 have c1:Lx.cost (if b.rep=true then([[45,114]]:List Bytes)else[])<=7:=by split<;>simp[Lx.cost]
 have c2:Lx.cost (if b.note≠[]then([[45,78],b.note]:List Bytes)else[])<=200:=by
  split;. simp[Lx.cost];omega
  ·simp[Lx.cost]
 have c3:Lx.cost (if Px.print b.list≠[]then([(Px.print b.list).dropLast]:List Bytes)else[])<=200010:=by
  split;. simp[Lx.cost];omega
  ·simp[Lx.cost]
 unfold Bx.bZ;rw[Lx.oM,Lx.oM,Lx.oM,Lx.oM];have c4:Lx.cost ([[98,105,110,100,45,107,101,121]]:List Bytes)=19:=rfl;have c5:Lx.cost ([[45,84],b.table,Bx.bE b.key]:List Bytes)<=300:=by simp[Lx.cost];omega
 omega
theorem Dm(L:List Bx.Bd)(k:Nat)(h:k<L.length)(a:Bx.right L[k].key=true):Bx.print (L.take (k+1))=Bx.print (L.take k)++(Lx.jn (Bx.bZ L[k])++[10]):=by rw[List.take_succ_eq_append_getElem h,Bx.print,Bx.print,List.flatMap_append,List.flatMap_cons,List.flatMap_nil,Wl,if_pos a,yL]
theorem Dl(L:List Bx.Bd)(c:∀b∈L,qd b):∀k,(Bx.print (L.take k)).length<=k*300001
|0=>by simp[Bx.print]
|k+1=>by
  have d:=Dl L c k;by_cases h:k<L.length;. have a:=c L[k] (VZ h);have e:=BY a;have i:=Lx.uB (Bx.bZ L[k]);rw[Dm L k h a.bz.key,VK,VK,VY];omega
  ·rw[V2 (by omega)]at d⊢;exact VS d (Nat.mul_le_mul_right _ (WN k))
def rP(r:Bool):List Bytes:=if r=true then[[45,114]]else[]
def kW(n:Bytes):List Bytes:=if n≠[]then[[45,78],n]else[]
def nF(G:List (List Px.ag)):List Bytes:=if Px.print G≠[]then[(Px.print G).dropLast]else[]
theorem O8(n:Bytes):(kW n).length<=2:=by unfold kW;split<;>simp
theorem Tk(cA:b9 w){B:Nat}{L:List BG}(h:dQ w B (.slice O L.length k) L)(hf:∀b∈L.map (·.1),qd b)(hL:L.length<=1000):Calls VI 10 #[.slice O L.length k] w fun e w'=>∃u:ByteArray,e=.returned (.string u)/\sl u=Bx.print (L.map (·.1))/\aa ab w w':=by
 have ca:=VH (fun W(ht:aa ab w W)=>cA.still ht);have da:=VH h;have HF:=VH hf;have dv:(L.length:Int)<=1000:=by omega
 have cz:(L.map (·.1)).length=L.length:=V0 _;have b6:=VH cz;have b5:=VH (Dl (L.map (·.1)) hf);have cj:=Lib.fresh_isBuilder 104 5 w;have HP:=VH (show jb w w.heap.size [] (w.alloc (.cells #[.pointer none,.slice none 0 0] 104))from⟨Lib.IsBuilderF.of cj,(aa.refl _ w).alloc _,VN _⟩)
 have ch:0<L.length->∃g,O=some ⟨g,0,none⟩/\g<w.heap.size/\∀a,(hk:a<L.length)->∀j,j<6->w.cell? ⟨g,a*6+j,none⟩=(dE L[a])[j]?:=by
  intro h0;rcases h.own.2 with⟨e,h1⟩|⟨g,dq,ds,e,hb,c,_⟩;. omega
  ·injection e with e1 e2 e3;subst e1 e3;refine⟨g,rfl,(VV.1 c).1,fun a hk j hj=>?_⟩;rw[h.own.cellAt _ (by omega),qv L a j hk hj]
 have HC:=VH ch;clear h hf cz cj ch cA;go_enter func10,ntmps10;go_wp2_with fail;go_loopw[10](fun i wr=>∃a:Nat,i=.int .i64 a/\a<=L.length/\jb w w.heap.size (Bx.print ((L.map (·.1)).take a)) wr)(fun i _=>L.length-(intOf i).toNat);case atStart=>exact⟨0,rfl,Nat.zero_le _,HP.out⟩
 case round=>
  obtain⟨a,rfl,hk,o⟩:=hrel;clear HP;by_cases J:a<L.length
  ·obtain⟨g,rfl,c,hc⟩:=HC.out (by omega);have cx:L[a].1∈L.map (·.1):=V'.2 ⟨L[a],VZ J,rfl⟩;have al:=HF.out _ cx;obtain⟨Z,bd,bm⟩:=da.out.each _ (VZ J);have aA:=Dm (L.map (·.1)) a (by rw[b6.out];exact J) (by rw[List.getElem_map];exact al.bz.key);rw[List.getElem_map]at aA;have ar:=b5.out (a+1);rw[aA,VK]at ar;have c0:=(o.turns.cell (p:=⟨g,a*6+0,none⟩) c id).trans (hc a J 0 (by decide));have c1:=(o.turns.cell (p:=⟨g,a*6+1,none⟩) c id).trans (hc a J 1 (by decide));have c2:=(o.turns.cell (p:=⟨g,a*6+2,none⟩) c id).trans (hc a J 2 (by decide));have c3:=(o.turns.cell (p:=⟨g,a*6+3,none⟩) c id).trans (hc a J 3 (by decide));have c4:=(o.turns.cell (p:=⟨g,a*6+4,none⟩) c id).trans (hc a J 4 (by decide));have c5:=(o.turns.cell (p:=⟨g,a*6+5,none⟩) c id).trans (hc a J 5 (by decide));have dz:g<wr.heap.size:=VO c o.turns.size;generalize L[a]=x at al bd bm aA ar c0 c1 c2 c3 c4 c5;obtain⟨b,vA,vk,vp⟩:=x;simp only[dE,kN,List.getElem?_cons_zero,List.getElem?_cons_succ,ah,Nat.add_zero]at c0 c1 c2 c3 c4 c5 bd bm aA ar al;have n:=VH (VJ al (VJ bd (VJ bm (VJ aA ar))));have X:=VH o;have cb:=VH (show ah b.table=.string ⟨b.table.toArray⟩from rfl);have bw:=VH (show sl ⟨b.note.toArray⟩=b.note from rfl);have b7:=VH (show ah b.note=.string ⟨b.note.toArray⟩from rfl);generalize(⟨b.table.toArray⟩:ByteArray)=tb at c0 cb;generalize(⟨b.note.toArray⟩:ByteArray)=S at c4 bw b7;have bc:=VH (fun W(ht:aa ab w W)=>Ks (ca.out W ht) b.key.code b.key.aw);have a1:=VH (fun W(ht:aa ab w W)=>rq (ca.out W ht) b.key.code b.key.aw);rw[show Bx.right ⟨b.key.code,b.key.aw⟩=true from al.bz.key]at a1;rw[show Bx.bE ⟨b.key.code,b.key.aw⟩=Bx.bE b.key from rfl]at bc;have a6:=VH (show Bx.bZ b=[[98,105,110,100,45,107,101,121]]++rP b.rep++kW b.note++[[45,84],b.table,Bx.bE b.key]++nF b.list from rfl);have b3:=VH (BY al);generalize b.rep=rp at c3 a6;generalize b.key.code=kc at c1 bc a1;generalize b.key.aw=km at c2 bc a1;clear o hc c cx al bd bm aA ar;have B5:=VH (ad.new wr 36 #[.string tb,.int .i64 kc,.int .i64 km,.bool rp,.string S,.slice vA vk vp]);have T5:=VH ((aa.refl ab wr).alloc (.cells #[.string tb,.int .i64 kc,.int .i64 km,.bool rp,.string S,.slice vA vk vp] 36));go_wp2_with fail;refine(a1.out _ (X.out.turns.same T5.out)).mono ?_;rintro e l⟨rfl,ht⟩;have B6:=VH (ht.blk B5.out id);have T6:=VH (T5.out.same ht);clear ht c0 c1 c2 c3 c4 c5 B5 T5 a1;obtain⟨E,K,M,F,G,H,xf,I⟩:=bM B6.out;clear xf;go_upto_if 20 with fail;obtain⟨i0,bl,bn,bs,bt⟩:=info_parts A.AF;have O7:=VH (show dr l [[98,105,110,100,45,107,101,121]] (.slice (some ⟨l.heap.size,0,none⟩) 1 1) (l.alloc (.cells #[.string ⟨#[98,105,110,100,45,107,101,121]⟩] 9))from dr.made l [[98,105,110,100,45,107,101,121]] (by decide));clear E K M F G H I;generalize l.alloc (.cells #[.string ⟨#[98,105,110,100,45,107,101,121]⟩] 9)=w7 at O7⊢;go_cut[6]from 20 to 23(fun s6 wx=>dr l ([[98,105,110,100,45,107,101,121]]++rP rp) s6 wx);case first=>cases rp with|false=>go_wp2_with fail;go_meet;exact O7.out|true=>have y:=O7.out.still ((aa.refl ab w7).alloc (.cells #[.string ⟨#[45,114]⟩] 9));have P:Src VI 1 51 (.slice (some ⟨w7.heap.size,0,none⟩) 1 1) 1 [.string ⟨#[45,114]⟩] (w7.alloc (.cells #[.string ⟨#[45,114]⟩] 9)):=Sv w7 [[45,114]];have r:l.heap.size<=(w7.alloc (.cells #[.string ⟨#[45,114]⟩] 9)).heap.size:=y.turns.size;have d:=VH (VJ y (VJ P (VJ (show 1+1<=maxLen by decide) (VJ (show((1+1)+(1+1+768)/4+512)*16<=281474976710656 by decide) r))));clear y P r;go_wp2_with(first|(at_builtin;refine aX _ rfl (.tmp 21) (.tmp 22) _ _ rfl l.heap.size 9 i0 _ 1 16 underlying51 bl bn bs bt rfl (.slice (some ⟨l.heap.size,0,none⟩) 1 1) 1 _ rfl d.out.1.own _ 1 [.string ⟨#[45,114]⟩] rfl d.out.2.1 d.out.2.2.1 d.out.2.2.2.1 d.out.2.2.2.2 ?_;intro A1 b1 w8 C c ai;have t:=VH (VJ c C);clear C c ai));go_meet;exact d.out.1.more (l:=[[45,114]]) t.out.1 t.out.2
   case rest=>
    have a7:=hcut;have cn:([[98,105,110,100,45,107,101,121]]++rP rp).length<=2:=by cases rp<;>decide
    clear hcut O7;generalize([[98,105,110,100,45,107,101,121]]++rP rp)=Q at a7 cn a6;obtain⟨A2,c2,rfl⟩:=aE a7.own;obtain⟨E,K,M,F,G,H,xf,I⟩:=bM (a7.turns.blk B6.out id);have O2:=VH a7;clear xf a7;generalize wc=w8 at O2 E K M F G H I⊢;go_upto_if 26 with fail;generalize hq:(!S.toList.isEmpty)=q;have HQ:=VH hq;clear hq;go_cut[6]from 26 to 31(fun s6 wx=>dr l (Q++kW b.note) s6 wx)
    case first=>
     cases q with
     |false=>
      have p:b.note=[]:=by have h:=HQ.out;rw[aS,bw.out]at h;simpa using h
      have U:=VH (show kW b.note=[]from if_neg (fun h=>h p));clear p;go_wp2_with fail;go_meet;rw[U.out,Wl];exact O2.out
     |true=>
      have p:b.note≠[]:=by intro e;have h:=HQ.out;rw[aS,bw.out,e]at h;cases h
      have U:=VH (show kW b.note=[[45,78],b.note]from if_pos p);clear p;have y:=O2.out.still ((aa.refl ab w8).alloc (.cells #[.string ⟨#[45,78]⟩,.string S] 9));have P:=fC (size:=1) underlying51 (ad.new w8 9 #[.string ⟨#[45,78]⟩,.string S]) 2 2 rfl (by intro u m;simp at m;rcases m with rfl|rfl<;>rfl);have r:l.heap.size<=(w8.alloc (.cells #[.string ⟨#[45,78]⟩,.string S] 9)).heap.size:=y.turns.size;have d:=VH (VJ y (VJ P (VJ (show Q.length+2<=maxLen by unfold maxLen;omega) (VJ (show((Q.length+2)+(Q.length+2+768)/4+512)*16<=281474976710656 by omega) r))));clear y P r;go_wp2_with(first|(at_builtin;refine aX _ rfl (.tmp 27) (.tmp 30) _ _ rfl l.heap.size 9 i0 _ 1 16 underlying51 bl bn bs bt rfl (.slice A2 Q.length c2) Q.length _ rfl d.out.1.own _ 2 [.string ⟨#[45,78]⟩,.string S] rfl d.out.2.1 d.out.2.2.1 d.out.2.2.2.1 d.out.2.2.2.2 ?_;intro A1 b1 w9 C c ai;have t:=VH (VJ c C);clear C c ai));go_meet;rw[U.out];refine d.out.1.more (l:=[[45,78],b.note]) t.out.1 ?_;have e:([[45,78],b.note]:List Bytes).map ah=[.string ⟨#[45,78]⟩,.string S]:=by rw[<-b7.out];rfl
      rw[e];exact t.out.2
    case rest=>
     have Y:=hcut;have cq:(Q++kW b.note).length<=4:=by rw[VK];have :=O8 b.note;omega
     clear hcut O2 E K M F G H I cn;generalize(Q++kW b.note)=l3 at Y cq a6;obtain⟨A3,c3,rfl⟩:=aE Y.own;obtain⟨E,K,M,F,G,H,xf,I⟩:=bM (Y.turns.blk B6.out id);have O3:=VH Y;have N:=VH (X.out.turns.same (T6.out.same Y.turns));have bb:=VH (Y.turns.blk B6.out id);clear xf Y;generalize wc=w9 at O3 E K M F G H I N bb⊢;go_upto_region 11 with fail;go_cut[6](fun s6 wx=>dr l (l3++[[45,84],b.table,Bx.bE b.key]) s6 wx)
     case first=>
      clear F G H;go_region_law(first|(refine pK (by rfl) 30 _ _ (by rfl) (.agg #[.int .i64 kc,.int .i64 km]) (by rfl) A.Is _ (bc.out _ (by first|exact N.out.drewN 1|exact N.out)) ?_;rintro e T⟨u,rfl,m,ht⟩;have a':=VH (VJ m ht);have E:=(ht.blk (bb.out.drewN 1) id).cell 0;have I:=(ht.blk (bb.out.drewN 1) id).lt;clear m ht;refine⟨_,rfl,?_⟩)|(refine iw _ (by rfl) _ _ _ _ (by rfl) l.heap.size 9 i0 _ 1 16 underlying51 bl bn bs bt (by rfl) (.slice A3 l3.length c3) l3.length (l3.map ah) (by rfl) (by exact((O3.out.still (((aa.refl ab w9).drewN 1).same a'.out.2)).still ((aa.refl ab T).alloc _)).own) _ 3 [.string ⟨#[45,84]⟩,.string tb,.string u] (by rfl) (by exact fC (size:=1) underlying51 (ad.new T _ _) 3 3 rfl (by intro u m;simp at m;rcases m with rfl|rfl|rfl<;>rfl)) (by simp only[maxLen];omega) (by omega) (by exact((O3.out.still (((aa.refl ab w9).drewN 1).same a'.out.2)).still ((aa.refl ab T).alloc _)).turns.size) ?_;intro A1 b1 dk C c ai;have t:=VH (VJ c C);clear C c ai))
      all_goals
       go_wp2_with fail;go_meet;refine((O3.out.still (((aa.refl ab w9).drewN 1).same a'.out.2)).still ((aa.refl ab T).alloc _)).more (l:=[[45,84],b.table,Bx.bE b.key]) t.out.1 ?_
       have e:([[45,84],b.table,Bx.bE b.key]:List Bytes).map ah=[.string ⟨#[45,84]⟩,.string tb,.string u]:=by
        have h1:ah (Bx.bE b.key)=.string u:=by rw[<-a'.out.1];rfl
        show[ah [45,84],ah b.table,ah (Bx.bE b.key)]=_;rw[cb.out,h1]
       rw[e];exact t.out.2
     case rest=>
      have av:=hcut;have de:(l3++[[45,84],b.table,Bx.bE b.key]).length<=7:=by rw[VK];simp only[VM,List.length_nil];omega
      clear hcut O3 E K M F G H I cq N bb;generalize(l3++[[45,84],b.table,Bx.bE b.key])=l4 at av de a6;obtain⟨A4,c4,rfl⟩:=aE av.own;obtain⟨E,K,M,F,G,H,xf,I⟩:=bM (av.turns.blk B6.out id);have O4:=VH av;have N:=VH (X.out.turns.same (T6.out.same av.turns));clear xf av;generalize wc=w9 at O4 E K M F G H I N⊢;go_wp2_with fail;refine(Dp (Z:=Z) (n.out.2.1.rd.still N.out) (fun z r q hq=>n.out.1.each (z.2.map (·.1)) (by rw[<-n.out.2.2.1];exact V'.2 ⟨z,r,rfl⟩) q.1 (V'.2 ⟨q,hq,rfl⟩)) ⟨(dj.bare (Z:=Z) (by rw[n.out.2.2.1];exact n.out.1.bz.list)).n,fun z r=>((dj.bare (Z:=Z) (by rw[n.out.2.2.1];exact n.out.1.bz.list)).each z r).1⟩ (by rw[n.out.2.2.1];have :=n.out.1.size;omega)).mono ?_;rintro e T⟨u,rfl,m,ht⟩;rw[n.out.2.2.1]at m;have HU:=VH m;have O5:=VH (O4.out.still ht);have dp:=VH (N.out.same ht);clear m ht O4 N E K M F G H I;go_upto_if 44 with fail;generalize hq:(!u.toList.isEmpty)=q4;have b':=VH hq;clear hq;have d':u.size<=100000:=by rw[<-aL,HU.out];exact n.out.1.size
      go_cut[6]from 44 to 49(fun s6 wx=>dr l (l4++nF b.list) s6 wx)
      case first=>
       cases q4 with
       |false=>
        have p:Px.print b.list=[]:=by have h:=b'.out;rw[aS,HU.out]at h;simpa using h
        have U:=VH (show nF b.list=[]from if_neg (fun h=>h p));clear p;go_wp2_with fail;go_meet;rw[U.out,Wl];exact O5.out
       |true=>
        have p:Px.print b.list≠[]:=by intro e;have h:=b'.out;rw[aS,HU.out,e]at h;cases h
        have U:=VH (show nF b.list=[(Px.print b.list).dropLast]from if_pos p);have b2:=Tl b.list p;rw[<-HU.out]at b2;have db:=VH (show(⟨(Lib.trimSuffix u.data.toList (⟨#[10]⟩:ByteArray).data.toList).toArray⟩:ByteArray)=⟨((Px.print b.list).dropLast).toArray⟩from by have :Lib.trimSuffix u.data.toList (⟨#[10]⟩:ByteArray).data.toList=(sl u).dropLast:=b2;rw[this,HU.out]);clear p b2;have b0:=VH (fun W=>Tryz.strings_TrimSuffix u ⟨#[10]⟩ W (by omega));rw[db.out]at b0;generalize cT:(⟨((Px.print b.list).dropLast).toArray⟩:ByteArray)=ut at b0;have dc:=VH cT;clear cT;have y:=O5.out.still ((aa.refl ab T).alloc (.cells #[.string ut] 9));have P:=fC (size:=1) underlying51 (ad.new T 9 #[.string ut]) 1 1 rfl (by intro u m;simp at m;subst m;rfl);have r:l.heap.size<=(T.alloc (.cells #[.string ut] 9)).heap.size:=y.turns.size;have d:=VH (VJ y (VJ P (VJ (show l4.length+1<=maxLen by unfold maxLen;omega) (VJ (show((l4.length+1)+(l4.length+1+768)/4+512)*16<=281474976710656 by omega) r))));clear y P r;go_wp2_with fail;refine(b0.out _).mono ?_;rintro e dk⟨rfl,hw⟩;rw[hw];clear hw;go_wp2_with(first|(at_builtin;refine aX _ rfl (.tmp 45) (.tmp 48) _ _ rfl l.heap.size 9 i0 _ 1 16 underlying51 bl bn bs bt rfl (.slice A4 l4.length c4) l4.length _ rfl d.out.1.own _ 1 [.string ut] rfl d.out.2.1 d.out.2.2.1 d.out.2.2.2.1 d.out.2.2.2.2 ?_;intro A1 b1 ea C c ai;have t:=VH (VJ c C);clear C c ai));go_meet;rw[U.out];refine d.out.1.more (l:=[(Px.print b.list).dropLast]) t.out.1 ?_;have e:([(Px.print b.list).dropLast]:List Bytes).map ah=[.string ut]:=by rw[<-dc.out];rfl
        rw[e];exact t.out.2
      case rest=>
       have a8:=hcut;clear hcut O5;rw[<-a6.out]at a8;obtain⟨ls,cw,cv⟩:=a8.strs (VS b3.out (by decide));obtain⟨A6,c6,rfl⟩:=aE a8.own;have HJ:=VH (AU cw);rw[cv]at HJ;have dd:(⟨(Lx.jn (Bx.bZ b)).toArray⟩:ByteArray).size<=300000:=by show(List.toArray _).size<=_;rw[List.size_toArray];exact VS (Lx.uB _) b3.out
       have b4:=VH (show sl ⟨(Lx.jn (Bx.bZ b)).toArray⟩=Lx.jn (Bx.bZ b)from rfl);generalize(⟨(Lx.jn (Bx.bZ b)).toArray⟩:ByteArray)=ju at HJ dd b4;have bA:=VH (X.out.still (T6.out.same a8.turns));clear cw cv a8;generalize wc=eb at HJ bA⊢;go_wp2_with fail;refine HJ.out.mono ?_;rintro e ec⟨rfl,ht⟩;have bx:=VH (bA.out.still ht);clear ht bA HJ;go_wp2_with fail;have ar:=n.out.2.2.2.2;have dh:=b5.out a;refine(mr bx.out.eB _ (by rw[qB];show _+(_+1)<=_;omega)).mono ?_;clear ar dh;rintro e ed⟨rfl,hI,cc,-⟩;have c':=VH (bx.out.wrote hI cc);clear hI cc bx;go_wp2_with fail;go_roundw;case rel=>refine⟨a+1,by go_num,J,?_⟩;have h6:=c'.out;rw[sa,b4.out]at h6;rw[n.out.2.2.2.1];exact h6
       case measure=>simp[intOf];omega
  ·obtain rfl:a=L.length:=by omega
   rw[V2 (by rw[b6.out];exact VN _)]at o;have X:=VH o;clear o;go_wp2_with fail;refine(tD X.out.eB).mono ?_;rintro e w8⟨rfl,cg⟩;have T8:=VH (X.out.turns.trans (aa.eO (S:=fun b=>w.heap.size<=b) cg fun b h1 h2=>h1) fun b hb e=>by omega);clear cg;go_wp2_with fail;go_ret;exact⟨_,rfl,rfl,T8.out⟩
end
section
open Lx(Bytes)
def gL(w:World)(s:ByteArray):Prop:=∀W,aa ab w W->Calls VI 109 #[.string s] W fun e a=>e=.returned (.tuple #[.int .i32 (Bx.br s).1,.int .i64 (Bx.br s).2])/\aa ab W a
theorem gL.still(h:gL w s)(a:aa ab w w'):gL w' s:=fun W hW=>h W (a.same hW)
theorem Hq(a:0<s.size)(b:s[0].toNat<128):Bx.br s=(s[0].toNat,1):=by have c:s.get! 0=s[0]:=Utf8W.get!_of_lt s 0 a;rw[Bx.br,if_neg (by omega),Lib.decode_at,c];simp[Lib.decodeN,b]
theorem Hr(s:ByteArray):(Bx.br s).1<=1114111:=by
 unfold Bx.br;split;. decide
 ·rw[Lib.decode_at];exact Lib.decodeN_rune_le _ _ _ _ _ (UInt8.toNat_lt _)
theorem gL.FZ(d:0<s.size)(c:s[0].toNat<128):gL w s:=by
 intro W _;rw[Hq d c];have l:(0:Int)<s.size:=by omega
 have k:s.toList.isEmpty=false:=by
  rw[aS]
  cases e:sl s with
  |nil=>
   have i:s.size=0:=by rw[<-aL,e];rfl
   omega
  |cons a b=>rfl
 have h:(s[0].toNat:Int)<128:=by omega
 have j:decide ((s[0].toNat:Int)<128)=true:=decide_eq_true h;clear c;go_enter func109,ntmps109;go_wp2_with fail;go_ret2;exact⟨rfl,aa.refl _ _⟩
theorem AA(s:ByteArray):∀(l:List Bytes)(i:Nat),Lib.idxFromS (l.map fun x=>⟨x.toArray⟩) s i=match l.idxOf? (sl s)with|some j=>((i+j:Nat):Int)|none=>-1
|[],i=>rfl
|x::l,i=>by
  have b:=AA s l (i+1);simp only[V8,Lib.idxFromS,List.idxOf?_cons];by_cases e:x=sl s
  ·have a:(⟨x.toArray⟩:ByteArray)=s:=by rw[e];rfl
   rw[if_pos a];simp[e]
  ·have a:¬(⟨x.toArray⟩:ByteArray)=s:=fun h=>e (by rw[<-h];rfl);rw[if_neg a,b];simp only[show(x==sl s)=false by simpa using e];cases l.idxOf? (sl s)with|none=>rfl|some j=>show((i+1+j:Nat):Int)=((i+(j+1):Nat):Int);rw[Nat.add_assoc,Nat.add_comm 1 j]
def iW(s:Bytes):Int:=match Bx.bH.idxOf? s with|some j=>j|none=>-1
theorem Sj(s:Bytes):iW s=-1∨∃j:Nat,iW s=j/\j<31:=by unfold iW;cases h:Bx.bH.idxOf? s with|none=>exact .inl rfl|some j=>right;refine⟨j,rfl,?_⟩;have :=(List.idxOf?_eq_some_iff.1 h).1;rwa[show Bx.bH.length=31 by decide+kernel]at this
theorem RQ(s:ByteArray)(w:World)(g:Nat)(c:ad w g 9 (Bx.bH.map ah).toArray):Calls VI 108 #[.slice (some ⟨g,0,none⟩) 31 31,.string s] w fun e b=>e=.returned (.int .i64 (iW (sl s)))/\w=b:=by
 have a:Bx.bH.length=31:=by decide+kernel
 refine(Tryz.slices_Index_string g 0 31 31 (Bx.bH.map fun l=>⟨l.toArray⟩) s _ (by simp[a]) (by decide) (fun j d=>?_)).mono ?_
 ·rw[Nat.zero_add,c.cell];have h:j<Bx.bH.length:=by simpa using d
  simp[List.getD_eq_getElem?_getD,h]
 ·rintro e b⟨rfl,rfl⟩;refine⟨?_,rfl⟩;rw[V2 (by simp[a]),Lib.idxOfS,AA,iW];cases Bx.bH.idxOf? (sl s)with|none=>rfl|some j=>simp
def oI(s:ByteArray):Int:=if iW (sl s)≠-1 then 1114112+iW (sl s)else if(Bx.br s).2=0∨(Bx.br s).2≠s.size∨((Bx.br s).1=65533/\(Bx.br s).2=1)∨Bx.named (Bx.br s).1≠sl s then-1 else(Bx.br s).1
def codeFrom(s:ByteArray):List Int->Int|[]=>oI s|c::l=>if sl s=Bx.named c then c else codeFrom s l
theorem G3(s:ByteArray):Bx.codeOf (sl s)=codeFrom s [9,13,32,127]:=by
 have e:oI s=match Bx.bH.idxOf? (sl s)with|some i=>1114112+(i:Int)|none=>if(Bx.br ⟨(sl s).toArray⟩).2=0∨(Bx.br ⟨(sl s).toArray⟩).2≠(sl s).length∨((Bx.br ⟨(sl s).toArray⟩).1=65533/\(Bx.br ⟨(sl s).toArray⟩).2=1)∨Bx.named (Bx.br ⟨(sl s).toArray⟩).1≠sl s then-1 else(Bx.br ⟨(sl s).toArray⟩).1:=by unfold oI iW;rw[aL];cases Bx.bH.idxOf? (sl s)with|none=>rfl|some j=>dsimp only;rw[if_pos (by omega)]
 unfold Bx.codeOf codeFrom codeFrom codeFrom codeFrom codeFrom;rw[e];rfl
theorem G0(s:ByteArray){l:List Int}(h:k<l.length):codeFrom s (l.drop k)=if sl s=Bx.named l[k]then l[k]else codeFrom s (l.drop (k+1)):=by rw[Wm h];rfl
def four:List Int:=[9,13,32,127]
theorem G1(K:b9 w)(s:ByteArray)(Z:gL w s)(ar:s.size<=1000000):Calls VI 64 #[.string s] w fun e w'=>e=.returned (.int .i64 (Bx.codeOf (sl s)))/\aa ab w w':=by
 rw[G3];have U:=VH (fun W(ht:aa ab w W)=>K.still ht);have HD:=VH Z;clear K Z;have z:four.length=4:=rfl;have G:=VH (ad.new w 3 (kP four).toArray);have L:=VH (show codeFrom s (four.drop 0)=codeFrom s [9,13,32,127]from rfl);generalize codeFrom s [9,13,32,127]=R at L⊢;go_enter func64,ntmps64;go_wp2_with fail;go_loopw[10](fun i wr=>∃k:Nat,i=.int .i64 k/\k<=4/\codeFrom s (four.drop k)=R/\ad wr w.heap.size 3 (kP four).toArray/\aa ab w wr)(fun i _=>4-(intOf i).toNat);case atStart=>exact⟨0,rfl,Nat.zero_le _,L.out,G.out,(aa.refl _ w).alloc _⟩
 case round=>
  obtain⟨k,rfl,hk,Q,hB,ht⟩:=hrel;have O:=VH ht;by_cases J:k<4
  ·have c0:=(hB.cell k).trans (show(kP four).toArray[k]?=some (.int .i64 (four[k]'(by rw[z];exact J)))by simp[kP,z,J]);have hz:=hB.lt;have Y:=G0 s (l:=four) (k:=k) (by rw[z];exact J);rw[Q]at Y;have N:=VH Y;have al:=VH hB;clear Q hB ht Y L G;generalize four[k]'(by rw[z];exact J)=x at c0 N;have b:=VH (rJ (U.out _ O.out) x);generalize Bx.named x=n at b N;have q:=VH (show sl ⟨n.toArray⟩=n from rfl);simp only[ah]at b;generalize(⟨n.toArray⟩:ByteArray)=u at b q;by_cases C:sl s=n
   ·have I:(u.toList==s.toList)=true:=by rw[beq_iff_eq,aS,aS,q.out,C]
    have P:R=x:=by rw[N.out,if_pos C]
    subst P;clear C;go_wp2_with fail;refine b.out.mono ?_;rintro e S⟨rfl,ht⟩;have l:=VH (O.out.same ht);clear ht;go_wp2_with fail;go_ret;exact⟨rfl,l.out⟩
   ·have I:(u.toList==s.toList)=false:=nY (by rw[q.out];exact fun e=>C e.symm);have H:=VH (show codeFrom s (four.drop (k+1))=R by rw[N.out,if_neg C]);clear C;go_wp2_with fail;refine b.out.mono ?_;rintro e S⟨rfl,ht⟩;have l:=VH (VJ (O.out.same ht) (ht.blk al.out id));clear ht;go_wp2_with fail;go_roundw;case rel=>exact⟨k+1,by go_num,J,H.out,l.out.2,l.out.1⟩
    case measure=>simp[intOf];omega
  ·have P:oI s=R:=by rw[<-Q,List.drop_eq_nil_of_le (by rw[z];omega)];rfl
   have H:=VH P;have l:=VH ht;clear P Q hB ht L G z;go_wp2_with fail;refine(D_ (by decide+kernel) (U.out _ l.out)).mono ?_;rintro e S⟨g,rfl,hB,ht⟩;have G:=VH hB;have p:=VH (l.out.same ht);clear hB ht l O;go_wp2_with fail;refine(RQ s S g G.out).mono ?_;rintro e w2⟨rfl,rfl⟩;have K:=Sj (sl s);have M:=VH (show oI s=if iW (sl s)≠-1 then 1114112+iW (sl s)else if(Bx.br s).2=0∨(Bx.br s).2≠s.size∨((Bx.br s).1=65533/\(Bx.br s).2=1)∨Bx.named (Bx.br s).1≠sl s then(-1:Int)else((Bx.br s).1:Int)from rfl);generalize iW (sl s)=si at K M⊢;rcases K with rfl|⟨j,rfl,hj⟩
   ·have a:R=if(Bx.br s).2=0∨(Bx.br s).2≠s.size∨((Bx.br s).1=65533/\(Bx.br s).2=1)∨Bx.named (Bx.br s).1≠sl s then(-1:Int)else((Bx.br s).1:Int):=by rw[<-H.out,M.out,if_neg (by decide)]
    have o:=VH (HD.out S p.out);clear M H;have ai:=Hr s;generalize Bx.br s=d at a o ai;obtain⟨r,m⟩:=d;dsimp only at a o ai;have b:=VH (fun W(ht:aa ab w W)=>rJ (U.out W ht) r);generalize Bx.named r=n at b a;have q:=VH (show sl ⟨n.toArray⟩=n from rfl);simp only[ah]at b;generalize(⟨n.toArray⟩:ByteArray)=u at b q;by_cases F:m=0;. subst F;rw[if_pos (.inl rfl)]at a;subst a;go_wp2_with fail;refine o.out.mono ?_;rintro e T⟨rfl,ht⟩;have c:=VH (p.out.same ht);clear ht;go_wp2_with fail;go_ret;exact⟨rfl,c.out⟩
    have g1:((m:Int)==0)=false:=by rw[beq_eq_false_iff_ne];omega
    by_cases t:(m:Int)=s.size
    ·have g2:((m:Int)!=s.size)=false:=by rw[bne_eq_false_iff_eq];exact t
     by_cases y:(r:Int)=65533/\(m:Int)=1
     ·have g3:((r:Int)==65533)=true:=by rw[beq_iff_eq];exact y.1
      have g4:((m:Int)==1)=true:=by rw[beq_iff_eq];exact y.2
      rw[if_pos (.inr (.inr (.inl ⟨by omega,by omega⟩)))]at a;subst a;clear F t y;go_wp2_with fail;refine o.out.mono ?_;rintro e T⟨rfl,ht⟩;have c:=VH (p.out.same ht);clear ht;go_wp2_with fail;go_ret;exact⟨rfl,c.out⟩
     have g3:(((r:Int)==65533)=false)∨(((r:Int)==65533)=true/\((m:Int)==1)=false):=by
      by_cases h:(r:Int)=65533;. exact .inr ⟨by rw[beq_iff_eq];exact h,by rw[beq_eq_false_iff_ne];exact fun h2=>y ⟨h,h2⟩⟩
      ·exact .inl (by rw[beq_eq_false_iff_ne];exact h)
     by_cases E:n=sl s
     case' pos=>
      have I:(u.toList==s.toList)=true:=by rw[beq_iff_eq,aS,aS,q.out,E]
      have d5:(u.toList !=s.toList)=false:=by rw[bne,I];rfl
      rw[if_neg (by
       rintro(h|h|h|h);. exact F h
       ·exact h (by omega)
       ·exact y ⟨by omega,by omega⟩
       ·exact h E)]at a
     case' neg=>
      have I:(u.toList==s.toList)=false:=nY (by rw[q.out];exact E);have d5:(u.toList !=s.toList)=true:=by rw[bne,I];rfl
      rw[if_pos (.inr (.inr (.inr E)))]at a
     all_goals subst a;clear E F t y;rcases g3 with g3|⟨g3,g4⟩;all_goals go_wp2_with fail;refine o.out.mono ?_;rintro e T⟨rfl,ht⟩;have c:=VH (p.out.same ht);clear ht;go_wp2_with fail;refine(b.out _ c.out).mono ?_;rintro e w4⟨rfl,ht⟩;have X:=VH (c.out.same ht);clear ht;go_wp2_with fail;go_ret;exact⟨rfl,X.out⟩
    ·have g2:((m:Int)!=s.size)=true:=by rw[bne_iff_ne];exact t
     rw[if_pos (.inr (.inl (fun e=>t (by rw[e]))))]at a;subst a;clear F t;go_wp2_with fail;refine o.out.mono ?_;rintro e T⟨rfl,ht⟩;have c:=VH (p.out.same ht);clear ht;go_wp2_with fail;go_ret;exact⟨rfl,c.out⟩
   ·have a:R=1114112+j:=by rw[<-H.out,M.out,if_pos (by omega)]
    subst a;have av:(j:Int)<31:=by omega
    go_wp2_with fail;go_ret;exact⟨rfl,p.out⟩
open Lx(Bytes)
namespace Bx
theorem uX:∀(n:Nat)(s:Bytes)(m:Int),s.length<=n->fM n s m=fM s.length s m
|0,s,m,h=>by rw[List.eq_nil_of_length_eq_zero (Nat.le_zero.1 h)];rfl
|n+1,[],m,_=>rfl
|n+1,[_],m,_=>rfl
|n+1,a::d::r,m,h=>by
  have b:r.length<=n:=by simp only[VM]at h;omega
  show(if d=45/\r≠[]/\bF a≠0 then(if m/bF a%2=1 then none else fM n r (m+bF a))else some (a::d::r,m))=(if d=45/\r≠[]/\bF a≠0 then(if m/bF a%2=1 then none else fM (r.length+1) r (m+bF a))else some (a::d::r,m));rw[uX n r _ b,uX (r.length+1) r _ (WN _)]
def jr(s:Bytes)(m:Int):Option (Bytes×Int):=fM s.length s m
theorem rH(a d:UInt8)(r:Bytes)(m:Int):jr (a::d::r) m=if d=45/\r≠[]/\bF a≠0 then(if m/bF a%2=1 then none else jr r (m+bF a))else some (a::d::r,m):=by show(if d=45/\r≠[]/\bF a≠0 then(if m/bF a%2=1 then none else fM (r.length+1) r (m+bF a))else some (a::d::r,m))=_;rw[uX (r.length+1) r _ (WN _)];rfl
theorem N'{s:Bytes}(m:Int)(h:s.length<=2):jr s m=some (s,m):=by match s,h with|[],_=>rfl|[_],_=>rfl|[a,d],_=>rw[rH,if_neg (fun h=>h.2.1 rfl)]
theorem Cr{d:UInt8}{r:Bytes}(m:Int)(h:¬d=45∨bF a=0):jr (a::d::r) m=some (a::d::r,m):=by rw[rH,if_neg (fun q=>h.elim (fun h=>h q.1) fun h=>q.2.2 h)]
theorem uU{r:Bytes}{m:Int}(d:r≠[])(b:bF a≠0)(c:m/bF a%2=1):jr (a::45::r) m=none:=by rw[rH,if_pos ⟨rfl,d,b⟩,if_pos c]
theorem uV{r:Bytes}{m:Int}(d:r≠[])(b:bF a≠0)(c:¬m/bF a%2=1):jr (a::45::r) m=jr r (m+bF a):=by rw[rH,if_pos ⟨rfl,d,b⟩,if_neg c]
def vu(r:Bytes)(m:Int):Option Ky:=let k:Ky:=⟨codeOf r,m⟩;let k:=if m/4%2=1 then iR k else k;if right k then some k else none
def x'(R:Option (Bytes×Int)):Option Ky:=match R with|none=>none|some (r,m)=>vu r m
theorem Pw(s:Bytes):jY s=x' (jr s 0):=rfl
end Bx
def kv(o:Option Bx.Ky):Value:=match o with|some k=>.tuple #[.agg #[.int .i64 k.code,.int .i64 k.aw],.int .i64 0]|none=>.tuple #[.agg #[.int .i64 0,.int .i64 0],.int .i64 6]
theorem kS(w:World)(g:Nat)(v0 c:Value)(h:ad w g 27 #[v0,c]):(loadVar 27 ⟨g,0,none⟩).run VI w=.ok (.agg #[v0,c]) w:=by have a:=h.cell 0;have b:=h.cell 1;clear h;simp at a b;simp[go_sem,a,b]
theorem k9{wr:World}{a0:Value}(h:ad wr k t #[a0,v])(v0 a:Value):ad ((wr.setCell ⟨k,0,none⟩ v0).setCell ⟨k,1,none⟩ a) k t #[v0,a]:=(h.aj 0 v0).aj 1 a
theorem gY(h:ad w k 27 #[u,v]):w.cell? ⟨k,0,none⟩=some u/\w.cell? ⟨k,1,none⟩=some v/\w.frozen? ⟨k,0,none⟩=false/\w.frozen? ⟨k,1,none⟩=false/\k<w.heap.size:=⟨h.cell 0,h.cell 1,h.frozen 0,h.frozen 1,h.lt⟩
theorem RZ(h:2<s.size):sl s=s[0]::s[1]::sl (s.extract 2 s.size):=by
 have c:0<(sl s).length:=by rw[aL];omega
 have d:1<(sl s).length:=by rw[aL];omega
 have e:sl (s.extract 2 s.size)=(sl s).drop 2:=by simp[sl];exact V2 (by simp)
 rw[e];have a:=Wm c;have b:=Wm d;rw[List.drop_zero]at a;rw[a,b];rfl
structure xG(w wr:World)(R:Option (Bytes×Int))(s:Bytes)(T:ByteArray)(m:Int):Prop where
 spec:Bx.jr (sl T) m=R
 Ei:sl T<:+s
 ne:sl T=[]->s=[]
 pB:0<=m/\m<=7
 key:ad wr (w.heap.size+1) 27 #[.int .i64 0,.int .i64 m]
 res:ad wr w.heap.size 27 #[.int .i64 0,.int .i64 0]
 turns:aa ab w wr
theorem Kt(bl:b9 w)(s:ByteArray)(hs:s.size<=1000000)(hD:∀t:ByteArray,(sl t=[]->sl s=[])->sl t<:+sl s->gL w t):Calls VI 38 #[.string s] w fun e w'=>e=.returned (kv (Bx.jY (sl s)))/\aa ab w w':=by
 rw[Bx.Pw];have bc:=VH (fun W(ht:aa ab w W)=>bl.still ht);have HD:=VH hD;have a8:=VH ((ad.new w 27 #[.int .i64 0,.int .i64 0]).alloc (.cells #[.int .i64 0,.int .i64 0] 27));have ar:=VH (ad.new (w.alloc (.cells #[.int .i64 0,.int .i64 0] 27)) 27 #[.int .i64 0,.int .i64 0]);rw[show(w.alloc (.cells #[.int .i64 0,.int .i64 0] 27)).heap.size=w.heap.size+1 by simp[go_sem]]at ar;generalize bd:Bx.jr (sl s) 0=R;have H0:=VH bd;clear bd;clear bl hD;go_enter func38,ntmps38;go_upto_block 0 with fail;go_cut[0](fun s1 wx=>∃T m,s1=.string T/\R=some (sl T,m)/\T.size<=1000000/\xG w wx R (sl s) T m)
 case first=>
  go_wp2_with fail;go_loopg[0]s.size(fun g s1 wr=>∃T m,s1=.string T/\g=T.size/\T.size<=1000000/\xG w wr R (sl s) T m);case atStart=>exact⟨s,0,rfl,rfl,hs,⟨H0.out,List.suffix_refl _,id,by decide,ar.out,a8.out,((aa.refl _ w).alloc _).alloc _⟩⟩
  case round=>
   obtain⟨T,m,rfl,rfl,ai,h⟩:=hrel;have a:=VH h;by_cases h2:2<T.size
   ·have bx:(2:Int)<T.size:=by omega
    have M:=RZ h2;have aA:sl (T.extract 2 T.size)≠[]:=by intro e;have :=congrArg Xn M;rw[e,aL]at this;simp at this;omega
    have a6:sl (T.extract 2 T.size)<:+sl s:=((List.suffix_cons _ _).trans (List.suffix_cons _ _)).trans (M▸h.Ei);have a7:(T.extract 2 T.size).size=T.size-2:=by simp
    by_cases av:(T[1].toNat:Int)=45
    ·have C:T[1]=45:=UInt8.toNat_inj.1 (by show T[1].toNat=45;omega);have n:=h.spec;rw[M,C]at n;have O:wr.cell? ⟨w.heap.size+1,1,none⟩=some (.int .i64 m):=h.key.cell 1;have N:wr.cell? ⟨w.heap.size+1,0,none⟩=some (.int .i64 0):=h.key.cell 0;have xf:=h.key.frozen 1;have P:=h.key.lt;have al:=h.pB;have d:m=0∨m=1∨m=2∨m=3∨m=4∨m=5∨m=6∨m=7:=by omega
     have j:=VH (VJ aA (VJ a6 a7));have bm:=VH M;clear aA a6 a7 M h al
     have bs:T[0]=67∨T[0]=77∨T[0]=83∨(¬T[0]=67/\¬T[0]=77/\¬T[0]=83):=by
      by_cases a1:T[0]=67;. exact .inl a1
      by_cases a2:T[0]=77;. exact .inr (.inl a2)
      by_cases a3:T[0]=83;. exact .inr (.inr (.inl a3))
      ·exact .inr (.inr (.inr ⟨a1,a2,a3⟩))
     rcases bs with k|k|k|⟨n1,n2,n3⟩
     ·have z:Bx.bF T[0]=4:=by rw[k];rfl
      have k1:((T[0].toNat:Int)==67)=true:=by rw[k];rfl
      have i:(bits XJ VL m 4 !=0)=(m/4%2 !=0):=by rcases d with rfl|rfl|rfl|rfl|rfl|rfl|rfl|rfl<;>rfl
      by_cases l:m/4%2=1
      ·have b:=Bx.uU (a:=T[0]) (m:=m) j.out.1 (by rw[z];decide) (by rw[z];exact l);rw[b]at n;have qb:(bits XJ VL m 4 !=0)=true:=by rw[i,l];rfl
       clear l b z k C i d;subst n;obtain⟨F,G,H,I,J⟩:=gY a.out.res;go_wp2_with fail;have u:=VH (k9 a.out.res (.int .i64 0) (.int .i64 0));refine bodyPost_ret (results_cell_tmp results38 _ _ _ ⟨w.heap.size,0,none⟩ _ rfl (kS _ _ _ _ u.out)) rfl ?_;exact⟨rfl,(a.out.turns.setCell (.inr (VN _)) _).setCell (.inr (VN _)) _⟩
      ·have o:m/4%2=0:=by omega
       have b:=Bx.uV (a:=T[0]) (m:=m) j.out.1 (by rw[z];decide) (by rw[z];exact l);rw[z]at b;have q:=VH (b.symm.trans n);have qb:(bits XJ VL m 4 !=0)=false:=by rw[i,o];rfl
       have qc:bits BinOp.or VL m 4=m+4:=by rcases d with rfl|rfl|rfl|rfl|rfl|rfl|rfl|rfl<;>first|rfl|(exfalso;revert o;decide)
       have p:0<=m+4/\m+4<=7:=by rcases d with rfl|rfl|rfl|rfl|rfl|rfl|rfl|rfl<;>first|decide|(exfalso;revert o;decide)
       have Z:=VH p;clear l o b z k C i d n p;go_wp2_with fail;go_roundg(T.extract 2 T.size).size;case rel=>exact⟨T.extract 2 T.size,_,rfl,rfl,by have :=j.out.2.2;omega,⟨q.out,j.out.2.1,fun e=>absurd e j.out.1,Z.out,a.out.key.aj 1 _,a.out.res.an (by simp) _,a.out.turns.setCell (.inr (WN _)) _⟩⟩
       case measure=>have :=j.out.2.2;omega
     ·have z:Bx.bF T[0]=2:=by rw[k];rfl
      have k1:((T[0].toNat:Int)==67)=false:=by rw[k];rfl
      have k2:((T[0].toNat:Int)==77)=true:=by rw[k];rfl
      have i:(bits XJ VL m 2 !=0)=(m/2%2 !=0):=by rcases d with rfl|rfl|rfl|rfl|rfl|rfl|rfl|rfl<;>rfl
      by_cases l:m/2%2=1
      ·have b:=Bx.uU (a:=T[0]) (m:=m) j.out.1 (by rw[z];decide) (by rw[z];exact l);rw[b]at n;have qb:(bits XJ VL m 2 !=0)=true:=by rw[i,l];rfl
       clear l b z k C i d;subst n;obtain⟨F,G,H,I,J⟩:=gY a.out.res;go_wp2_with fail;have u:=VH (k9 a.out.res (.int .i64 0) (.int .i64 0));refine bodyPost_ret (results_cell_tmp results38 _ _ _ ⟨w.heap.size,0,none⟩ _ rfl (kS _ _ _ _ u.out)) rfl ?_;exact⟨rfl,(a.out.turns.setCell (.inr (VN _)) _).setCell (.inr (VN _)) _⟩
      ·have o:m/2%2=0:=by omega
       have b:=Bx.uV (a:=T[0]) (m:=m) j.out.1 (by rw[z];decide) (by rw[z];exact l);rw[z]at b;have q:=VH (b.symm.trans n);have qb:(bits XJ VL m 2 !=0)=false:=by rw[i,o];rfl
       have qc:bits BinOp.or VL m 2=m+2:=by rcases d with rfl|rfl|rfl|rfl|rfl|rfl|rfl|rfl<;>first|rfl|(exfalso;revert o;decide)
       have p:0<=m+2/\m+2<=7:=by rcases d with rfl|rfl|rfl|rfl|rfl|rfl|rfl|rfl<;>first|decide|(exfalso;revert o;decide)
       have Z:=VH p;clear l o b z k C i d n p;go_wp2_with fail;go_roundg(T.extract 2 T.size).size;case rel=>exact⟨T.extract 2 T.size,_,rfl,rfl,by have :=j.out.2.2;omega,⟨q.out,j.out.2.1,fun e=>absurd e j.out.1,Z.out,a.out.key.aj 1 _,a.out.res.an (by simp) _,a.out.turns.setCell (.inr (WN _)) _⟩⟩
       case measure=>have :=j.out.2.2;omega
     ·have z:Bx.bF T[0]=1:=by rw[k];rfl
      have k1:((T[0].toNat:Int)==67)=false:=by rw[k];rfl
      have k2:((T[0].toNat:Int)==77)=false:=by rw[k];rfl
      have k3:((T[0].toNat:Int)==83)=true:=by rw[k];rfl
      have i:(bits XJ VL m 1 !=0)=(m/1%2 !=0):=by rcases d with rfl|rfl|rfl|rfl|rfl|rfl|rfl|rfl<;>rfl
      by_cases l:m/1%2=1
      ·have b:=Bx.uU (a:=T[0]) (m:=m) j.out.1 (by rw[z];decide) (by rw[z];exact l);rw[b]at n;have qb:(bits XJ VL m 1 !=0)=true:=by rw[i,l];rfl
       clear l b z k C i d;subst n;obtain⟨F,G,H,I,J⟩:=gY a.out.res;go_wp2_with fail;have u:=VH (k9 a.out.res (.int .i64 0) (.int .i64 0));refine bodyPost_ret (results_cell_tmp results38 _ _ _ ⟨w.heap.size,0,none⟩ _ rfl (kS _ _ _ _ u.out)) rfl ?_;exact⟨rfl,(a.out.turns.setCell (.inr (VN _)) _).setCell (.inr (VN _)) _⟩
      ·have o:m/1%2=0:=by omega
       have b:=Bx.uV (a:=T[0]) (m:=m) j.out.1 (by rw[z];decide) (by rw[z];exact l);rw[z]at b;have q:=VH (b.symm.trans n);have qb:(bits XJ VL m 1 !=0)=false:=by rw[i,o];rfl
       have qc:bits BinOp.or VL m 1=m+1:=by rcases d with rfl|rfl|rfl|rfl|rfl|rfl|rfl|rfl<;>first|rfl|(exfalso;revert o;decide)
       have p:0<=m+1/\m+1<=7:=by rcases d with rfl|rfl|rfl|rfl|rfl|rfl|rfl|rfl<;>first|decide|(exfalso;revert o;decide)
       have Z:=VH p;clear l o b z k C i d n p;go_wp2_with fail;go_roundg(T.extract 2 T.size).size;case rel=>exact⟨T.extract 2 T.size,_,rfl,rfl,by have :=j.out.2.2;omega,⟨q.out,j.out.2.1,fun e=>absurd e j.out.1,Z.out,a.out.key.aj 1 _,a.out.res.an (by simp) _,a.out.turns.setCell (.inr (WN _)) _⟩⟩
       case measure=>have :=j.out.2.2;omega
     ·have z:Bx.bF T[0]=0:=by rw[Bx.bF,if_neg n1,if_neg n2,if_neg n3]
      have k1:((T[0].toNat:Int)==67)=false:=bI (m:=67) n1;have k2:((T[0].toNat:Int)==77)=false:=bI (m:=77) n2;have k3:((T[0].toNat:Int)==83)=false:=bI (m:=83) n3;rw[Bx.Cr m (.inr z)]at n;rw[<-C,<-bm.out]at n;have q:=VH n.symm;clear n n1 n2 n3 C d z;go_wp2_with fail;go_meet;exact⟨T,m,rfl,q.out,ai,a.out⟩
    ·have bw:((T[1].toNat:Int)==45)=false:=beq_eq_false_iff_ne.2 av;have b:=Bx.Cr (a:=T[0]) (r:=sl (T.extract 2 T.size)) m (.inl (show¬T[1]=45 from fun e=>av (by rw[e];rfl)));rw[<-M]at b;have q:=VH (h.spec.symm.trans b);clear b aA a6 a7 M h av;go_wp2_with fail;go_meet;exact⟨T,m,rfl,q.out,ai,a.out⟩
   ·have q:=VH (h.spec.symm.trans (Bx.N' m (by rw[aL];omega)));clear h;go_wp2_with fail;go_meet;exact⟨T,m,rfl,q.out,ai,a.out⟩
 case rest=>
  obtain⟨T,m,rfl,hR,ai,h⟩:=hcut;subst hR;have a:=VH h;have HC:=VH (fun W(ht:aa ab w W)=>G1 (bc.out W ht) T ((HD.out T h.ne h.Ei).still ht) ai);have bb:=VH (fun W c m(ht:aa ab w W)=>rq (bc.out W ht) c m);have HA:=VH (show Bx.x' (some (sl T,m))=Bx.vu (sl T) m from rfl);have al:=h.pB;have d:m=0∨m=1∨m=2∨m=3∨m=4∨m=5∨m=6∨m=7:=by omega
  have i:(bits XJ VL m 4 !=0)=decide (m/4%2=1):=by rcases d with rfl|rfl|rfl|rfl|rfl|rfl|rfl|rfl<;>rfl
  clear H0 a8 ar h HD;go_wp2_with fail;refine(HC.out _ a.out.turns).mono ?_;rintro e w1⟨rfl,ht⟩;have K1:=VH (ht.blk a.out.key id);have R1:=VH (ht.blk a.out.res id);have T1:=VH (a.out.turns.same ht);obtain⟨N,O,S,U,P⟩:=gY K1.out;have Y:=VH (show Bx.vu (sl T) m=if Bx.right (if m/4%2=1 then Bx.iR ⟨Bx.codeOf (sl T),m⟩else⟨Bx.codeOf (sl T),m⟩)then some (if m/4%2=1 then Bx.iR ⟨Bx.codeOf (sl T),m⟩else⟨Bx.codeOf (sl T),m⟩)else none from rfl);generalize Bx.codeOf (sl T)=c at Y⊢;have K2:=VH (K1.out.aj 0 (.int .i64 c));have R2:=VH (R1.out.an (p:=⟨w.heap.size+1,0,none⟩) (by simp) (.int .i64 c));have T2:=VH (T1.out.setCell (p:=⟨w.heap.size+1,0,none⟩) (.inr (WN _)) (.int .i64 c));by_cases Q:m/4%2=1
  case' pos=>
   have q4:(bits XJ VL m 4 !=0)=true:=by rw[i];exact decide_eq_true Q
   have E:=Y.out;rw[if_pos Q]at E;have a':=VH (fun W=>PV (w:=W) c m (by omega));generalize Bx.iR ⟨c,m⟩=kk at E a';obtain⟨x,y⟩:=kk;have X:=VH E;clear E Y i d al Q ht a HC;go_wp2_with fail;refine(a'.out _).mono ?_;rintro e w3⟨rfl,ht⟩;have K3:=VH (ht.blk K2.out id);have R3:=VH (ht.blk R2.out id);have T3:=VH (T2.out.same ht);clear ht N O S U P;obtain⟨N,O,S,U,P⟩:=gY K3.out;obtain⟨F,G,H,I,J⟩:=gY R3.out;have K4:=VH (k9 K3.out (.int .i64 x) (.int .i64 y));have R4:=VH ((R3.out.an (p:=⟨w.heap.size+1,0,none⟩) (by simp) (.int .i64 x)).an (p:=⟨w.heap.size+1,1,none⟩) (by simp) (.int .i64 y));have T4:=VH ((T3.out.setCell (p:=⟨w.heap.size+1,0,none⟩) (.inr (WN _)) (.int .i64 x)).setCell (p:=⟨w.heap.size+1,1,none⟩) (.inr (WN _)) (.int .i64 y))
  case' neg=>
   have q4:(bits XJ VL m 4 !=0)=false:=by rw[i];exact decide_eq_false Q
   have E:=Y.out;rw[if_neg Q]at E;obtain⟨x,bn⟩:∃x,x=c:=⟨_,rfl⟩;obtain⟨y,bt⟩:∃y,y=m:=⟨_,rfl⟩;subst bn bt;have X:=VH E;have K4:=K2;have R4:=R2;have T4:=T2;obtain⟨F,G,H,I,J⟩:=gY R1.out;clear E Y i d al Q ht a HC K2 R2 T2
  all_goals go_wp2_with fail;refine(bb.out _ _ _ T4.out).mono ?_;rintro e w5⟨rfl,ht⟩;have K5:=VH (ht.blk K4.out id);have L:=VH (ht.blk R4.out id);have T5:=VH (T4.out.same ht);clear ht N O S U P F G H I J;obtain⟨N,O,S,U,P⟩:=gY K5.out;obtain⟨F,G,H,I,J⟩:=gY L.out;generalize p:Bx.right ⟨x,y⟩=r;have u:=VH p;clear p;cases r with|true=>go_wp2_with fail;have K:=VH (k9 L.out (.int .i64 x) (.int .i64 y));refine bodyPost_ret (results_cell_tmp results38 _ _ _ ⟨w.heap.size,0,none⟩ _ rfl (kS _ _ _ _ K.out)) rfl ?_;rw[HA.out,X.out,if_pos u.out];exact⟨rfl,(T5.out.setCell (.inr (VN _)) _).setCell (.inr (VN _)) _⟩|false=>go_wp2_with fail;have K:=VH (k9 L.out (.int .i64 0) (.int .i64 0));refine bodyPost_ret (results_cell_tmp results38 _ _ _ ⟨w.heap.size,0,none⟩ _ rfl (kS _ _ _ _ K.out)) rfl ?_;rw[HA.out,X.out,if_neg (by rw[u.out];decide)];exact⟨rfl,(T5.out.setCell (.inr (VN _)) _).setCell (.inr (VN _)) _⟩
theorem mT(w:World):Calls VI 15 #[] w fun e w'=>e=.returned (.agg #[.int .i64 98,.int .i64 4])/\aa ab w w':=by have b:=VH ((aa.refl ab w).alloc (.cells #[.int .i64 98,.int .i64 4] 27));have a:=VH (ad.new w 27 #[.int .i64 98,.int .i64 4]);go_enter func15,ntmps15;go_wp2_with fail;refine bodyPost_ret ((nN results15 _ _ _ ⟨w.heap.size,0,none⟩ rfl).trans (kS _ _ _ _ a.out)) rfl ?_;exact⟨rfl,b.out⟩
end
section
open Lx(Bytes)
namespace Px
theorem tU:∀(c:List (List Bytes))(g:Nat)(L:List Lx.Ln),Lx.gN g L (c.map fun t=>[t])->L.length=c.length/\∀l∈L,∃t∈c,l.1.map (·.text)=t/\∀x∈l.1,x.block=false
|[],g,L,h=>by cases h;exact⟨rfl,fun _ a=>(List.not_mem_nil a).elim⟩
|t::c,g,_,h=>by
  cases h with
  | @cons _ L M _ _ h p o=>
   obtain⟨d,i⟩:=tU c (g+1) M o;have b:=h.texts;have k:L.length=1:=by have :=congrArg Xn b;simpa using this
   refine⟨by rw[VK,k,d,VM];omega,fun l a=>?_⟩;rcases List.mem_append.1 a with a|a
   ·match L,b,a with
    |[x],b,a=>
      have e:l=x:=by simpa using a
      subst e;simp only[V8,List.map_nil,List.cons.injEq,and_true]at b;exact⟨t,by simp,b,(h.each l (by simp)).2⟩
   ·obtain⟨n,m,j⟩:=i l a;exact⟨n,List.mem_cons_of_mem _ m,j⟩
end Px
theorem R_{t:List Bytes}(h:(!t.isEmpty&&t.all (fun x=>decide (x.length<=8192))&&decide (t.length<=256))=true):Lx.Small t:=by simp only[Bool.and_eq_true,Bool.not_eq_true',decide_eq_true_eq,Wj,List.isEmpty_eq_false_iff]at h;exact⟨h.1.1,fun x a=>h.1.2 x a,h.2⟩
theorem qX{l:List Lx.W}{t:List Bytes}(e:l.map (·.text)=t)(b:Lx.Small t):l≠[]/\l.length<=256/\∀x∈l,x.text.length<=maxLen:=by obtain⟨s1,s2,s3⟩:=b;rw[<-e,V0]at s3;exact⟨fun a=>s1 (by rw[<-e,a];rfl),s3,fun x c=>VS (s2 x.text (by rw[<-e];exact V'.2 ⟨x,c,rfl⟩)) (by decide)⟩
theorem I4:(Bx.bV.all fun t=>!t.isEmpty&&t.all (fun x=>decide (x.length<=8192))&&decide (t.length<=256))=true:=by decide+kernel
theorem I5:((Bx.bV.map fun t=>[t]).map (·.length)).sum<=1000:=by decide+kernel
theorem I1:Bx.firstT.length<=65536:=by decide+kernel
theorem I2:∃L b,Lx.split [] Bx.firstT=.ok L/\Fit L/\jI (L.map Px.aP) []/\Px.parse fN [] Bx.firstT=.ok b/\Px.aQ b=Bx.bV.map fun t=>[Px.bq t]:=by
 have m:∀t∈Bx.bV,Lx.Small t:=fun t a=>R_ (Wj.1 I4 t a);have k:∀t∈Bx.bV,Px.iN t=true:=fun t a=>Wj.1 Bx.IZ t a;obtain⟨L,i,h⟩:=Lx.wK (env:=[]) (gs:=Bx.bV.map fun t=>[t]) (fun c u=>by obtain⟨t,a,rfl⟩:=V'.1 u;exact⟨by simp,fun x d=>by rw[VU.1 d];exact m t a⟩) I5 (by rw[Bx.zM];exact I1);rw[Bx.zM]at h;obtain⟨b,o,p⟩:=Px.vx (X:=fN) Bx.bV 1 0 L [] i (by decide) k;obtain⟨q,j⟩:=Px.tU Bx.bV 1 L i;refine⟨L,b,h,⟨by rw[q];decide+kernel,fun l hl=>?_⟩,⟨rfl,fun l hl=>?_⟩,?_,o⟩;. obtain⟨t,a,e,-⟩:=j l hl;exact qX e (m t a)
 ·obtain⟨n,w,rfl⟩:=V'.1 hl;obtain⟨t,a,e,r⟩:=j n w;exact(Px.rk (l:=(Px.aP n).1) (t:=t) (by rw[Px.nD];exact e) (fun x d=>by simp only[Px.aP]at d;obtain⟨y,z,rfl⟩:=V'.1 d;exact r y z) (k t a)).1
 ·rw[Px.parse,h];exact p
theorem vy(r:b9 w){u:ByteArray}{s:Bytes}{d:List (List Px.ag)}{L:List Lx.Ln}(j:sl u=s)(l:Lx.split [] s=.ok L)(m:Fit L)(n:jI (L.map Px.aP) [])(o:Px.parse fN [] s=.ok d):Calls VI 9 #[.string u,.agg #[.slice none 0 0,.slice none 0 0],.slice none 0 0] w fun e a=>∃b c Z,e=.returned (.tuple #[.agg #[.slice b Z.length c],.int .i64 0,.int .i64 0])/\bB a w.heap.size (.slice b Z.length c) Z/\aq Z=d/\aa ab w a:=by have h:=C8 (s:=u) (sv:=.slice none 0 0) (lv:=.slice none 0 0) r (vd w _) fN (fun k p=>by have e:Lx.split [] (sl u)=.ok k:=p;rw[j,l]at e;injection e with e;subst e;exact⟨m,n⟩);rw[j,show aB []=[]from rfl,o]at h;refine h.mono ?_;rintro e a⟨t,x,Z,rfl,i,q⟩;obtain⟨A,c,rfl⟩:=aE i.outer;exact⟨A,c,Z,rfl,i,q,t⟩
theorem OV{t:List Bytes}(d:Lx.Small t)(n:(Lx.cat t).length<=65536)(m:Px.iN t=true):∃L b,Lx.split [] (Lx.cat t)=.ok L/\Fit L/\jI (L.map Px.aP) []/\Px.parse fN [] (Lx.cat t)=.ok b/\Px.aQ b=[[Px.bq t]]:=by
 obtain⟨L,c,h,⟨l,rfl,e,k⟩,i,j⟩:=Px.Pu (X:=fN) d n m;refine⟨_,_,h,⟨by simp,fun x a=>?_⟩,⟨rfl,fun x a=>?_⟩,i,?_⟩;. rw[VU.1 a];exact qX e d
 ·simp only[V8,List.map_nil,VU]at a;rw[a];exact k
 ·rw[<-j];rfl
open Lx(Bytes)
def jf:Bytes:=[98,105,110,100,45,107,101,121]
def iS(rest:List Bytes):Bytes:=if rest.length=1 then rest.headD []else Lx.cat rest
structure sV(c:Px.ag)(a0:Bytes)(rest:List Bytes)(tb nt:Bytes)(k:Bx.Ky)(G:List (List Px.ag)):Prop where
 name:c.name=jf
 args:c.args=a0::rest
 few:c.args.length<=256
 key:Bx.jY a0=some k
 len:a0.length<=8192
 n:Px.at_ c.flags 110=none
 t:Px.at_ c.flags 84=some tb
 note:(Px.at_ c.flags 78).getD []=nt
 cost:Lx.cost rest<=3200000
 text:∃L G',Lx.split [] (iS rest)=.ok L/\Fit L/\jI (L.map Px.aP) []/\Px.parse fN [] (iS rest)=.ok G'/\Px.aQ G'=G
 fit:dj G
def px(c:Px.ag)(b a:Bytes)(k:Bx.Ky)(G:List (List Px.ag)):Bx.Bd:=⟨b,k,(Px.at_ c.flags 114).isSome,a,G⟩
theorem dj.Tz{G:List (List Px.ag)}(h:dj (Px.aQ G)):dj G:=by refine⟨by have :=h.1;simpa[Px.aQ]using this,fun g e=>?_⟩;obtain⟨a,b⟩:=h.2 (g.map Px.strip) (V'.2 ⟨g,e,rfl⟩);exact⟨by simpa using a,fun c d=>b (Px.strip c) (V'.2 ⟨c,d,rfl⟩)⟩
theorem Hp{a0:Bytes}(h:a0≠[]/\∀x∈a0,x.toNat<128)(t:ByteArray)(b:sl t=[]->a0=[])(c:sl t<:+a0):gL w t:=by
 have d:sl t≠[]:=fun e=>h.1 (b e);have a:0<t.size:=by rw[<-aL];exact List.length_pos_iff.2 d
 refine gL.FZ a (h.2 _ (c.subset ?_));exact VZ (by rw[aL];exact a)
structure RM(w wx:World)(p:Nat)(X C:Array Value):Prop where
 box:ad wx w.heap.size 53 X
 res:ad wx (w.heap.size+1) 36 #[.string ⟨#[]⟩,.int .i64 0,.int .i64 0,.bool false,.string ⟨#[]⟩,.slice none 0 0]
 bd:ad wx p 36 C
 low:w.heap.size+2<=p
 turns:aa ab w wx
theorem RM.still{wx:World}{C:Array Value}(h:RM w wx k F C)(a:aa ab wx w'):RM w w' k F C:=⟨a.blk h.box id,a.blk h.res id,a.blk h.bd id,h.low,h.turns.same a⟩
theorem RM.put{wx:World}{C:Array Value}(h:RM w wx k F C)(i:Nat)(v:Value):RM w (wx.setCell ⟨k,i,none⟩ v) k F (C.setIfInBounds i v):=⟨h.box.an (p:=⟨k,i,none⟩) (by have :=h.low;show w.heap.size≠k;omega) v,h.res.an (p:=⟨k,i,none⟩) (by have :=h.low;show w.heap.size+1≠k;omega) v,h.bd.aj i v,h.low,h.turns.setCell (.inr (by have :=h.low;show w.heap.size<=k;omega)) v⟩
theorem RM.made{wx:World}(b:ad wx w.heap.size 53 F)(a:ad wx (w.heap.size+1) 36 #[.string ⟨#[]⟩,.int .i64 0,.int .i64 0,.bool false,.string ⟨#[]⟩,.slice none 0 0])(c:aa ab w wx)(C:Array Value):RM w (wx.alloc (.cells C 36)) wx.heap.size F C:=⟨b.alloc _,a.alloc _,ad.new wx _ _,a.lt,c.alloc _⟩
theorem il(h:ad w k 53 #[v,u,z,tx]):w.cell? ⟨k,0,none⟩=some v/\w.cell? ⟨k,1,none⟩=some u/\w.cell? ⟨k,2,none⟩=some z/\w.cell? ⟨k,3,none⟩=some tx/\k<w.heap.size:=⟨h.cell 0,h.cell 1,h.cell 2,h.cell 3,h.lt⟩
theorem Ew(b7:b9 w){c:Px.ag}{a0 tb nt:Bytes}{rest:List Bytes}{k:Bx.Ky}{G:List (List Px.ag)}(o:sV c a0 rest tb nt k G)(hD:∀t:ByteArray,(sl t=[]->a0=[])->sl t<:+a0->gL w t){B:Nat}(U:eZ w v c.flags)(ha:w.ownsRow B 9 1 u c.args.length (c.args.map ah)):Calls VI 11 #[.agg #[ah c.name,v,u,.int .i64 c.line]] w fun e w'=>∃gv Z,e=.returned (.tuple #[b_ (px c tb nt k G) gv,.int .i64 0])/\aD w' w.heap.size gv Z/\aq Z=G/\aa ab w w':=by
 have b1:=VH (fun W(ht:aa ab w W)=>b7.still ht);have bn:=VH o;have b4:c.args.length=rest.length+1:=by rw[o.args];rfl
 have da:=o.few;rcases ha.2 with⟨e,h0⟩|⟨g,y,cA,rfl,dh,hg,dk,dq,-⟩;. omega
 have a7:w.cell? ⟨g,0,none⟩=some (ah a0):=by rw[ha.cellAt 0 (by omega),o.args];rfl
 have ai:∀i,(hi:i<rest.length)->w.cell? ⟨g,1+i,none⟩=some (ah rest[i]):=fun i hi=>by rw[ha.cellAt (1+i) (by omega),o.args,Nat.add_comm 1 i];simp[hi]
 have X:g<w.heap.size:=(VV.1 hg).1;have HC:=VH (VJ a7 (VJ ai X));obtain⟨fA,fc,rfl,-⟩:=U.at_;have cx:=VH U;have b5:ah c.name=.string ⟨#[98,105,110,100,45,107,101,121]⟩:=by rw[o.name];rfl
 rw[b5];have ds:((c.args.length:Int)==0)=false:=by rw[beq_eq_false_iff_ne];omega
 have b2:=VH (fun W(ht:aa ab w W)=>Ar (nm:=⟨#[98,105,110,100,45,107,101,121]⟩) (line:=c.line) 114 (U.still ht) ⟨some ⟨g,0,none⟩,c.args.length,y,rfl⟩);have bs:=VH (fun W(ht:aa ab w W)=>Ar (nm:=⟨#[98,105,110,100,45,107,101,121]⟩) (line:=c.line) 110 (U.still ht) ⟨some ⟨g,0,none⟩,c.args.length,y,rfl⟩);have a1:=VH (fun W(ht:aa ab w W)=>wW (nm:=⟨#[98,105,110,100,45,107,101,121]⟩) (line:=c.line) 84 (U.still ht) ⟨some ⟨g,0,none⟩,c.args.length,y,rfl⟩);have aA:=VH (fun W(ht:aa ab w W)=>wW (nm:=⟨#[98,105,110,100,45,107,101,121]⟩) (line:=c.line) 78 (U.still ht) ⟨some ⟨g,0,none⟩,c.args.length,y,rfl⟩);rw[o.n]at bs;rw[o.t]at a1;rw[o.note]at aA;generalize(Px.at_ c.flags 78).isSome=ns at aA;simp only[Option.getD,Option.isSome]at bs a1;have al:=VH (show∀x,b_ (px c tb nt k G) x=.agg #[.string ⟨tb.toArray⟩,.int .i64 k.code,.int .i64 k.aw,.bool (Px.at_ c.flags 114).isSome,.string ⟨nt.toArray⟩,x]from fun _=>rfl);generalize(Px.at_ c.flags 114).isSome=Y at b2 al;simp only[ah]at a1 aA a7;have ar:=VH (fun W(ht:aa ab w W)=>Kt (b1.out W ht) ⟨a0.toArray⟩ (by show(List.toArray _).size<=_;rw[List.size_toArray];have :=o.len;omega) (fun t h1 h2=>(hD t h1 h2).still ht));rw[show sl ⟨a0.toArray⟩=a0 from rfl,o.key]at ar;simp only[kv]at ar;generalize(⟨a0.toArray⟩:ByteArray)=u0 at ar a7;generalize(⟨tb.toArray⟩:ByteArray)=ut at a1 al;generalize(⟨nt.toArray⟩:ByteArray)=un at aA al;have cb:=VH a7;obtain⟨E,F⟩:=k;dsimp only at ar al;generalize hN:c.args.length=N at*;have BX:=VH ((ad.new w 53 #[.string ⟨#[98,105,110,100,45,107,101,121]⟩,.slice fA c.flags.length fc,.slice (some ⟨g,0,none⟩) N y,.int .i64 c.line]).alloc (.cells #[.string ⟨#[]⟩,.int .i64 0,.int .i64 0,.bool false,.string ⟨#[]⟩,.slice none 0 0] 36));have BR:=VH (ad.new (w.alloc (.cells #[.string ⟨#[98,105,110,100,45,107,101,121]⟩,.slice fA c.flags.length fc,.slice (some ⟨g,0,none⟩) N y,.int .i64 c.line] 53)) 36 #[.string ⟨#[]⟩,.int .i64 0,.int .i64 0,.bool false,.string ⟨#[]⟩,.slice none 0 0]);rw[show(w.alloc (.cells #[.string ⟨#[98,105,110,100,45,107,101,121]⟩,.slice fA c.flags.length fc,.slice (some ⟨g,0,none⟩) N y,.int .i64 c.line] 53)).heap.size=w.heap.size+1 by simp[go_sem]]at BR;have T2:=VH (((aa.refl ab w).alloc (.cells #[.string ⟨#[98,105,110,100,45,107,101,121]⟩,.slice fA c.flags.length fc,.slice (some ⟨g,0,none⟩) N y,.int .i64 c.line] 53)).alloc (.cells #[.string ⟨#[]⟩,.int .i64 0,.int .i64 0,.bool false,.string ⟨#[]⟩,.slice none 0 0] 36));have Q:=VH b4;clear o U ha hg a7 ai b5 b7 b4 hN hD;go_enter func11,ntmps11;go_wp2_with fail;refine(b2.out _ T2.out).mono ?_;rintro e w3⟨rfl,ht⟩;have M4:=VH (RM.made (ht.blk BX.out id) (ht.blk BR.out id) (T2.out.same ht) #[.string ⟨#[112,114,101,102,105,120]⟩,.int .i64 0,.int .i64 0,.bool Y,.string ⟨#[]⟩,.slice none 0 0]);clear ht BX BR T2;go_upto_region 4 with fail;generalize w3.alloc (.cells #[.string ⟨#[112,114,101,102,105,120]⟩,.int .i64 0,.int .i64 0,.bool Y,.string ⟨#[]⟩,.slice none 0 0] 36)=w4 at*;generalize w3.heap.size=p at*;obtain⟨a,d,h,j,l⟩:=il M4.out.box;go_wp2_with fail;refine(bs.out _ M4.out.turns).mono ?_;rintro e w5⟨rfl,ht⟩;have M5:=VH (M4.out.still ht);clear ht a d h j l M4;obtain⟨a,d,h,j,l⟩:=il M5.out.box;go_wp2_with fail;refine(a1.out _ M5.out.turns).mono ?_;rintro e w6⟨rfl,ht⟩;have M6:=VH (M5.out.still ht);clear ht a d h j l M5;have M7:=VH (show RM w _ p _ #[.string ut,.int .i64 0,.int .i64 0,.bool Y,.string ⟨#[]⟩,.slice none 0 0]from M6.out.put 0 (.string ut));obtain⟨a,d,h,j,l⟩:=il M6.out.box;obtain⟨H,I,J,K,M,O,m,P⟩:=bM M6.out.bd;have f0:=m 0;clear m;go_upto_region 9 with fail;clear a d h j l H I J K M O f0 P M6;generalize w6.setCell ⟨p,0,none⟩ (.string ut)=w7 at*;obtain⟨a,d,h,j,l⟩:=il M7.out.box;go_wp2_with fail;refine(aA.out _ M7.out.turns).mono ?_;rintro e w8⟨rfl,ht⟩;have M8:=VH (M7.out.still ht);clear ht a d h j l M7;have M9:=VH (show RM w _ p _ #[.string ut,.int .i64 0,.int .i64 0,.bool Y,.string un,.slice none 0 0]from M8.out.put 4 (.string un));obtain⟨a,d,h,j,l⟩:=il M8.out.box;obtain⟨H,I,J,K,M,O,m,P⟩:=bM M8.out.bd;have f4:=m 4;clear m;go_upto_region 10 with fail;clear a d h j l H I J K M O f4 P M8;generalize w8.setCell ⟨p,4,none⟩ (.string un)=w9 at*;obtain⟨a,d,h,j,l⟩:=il M9.out.box;have c0:=(M9.out.turns.cell (p:=⟨g,0,none⟩) X id).trans cb.out;have cz:g<w9.heap.size:=VO X M9.out.turns.size;have db:(0:Int)<N:=by have :=Q.out;omega
 go_wp2_with fail;refine(ar.out _ M9.out.turns).mono ?_;rintro e bm⟨rfl,ht⟩;have bc:=VH ((M9.out.still ht).still ((aa.refl ab bm).alloc (.cells #[.int .i64 E,.int .i64 F] 27)));have b3:=VH (ad.new bm 27 #[.int .i64 E,.int .i64 F]);clear ht a d h j l c0 cz M9;go_upto_region 13 with fail;generalize bm.alloc (.cells #[.int .i64 E,.int .i64 F] 27)=cn at*;generalize bm.heap.size=q at*;have C:=VH (show RM w _ p _ #[.string ut,.int .i64 E,.int .i64 F,.bool Y,.string un,.slice none 0 0]from(bc.out.put 1 (.int .i64 E)).put 2 (.int .i64 F));obtain⟨a,d,h,j,l⟩:=il bc.out.box;obtain⟨H,I,J,K,M,O,m,P⟩:=bM bc.out.bd;obtain⟨k0,k1,ch,cj,kz⟩:=gY b3.out;have f1:=m 1;have f2:=m 2;clear m;go_upto_region 14 with fail;clear a d h j l H I J K M O P f1 f2 k0 k1 ch cj kz b3 bc;generalize(cn.setCell ⟨p,1,none⟩ (.int .i64 E)).setCell ⟨p,2,none⟩ (.int .i64 F)=cq at*;obtain⟨a,d,h,j,l⟩:=il C.out.box;have dc:(1:Int)<=N:=by omega
 have de:(N:Int)<=y:=by omega
 have S:=VH (fun(A:Option Addr)(cp:Nat)(hA:∀_:0<rest.length,A=some ⟨g,1,none⟩)=>AU (w:=cq) (v:=.slice A (N-1) cp) (ls:=rest.map fun s=>⟨s.toArray⟩) ⟨⟨_,_,by rw[V0,show N-1=rest.length by have :=Q.out;omega],fun h0=>⟨g,1,hA (by simpa using h0),VO X C.out.turns.size,fun i hi=>by
  have cc:i<rest.length:=by simpa using hi
  rw[List.getElem_map];exact(C.out.turns.cell (p:=⟨g,_,none⟩) X id).trans (HC.out.2.1 i cc)⟩⟩,by rw[W8];simpa[W6,sl]using bn.out.cost⟩);rw[W8,show sl∘(fun s:Bytes=>(⟨s.toArray⟩:ByteArray))=id from rfl,List.map_id,<-yL]at S;refine Or.elim (Classical.em (N=2)) (fun hq=>?_) (fun hq=>?_);have ai:¬y=1:=by omega
 have cg:0<rest.length:=by have :=Q.out;omega
 have HQ:=VH hq;clear hq;go_wp2_with fail;refine(S.out _ _ (fun _=>rfl)).mono ?_;rintro e b0⟨rfl,ht⟩;have z:=VH (C.out.still ht);clear ht a d h j l C S;obtain⟨a,d,h,j,l⟩:=il z.out.box;have cz:g<b0.heap.size:=VO X z.out.turns.size;have c1:=(z.out.turns.cell (p:=⟨g,1+0,none⟩) X id).trans (HC.out.2.1 0 cg);simp only[Nat.add_zero,ah]at c1
 have HU:=VH (show sl ⟨(rest[0]).toArray⟩=iS rest by
  have h1:rest.length=1:=by have :=Q.out;have :=HQ.out;omega
  rw[iS,if_pos h1];match rest,h1 with|[x],_=>rfl);generalize(⟨(rest[0]).toArray⟩:ByteArray)=b' at HU c1;have bA:((N:Int)==2)=true:=by have :=HQ.out;simp;omega
 have dd:(1:Int)<N:=by have :=HQ.out;omega
 go_upto_region 17 with fail;clear a d h j l c1 cz bA HQ;rotate_left;refine Or.elim (Classical.em (y=1)) (fun ai=>?_) (fun ai=>?_);subst ai;obtain rfl:N=1:=by omega
 go_wp2_with fail;refine(S.out (some ⟨g,0,none⟩) 0 (fun h0=>absurd h0 (by have :=Q.out;omega))).mono ?_;rintro e b0⟨rfl,ht⟩;have z:=VH (C.out.still ht);clear ht a d h j l C S;obtain⟨a,d,h,j,l⟩:=il z.out.box;have HU:=VH (show sl ⟨(Lx.cat rest).toArray⟩=iS rest by rw[iS,if_neg (by have :=Q.out;omega)];rfl);generalize(⟨(Lx.cat rest).toArray⟩:ByteArray)=b' at*;go_upto_region 17 with fail;clear a d h j l hq;rotate_left;go_wp2_with fail;contradiction;refine(S.out _ _ (fun _=>rfl)).mono ?_;rintro e b0⟨rfl,ht⟩;have z:=VH (C.out.still ht);clear ht a d h j l C S;obtain⟨a,d,h,j,l⟩:=il z.out.box;have HU:=VH (show sl ⟨(Lx.cat rest).toArray⟩=iS rest by rw[iS,if_neg (by have :=Q.out;omega)];rfl);generalize(⟨(Lx.cat rest).toArray⟩:ByteArray)=b' at*;have bA:((N:Int)==2)=false:=by simp;omega
 go_upto_region 17 with fail;clear a d h j l hq bA;rotate_left
 all_goals
  go_wp2_with fail;obtain⟨L,G',t1,t2,t3,t4,t5⟩:=bn.out.text;refine(vy (b1.out _ z.out.turns) HU.out t1 t2 t3 t4).mono ?_;rintro e a8⟨Ag,cp,Z,rfl,hg,hp,ht⟩;replace hp:Px.aQ (aq Z)=G:=by rw[hp];exact t5
  clear t1 t2 t3 t4 t5;have bl:=VH ((z.out.still ht).still ((aa.refl ab a8).alloc (.cells #[.slice Ag Z.length cp] 34)));have bt:=VH (ad.new a8 34 #[.slice Ag Z.length cp]);have HG:=VH (VJ ((aD.of hg).rd.still ((aa.refl ab a8).alloc (.cells #[.slice Ag Z.length cp] 34))) (VJ (dj.bare (dj.Tz (by rw[hp];exact bn.out.fit))) hp));clear ht hg hp z;go_upto_region 20 with fail;generalize a8.alloc (.cells #[.slice Ag Z.length cp] 34)=cv at*;generalize a8.heap.size=r at*;have l0:cv.cell? ⟨r,0,none⟩=some (.slice Ag Z.length cp):=bt.out.cell 0;have lz:=bt.out.lt;go_wp2_with fail;refine(qu HG.out.1 HG.out.2.1).mono ?_;rintro e ca⟨cT,T,rfl,bx,b6,ht⟩;obtain⟨A',c',rfl⟩:=aE bx.outer;have bw:=VH (bl.out.still ht);have a':=VH (VJ bx (VJ (b6.trans HG.out.2.2) (VJ (bl.out.bd.lt) (bl.out.res.lt))));clear ht bx b6 l0 lz bl bt HG;have a6:=VH (show RM w _ p _ #[.string ut,.int .i64 E,.int .i64 F,.bool Y,.string un,.slice A' T.length c']from bw.out.put 5 (.slice A' T.length c'));have bb:=VH (VJ (a'.out.1.aC ((aa.refl (af p) ca).setCell (p:=⟨p,5,none⟩) (.inl rfl) (.slice A' T.length c')) fun b e=>by have e:b=p:=e;have :=a'.out.2.2.1;omega) a'.out.2);obtain⟨H,I,J,K,M,O,m,P⟩:=bM bw.out.bd;have f5:=m 5;clear m;go_upto_region 21 with fail;clear H I J K M O f5 P bw a';generalize ca.setCell ⟨p,5,none⟩ (.slice A' T.length c')=cw at*;obtain⟨a,d,h,j,x4,x5,xf,l⟩:=bM a6.out.bd;obtain⟨H,I,J,K,M,O,m,P⟩:=bM a6.out.res;have g0:=m 0;have g1:=m 1;have g2:=m 2;have g3:=m 3;have g4:=m 4;have g5:=m 5;clear xf m;go_wp2_with fail;have HF:=me a6.out.res (.string ut) (.int .i64 E) (.int .i64 F) (.bool Y) (.string un) (.slice A' T.length c');refine bodyPost_ret (results_cell_tmp results11 _ _ _ ⟨w.heap.size+1,0,none⟩ _ rfl (gZ _ _ _ _ _ _ _ _ HF)) rfl ?_;have dp:=a6.out.low;refine⟨.slice A' T.length c',T,by rw[al.out];rfl,?_,bb.out.2.1,?_⟩
  ·refine(bb.out.1.aC (S:=af (w.heap.size+1)) ?_ fun b e=>?_).bU (by have :=bb.out.2.2.2;omega);. exact bT (S:=af (w.heap.size+1)) (aa.refl _ cw) (.inl rfl) _ _ _ _ _ _
   ·have e:b=w.heap.size+1:=e;have :=bb.out.2.2.2;omega
  ·exact bT a6.out.turns (.inr (WN _)) _ _ _ _ _ _
end
end Go.Proofs.YtmddhediccmhbaaGreatDoor
