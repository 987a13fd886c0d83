/- lists, memory, the reader. -/
import Derived.IntWalk
import Derived.WalkKit
import Derived.WalkSpells
import Derived.WalkLawsBesides
import Derived.BigQuiet
import Derived.Deep.QuietTactic
import Derived.Deep.AppendLies
import Derived.Deep.AppendSrc
import Derived.Deep.OwnRows
import Derived.Maps.AppendAt
import Derived.RegionTactic
import Derived.OwnWalk
import Derived.Lib.Hide
import Derived.Outline
import Derived.ScopeJumps
import Derived.WalkMore
import Derived.KernelRfl
import Derived.Test.YtmddhediccmhbaaGreatDoorProg
import Derived.Lib.Fields
import Derived.Maps.Views
import Derived.Maps.Own
import Derived.Maps.StringElems
import Derived.Lib.LaidTab
import Derived.Great.BuildSlice
import Derived.Laws.Tables
import Derived.BigFrame
import Derived.Laws.NewBlocks
set_option linter.all false
set_option maxHeartbeats 400000000
set_option maxRecDepth 100000
namespace Go.Proofs.YtmddhediccmhbaaGreatDoor
open Go.RowKit
open Tryz
open Below renaming heap_alloc→WE
open List renaming cons_append→Wa
open List renaming eq_nil_of_length_eq_zero→VP
open List renaming find?_cons→XL
open List renaming length_append→VK
open List renaming length_cons→VM
open List renaming length_tail→Xb
open List renaming mem_append→V_
open List renaming mem_cons→We
open List renaming mem_cons_of_mem→VT
open List renaming mem_singleton→VU
open List renaming pairwise_cons→Wn
open Nat renaming le_refl→VN
open Nat renaming le_trans→VS
open Nat renaming lt_of_lt_of_le→VO
open Nat renaming lt_or_ge→Wb
open Region renaming wanted→XS
open Tryz renaming prog→VI
open Value renaming ownBlock→WT
open Value renaming slice→Wr
open World renaming cell?_setCell_other→WC
variable {w w':World}{k n g:Nat}{v u:Value}{e r:Int}{s x:ByteArray}{t T:TypeId}{a:UInt8}{S:Nat->Prop}{E:List Value}{F:Array Value}{P:Program}
section
theorem ak(h:(-9223372036854775808<=e/\e<=9223372036854775807)/\e=r):IntKind.i64.wrap e=r:=(IntWalk.i64_in e h.1).trans h.2
def ad(w:World)(g:Nat)(t:TypeId)(a:Array Value):Prop:=w.heap[g]?=some (.cells a t (0,0))
section
variable{w w':World}{g:Nat}{t:TypeId}{cs:Array Value}
theorem ad.lt(h:ad w g t cs):g<w.heap.size:=by
 rcases Wb g w.heap.size with b|a;. exact b
 ·unfold ad at h;rw[Array.getElem?_eq_none a]at h;cases h
theorem ad.cell(h:ad w g t cs)(i:Nat):w.cell? ⟨g,i,none⟩=cs[i]?:=cell_of_row w g i cs t (0,0) h
theorem ad.frozen(h:ad w g t cs)(i:Nat):w.frozen? ⟨g,i,none⟩=false:=by unfold ad at h;simp[World.frozen?,h]
theorem ad.new(w:World)(t:TypeId)(a:Array Value):ad (w.alloc (.cells a t)) w.heap.size t a:=heap_alloc_new w _
theorem ad.drewN(h:ad w g t cs)(n:Nat):ad (w.drewN n) g t cs:=h
theorem ad.alloc(h:ad w g t cs)(o:Obj):ad (w.alloc o) g t cs:=(WE w o g h.lt).trans h
theorem ad.aj(h:ad w g t cs)(i:Nat)(u:Value):ad (w.setCell ⟨g,i,none⟩ u) g t (cs.setIfInBounds i u):=by unfold ad at h⊢;simp[World.setCell,Array.getElem?_modify,h]
theorem ad.an(h:ad w g t cs){p:Addr}(a:g≠p.block)(u:Value):ad (w.setCell p u) g t cs:=(Below.heap_setCell w p u g a).trans h
theorem ad.below{B:Nat}(h:ad w g t cs)(a:Below B w w')(b:g<B):ad w' g t cs:=(a.block g b).trans h
theorem ad.grown{row:Option Nat}(h:ad w g t cs)(a:w.grownBy w' row)(b:some g≠row):ad w' g t cs:=(a.block g h.lt b).trans h
theorem ad.fB(h:ad w g t cs)(a:ad w k T F)(b:t≠T):g≠k:=by rintro rfl;unfold ad at h a;rw[h]at a;injection a with a;injection a with _ ht;exact b ht
theorem a_{size:Nat}(h:w.ownsRow k T size v n E)(c:ad w g t cs)(e:T≠t):v.ownBlock≠some g:=by
 rcases h.2 with⟨rfl,_⟩|⟨a,f,i,rfl,_,d,_⟩;. simp[WT]
 ·intro b;have :a=g:=by simpa[WT]using b
  subst this;exact ad.fB (t:=T) d c e rfl
end
/-! Which blocks may have turned: the blocks of a set S, and what is new. -/
structure aa(S:Nat->Prop)(w w':World):Prop where
 os:w'.os=w.os
 tape:w'.tape=w.tape
 output:w'.output=w.output
 size:w.heap.size<=w'.heap.size
 block:∀k,k<w.heap.size->¬S k->w'.heap[k]?=w.heap[k]?
section
variable{S S':Nat->Prop}{w w' w1 w2:World}
theorem aa.refl(S:Nat->Prop)(w:World):aa S w w:=⟨rfl,rfl,rfl,VN _,fun _ _ _=>rfl⟩
theorem aa.trans(h:aa S w w1)(k:aa S' w1 w2)(d:∀b,b<w.heap.size->S' b->S b):aa S w w2:=⟨k.os.trans h.os,k.tape.trans h.tape,k.output.trans h.output,VS h.size k.size,fun b a c=>(k.block b (VO a h.size) (fun e=>c (d b a e))).trans (h.block b a c)⟩
theorem aa.same(h:aa S w w1)(k:aa S w1 w2):aa S w w2:=h.trans k fun _ _ e=>e
theorem aa.mono(h:aa S w w')(d:∀b,b<w.heap.size->S b->S' b):aa S' w w':=⟨h.os,h.tape,h.output,h.size,fun b a c=>h.block b a fun e=>c (d b a e)⟩
theorem aa.drewN(h:aa S w w')(n:Nat):aa S w (w'.drewN n):=⟨h.os,h.tape,h.output,h.size,h.block⟩
theorem aa.alloc(h:aa S w w')(o:Obj):aa S w (w'.alloc o):=⟨h.os,h.tape,h.output,VS h.size (by simp),fun i hi a=>(WE w' o i (VO hi h.size)).trans (h.block i hi a)⟩
theorem aa.setCell(h:aa S w w'){p:Addr}(a:S p.block∨w.heap.size<=p.block)(u:Value):aa S w (w'.setCell p u):=⟨h.os,h.tape,h.output,by simpa[World.setCell]using h.size,fun i hi b=>(Below.heap_setCell w' p u i (by
 rintro rfl;rcases a with a|a;. exact b a
 ·omega)).trans (h.block i hi b)⟩
theorem aa.grown(h:aa S w w'){row:Option Nat}(a:w'.grownBy w2 row)(f:∀b,b<w.heap.size->row=some b->S b):aa S w w2:=h.trans (S':=fun b=>row=some b) ⟨a.os,a.tape,a.output,a.size,fun b c d=>a.block b c fun e=>d e.symm⟩ f
theorem aa.blk(h:aa S w w')(a:ad w g t F)(b:¬S g):ad w' g t F:=(h.block g a.lt b).trans a
theorem aa.cell(h:aa S w w'){p:Addr}(c:p.block<w.heap.size)(b:¬S p.block):w'.cell? p=w.cell? p:=World.cell?_of_block (h.block p.block c b)
theorem aa.own(h:aa S w w'){size:Nat}(m:w.ownsRow k t size v n E)(l:∀g,v.ownBlock=some g->¬S g):w'.ownsRow k t size v n E:=by
 obtain⟨f,a⟩:=m;refine⟨f,?_⟩;rcases a with a|⟨g,d,e,c,i,b,r⟩;. exact .inl a
 ·refine .inr ⟨g,d,e,c,i,?_,r⟩;have j:g<w.heap.size:=ad.lt (t:=t) b;rw[h.block g j (l g (by rw[c];rfl))];exact b
theorem aa.below{B:Nat}(h:aa S w w')(hB:B<=w.heap.size)(c:∀b,b<B->¬S b):Below B w w':=⟨h.os,h.tape,h.output,h.size,fun k a=>h.block k (by omega) (c k a)⟩
theorem aa.eO{B:Nat}(h:Below B w w')(hB:∀b,B<=b->b<w.heap.size->S b):aa S w w':=⟨h.os,h.tape,h.output,h.size,fun k c d=>h.block k (by
 rcases Wb k B with a|a;. exact a
 ·exact absurd (hB k a c) d)⟩
end
def af(R:Nat):Nat->Prop:=fun b=>b=R
def ab:Nat->Prop:=fun _=>False
theorem aa.aC(h:aa ab w w'):Below w.heap.size w w':=h.below (VN _) fun _ _=>id
/-! append onto a row of the call's own, whatever is appended (a slice's cells, a string's bytes). -/
theorem Ai(a:Nat):∀(r c:Nat),c<a->Builtin.growBy a r c<=a+(a+768)/4
|0,c,h=>by simp[Builtin.growBy];omega
|r+1,c,h=>by
  unfold Builtin.growBy;rw[if_neg (by omega)];rcases Wb (c+(c+768)/4) a with b|b;. exact Ai a r _ b
  ·have e:Builtin.growBy a r (c+(c+768)/4)=c+(c+768)/4:=by cases r with|zero=>rfl|succ r=>unfold Builtin.growBy;rw[if_pos b]
   rw[e];omega
theorem Oz(h:n<k):Builtin.nextslicecap k n<=k+(k+768)/4+512:=by
 unfold Builtin.nextslicecap;split;. omega
 ·split;. omega
  ·have :=Ai k 4 n h;omega
theorem aE{size:Nat}(h:w.ownsRow k t size v n E):∃A cp,v=.slice A n cp:=by rcases h.2 with⟨rfl,rfl⟩|⟨g,a,b,rfl,_⟩;all_goals exact⟨_,_,rfl⟩
section
variable{P:Program}(w:World)
theorem Re(l:Nat)(t A E e:TypeId)(i:TypeInfo)(z:Value)(size I:Nat)(D:P.underlying t=some (.slice e))(C:P.info? e=some i)(Q:i.zero=some z)(ad:i.size=size)(V:i.bytes=I)(af:z.cells.size=size)(v:Value)(n:Nat)(d:List Value)(r:w.ownsRow l e size v n d)(x:Value)(m:Nat)(a:List Value)(c:Src P size A x m a w)(J:n+m<=maxLen)(W:((n+m)+(n+m+768)/4+512)*I<=281474976710656)(T:l<=w.heap.size):∃v' w',(Builtin.append_ #[t,A] E #[v,x]).run P w=.ok v' w'/\w'.ownsRow l e size v' (n+m) (d++a)/\w.grownBy w' v.ownBlock/\(v'.ownBlock=v.ownBlock∨v'.ownBlock=some w.heap.size):=by
 subst ad;subst V;have G:=c.newsLen;have N:((n+m:Nat):Int)<=9223372036854775807:=by simp only[maxLen]at J;omega
 have q:(d++a).length=(n+m)*i.size:=by rw[VK,r.1,G,Nat.add_mul]
 have grown:∀(b:Nat),b<n+m->∀(row:Option Nat),(w.drew.alloc (.cells ((d++a).toArray++Builtin.zeroCells z.cells (grownCap w (n+m) b e-(n+m))) e)).ownsRow l e i.size (.slice (some ⟨w.heap.size,0,none⟩) (n+m) (grownCap w (n+m) b e)) (n+m) (d++a)/\w.grownBy (w.drew.alloc (.cells ((d++a).toArray++Builtin.zeroCells z.cells (grownCap w (n+m) b e-(n+m))) e)) row:=by
  intro b M row;have Z:=grownCap_ge w (n+m) b e;have F:grownCap w (n+m) b e<=maxLen:=grownCap_le_maxLen w (n+m) b e J;refine⟨⟨q,.inr ⟨w.heap.size,_,_,rfl,T,heap_alloc_new w.drew _,Z,F,?_,?_⟩⟩,⟨rfl,rfl,rfl,by simp,fun k h _=>WE w.drew _ k h⟩⟩;. simp only[Array.size_append,List.size_toArray,size_zeroCells,af,q,<-Nat.add_mul];congr 1;omega
  ·simp only[Array.toList_append];rw[<-q];exact List.take_left
 have K:∀b,b<n+m->Builtin.nextslicecap (n+m) b*i.bytes<=281474976710656:=fun b M=>VS (Nat.mul_le_mul_right _ (Oz M)) W;rcases r.2 with⟨rfl,rfl⟩|⟨g,f,o,rfl,U,L,ag,F,X,ae⟩
 ·have hx:d=[]:=VP (by simpa using r.1);subst hx;by_cases hm:m=0;. subst hm;have hn:a=[]:=VP (by simpa using G);subst hn;refine⟨.slice none 0 0,w,?_,World.ownsRow_nil w l e i.size,⟨rfl,rfl,rfl,VN _,fun _ _ _=>rfl⟩,Or.inl rfl⟩;rcases c.kind with⟨S,h⟩|h<;>simp[Builtin.append_,run_underlying D,run_underlying h,sizeOf,typeInfo,C,c.len,c.cells]
  ·have y:=run_append_grow_src (P:=P) w t A E e i z D C Q none 0 0 [] (by simp[Builtin.firstCells]) x m a c (by omega) N (K 0 (by omega));have p:=grown 0 (by omega) (WT (.slice none 0 0));exact⟨_,_,y,p.1,p.2,Or.inr rfl⟩
 ·by_cases H:n+m<=f
  ·have Y:n*i.size+a.length<=o.size:=by rw[G,X,<-Nat.add_mul];exact Nat.mul_le_mul_right _ H
   have O:=run_storeCells_at P g (n*i.size) e a 0 o w L (by simpa using Y) c.one;simp only[Nat.add_zero]at O;have y:(Builtin.append_ #[t,A] E #[.slice (some ⟨g,0,none⟩) n f,x]).run P w=.ok (.slice (some ⟨g,0,none⟩) (n+m) f) (w.setRow g (o.toList.take (n*i.size)++a++o.toList.drop (n*i.size+a.length)).toArray):=by rcases c.kind with⟨S,h⟩|h<;>simp[Builtin.append_,run_underlying D,run_underlying h,sizeOf,typeInfo,C,c.len,H,c.cells,Addr.add_lit,O]
   refine⟨_,_,y,⟨q,.inr ⟨g,f,_,rfl,U,setRow_heap w g o _ e _ L,H,F,?_,?_⟩⟩,⟨rfl,rfl,rfl,by simp,fun k _ h=>setRow_other w g k _ (fun e=>h (by simp[WT,e]))⟩,Or.inl rfl⟩;. simp only[List.size_toArray,VK,List.length_take,List.length_drop,Array.length_toList];omega
   ·rw[ae,<-q];exact List.take_left
  ·have ab:∀j u,d[j]?=some u->w.cell? ((⟨g,0,none⟩:Addr).add j)=some u:=r.cells (g:=g) rfl;have aa:=run_firstCells_some (P:=P) w.drew i.size n ⟨g,0,none⟩ n f d r.1 (by simpa using ab);have y:=run_append_grow_src (P:=P) w t A E e i z D C Q (some ⟨g,0,none⟩) n f d aa x m a c (by omega) N (K f (by omega));have p:=grown f (by omega) (WT (.slice (some ⟨g,0,none⟩) n f));exact⟨_,_,y,p.1,p.2,Or.inr rfl⟩
theorem EX{o:Oper}{a:Act}{K:Act->World->Prop}{Q:Exit->Act->World->Prop}(s x:Operand)(t k:TypeId)(G:o.op=.call {callee:=.builtin .append,args:=#[s,x],argTypes:=#[t,k]})(d:Nat)(e:TypeId)(i:TypeInfo)(z:Value)(size f:Nat)(N:P.underlying t=some (.slice e))(F:P.info? e=some i)(S:i.zero=some z)(L:i.size=size)(D:i.bytes=f)(T:z.cells.size=size)(v:Value)(n:Nat)(l:List Value)(J:a.eval s=v)(H:w.ownsRow d e size v n l)(y:Value)(m:Nat)(j:List Value)(O:a.eval x=y)(M:Src P size k y m j w)(u:n+m<=maxLen)(E:((n+m)+(n+m+768)/4+512)*f<=281474976710656)(C:d<=w.heap.size)(h:∀A b c,c.ownsRow d e size (.slice A (n+m) b) (n+m) (l++j)->w.grownBy c v.ownBlock->((Wr A (n+m) b).ownBlock=v.ownBlock∨(Wr A (n+m) b).ownBlock=some w.heap.size)->K (a.put o.dst (.slice A (n+m) b)) c):o.wp P a w K Q:=by obtain⟨U,c,I,p,q,r⟩:=Re (P:=P) w d t k o.type e i z size f N F S L D T v n l H y m j M u E C;unfold Oper.wp execOp;simp only[G,resolve,invoke,builtin,Sem.run_bind,Sem.run_pure,Result.andThen_ok,List.map_toArray,List.map_cons,List.map_nil,J,O,I];obtain⟨A,b,rfl⟩:=aE p;exact h A b c p q r
theorem aX{k:Array Oper}{rest:List Oper}{o:Oper}{a:Act}{Q:Exit->Act->World->Prop}(D:o.guard=none)(s x:Operand)(t f:TypeId)(F:o.op=.call {callee:=.builtin .append,args:=#[s,x],argTypes:=#[t,f]})(b:Nat)(e:TypeId)(i:TypeInfo)(z:Value)(size c:Nat)(K:P.underlying t=some (.slice e))(E:P.info? e=some i)(M:i.zero=some z)(I:i.size=size)(u:i.bytes=c)(N:z.cells.size=size)(v:Value)(n:Nat)(j:List Value)(H:a.eval s=v)(G:w.ownsRow b e size v n j)(y:Value)(m:Nat)(d:List Value)(L:a.eval x=y)(J:Src P size f y m d w)(p:n+m<=maxLen)(C:((n+m)+(n+m+768)/4+512)*c<=281474976710656)(r:b<=w.heap.size)(h:∀A cp w',w'.ownsRow b e size (.slice A (n+m) cp) (n+m) (j++d)->w.grownBy w' v.ownBlock->((Wr A (n+m) cp).ownBlock=v.ownBlock∨(Wr A (n+m) cp).ownBlock=some w.heap.size)->wpList P k Q rest (a.put o.dst (.slice A (n+m) cp)) w'):wpList P k Q (o::rest) a w:=wpList_plain D fun _ q=>EX w s x t f F b e i z size c K E M I u N v n j H G y m d L J p C r fun A cp w' h2 h3 l=>q _ _ (h A cp w' h2 h3 l)
theorem iw{k:Array Oper}{o:Oper}{a:Act}{K:Act->World->Prop}{Q:Exit->Act->World->Prop}{E:Prop}(u:o.guard=none)(s x:Operand)(t f:TypeId)(D:o.op=.call {callee:=.builtin .append,args:=#[s,x],argTypes:=#[t,f]})(b:Nat)(e:TypeId)(i:TypeInfo)(z:Value)(size c:Nat)(J:P.underlying t=some (.slice e))(C:P.info? e=some i)(M:i.zero=some z)(H:i.size=size)(q:i.bytes=c)(N:z.cells.size=size)(v:Value)(n:Nat)(j:List Value)(G:a.eval s=v)(F:w.ownsRow b e size v n j)(y:Value)(m:Nat)(d:List Value)(L:a.eval x=y)(I:Src P size f y m d w)(l:n+m<=maxLen)(r:((n+m)+(n+m+768)/4+512)*c<=281474976710656)(p:b<=w.heap.size)(h:∀A cp w',w'.ownsRow b e size (.slice A (n+m) cp) (n+m) (j++d)->w.grownBy w' v.ownBlock->((Wr A (n+m) cp).ownBlock=v.ownBlock∨(Wr A (n+m) cp).ownBlock=some w.heap.size)->K (a.put o.dst (.slice A (n+m) cp)) w'):if XS o (yielded k a.tmps)=true then Oper.wp P o a w K Q else E:=by
 have hw:XS o (yielded k a.tmps)=true:=by simp[XS,u]
 rw[if_pos hw];exact EX w s x t f D b e i z size c J C M H q N v n j G F y m d L I l r p h
end
/-! A scope in which the run jumps to labels: what holds at every jump bears a number that every pass lowers. -/
def Exit.jumps(J:Nat->Act->World->Prop)(Q:Exit->Act->World->Prop):Exit->Act->World->Prop|.goto l,a,w=>J l a w|e,a,w=>Q e a w
theorem EY{a:Act}{Q:Exit->Act->World->Prop}{c:Code}(J:Nat->Nat->Act->World->Prop)(first:c.wp P (Exit.jumps (fun l a w=>∃n,J n l a w) Q) a w)(A:∀n l a w,J n l a w->∃rest,findLabel c l=some rest/\rest.wp P (Exit.jumps (fun j q w'=>∃p,p<n/\J p j q w') Q) a w):(Code.scope c).wp P Q a w:=by
 intro b k r;have key:∀n l a w,J n l a w->∀rest,findLabel c l=some rest->∃e q w',Q e q w'/\Arrives P (lone (b.at a (.code rest::.inScope c::k)) r w) b k r e q w':=by intro n;induction n using Nat.strongRecOn with|_ n L=>intro l a w G rest K;obtain⟨M,E,I⟩:=A n l a w G;rw[K]at E;cases E;obtain⟨e,d,f,i,h⟩:=I b (.inScope c::k) r;cases e with|normal=>exact⟨.normal,d,f,i,Steps.trans h (.one step_inScope)⟩|exit id=>exact⟨.exit id,d,f,i,fun k' y=>h k' (by simp[exitTo,y])⟩|goto j=>obtain⟨p,H,m⟩:=i;obtain⟨C,o,_⟩:=A p j d f m;obtain⟨u,t,D,z,x⟩:=L p H j d f m C o;exact⟨u,t,D,z,.of_steps (h _ (by simp[gotoIn,o])) x⟩|ret=>exact⟨_,d,f,i,h⟩|panic F=>exact⟨_,d,f,i,h⟩|outgrown=>exact⟨_,d,f,i,h⟩
 obtain⟨e,d,f,i,h⟩:=first b (.inScope c::k) r;cases e with|normal=>exact⟨.normal,d,f,i,.head step_scope (Steps.trans h (.one step_inScope))⟩|exit id=>exact⟨.exit id,d,f,i,fun k' y=>.head step_scope (h k' (by simp[exitTo,y]))⟩|goto j=>obtain⟨n,m⟩:=i;obtain⟨C,o,_⟩:=A n j d f m;obtain⟨u,t,D,z,x⟩:=key n j d f m C o;exact⟨u,t,D,z,.of_steps (.head step_scope (h _ (by simp[gotoIn,o]))) x⟩|ret=>exact⟨_,d,f,i,.of_steps (.one step_scope) h⟩|panic F=>exact⟨_,d,f,i,.of_steps (.one step_scope) h⟩|outgrown=>exact⟨_,d,f,i,.of_steps (.one step_scope) h⟩
theorem Ug{a:Act}{Q:Exit->Act->World->Prop}{X:Code}{n0:Nat}(J:Nat->Nat->Act->World->Prop)(o:J n0 k a w)(m:∀n a w,J n k a w->X.wp P (Exit.jumps (fun i d h=>∃b,b<n/\J b i d h) Q) a w)(q:∀n l a w,l≠k->J n l a w->∃rest,findLabel (.seq (.label k) X) l=some rest/\rest.wp P (Exit.jumps (fun i d h=>∃b,b<n/\J b i d h) Q) a w):(Code.scope (.seq (.label k) X)).wp P Q a w:=by
 have p:findLabel (.seq (.label k) X) k=some (.seq .skip X):=by simp[findLabel]
 refine EY J ?_ fun n l a w f=>?_;. apply wp_seq;apply wp_label;refine Code.wp_mono ?_ (m n0 a w o);intro e d h c;cases e with|goto l=>obtain⟨b,_,f⟩:=c;exact⟨b,f⟩|normal=>exact c|exit id=>exact c|ret=>exact c|panic r=>exact c|outgrown=>exact c
 ·by_cases j:l=k;. subst j;refine⟨_,p,?_⟩;apply wp_seq;apply wp_skip;exact m n a w f
  ·exact q n l a w j f
def ng(v:Value)(n:Nat)(f:Nat->Value):Array Value:=(v::(List.range n).map f).toArray
theorem Jo{tmps:Array Value}(c:tmps.size=k+1)(a:tmps.getD 0 undef=v):∃f,tmps=ng v k f:=by
 refine⟨fun i=>tmps.getD (i+1) undef,?_⟩;apply Array.ext';simp only[ng];apply List.ext_getElem;. simp[c]
 ·intro i b d;cases i with|zero=>simp at a⊢;rw[<-a];simp[c]|succ i=>simp at b;simp[b]
theorem SG{b:Array Oper}{o:Oper}{a:Act}{K:Act->World->Prop}{Q:Exit->Act->World->Prop}{E:Prop}(d:o.guard=none)(f:FuncId)(args:Array Operand)(n:Array TypeId)(j:o.op=.call {callee:=.value (.func f),args,argTypes:=n})(l:(callFunc f (args.map a.eval)).run P w=.ok (.enter f (args.map a.eval)) w)(R:Ending->World->Prop)(c:Calls P f (args.map a.eval) w R)(h:∀e w',R e w'->∃v,e=.returned v/\K (a.put o.dst v) w'):if XS o (yielded b a.tmps)=true then Oper.wp P o a w K Q else E:=by
 have hw:XS o (yielded b a.tmps)=true:=by simp[XS,d]
 rw[if_pos hw];unfold Oper.wp execOp;simp only[j,resolve,invoke,Deferred.ofValue,Act.eval,Sem.run_bind,Sem.run_pure,Result.andThen_ok,Array.append_empty,Array.empty_append];have m:Sem.run P (callFunc f (Array.map a.eval args)) w=.ok (.enter f (Array.map a.eval args)) w:=l;rw[m,Oper.upon_enter];refine c.mono fun e w' k=>?_;obtain⟨v,rfl,i⟩:=h e w' k;exact i
end
section
namespace Lx
abbrev Bytes:=List UInt8
abbrev Env:=List (Bytes×Bytes)
abbrev bJ(α:Type):=Except Int α
def ax(l:Bytes):Nat:=l.count 10
def over:Bytes->Bool|[]=>true|b::_=>b==32||b==9||b==10||b==59
def letter(b:UInt8):Bool:=(97<=b&&b<=122)||(65<=b&&b<=90)||b==95
def digit(b:UInt8):Bool:=48<=b&&b<=57
def more:Bytes->Bytes×Bytes|[]=>([],[])|b::r=>if letter b||digit b then(b::(more r).1,(more r).2)else([],b::r)
def name:Bytes->Bytes×Bytes|[]=>([],[])|b::r=>if letter b then(b::(more r).1,(more r).2)else([],b::r)
def value(env:Env)(n:Bytes):Bytes:=env.foldl (fun v p=>if p.1=n then p.2 else v) []
def put(t u:Bytes):bJ Bytes:=if(t++u).length>8192 then .error 2 else .ok (t++u)
def cM(env:Env)(t:Bytes):Bytes->bJ (Bytes×Bytes)
|123::r=>if(name r).1=[]then .error 4 else match(name r).2 with
 |125::a=>match put t (value env (name r).1)with|.error c=>.error c|.ok t'=>.ok (t',a)
 |_=>.error 4
|r=>if(name r).1=[]then match put t [36]with|.error c=>.error c|.ok t'=>.ok (t',r)else match put t (value env (name r).1)with|.error c=>.error c|.ok t'=>.ok (t',(name r).2)
def kI(c:UInt8):Bytes:=if c=110 then[10]else if c=116 then[9]else if c=101 then[27]else[c]
theorem Od(r:Bytes):(more r).2.length<=r.length:=by induction r with|nil=>simp[more]|cons b r a=>simp only[more];split<;>simp;omega
theorem kU(r:Bytes):(name r).2.length<=r.length:=by cases r with|nil=>simp[name]|cons b r=>simp only[name];split<;>simp;have :=Od r;omega
theorem gV{env:Env}{t r t' r':Bytes}(h:cM env t r=.ok (t',r')):r'.length<=r.length:=by
 unfold cM at h;split at h
 ·rename_i b;have a:=kU b;split at h;. cases h
  ·split at h
   ·rename_i c e;rw[e]at a;split at h;. cases h
    ·cases h;simp at a⊢;omega
   ·cases h
 ·have a:=kU r;split at h
  all_goals
   split at h;. cases h
   ·cases h;omega
def quoted(env:Env)(t:Bytes):Bytes->bJ (Bytes×Bytes)|[]=>.error 4|b::r=>if b=34 then .ok (t,r)else if b=36 then match hd:cM env t r with|.error c=>.error c|.ok (t',a)=>have :=gV hd;quoted env t' a else if b=92 then match r with|[]=>.error 4|c::a=>if c=10 then quoted env t a else match put t (kI c)with|.error e=>.error e|.ok t'=>quoted env t' a else match put t [b]with|.error e=>.error e|.ok t'=>quoted env t' r termination_by r=>r.length decreasing_by all_goals((try simp only[VM]at*);omega)
theorem j7(env:Env)(t:Bytes):quoted env t []=.error 4:=by rw[quoted]
theorem jv(env:Env)(t:Bytes)(b:UInt8)(r:Bytes):quoted env t (b::r)=if b=34 then .ok (t,r)else if b=36 then match cM env t r with|.error c=>.error c|.ok (t',a)=>quoted env t' a else if b=92 then match r with|[]=>.error 4|c::a=>if c=10 then quoted env t a else match put t (kI c)with|.error e=>.error e|.ok t'=>quoted env t' a else match put t [b]with|.error e=>.error e|.ok t'=>quoted env t' r:=by
 rw[quoted.eq_def];dsimp only;congr 1;split;. split<;>simp_all
 ·rfl
def single(t:Bytes):Bytes->bJ (Bytes×Bytes)|[]=>.error 4|b::r=>if b=39 then .ok (t,r)else match put t [b]with|.error e=>.error e|.ok t'=>single t' r
theorem nS{r:Bytes}:∀{t c a:Bytes},single t r=.ok (c,a)->a.length<r.length:=by
 induction r with
 |nil=>intro t c a h;cases h
 |cons b r d=>
  intro t c a h;unfold single at h;split at h;. cases h;simp
  ·split at h;. cases h
   ·have :=d h;simp;omega
theorem l9{env:Env}:∀(n:Nat){t r t' r':Bytes},r.length<=n->quoted env t r=.ok (t',r')->r'.length<r.length:=by
 intro n
 induction n with
 |zero=>intro t r t' r' c h;have :r=[]:=VP (by omega);subst this;rw[j7]at h;cases h
 |succ n a=>
  intro t r t' r' c h
  cases r with
  |nil=>rw[j7]at h;cases h
  |cons b r=>
   simp only[VM]at c⊢;rw[jv]at h;split at h;. cases h;omega
   ·split at h
    ·split at h;. cases h
     ·rename_i d;have e:=gV d;have f:=a (by omega) h;omega
    ·split at h
     ·split at h;. cases h
      ·simp only[VM]at c⊢;split at h;. have :=a (by omega) h;omega
       ·split at h;. cases h
        ·have :=a (by omega) h;omega
     ·split at h;. cases h
      ·have :=a (by omega) h;omega
def word(env:Env)(first:Bool)(t:Bytes)(r:Bytes):bJ (Bytes×Bytes):=if over r then .ok (t,r)else match r with|[]=>.ok (t,[])|b::r=>if b=39 then match hd:single t r with|.error c=>.error c|.ok (t',a)=>have :=nS hd;word env false t' a else if b=34 then match hd:quoted env t r with|.error c=>.error c|.ok (t',a)=>have :=l9 _ (VN _) hd;word env false t' a else if b=92 then match r with|[]=>.error 4|c::a=>if c=10 then word env false t a else match put t [c]with|.error e=>.error e|.ok t'=>word env false t' a else if b=36 then match hd:cM env t r with|.error c=>.error c|.ok (t',a)=>have :=gV hd;word env false t' a else if b=126/\first=true/\(r.head?=some 47∨over r=true)then match put t (value env [72,79,77,69])with|.error e=>.error e|.ok t'=>word env false t' r else match put t [b]with|.error e=>.error e|.ok t'=>word env false t' r termination_by r.length decreasing_by all_goals((try simp only[VM]at*);omega)
theorem fF(env:Env)(f:Bool)(t r:Bytes)(h:over r=true):word env f t r=.ok (t,r):=by rw[word.eq_def,if_pos h]
theorem fV(env:Env)(first:Bool)(t:Bytes)(b:UInt8)(r:Bytes):over (b::r)=false->word env first t (b::r)=if b=39 then match single t r with|.error c=>.error c|.ok (t',d)=>word env false t' d else if b=34 then match quoted env t r with|.error c=>.error c|.ok (t',d)=>word env false t' d else if b=92 then match r with|[]=>.error 4|c::d=>if c=10 then word env false t d else match put t [c]with|.error e=>.error e|.ok t'=>word env false t' d else if b=36 then match cM env t r with|.error c=>.error c|.ok (t',d)=>word env false t' d else if b=126/\first=true/\(r.head?=some 47∨over r=true)then match put t (value env [72,79,77,69])with|.error e=>.error e|.ok t'=>word env false t' r else match put t [b]with|.error e=>.error e|.ok t'=>word env false t' r:=by
 intro j;rw[word.eq_def,if_neg (by simp[j])];dsimp only;by_cases a:b=39;. rw[if_pos a,if_pos a];split<;>simp_all
 by_cases f:b=34;. rw[if_neg a,if_pos f,if_neg a,if_pos f];split<;>simp_all
 by_cases h:b=92;. simp only[if_neg a,if_neg f,if_pos h];cases r<;>rfl
 by_cases i:b=36;. rw[if_neg a,if_neg f,if_neg h,if_pos i,if_neg a,if_neg f,if_neg h,if_pos i];split<;>simp_all
 simp only[if_neg a,if_neg f,if_neg h,if_neg i]
def iV:Bytes->Option Bytes|[]=>none|b::r=>if b=39 then some r else iV r
def dA:Bytes->Option Bytes|[]=>none|b::r=>if b=34 then some r else if b=92 then match r with|[]=>none|_::a=>dA a else dA r
theorem wH{r a:Bytes}(h:iV r=some a):a.length<r.length:=by
 induction r with
 |nil=>cases h
 |cons b r c=>
  unfold iV at h;split at h;. cases h;simp
  ·have :=c h;simp;omega
theorem wG:∀(n:Nat){r a:Bytes},r.length<=n->dA r=some a->a.length<r.length:=by
 intro n
 induction n with
 |zero=>intro r a c h;have :r=[]:=VP (by omega);subst this;unfold dA at h;cases h
 |succ n d=>
  intro r a c h
  cases r with
  |nil=>unfold dA at h;cases h
  |cons b r=>
   simp only[VM]at c⊢;rw[dA.eq_def]at h;simp only at h;split at h;. cases h;omega
   ·split at h
    ·split at h;. cases h
     ·simp only[VM]at c⊢;have :=d (by omega) h;omega
    ·have :=d (by omega) h;omega
def blk(a:Nat):Bytes->Option Bytes|[]=>none|b::r=>if b=123 then blk (a+1) r else if b=125 then(if a<=1 then some r else blk (a-1) r)else if b=92 then match r with|[]=>none|_::c=>blk a c else if b=39 then match hd:iV r with|none=>none|some c=>have :=wH hd;blk a c else if b=34 then match hd:dA r with|none=>none|some c=>have :=wG _ (VN _) hd;blk a c else blk a r termination_by r=>r.length decreasing_by all_goals((try simp only[VM]at*);omega)
theorem oG(a:Nat):blk a []=none:=by rw[blk]
theorem oF(a:Nat)(b:UInt8)(r:Bytes):blk a (b::r)=if b=123 then blk (a+1) r else if b=125 then(if a<=1 then some r else blk (a-1) r)else if b=92 then match r with|[]=>none|_::c=>blk a c else if b=39 then match iV r with|none=>none|some c=>blk a c else if b=34 then match dA r with|none=>none|some c=>blk a c else blk a r:=by
 rw[blk.eq_def];dsimp only;congr 1;congr 1;congr 1;congr 1;. split<;>simp_all
 ·congr 1;split<;>simp_all
theorem jM:∀(n:Nat){d:Nat}{r c:Bytes},r.length<=n->blk d r=some c->c.length<r.length:=by
 intro n
 induction n with
 |zero=>intro d r c f h;have :r=[]:=VP (by omega);subst this;rw[oG]at h;cases h
 |succ n a=>
  intro d r c f h
  cases r with
  |nil=>rw[oG]at h;cases h
  |cons b r=>
   simp only[VM]at f⊢;rw[oF]at h;split at h;. have :=a (by omega) h;omega
   ·split at h
    ·split at h;. cases h;omega
     ·have :=a (by omega) h;omega
    ·split at h
     ·split at h;. cases h
      ·simp only[VM]at f⊢;have :=a (by omega) h;omega
     ·split at h
      ·split at h;. cases h
       ·rename_i e;have i:=wH e;have :=a (by omega) h;omega
      ·split at h
       ·split at h;. cases h
        ·rename_i e;have i:=wG _ (VN _) e;have :=a (by omega) h;omega
       ·have :=a (by omega) h;omega
theorem mq{env:Env}:∀(n:Nat){f:Bool}{t r j d:Bytes},r.length<=n->word env f t r=.ok (j,d)->d.length<=r.length:=by
 intro n
 induction n with
 |zero=>intro f t r j d e h;have :r=[]:=VP (by omega);subst this;rw[fF _ _ _ _ rfl]at h;cases h;simp
 |succ n a=>
  intro f t r j d e h
  cases i:over r with
  |true=>rw[fF _ _ _ _ i]at h;cases h;omega
  |false=>
   cases r with
   |nil=>simp[over]at i
   |cons b r=>
    rw[fV _ _ _ _ _ i]at h;simp only[VM]at e⊢;split at h
    ·split at h;. cases h
     ·rename_i c;have k:=nS c;have :=a (by omega) h;omega
    ·split at h
     ·split at h;. cases h
      ·rename_i c;have k:=l9 _ (VN _) c;have :=a (by omega) h;omega
     ·split at h
      ·split at h;. cases h
       ·simp only[VM]at e⊢;split at h;. have :=a (by omega) h;omega
        ·split at h;. cases h
         ·have :=a (by omega) h;omega
      ·split at h
       ·split at h;. cases h
        ·rename_i c;have k:=gV c;have :=a (by omega) h;omega
       ·split at h
        all_goals
         split at h;. cases h
         ·have :=a (by omega) h;omega
theorem word_lt{env:Env}{f:Bool}{t r i e:Bytes}(d:over r=false)(h:word env f t r=.ok (i,e)):e.length<r.length:=by
 cases r with
 |nil=>simp[over]at d
 |cons b r=>
  rw[fV _ _ _ _ _ d]at h;simp only[VM];split at h
  ·split at h;. cases h
   ·rename_i a;have c:=nS a;have :=mq _ (VN _) h;omega
  ·split at h
   ·split at h;. cases h
    ·rename_i a;have c:=l9 _ (VN _) a;have :=mq _ (VN _) h;omega
   ·split at h
    ·split at h;. cases h
     ·simp only[VM];split at h;. have :=mq _ (VN _) h;omega
      ·split at h;. cases h
       ·have :=mq _ (VN _) h;omega
    ·split at h
     ·split at h;. cases h
      ·rename_i a;have c:=gV a;have :=mq _ (VN _) h;omega
     ·split at h
      all_goals
       split at h;. cases h
       ·have :=mq _ (VN _) h;omega
structure W where
 text:Bytes
 line:Nat
 block:Bool deriving DecidableEq
abbrev Ln:=List W×Nat
def fin(now:List W)(out:List Ln)(g:Nat):List Ln:=if now=[]then out else out++[(now,g)]
def bump(out:List Ln)(g:Nat):Nat:=match out.getLast? with|none=>g|some l=>if l.2=g then g+1 else g
def cQ:Bytes->Bytes|[]=>[]|b::r=>if b=10 then b::r else cQ r
theorem lk(r:Bytes):(cQ r).length<=r.length:=by induction r with|nil=>simp[cQ]|cons b r a=>simp only[cQ];split<;>simp;omega
def read(env:Env)(line:Nat)(now:List W)(out:List Ln)(g:Nat):Bytes->Except (Int×Nat) (List Ln)|[]=>.ok (fin now out g)|b::r=>if b=32∨b=9 then read env line now out g r else if b=92/\r.head?=some 10 then read env (line+1) now out g r.tail else if b=35 then have :=lk r;read env line now out g (cQ r)else if b=59 then read env line [] (fin now out g) g r else if b=10 then read env (line+1) [] (fin now out g) (bump (fin now out g) g) r else if b=125 then .error (4,line)else if now.length=256∨now=[]/\out.length=1000 then .error (3,line)else if b=123 then match hd:blk 1 r with|none=>.error (4,line)|some a=>have :=jM _ (VN _) hd;if over a then read env (line+(ax r-ax a)) (now++[⟨r.take (r.length-a.length-1),line,true⟩]) out g a else .error (4,line)else if d:over (b::r)=false then match hd:word env true [] (b::r)with|.error c=>.error (c,line)|.ok (t,a)=>have :=word_lt d hd;read env (line+(ax (b::r)-ax a)) (now++[⟨t,line,false⟩]) out g a else .error (0,0)termination_by r=>r.length decreasing_by all_goals((try simp only[VM,Xb]at*);omega)
theorem cP(env:Env)(line:Nat)(now:List W)(out:List Ln)(g:Nat):read env line now out g []=.ok (fin now out g):=by rw[read]
theorem b8(env:Env)(line:Nat)(now:List W)(out:List Ln)(g:Nat)(b:UInt8)(r:Bytes):read env line now out g (b::r)=if b=32∨b=9 then read env line now out g r else if b=92/\r.head?=some 10 then read env (line+1) now out g r.tail else if b=35 then read env line now out g (cQ r)else if b=59 then read env line [] (fin now out g) g r else if b=10 then read env (line+1) [] (fin now out g) (bump (fin now out g) g) r else if b=125 then .error (4,line)else if now.length=256∨now=[]/\out.length=1000 then .error (3,line)else if b=123 then match blk 1 r with|none=>.error (4,line)|some d=>if over d then read env (line+(ax r-ax d)) (now++[⟨r.take (r.length-d.length-1),line,true⟩]) out g d else .error (4,line)else match word env true [] (b::r)with|.error c=>.error (c,line)|.ok (t,d)=>read env (line+(ax (b::r)-ax d)) (now++[⟨t,line,false⟩]) out g d:=by
 rw[read.eq_def];dsimp only;by_cases a:b=32∨b=9;. rw[if_pos a,if_pos a]
 by_cases e:b=92/\r.head?=some 10;. simp only[if_neg a,if_pos e]
 by_cases f:b=35;. simp only[if_neg a,if_neg e,if_pos f]
 by_cases h:b=59;. simp only[if_neg a,if_neg e,if_neg f,if_pos h]
 by_cases i:b=10;. simp only[if_neg a,if_neg e,if_neg f,if_neg h,if_pos i]
 have k:over (b::r)=false:=by simp only[not_or]at a;simp[over,a,h,i]
 simp only[if_neg a,if_neg e,if_neg f,if_neg h,if_neg i,k];congr 1;congr 1;congr 1;. split<;>simp_all
 ·rw[dif_pos True.intro];split<;>(rename_i j;rw[j])
def split(env:Env)(s:Bytes):Except (Int×Nat) (List Ln):=if s.length>65536 then .error (2,0)else read env 1 [] [] 1 s
end Lx
namespace Lx
variable{env:Env}
def tail(b:Bytes):Bytes:=10::b
theorem jo(p r:Bytes):ax (p++r)=ax p+ax r:=List.count_append
theorem CU(r b:Bytes)(h:over r=true):over (r++tail b)=true:=by cases r with|nil=>simp[over,tail]|cons c r=>simpa[over]using h
theorem Oe(r b:Bytes):r=(more r).1++(more r).2/\more (r++tail b)=((more r).1,(more r).2++tail b):=by
 induction r with
 |nil=>exact⟨rfl,by simp[more,tail,letter,digit]⟩
 |cons c r a=>
  rw[Wa];simp only[more];split;. refine⟨?_,by rw[a.2]⟩;have :=a.1;rw[Wa,<-this]
  ·exact⟨rfl,rfl⟩
theorem Cx(r b:Bytes):r=(name r).1++(name r).2/\name (r++tail b)=((name r).1,(name r).2++tail b):=by
 cases r with
 |nil=>exact⟨rfl,by simp[name,tail,letter]⟩
 |cons c r=>
  have h:=Oe r b;rw[Wa];simp only[name];split;. refine⟨?_,by rw[h.2]⟩;rw[Wa,<-h.1]
  ·exact⟨rfl,rfl⟩
theorem zo{t r l j:Bytes}(b:Bytes)(h:cM env t r=.ok (l,j)):(∃p,r=p++j)/\cM env t (r++tail b)=.ok (l,j++tail b):=by
 unfold cM at h;split at h
 ·rename_i a;have d:=Cx a b;split at h;. cases h
  ·rename_i f;split at h
   ·rename_i o e;split at h;. cases h
    ·rename_i m i;cases h;rw[e]at d;refine⟨⟨123::(name a).1++[125],by simp;simpa using d.1⟩,?_⟩;rw[Wa,cM.eq_def];simp only[d.2,if_neg f,Wa,i]
   ·cases h
 ·rename_i n;have d:=Cx r b;have k:∀a,r++tail b=123::a->False:=by intro a e;cases r with|nil=>simp[tail]at e|cons c r=>rw[Wa]at e;exact n r (by rw[(List.cons.inj e).1])
  split at h
  ·rename_i f;split at h;. cases h
   ·rename_i m i;cases h;refine⟨⟨[],rfl⟩,?_⟩;rw[cM.eq_def];split;. rename_i a e;exact absurd e (k a)
    ·simp only[d.2,if_pos f,i]
  ·rename_i f;split at h;. cases h
   ·rename_i m i;cases h;refine⟨⟨_,d.1⟩,?_⟩;rw[cM.eq_def];split;. rename_i a e;exact absurd e (k a)
    ·simp only[d.2,if_neg f,i]
theorem RU{r:Bytes}(b:Bytes):∀{t d a:Bytes},single t r=.ok (d,a)->(∃p,r=p++a)/\single t (r++tail b)=.ok (d,a++tail b):=by
 induction r with
 |nil=>intro t d a h;cases h
 |cons c r j=>
  intro t d a h;unfold single at h;rw[Wa];unfold single;split at h;. rename_i e;cases h;exact⟨⟨[c],rfl⟩,by rw[if_pos e]⟩
  ·rename_i e;rw[if_neg e];split at h;. cases h
   ·rename_i l k;obtain⟨⟨p,f⟩,i⟩:=j h;exact⟨⟨c::p,by rw[f];rfl⟩,i⟩
theorem QE(b:Bytes):∀(n:Nat){t r j f:Bytes},r.length<=n->quoted env t r=.ok (j,f)->(∃p,r=p++f)/\quoted env t (r++tail b)=.ok (j,f++tail b):=by
 intro n
 induction n with
 |zero=>intro t r j f o h;have :r=[]:=VP (by omega);subst this;rw[j7]at h;cases h
 |succ n i=>
  intro t r j f o h
  cases r with
  |nil=>rw[j7]at h;cases h
  |cons c r=>
   simp only[VM]at o;rw[jv]at h;rw[Wa,jv];split at h;. rename_i e;cases h;exact⟨⟨[c],rfl⟩,by rw[if_pos e]⟩
   ·rename_i y;rw[if_neg y];split at h
    ·rename_i k;rw[if_pos k];split at h;. cases h
     ·rename_i x C w;have A:=gV w;obtain⟨⟨p,u⟩,z⟩:=zo b w;obtain⟨⟨q,a⟩,d⟩:=i (by omega) h;refine⟨⟨c::(p++q),by rw[u,a];simp⟩,?_⟩;rw[z];exact d
    ·rename_i k;rw[if_neg k];split at h
     ·rename_i l;rw[if_pos l];split at h;. cases h
      ·rename_i c2 D;simp only[VM]at o;rw[Wa];dsimp only;split at h;. rename_i m;rw[if_pos m];obtain⟨⟨q,a⟩,d⟩:=i (by omega) h;exact⟨⟨c::c2::q,by rw[a];rfl⟩,d⟩
       ·rename_i m;rw[if_neg m];split at h;. cases h
        ·rename_i x u;obtain⟨⟨q,a⟩,d⟩:=i (by omega) h;exact⟨⟨c::c2::q,by rw[a];rfl⟩,d⟩
     ·rename_i l;rw[if_neg l];split at h;. cases h
      ·rename_i x u;obtain⟨⟨q,a⟩,d⟩:=i (by omega) h;exact⟨⟨c::q,by rw[a];rfl⟩,d⟩
theorem xg(b:Bytes):∀(n:Nat){f:Bool}{t r w o:Bytes},r.length<=n->word env f t r=.ok (w,o)->(∃p,r=p++o)/\word env f t (r++tail b)=.ok (w,o++tail b):=by
 intro n
 induction n with
 |zero=>intro f t r w o C h;have :r=[]:=VP (by omega);subst this;rw[fF _ _ _ _ rfl]at h;cases h;exact⟨⟨[],rfl⟩,fF _ _ _ _ rfl⟩
 |succ n k=>
  intro f t r w o C h
  cases l:over r with
  |true=>rw[fF _ _ _ _ l]at h;cases h;exact⟨⟨[],rfl⟩,fF _ _ _ _ (CU _ _ l)⟩
  |false=>
   cases r with
   |nil=>cases l
   |cons c r=>
    simp only[VM]at C;rw[fV _ _ _ _ _ l]at h;rw[Wa,fV _ _ _ _ _ (show over (c::(r++tail b))=false from l)];split at h
    ·rename_i x;rw[if_pos x];split at h;. cases h
     ·rename_i u E e;have D:=nS e;obtain⟨⟨p,i⟩,m⟩:=RU b e;obtain⟨⟨q,a⟩,d⟩:=k (by omega) h;refine⟨⟨c::(p++q),by rw[i,a];simp⟩,?_⟩;rw[m];exact d
    ·rename_i x;rw[if_neg x];split at h
     ·rename_i y;rw[if_pos y];split at h;. cases h
      ·rename_i u E e;have D:=l9 _ (VN _) e;obtain⟨⟨p,i⟩,m⟩:=QE b _ (VN _) e;obtain⟨⟨q,a⟩,d⟩:=k (by omega) h;refine⟨⟨c::(p++q),by rw[i,a];simp⟩,?_⟩;rw[m];exact d
     ·rename_i y;rw[if_neg y];split at h
      ·rename_i z;rw[if_pos z];split at h;. cases h
       ·rename_i c2 G;simp only[VM]at C;rw[Wa];dsimp only;split at h;. rename_i j;rw[if_pos j];obtain⟨⟨q,a⟩,d⟩:=k (by omega) h;exact⟨⟨c::c2::q,by rw[a];rfl⟩,d⟩
        ·rename_i j;rw[if_neg j];split at h;. cases h
         ·rename_i u i;obtain⟨⟨q,a⟩,d⟩:=k (by omega) h;exact⟨⟨c::c2::q,by rw[a];rfl⟩,d⟩
      ·rename_i z;rw[if_neg z];split at h
       ·rename_i j;rw[if_pos j];split at h;. cases h
        ·rename_i u E e;have D:=gV e;obtain⟨⟨p,i⟩,m⟩:=zo b e;obtain⟨⟨q,a⟩,d⟩:=k (by omega) h;refine⟨⟨c::(p++q),by rw[i,a];simp⟩,?_⟩;rw[m];exact d
       ·rename_i j;rw[if_neg j];have F:((r++tail b).head?=some 47∨over (r++tail b)=true)↔(r.head?=some 47∨over r=true):=by cases r<;>simp[over,tail]
        simp only[F];split at h
        ·rename_i A;rw[if_pos A];split at h;. cases h
         ·rename_i u i;obtain⟨⟨q,a⟩,d⟩:=k (by omega) h;exact⟨⟨c::q,by rw[a];rfl⟩,d⟩
        ·rename_i A;rw[if_neg A];split at h;. cases h
         ·rename_i u i;obtain⟨⟨q,a⟩,d⟩:=k (by omega) h;exact⟨⟨c::q,by rw[a];rfl⟩,d⟩
theorem RX(x:Bytes){r:Bytes}:∀{a:Bytes},iV r=some a->(∃p,r=p++a)/\iV (r++x)=some (a++x):=by
 induction r with
 |nil=>intro a h;cases h
 |cons c r f=>
  intro a h;unfold iV at h;rw[Wa];unfold iV;split at h;. rename_i e;cases h;exact⟨⟨[c],rfl⟩,by rw[if_pos e]⟩
  ·rename_i e;obtain⟨⟨p,b⟩,d⟩:=f h;exact⟨⟨c::p,by rw[b];rfl⟩,by rw[if_neg e];exact d⟩
theorem D4:dA []=none:=by rw[dA]
theorem r_(b:UInt8)(r:Bytes):dA (b::r)=if b=34 then some r else if b=92 then match r with|[]=>none|_::a=>dA a else dA r:=by rw[dA.eq_def];rfl
theorem RW(x:Bytes):∀(n:Nat){r a:Bytes},r.length<=n->dA r=some a->(∃p,r=p++a)/\dA (r++x)=some (a++x):=by
 intro n
 induction n with
 |zero=>intro r a d h;have :r=[]:=VP (by omega);subst this;rw[D4]at h;cases h
 |succ n j=>
  intro r a d h
  cases r with
  |nil=>rw[D4]at h;cases h
  |cons c r=>
   simp only[VM]at d;rw[r_]at h;rw[Wa,r_];split at h;. rename_i e;cases h;exact⟨⟨[c],rfl⟩,by rw[if_pos e]⟩
   ·rename_i e;rw[if_neg e];split at h
    ·rename_i b;rw[if_pos b];split at h;. cases h
     ·rename_i c2 k;simp only[VM]at d;obtain⟨⟨p,f⟩,i⟩:=j (by omega) h;exact⟨⟨c::c2::p,by rw[f];rfl⟩,i⟩
    ·rename_i b;rw[if_neg b];obtain⟨⟨p,f⟩,i⟩:=j (by omega) h;exact⟨⟨c::p,by rw[f];rfl⟩,i⟩
theorem tA(x:Bytes):∀(n:Nat){k:Nat}{r j:Bytes},r.length<=n->blk k r=some j->(∃p,r=p++j)/\blk k (r++x)=some (j++x):=by
 intro n
 induction n with
 |zero=>intro k r j t h;have :r=[]:=VP (by omega);subst this;rw[oG]at h;cases h
 |succ n f=>
  intro k r j t h
  cases r with
  |nil=>rw[oG]at h;cases h
  |cons c r=>
   simp only[VM]at t;rw[oF]at h;rw[Wa,oF];split at h;. rename_i e;rw[if_pos e];obtain⟨⟨p,a⟩,b⟩:=f (by omega) h;exact⟨⟨c::p,by rw[a];rfl⟩,b⟩
   ·rename_i e;rw[if_neg e];split at h
    ·rename_i l;rw[if_pos l];split at h;. rename_i d;cases h;exact⟨⟨[c],rfl⟩,by rw[if_pos d]⟩
     ·rename_i d;rw[if_neg d];obtain⟨⟨p,a⟩,b⟩:=f (by omega) h;exact⟨⟨c::p,by rw[a];rfl⟩,b⟩
    ·rename_i l;rw[if_neg l];split at h
     ·rename_i d;rw[if_pos d];split at h;. cases h
      ·rename_i c2 A;simp only[VM]at t;obtain⟨⟨p,a⟩,b⟩:=f (by omega) h;exact⟨⟨c::c2::p,by rw[a];rfl⟩,b⟩
     ·rename_i d;rw[if_neg d];split at h
      ·rename_i m;rw[if_pos m];split at h;. cases h
       ·rename_i z i;have y:=wH i;obtain⟨⟨p,a⟩,b⟩:=RX x i;obtain⟨⟨q,u⟩,w⟩:=f (by omega) h;refine⟨⟨c::(p++q),by rw[a,u];simp⟩,?_⟩;rw[b];exact w
      ·rename_i m;rw[if_neg m];split at h
       ·rename_i o;rw[if_pos o];split at h;. cases h
        ·rename_i z i;have y:=wG _ (VN _) i;obtain⟨⟨p,a⟩,b⟩:=RW x _ (VN _) i;obtain⟨⟨q,u⟩,w⟩:=f (by omega) h;refine⟨⟨c::(p++q),by rw[a,u];simp⟩,?_⟩;rw[b];exact w
       ·rename_i o;rw[if_neg o];obtain⟨⟨p,a⟩,b⟩:=f (by omega) h;exact⟨⟨c::p,by rw[a];rfl⟩,b⟩
def dI(L:List Ln):Nat:=match L.getLast? with|none=>0|some l=>l.2
def Fit(out:List Ln)(g:Nat):Prop:=(out=[]/\g=1)∨(out≠[]/\(dI out=g∨dI out+1=g))
theorem KB(out:List Ln)(l:Ln):dI (out++[l])=l.2:=by simp[dI]
theorem Fit.fin{now:List W}{out:List Ln}{g:Nat}(h:Fit out g):Fit (Lx.fin now out g) g:=by
 unfold Lx.fin;split;. exact h
 ·exact .inr ⟨by simp,.inl (KB _ _)⟩
theorem mO{out:List Ln}(h:Fit out g):bump out g=dI out+1:=by
 rcases h with⟨rfl,rfl⟩|⟨a,h⟩;. rfl
 ·have :∃l,out.getLast?=some l:=⟨out.getLast a,List.getLast?_eq_some_getLast a⟩;obtain⟨l,b⟩:=this;simp only[dI,b,bump]at h⊢;split<;>omega
theorem Fit.next{out:List Ln}(h:Fit out g):Fit out (bump out g):=by
 rw[mO h];rcases h with⟨rfl,rfl⟩|⟨a,h⟩;. exact .inl ⟨rfl,rfl⟩
 ·exact .inr ⟨a,.inr rfl⟩
def lw(d:Nat)(x:W):W:={x with line:=x.line+d}
def ll(d G:Nat)(x:Ln):Ln:=(x.1.map (lw d),x.2+G)
def one(now:List W):Nat:=if now=[]then 0 else 1
theorem lS(now:List W)(out:List Ln)(g:Nat):(fin now out g).length=out.length+one now:=by unfold fin one;split<;>simp
end Lx
namespace Lx
theorem xe(env:Env)(f:Bool)(t:Bytes):word env f t []=.ok (t,[]):=fF _ _ _ _ rfl
structure Good(K:Nat)(l:Ln):Prop where
 few:l.1.length<=256
 grp:l.2<=K
 lines:∀x∈l.1,x.line<=K
structure pY(K:Nat)(out:List Ln):Prop where
 many:out.length<=1000
 each:∀l∈out,Good K l
theorem qU(r:Bytes):ax r<=r.length:=List.count_le_length
theorem ub{now:List W}{out:List Ln}(a:∀l∈out,Good k l)(b:now.length<=256)(c:g<=k)(d:∀x∈now,x.line<=k):∀l∈fin now out g,Good k l:=by
 unfold fin;split;. exact a
 ·intro l e;rcases V_.1 e with h|h;. exact a l h
  ·rw[VU.1 h];exact⟨b,c,d⟩
theorem Gv(out:List Ln)(g:Nat):bump out g<=g+1:=by
 unfold bump;split;. omega
 ·split<;>omega
theorem QN{env:Env}:∀(n:Nat){line:Nat}{now:List W}{out:List Ln}{g:Nat}{r:Bytes}{M:List Ln},r.length<=n->out.length+one now<=1000->now.length<=256->line+r.length<=k->g+r.length<=k->(∀x∈now,x.line<=k)->(∀l∈out,Good k l)->read env line now out g r=.ok M->pY k M:=by
 intro n
 induction n with
 |zero=>intro line now out g r M o q f y z b d h;have :r=[]:=VP (by omega);subst this;rw[cP]at h;cases h;exact⟨by rw[lS];omega,ub d f (by omega) b⟩
 |succ n i=>
  intro line now out g r M o q f y z b d h
  cases r with
  |nil=>rw[cP]at h;cases h;exact⟨by rw[lS];omega,ub d f (by omega) b⟩
  |cons c r=>
   simp only[VM]at o y z;have J:one []=0:=rfl;have E:∀x,one (now++[x])=1:=by intro x;unfold one;simp
   have K:=lS now out g;have A:=ub d f (g:=g) (by omega) b;rw[b8]at h;split at h;. exact i (by omega) q f (by omega) (by omega) b d h
   rename_i u;split at h;. exact i (by rw[Xb];omega) q f (by rw[Xb];omega) (by rw[Xb];omega) b d h
   split at h;. have :=lk r;exact i (by omega) q f (by omega) (by omega) b d h
   split at h;. exact i (by omega) (by omega) (by simp) (by omega) (by omega) (by simp) A h
   rename_i F;split at h;. have :=Gv (fin now out g) g;exact i (by omega) (by omega) (by simp) (by omega) (by omega) (by simp) A h
   rename_i G;split at h;. cases h
   split at h;. cases h
   rename_i w
   have L:out.length+1<=1000:=by
    by_cases o:now=[];. have :out.length≠1000:=fun e=>w (.inr ⟨o,e⟩);omega
    ·have :one now=1:=by unfold one;rw[if_neg o]
     omega
   have D:now.length+1<=256:=by have :now.length≠256:=fun e=>w (.inl e);omega
   split at h
   ·split at h;. cases h
    ·rename_i j m;have C:=jM _ (VN _) m;obtain⟨⟨p,t⟩,-⟩:=tA [] _ (VN _) m;have H:ax r-ax j+j.length<=r.length:=by rw[t,jo,VK];have :=qU p;omega
     split at h
     ·refine i (by omega) (by rw[E];omega) (by rw[VK];exact D) (by omega) (by omega) ?_ d h;intro x a;rcases V_.1 a with a|a;. exact b x a
      ·rw[VU.1 a];show line<=k;omega
     ·cases h
   ·split at h;. cases h
    ·rename_i N j m;have I:over (c::r)=false:=by simp only[not_or]at u;simp[over,u,F,G]
     have C:=word_lt I m;simp only[VM]at C;obtain⟨⟨p,t⟩,-⟩:=xg [] _ (VN _) m
     have H:ax (c::r)-ax j+j.length<=r.length+1:=by
      have :r.length+1=p.length+j.length:=by rw[<-VM (a:=c),t,VK]
      rw[t,jo];have :=qU p;omega
     refine i (by omega) (by rw[E];omega) (by rw[VK];exact D) (by omega) (by omega) ?_ d h;intro x a;rcases V_.1 a with a|a;. exact b x a
     ·rw[VU.1 a];show line<=k;omega
theorem wJ{env:Env}{s:Bytes}{M:List Ln}(h:split env s=.ok M):pY 65537 M:=by
 unfold split at h;split at h;. cases h
 ·exact QN _ (VN _) (by simp[one]) (by simp) (by omega) (by omega) (by simp) (by simp) h
theorem Qn{t u:Bytes}(h:put t u=.error e):e=2:=by
 unfold put at h;split at h;. cases h;rfl
 ·cases h
def iB(c:Int):Prop:=2<=c/\c<=4
theorem j5{t u:Bytes}(h:put t u=.error e):iB e:=by rw[Qn h];exact⟨by decide,by decide⟩
theorem Iw:iB 3:=⟨by decide,by decide⟩
theorem jl:iB 4:=⟨by decide,by decide⟩
theorem zm{env:Env}{t r:Bytes}(h:cM env t r=.error e):iB e:=by
 unfold cM at h;split at h
 ·split at h;. cases h;exact jl
  ·split at h
   ·split at h;. rename_i a;cases h;exact j5 a
    ·cases h
   ·cases h;exact jl
 ·split at h
  all_goals
   split at h;. rename_i a;cases h;exact j5 a
   ·cases h
theorem RR{r:Bytes}:∀{t:Bytes}{c:Int},single t r=.error c->iB c:=by
 induction r with
 |nil=>intro t c h;cases h;exact jl
 |cons b r d=>
  intro t c h;unfold single at h;split at h;. cases h
  ·split at h;. rename_i a;cases h;exact j5 a
   ·exact d h
theorem QC{env:Env}:∀(n:Nat){t r:Bytes}{c:Int},r.length<=n->quoted env t r=.error c->iB c:=by
 intro n
 induction n with
 |zero=>intro t r c e h;have :r=[]:=VP (by omega);subst this;rw[j7]at h;cases h;exact jl
 |succ n a=>
  intro t r c e h
  cases r with
  |nil=>rw[j7]at h;cases h;exact jl
  |cons b r=>
   simp only[VM]at e;rw[jv]at h;split at h;. cases h
   split at h
   ·split at h;. rename_i d;cases h;exact zm d
    ·rename_i d;have :=gV d;exact a (by omega) h
   split at h
   ·split at h;. cases h;exact jl
    ·simp only[VM]at e;split at h;. exact a (by omega) h
     ·split at h;. rename_i f;cases h;exact j5 f
      ·exact a (by omega) h
   ·split at h;. rename_i f;cases h;exact j5 f
    ·exact a (by omega) h
theorem TW{env:Env}:∀(n:Nat){f:Bool}{t r:Bytes}{c:Int},r.length<=n->word env f t r=.error c->iB c:=by
 intro n
 induction n with
 |zero=>intro f t r c i h;have :r=[]:=VP (by omega);subst this;rw[xe]at h;cases h
 |succ n d=>
  intro f t r c i h
  cases j:over r with
  |true=>rw[fF _ _ _ _ j]at h;cases h
  |false=>
   cases r with
   |nil=>cases j
   |cons b r=>
    simp only[VM]at i;rw[fV _ _ _ _ _ j]at h;split at h
    ·split at h;. rename_i a;cases h;exact RR a
     ·rename_i a;have :=nS a;exact d (by omega) h
    split at h
    ·split at h;. rename_i a;cases h;exact QC _ (VN _) a
     ·rename_i a;have :=l9 _ (VN _) a;exact d (by omega) h
    split at h
    ·split at h;. cases h;exact jl
     ·simp only[VM]at i;split at h;. exact d (by omega) h
      ·split at h;. rename_i e;cases h;exact j5 e
       ·exact d (by omega) h
    split at h
    ·split at h;. rename_i a;cases h;exact zm a
     ·rename_i a;have :=gV a;exact d (by omega) h
    split at h
    all_goals
     split at h;. rename_i e;cases h;exact j5 e
     ·exact d (by omega) h
theorem QM{env:Env}:∀(n:Nat){line:Nat}{now:List W}{out:List Ln}{g:Nat}{r:Bytes}{x:Int×Nat},r.length<=n->line+r.length<=k->read env line now out g r=.error x->iB x.1/\x.2<=k:=by
 intro n
 induction n with
 |zero=>intro line now out g r x l i h;have :r=[]:=VP (by omega);subst this;rw[cP]at h;cases h
 |succ n b=>
  intro line now out g r x l i h
  cases r with
  |nil=>rw[cP]at h;cases h
  |cons c r=>
   simp only[VM]at l i;rw[b8]at h;split at h;. exact b (by omega) (by omega) h
   rename_i f;split at h;. exact b (by rw[Xb];omega) (by rw[Xb];omega) h
   split at h;. have :=lk r;exact b (by omega) (by omega) h
   split at h;. exact b (by omega) (by omega) h
   rename_i m;split at h;. exact b (by omega) (by omega) h
   rename_i o;split at h;. cases h;exact⟨jl,by dsimp only;omega⟩
   split at h;. cases h;exact⟨Iw,by dsimp only;omega⟩
   split at h
   ·split at h;. cases h;exact⟨jl,by dsimp only;omega⟩
    ·rename_i d a;have j:=jM _ (VN _) a;obtain⟨⟨p,e⟩,-⟩:=tA [] _ (VN _) a;have q:ax r-ax d+d.length<=r.length:=by rw[e,jo,VK];have :=qU p;omega
     split at h;. exact b (by omega) (by omega) h
     ·cases h;exact⟨jl,by dsimp only;omega⟩
   ·split at h;. rename_i a;cases h;exact⟨TW _ (VN _) a,by dsimp only;omega⟩
    ·rename_i u d a;have t:over (c::r)=false:=by simp only[not_or]at f;simp[over,f,m,o]
     have j:=word_lt t a;simp only[VM]at j;obtain⟨⟨p,e⟩,-⟩:=xg [] _ (VN _) a
     have q:ax (c::r)-ax d+d.length<=r.length+1:=by
      have :r.length+1=p.length+d.length:=by rw[<-VM (a:=c),e,VK]
      rw[e,jo];have :=qU p;omega
     exact b (by omega) (by omega) h
theorem wI{env:Env}{s:Bytes}{x:Int×Nat}(h:split env s=.error x):iB x.1/\x.2<=65537:=by
 unfold split at h;split at h;. cases h;exact⟨⟨by decide,by decide⟩,by decide⟩
 ·exact QM _ (VN _) (by omega) h
end Lx
end
section
open Lx(Bytes)
def sl(s:ByteArray):Bytes:=s.data.toList
def aK(s:ByteArray)(k:Nat):Nat:=1+Lx.ax ((sl s).take k)
def eW(l:Bytes):List Value:=l.map fun b=>.int .u8 b.toNat
def aB(es:List (ByteArray×ByteArray)):Lx.Env:=es.map fun p=>(sl p.1,sl p.2)
def ix:Nat:=140737488355328
structure eh(w:World)(B:Nat)(v:Value)(es:List (ByteArray×ByteArray)):Prop where
 at_:∃A c,v=.slice A es.length c/\(0<es.length->∃b off,A=some ⟨b,off,none⟩/\b<B/\∀i,(h:i<es.length)->w.cell? ⟨b,off+i*2,none⟩=some (.string es[i].1)/\w.cell? ⟨b,off+i*2+1,none⟩=some (.string es[i].2))
 few:es.length<=maxLen
 small:∀p∈es,p.1.size<=ix/\p.2.size<=ix
theorem eh.aC{B:Nat}{es:List (ByteArray×ByteArray)}(h:eh w B v es)(d:∀p:Addr,p.block<B->w'.cell? p=w.cell? p):eh w' B v es:=by obtain⟨⟨A,c,n,f⟩,j,k⟩:=h;refine⟨⟨A,c,n,fun m=>?_⟩,j,k⟩;obtain⟨b,off,l,a,e⟩:=f m;exact⟨b,off,l,a,fun i hi=>⟨(d _ a).trans (e i hi).1,(d _ a).trans (e i hi).2⟩⟩
structure aG where
 B:Nat
 R:Nat
 s:ByteArray
 ev:Value
 es:List (ByteArray×ByteArray)
 wl:Int
 out:Value
 now:Value
 g:Int
def l_(c:aG)(k:Nat)(a:Value):Array Value:=#[.string c.s,c.ev,.int .i64 k,.int .i64 (aK c.s k),.int .i64 c.wl,a,c.out,c.now,.int .i64 c.g]
structure Ctx(w:World)(c:aG)(k:Nat)(tx:Value)(t:Bytes):Prop where
 blk:ad w c.R 137 (l_ c k tx)
 hB:c.B<=c.R
 size:c.s.size<=65536
 le:k<=c.s.size
 own:w.ownsRow c.B 5 1 tx t.length (eW t)
 long:t.length<=8192
 env:eh w c.B c.ev c.es
def TS(R:Nat)(a:Value):Nat->Prop:=fun b=>b=R∨a.ownBlock=some b
structure Step(w:World)(c:aG)(tx:Value)(k':Nat)(t':Bytes)(w':World)(tx':Value):Prop where
 ctx:Ctx w' c k' tx' t'
 turns:aa (TS c.R tx) w w'
 dy:∀b,tx'.ownBlock=some b->tx.ownBlock=some b∨w.heap.size<=b
def trouble(e wl:Int):List PanicEntry:=[{v:=.iface 132 (.agg #[.int .i64 e,.int .i64 wl]),recovered:=false}]
section
variable{w w' w1 w2:World}{c:aG}{k k':Nat}{tx tx':Value}{t t':Bytes}
theorem Ctx.c0(h:Ctx w c k tx t):w.cell? ⟨c.R,0,none⟩=some (.string c.s):=by rw[h.blk.cell];rfl
theorem Ctx.c1(h:Ctx w c k tx t):w.cell? ⟨c.R,1,none⟩=some c.ev:=by rw[h.blk.cell];rfl
theorem Ctx.c2(h:Ctx w c k tx t):w.cell? ⟨c.R,2,none⟩=some (.int .i64 k):=by rw[h.blk.cell];rfl
theorem Ctx.c3(h:Ctx w c k tx t):w.cell? ⟨c.R,3,none⟩=some (.int .i64 (aK c.s k)):=by rw[h.blk.cell];rfl
theorem Ctx.c4(h:Ctx w c k tx t):w.cell? ⟨c.R,4,none⟩=some (.int .i64 c.wl):=by rw[h.blk.cell];rfl
theorem Ctx.c5(h:Ctx w c k tx t):w.cell? ⟨c.R,5,none⟩=some tx:=by rw[h.blk.cell];rfl
theorem Ctx.f(h:Ctx w c k tx t)(i:Nat):w.frozen? ⟨c.R,i,none⟩=false:=h.blk.frozen i
theorem Ctx.dx(h:Ctx w c k tx t):c.R<w.heap.size:=h.blk.lt
theorem Ctx.drewN(h:Ctx w c k tx t)(n:Nat):Ctx (w.drewN n) c k tx t:=⟨h.blk,h.hB,h.size,h.le,h.own,h.long,h.env.aC fun _ _=>rfl⟩
theorem Ctx.pN(h:Ctx w c k tx t):tx.ownBlock≠some c.R:=a_ h.own h.blk (by decide)
theorem Ctx.Ez(h:Ctx w c k tx t):∀b,tx.ownBlock=some b->c.B<=b/\b<w.heap.size:=h.own.lt
theorem Ctx.Ge(h:Ctx w c k tx t)(d:aa (TS c.R tx) w w'):Below c.B w w':=by
 refine d.below (by have :=h.hB;have :=h.dx;omega) fun b e a=>?_;rcases a with rfl|a;. have :=h.hB;omega
 ·have :=(h.Ez b a).1;omega
theorem Step.Ac(h:Step (w.drewN n) c tx k' t' w' tx'):Step w c tx k' t' w' tx':=⟨h.ctx,⟨h.turns.os,h.turns.tape,h.turns.output,h.turns.size,h.turns.block⟩,h.dy⟩
theorem Step.refl(h:Ctx w c k tx t):Step w c tx k t w tx:=⟨h,aa.refl _ _,fun _ a=>.inl a⟩
theorem Step.drewN(h:Step w c tx k' t' w' tx')(n:Nat):Step w c tx k' t' (w'.drewN n) tx':=⟨h.ctx.drewN n,h.turns.drewN n,h.dy⟩
theorem aa.fT(h:aa (TS c.R tx) w w1)(f:∀b,tx'.ownBlock=some b->tx.ownBlock=some b∨w.heap.size<=b)(d:aa (TS c.R tx') w1 w2):aa (TS c.R tx) w w2:=by
 refine h.trans d fun b i a=>?_;rcases a with rfl|a;. exact .inl rfl
 ·rcases f b a with e|e;. exact .inr e
  ·omega
theorem Step.trans{f:Bytes}(h:Step w c tx k f w1 v)(a:Step w1 c v k' t' w2 u):Step w c tx k' t' w2 u:=⟨a.ctx,h.turns.fT h.dy a.turns,fun b d=>by
 rcases a.dy b d with e|e;. exact h.dy b e
 ·exact .inr (VS h.turns.size e)⟩
end
theorem Tw{m:UInt8}(h:((a.toNat:Int)==(m.toNat:Int))=true):a=m:=UInt8.toNat_inj.1 (by have :=eq_of_beq h;omega)
theorem Tv{m:UInt8}(h:((a.toNat:Int)==(m.toNat:Int))=false):¬a=m:=fun e=>by subst e;simp at h
theorem mn{m:UInt8}(h:a=m):((a.toNat:Int)==(m.toNat:Int))=true:=by subst h;simp
theorem bI{m:UInt8}(h:¬a=m):((a.toNat:Int)==(m.toNat:Int))=false:=by rw[beq_eq_false_iff_ne];intro e;exact h (UInt8.toNat_inj.1 (by omega))
theorem pO{m:UInt8}(h:¬a=m):((a.toNat:Int)!=(m.toNat:Int))=true:=by rw[bne,bI h];rfl
theorem aL(s:ByteArray):(sl s).length=s.size:=by simp[sl]
theorem RY(s:ByteArray)(k:Nat)(h:k<s.size):(sl s)[k]'(by rw[aL];exact h)=s[k]:=rfl
theorem drop_cons(h:k<s.size):(sl s).drop k=s[k]::(sl s).drop (k+1):=by rw[List.drop_eq_getElem_cons (by rw[aL];exact h)];rfl
theorem drop_nil(h:(sl s).drop k=[]):s.size<=k:=by have :=List.drop_eq_nil_iff.1 h;rw[aL]at this;exact this
theorem cy{r:Bytes}(h:(sl s).drop k=a::r):k<s.size:=by
 rcases Wb k s.size with b|b;. exact b
 ·rw[List.drop_eq_nil_of_le (by rw[aL];exact b)]at h;cases h
theorem dw{b:UInt8}{r:Bytes}(h:(sl s).drop k=b::r):s[k]'(cy h)=b/\(sl s).drop (k+1)=r:=by have :=drop_cons (cy h);rw[h]at this;injection this with a b;exact⟨a.symm,b.symm⟩
theorem np{r:Bytes}(h:(sl s).drop k=a::r):aK s (k+1)=aK s k+if a=10 then 1 else 0:=by
 unfold aK Lx.ax;have b:k<(sl s).length:=by rw[aL];exact cy h
 rw[List.take_succ_eq_append_getElem b,List.count_append];have :=(dw h).1;rw[RY s k (cy h),this];by_cases e:a=10<;>simp[e,Nat.add_assoc]
theorem Ctx.at_{c:aG}{t:Bytes}(h:Ctx w c k v t)(a:Nat)(i:a<=c.s.size)(j:aK c.s a=aK c.s k):Step w c v a t (w.setCell ⟨c.R,2,none⟩ (.int .i64 a)) v:=by
 refine⟨⟨?_,h.hB,h.size,i,?_,h.long,h.env.aC fun p hp=>WC _ _ _ _ ?_⟩,(aa.refl _ _).setCell (.inl (.inl rfl)) _,fun b d=>.inl d⟩;. have :=h.blk.aj 2 (.int .i64 a);rw[l_]at this;rw[l_,j];exact this
 ·exact((aa.refl (af c.R) w).setCell (p:=⟨c.R,2,none⟩) (.inl rfl) _).own h.own fun g f e=>h.pN (by rw[f,e])
 ·intro e;subst e;have :=h.hB;dsimp only at hp;omega
theorem Ctx.F'{c:aG}{t:Bytes}(h:Ctx w c k v t)(a:Nat)(i:a<=c.s.size)(l:Int)(j:(aK c.s a:Int)=l):Step w c v a t ((w.setCell ⟨c.R,2,none⟩ (.int .i64 a)).setCell ⟨c.R,3,none⟩ (.int .i64 l)) v:=by
 subst j;refine⟨⟨?_,h.hB,h.size,i,?_,h.long,h.env.aC fun p hp=>(WC _ _ _ _ ?_).trans (WC _ _ _ _ ?_)⟩,((aa.refl _ _).setCell (.inl (.inl rfl)) _).setCell (.inl (.inl rfl)) _,fun b d=>.inl d⟩;. have :=(h.blk.aj 2 (.int .i64 a)).aj 3 (.int .i64 (aK c.s a));rw[l_]at this;rw[l_];exact this
 ·exact(((aa.refl (af c.R) w).setCell (p:=⟨c.R,2,none⟩) (.inl rfl) _).setCell (p:=⟨c.R,3,none⟩) (.inl rfl) _).own h.own fun g f e=>h.pN (by rw[f,e])
 all_goals intro e;subst e;have :=h.hB;dsimp only at hp;omega
theorem Nq(s:ByteArray)(k:Nat):aK s k<=s.size+1:=by unfold aK Lx.ax;have b:=List.count_le_length (a:=(10:UInt8)) (l:=(sl s).take k);have c:=List.length_take_le k (sl s);have a:=List.length_take_le' k (sl s);rw[aL]at a;omega
theorem C'(w:World)(R:Nat)(s:ByteArray)(k:Nat)(b:w.cell? ⟨R,0,none⟩=some (.string s))(c:w.cell? ⟨R,2,none⟩=some (.int .i64 k))(a:s.size<=65536)(d:k<s.size):Calls VI 87 #[.pointer (some ⟨R,0,none⟩)] w fun e w'=>e=.returned (.tuple #[.int .u8 s[k].toNat,.bool true])/\∃n,w'=w.drewN n:=by go_enter func87,ntmps87;go_wp2;go_quiet(fail);go_wp2;go_quiet(fail);go_wp2;go_ret2;exact⟨rfl,_,World.drewN_drewN _ _ _⟩
theorem Da(w:World)(R:Nat)(s:ByteArray)(k:Nat)(b:w.cell? ⟨R,0,none⟩=some (.string s))(c:w.cell? ⟨R,2,none⟩=some (.int .i64 k))(a:s.size<=65536)(d:s.size<=k):Calls VI 87 #[.pointer (some ⟨R,0,none⟩)] w fun e w'=>e=.returned (.tuple #[.int .u8 0,.bool false])/\∃n,w'=w.drewN n:=by go_enter func87,ntmps87;go_wp2;go_quiet(fail);go_wp2;go_ret2;exact⟨rfl,_,rfl⟩
theorem jt{c:aG}{t:Bytes}(h:Ctx w c k v t){r:Bytes}(b:(sl c.s).drop k=a::r):Calls VI 87 #[.pointer (some ⟨c.R,0,none⟩)] w fun e w'=>e=.returned (.tuple #[.int .u8 a.toNat,.bool true])/\∃n,w'=w.drewN n:=by have :=C' w c.R c.s k h.c0 h.c2 h.size (cy b);rw[(dw b).1]at this;exact this
theorem l8{c:aG}{t:Bytes}(h:Ctx w c k v t)(a:(sl c.s).drop k=[]):Calls VI 87 #[.pointer (some ⟨c.R,0,none⟩)] w fun e w'=>e=.returned (.tuple #[.int .u8 0,.bool false])/\∃n,w'=w.drewN n:=Da w c.R c.s k h.c0 h.c2 h.size (drop_nil a)
theorem zG(w:World)(R:Nat)(wl a:Int)(b:w.cell? ⟨R,4,none⟩=some (.int .i64 wl)):Calls VI 92 #[.pointer (some ⟨R,0,none⟩),.int .i64 a] w fun e w'=>e=.panicked (trouble a wl)/\w=w':=by go_enter func92,ntmps92;go_wp2;exact⟨rfl,rfl,rfl⟩
theorem lO{c:aG}{t:Bytes}(h:Ctx w c k v t)(a:Int):Calls VI 92 #[.pointer (some ⟨c.R,0,none⟩),.int .i64 a] w fun e w'=>e=.panicked (trouble a c.wl)/\w=w':=zG w c.R c.wl a h.c4
/-! next -/
theorem ck{c:aG}{t:Bytes}(h:Ctx w c k v t){r:Bytes}(b:(sl c.s).drop k=a::r):Calls VI 89 #[.pointer (some ⟨c.R,0,none⟩)] w fun e w'=>e=.returned (.int .u8 a.toNat)/\Step w c v (k+1) t w' v:=by
 have l:=Lib.hid (jt h b);go_enter func89,ntmps89;go_wp2_with fail;refine l.out.mono ?_;rintro e z⟨rfl,n,rfl⟩;have p:=h.c2;have q:=h.c3;have m:=h.f 2;have o:=h.f 3;have u:=h.le;have y:=h.size;have x:=Nq c.s k;have j:=Lib.hid (And.intro h b);clear h l b;go_wp2_with fail;. rename_i d;go_ret;obtain⟨h,b⟩:=j.out;have i:a=10:=Tw d;refine⟨rfl,Step.Ac (n:=n) ?_⟩;have :=(h.drewN n).F' (k+1) (by have :=cy b;omega) (aK c.s k+1) (by rw[np b,if_pos i];rfl);exact this
 ·rename_i d;go_ret;obtain⟨h,b⟩:=j.out;have i:¬a=10:=Tv d;refine⟨rfl,Step.Ac (n:=n) ?_⟩;have :=(h.drewN n).at_ (k+1) (by have :=cy b;omega) (by rw[np b,if_neg i];rfl);exact this
open Lx(Bytes)
theorem gD{c:aG}{t:Bytes}(h:Ctx w c k v t)(a:(sl c.s).drop k=[]):Calls VI 89 #[.pointer (some ⟨c.R,0,none⟩)] w fun e w'=>e=.panicked (trouble 4 c.wl)/\aa (TS c.R v) w w':=by have b:=Lib.hid (l8 h a);have H:=Lib.hid h;clear h a;go_enter func89,ntmps89;go_wp2_with fail;refine b.out.mono ?_;rintro e d⟨rfl,n,rfl⟩;go_wp2_with fail;refine(lO (H.out.drewN n) 4).mono ?_;rintro e d⟨rfl,rfl⟩;exact⟨rfl,rfl,(aa.refl _ _).drewN n⟩
theorem A.rm:(VI.info? 5).map (fun i=>(i.zero,i.size,i.bytes))=some (some (.int .u8 0),1,1):=by kernel_rfl
theorem wV(a b:Bytes):eW (a++b)=eW a++eW b:=List.map_append
theorem EB(a:Bytes):(eW a).length=a.length:=List.length_map _
theorem Ctx.text{c:aG}{t f:Bytes}(h:Ctx w c k v t)(l:(t++f).length<=8192)(j:w'.ownsRow c.B 5 1 u (t++f).length (eW (t++f)))(d:w.grownBy w' v.ownBlock)(n:u.ownBlock=v.ownBlock∨u.ownBlock=some w.heap.size):Step w c v k (t++f) (w'.setCell ⟨c.R,5,none⟩ u) u:=by
 have a:ad w' c.R 137 (l_ c k v):=h.blk.grown d (fun e=>h.pN e.symm);have m:u.ownBlock≠some c.R:=a_ j a (by decide);have i:aa (TS c.R v) w w':=(aa.refl (TS c.R v) w).grown d fun b _ e=>.inr e;refine⟨⟨?_,h.hB,h.size,h.le,?_,l,?_⟩,i.setCell (.inl (.inl rfl)) _,fun b a=>?_⟩;. have :=a.aj 5 u;rw[l_]at this;exact this
 ·exact((aa.refl (af c.R) w').setCell (p:=⟨c.R,5,none⟩) (.inl rfl) _).own j fun g d e=>m (by rw[d,e])
 ·refine h.env.aC fun p hp=>(WC _ _ _ _ ?_).trans ((h.Ge i).cell hp);intro e;subst e;have :=h.hB;dsimp only at hp;omega
 ·rcases n with e|e;. exact .inl (by rw[<-e];exact a)
  ·rw[e]at a;cases a;exact .inr (VN _)
theorem Qp{R B:Nat}(u:ByteArray)(f:w.cell? ⟨R,5,none⟩=some v)(d:w.frozen? ⟨R,5,none⟩=false)(c:some R≠v.ownBlock)(h:R<w.heap.size)(hB:B<=w.heap.size)(l:w.ownsRow B 5 1 v k E)(y:k+u.size<=8192):Calls VI 125 #[.pointer (some ⟨R,0,none⟩),.string u] w fun e w'=>e=.returned (.tuple #[])/\∃tx' a,w'=a.setCell ⟨R,5,none⟩ tx'/\a.ownsRow B 5 1 tx' (k+u.size) (E++byteCells u)/\w.grownBy a v.ownBlock/\(tx'.ownBlock=v.ownBlock∨tx'.ownBlock=some w.heap.size):=by obtain⟨i0,j,o,p,q⟩:=info_parts A.rm;have n:Src VI 1 9 (.string u) u.size (byteCells u) w:=Src.ofString w underlying9 u;go_enter func125,ntmps125;go_wp2_with(first|(at_builtin;refine aX _ rfl (.tmp 9) (.tmp 10) _ _ rfl B 5 i0 _ 1 1 underlying102 j o p q rfl v _ _ rfl l (.string u) _ _ rfl n (by simp only[maxLen];omega) (by omega) hB ?_;intro r t a m b i;have c5:=b.cell f c;have x:=(World.frozen?_of_block (a:=⟨R,5,none⟩) (b.block R h c)).trans d));go_end0;exact⟨rfl,_,a,rfl,m,b,i⟩
theorem Qv{R B:Nat}{wl:Int}(u:ByteArray)(f:w.cell? ⟨R,4,none⟩=some (.int .i64 wl))(h:w.cell? ⟨R,5,none⟩=some v)(d:w.frozen? ⟨R,5,none⟩=false)(c:some R≠v.ownBlock)(i:R<w.heap.size)(hB:B<=w.heap.size)(m:w.ownsRow B 5 1 v k E)(C:k<=8192)(D:8192<k+u.size)(p:u.size<=ix):Calls VI 125 #[.pointer (some ⟨R,0,none⟩),.string u] w fun e w'=>e=.panicked (trouble 2 wl)/\∃tx' a,w'=a.setCell ⟨R,5,none⟩ tx'/\a.ownsRow B 5 1 tx' (k+u.size) (E++byteCells u)/\w.grownBy a v.ownBlock/\(tx'.ownBlock=v.ownBlock∨tx'.ownBlock=some w.heap.size):=by unfold ix at p;obtain⟨i0,l,q,r,t⟩:=info_parts A.rm;have o:Src VI 1 9 (.string u) u.size (byteCells u) w:=Src.ofString w underlying9 u;go_enter func125,ntmps125;go_wp2_with(first|(at_builtin;refine aX _ rfl (.tmp 9) (.tmp 10) _ _ rfl B 5 i0 _ 1 1 underlying102 l q r t rfl v _ _ rfl m (.string u) _ _ rfl o (by simp only[maxLen];omega) (by omega) hB ?_;intro x y a n b j;have c5:=b.cell h c;have c4:=b.cell f c;have z:=(World.frozen?_of_block (a:=⟨R,5,none⟩) (b.block R i c)).trans d));refine(zG _ R wl 2 (by rw[WC _ _ _ _ (by simp)];exact c4)).mono ?_;rintro e F⟨rfl,rfl⟩;exact⟨rfl,rfl,_,a,rfl,n,b,j⟩
theorem Qt{c:aG}{t:Bytes}(h:Ctx w c k v t)(u:ByteArray)(b:t.length+u.size<=8192):Calls VI 125 #[.pointer (some ⟨c.R,0,none⟩),.string u] w fun e d=>e=.returned (.tuple #[])/\∃a,Step w c v k (t++sl u) d a:=by refine(Qp u h.c5 (h.f 5) (fun e=>h.pN e.symm) h.dx (by have :=h.hB;have :=h.dx;omega) h.own b).mono ?_;rintro e d⟨rfl,a,m,rfl,l,j,i⟩;refine⟨rfl,a,h.text (by simpa[aL]using b) ?_ j i⟩;rw[wV,VK,aL];exact l
theorem Qr{c:aG}{t:Bytes}(h:Ctx w c k v t)(u:ByteArray)(i:8192<t.length+u.size)(j:u.size<=ix):Calls VI 125 #[.pointer (some ⟨c.R,0,none⟩),.string u] w fun e a=>e=.panicked (trouble 2 c.wl)/\aa (TS c.R v) w a:=by refine(Qv u h.c4 h.c5 (h.f 5) (fun e=>h.pN e.symm) h.dx (by have :=h.hB;have :=h.dx;omega) h.own h.long i j).mono ?_;rintro e a⟨rfl,n,o,rfl,m,d,l⟩;exact⟨rfl,((aa.refl (TS c.R v) w).grown d fun b _ e=>.inr e).setCell (.inl (.inl rfl)) _⟩
end
section
namespace Px
open Lx(Bytes)
structure Row where
 name:Bytes
 others:Bytes
 flags:Bytes
 few:Int
 ay:Int deriving DecidableEq
def table:List Row:=[⟨[97,116,116,97,99,104,45,115,101,115,115,105,111,110],[97,116,116,97,99,104],[100,116,58],0,0⟩,⟨[98,105,110,100,45,107,101,121],[98,105,110,100],[110,114,78,58,84,58],1,-1⟩,⟨[98,114,101,97,107,45,112,97,110,101],[98,114,101,97,107,112],[100,110,58,115,58,116,58],0,0⟩,⟨[99,97,112,116,117,114,101,45,112,97,110,101],[99,97,112,116,117,114,101,112],[112,98,58,83,58,69,58,116,58],0,0⟩,⟨[99,108,101,97,114,45,104,105,115,116,111,114,121],[99,108,101,97,114,104,105,115,116],[116,58],0,0⟩,⟨[99,111,112,121,45,109,111,100,101],[],[113,116,58],0,0⟩,⟨[100,101,108,101,116,101,45,98,117,102,102,101,114],[100,101,108,101,116,101,98],[98,58],0,0⟩,⟨[100,101,116,97,99,104,45,99,108,105,101,110,116],[100,101,116,97,99,104],[97,115,58,116,58],0,0⟩,⟨[100,105,115,112,108,97,121,45,109,101,115,115,97,103,101],[100,105,115,112,108,97,121],[112,116,58],0,1⟩,⟨[102,105,110,100,45,119,105,110,100,111,119],[102,105,110,100,119],[116,58],1,1⟩,⟨[104,97,115,45,115,101,115,115,105,111,110],[104,97,115],[116,58],0,0⟩,⟨[105,102,45,115,104,101,108,108],[105,102],[98,70,116,58],2,3⟩,⟨[106,111,105,110,45,112,97,110,101],[106,111,105,110,112,32,109,111,118,101,45,112,97,110,101],[98,100,104,115,58,116,58,108,58],0,0⟩,⟨[107,105,108,108,45,112,97,110,101],[107,105,108,108,112],[97,116,58],0,0⟩,⟨[107,105,108,108,45,115,101,114,118,101,114],[],[],0,0⟩,⟨[107,105,108,108,45,115,101,115,115,105,111,110],[],[97,116,58],0,0⟩,⟨[107,105,108,108,45,119,105,110,100,111,119],[107,105,108,108,119],[97,116,58],0,0⟩,⟨[108,97,115,116,45,112,97,110,101],[108,97,115,116,112],[116,58],0,0⟩,⟨[108,97,115,116,45,119,105,110,100,111,119],[108,97,115,116],[116,58],0,0⟩,⟨[108,105,110,107,45,119,105,110,100,111,119],[108,105,110,107,119],[115,58,116,58],0,0⟩,⟨[108,105,115,116,45,98,117,102,102,101,114,115],[108,115,98],[70,58],0,0⟩,⟨[108,105,115,116,45,99,108,105,101,110,116,115],[108,115,99],[70,58,116,58],0,0⟩,⟨[108,105,115,116,45,99,111,109,109,97,110,100,115],[108,115,99,109],[],0,1⟩,⟨[108,105,115,116,45,107,101,121,115],[108,115,107],[84,58],0,0⟩,⟨[108,105,115,116,45,112,97,110,101,115],[108,115,112],[97,70,58,115,116,58],0,0⟩,⟨[108,105,115,116,45,115,101,115,115,105,111,110,115],[108,115],[70,58],0,0⟩,⟨[108,105,115,116,45,119,105,110,100,111,119,115],[108,115,119],[97,70,58,116,58],0,0⟩,⟨[108,111,97,100,45,98,117,102,102,101,114],[108,111,97,100,98],[98,58],1,1⟩,⟨[109,111,118,101,45,119,105,110,100,111,119],[109,111,118,101,119],[115,58,116,58],0,0⟩,⟨[110,101,119,45,115,101,115,115,105,111,110],[110,101,119],[65,100,110,58,115,58,120,58,121,58],0,0⟩,⟨[110,101,119,45,119,105,110,100,111,119],[110,101,119,119],[97,100,110,58,116,58],0,1⟩,⟨[110,101,120,116,45,108,97,121,111,117,116],[110,101,120,116,108],[116,58],0,0⟩,⟨[110,101,120,116,45,119,105,110,100,111,119],[110,101,120,116],[97,116,58],0,0⟩,⟨[112,97,115,116,101,45,98,117,102,102,101,114],[112,97,115,116,101,98],[100,98,58,112,116,58],0,0⟩,⟨[112,114,101,118,105,111,117,115,45,119,105,110,100,111,119],[112,114,101,118],[97,116,58],0,0⟩,⟨[114,101,102,114,101,115,104,45,99,108,105,101,110,116],[114,101,102,114,101,115,104],[116,58],0,0⟩,⟨[114,101,110,97,109,101,45,115,101,115,115,105,111,110],[114,101,110,97,109,101],[116,58],1,1⟩,⟨[114,101,110,97,109,101,45,119,105,110,100,111,119],[114,101,110,97,109,101,119],[116,58],1,1⟩,⟨[114,101,115,105,122,101,45,112,97,110,101],[114,101,115,105,122,101,112],[68,76,82,85,90,116,58,120,58,121,58],0,1⟩,⟨[114,101,115,105,122,101,45,119,105,110,100,111,119],[114,101,115,105,122,101,119],[116,58,120,58,121,58],0,0⟩,⟨[114,111,116,97,116,101,45,119,105,110,100,111,119],[114,111,116,97,116,101,119],[68,85,116,58],0,0⟩,⟨[114,117,110,45,115,104,101,108,108],[114,117,110],[98,116,58],1,1⟩,⟨[115,97,118,101,45,98,117,102,102,101,114],[115,97,118,101,98],[98,58],1,1⟩,⟨[115,101,108,101,99,116,45,108,97,121,111,117,116],[115,101,108,101,99,116,108],[116,58],0,1⟩,⟨[115,101,108,101,99,116,45,112,97,110,101],[115,101,108,101,99,116,112],[68,76,82,85,108,109,77,116,58],0,0⟩,⟨[115,101,108,101,99,116,45,119,105,110,100,111,119],[115,101,108,101,99,116,119],[108,110,112,116,58],0,0⟩,⟨[115,101,110,100,45,107,101,121,115],[115,101,110,100],[108,88,116,58],0,-1⟩,⟨[115,101,110,100,45,112,114,101,102,105,120],[],[116,58],0,0⟩,⟨[115,101,116,45,98,117,102,102,101,114],[115,101,116,98],[98,58],1,1⟩,⟨[115,101,116,45,101,110,118,105,114,111,110,109,101,110,116],[115,101,116,101,110,118],[117,103,116,58],1,2⟩,⟨[115,101,116,45,104,111,111,107],[],[117],1,2⟩,⟨[115,101,116,45,111,112,116,105,111,110],[115,101,116],[97,103,112,113,115,116,58,117,119],1,2⟩,⟨[115,104,111,119,45,98,117,102,102,101,114],[115,104,111,119,98],[98,58],0,0⟩,⟨[115,104,111,119,45,101,110,118,105,114,111,110,109,101,110,116],[115,104,111,119,101,110,118],[103,116,58],0,1⟩,⟨[115,104,111,119,45,104,111,111,107,115],[],[],0,1⟩,⟨[115,104,111,119,45,111,112,116,105,111,110,115],[115,104,111,119],[103,112,115,116,58,118,119],0,1⟩,⟨[115,111,117,114,99,101,45,102,105,108,101],[115,111,117,114,99,101],[113],1,1⟩,⟨[115,112,108,105,116,45,119,105,110,100,111,119],[115,112,108,105,116,119],[98,100,104,108,58,116,58,118],0,1⟩,⟨[115,116,97,114,116,45,115,101,114,118,101,114],[115,116,97,114,116],[],0,0⟩,⟨[115,119,97,112,45,112,97,110,101],[115,119,97,112,112],[100,115,58,116,58,85,68],0,0⟩,⟨[115,119,97,112,45,119,105,110,100,111,119],[115,119,97,112,119],[115,58,116,58],0,0⟩,⟨[115,119,105,116,99,104,45,99,108,105,101,110,116],[115,119,105,116,99,104,99],[99,58,108,110,112,116,58,84,58],0,0⟩,⟨[117,110,98,105,110,100,45,107,101,121],[117,110,98,105,110,100],[97,84,58],0,1⟩,⟨[117,110,108,105,110,107,45,119,105,110,100,111,119],[117,110,108,105,110,107,119],[107,116,58],0,0⟩,⟨[119,97,105,116,45,102,111,114],[119,97,105,116],[76,83,85],1,1⟩]
def alts(r:Row):List Bytes:=Lib.fields r.others
def gr(s:Bytes):List Row->List Row->Option Row
|[],l=>match l with|[r]=>some r|_=>none
|r::a,l=>if r.name=s∨s∈alts r then some r else gr s a (if s≠[]/\s.isPrefixOf r.name=true then l++[r]else l)
def found(s:Bytes):Option Row:=gr s table []
def lu(s:Bytes):List Row->Option Row|[]=>none|r::a=>if r.name=s then some r else lu s a
def whole(s:Bytes):Option Row:=lu s table
def lj(c:UInt8):Bytes->Option Bool|[]=>none|x::r=>if x=c then some (r.head?=some 58)else lj c r
def aJ(r:Row)(c:UInt8):Option Bool:=if c=58 then none else lj c r.flags
end Px
namespace Px
open Lx(Bytes)
structure PW where
 text:Bytes
 line:Int
 block:Bool deriving DecidableEq
def dV(x:Lx.W):PW:=⟨x.text,x.line,x.block⟩
abbrev Fl:=UInt8×Bytes
def bo(f:Fl):List Fl->List Fl|[]=>[f]|g::l=>if f.1<g.1 then f::g::l else if f.1=g.1 then f::l else g::bo f l
def bD(r:Row):Bytes->List PW->List Fl->Option (List PW×List Fl)
|[],l,m=>some (l,m)
|c::t,l,m=>match aJ r c with
 |none=>none
 |some false=>bD r t l (bo (c,[]) m)
 |some true=>match t with
  |[]=>match l with|[]=>none|x::a=>some (a,bo (c,x.text) m)
  |u::t'=>some (l,bo (c,u::t') m)
def cE(x:PW):Bool:=!x.block&&decide (1<x.text.length)&&x.text.head?==some 45
def aM(r:Row):Nat->List PW->List Fl->Option (List PW×List Fl)|0,l,m=>some (l,m)|_,[],m=>some ([],m)|n+1,x::l,m=>if cE x then if x.text.tail=[45]then some (l,m)else match bD r x.text.tail l m with|none=>none|some (a,b)=>aM r n a b else some (x::l,m)
def flags(r:Row)(l:List PW):Option (List PW×List Fl):=aM r (l.length+1) l []
structure ag where
 name:Bytes
 flags:List Fl
 args:List Bytes
 line:Int deriving DecidableEq
def words:List PW->Except Int ag|[]=>.error 10|x::l=>if x.block then .error 10 else match found x.text with|none=>.error 10|some r=>match flags r l with|none=>.error 9|some (rest,m)=>if(rest.length:Int)<r.few∨(0<=r.ay/\r.ay<rest.length)then .error 9 else .ok ⟨r.name,m,rest.map (·.text),x.line⟩
/-! the flags are in order, none twice -/
abbrev aH(l:List Fl):Prop:=l.Pairwise fun a b=>a.1<b.1
def at_(l:List Fl)(c:UInt8):Option Bytes:=(l.find? (fun f=>f.1==c)).map (·.2)
theorem cX{b:UInt8}:a<b↔a.toNat<b.toNat:=Iff.rfl
theorem mn{b:UInt8}:a=b↔a.toNat=b.toNat:=UInt8.toNat_inj.symm
theorem vO{f g:Fl}:∀{l:List Fl},g∈bo f l->g=f∨g∈l
|[],h=>.inl (by simpa[bo]using h)
|x::l,h=>by
  simp only[bo]at h;split at h;. simpa using h
  ·split at h
   ·rcases We.1 h with h|h;. exact .inl h
    ·exact .inr (VT _ h)
   ·rcases We.1 h with h|h;. exact .inr (h▸List.mem_cons_self)
    ·exact(vO h).imp id (VT _)
theorem pv{f:Fl}:∀{l:List Fl},aH l->aH (bo f l)
|[],_=>List.pairwise_singleton _ _
|x::l,h=>by
  rw[aH,Wn]at h;simp only[bo];split
  ·rename_i e;refine Wn.2 ⟨fun b a=>?_,Wn.2 h⟩;rcases We.1 a with rfl|a;. exact e
   ·have :=h.1 b a;rw[cX]at*;omega
  ·split;. rename_i d;exact Wn.2 ⟨fun b a=>by rw[d];exact h.1 b a,h.2⟩
   ·rename_i i c;refine Wn.2 ⟨fun b a=>?_,pv h.2⟩;rcases vO a with rfl|a;. rw[cX]at*;rw[mn]at c;omega
    ·exact h.1 b a
theorem yi(f:Fl)(c:UInt8):∀{l:List Fl},aH l->at_ (bo f l) c=if f.1=c then some f.2 else at_ l c
|[],_=>by
  simp only[bo,at_,XL,List.find?_nil];by_cases e:f.1=c;. simp[e]
  ·rw[beq_false_of_ne e];simp[e]
|x::l,h=>by
  rw[aH,Wn]at h;have a:=yi f c h.2;simp only[bo];split
  ·simp only[at_,XL];by_cases e:f.1=c;. simp[e]
   ·rw[beq_false_of_ne e];simp[e]
  ·split
   ·rename_i i;simp only[at_,XL];by_cases e:f.1=c;. simp[e]
    ·have :¬x.1=c:=by rw[<-i];exact e
     rw[beq_false_of_ne e,beq_false_of_ne this];simp[e]
   ·rename_i d;simp only[at_,XL]at a⊢;by_cases e:x.1=c
    ·have :¬f.1=c:=by rw[<-e];exact d
     simp[e,this]
    ·have b:(x.1==c)=false:=by simp[e]
     rw[b];exact a
theorem at_mem{c:UInt8}{v:Bytes}:∀{l:List Fl},aH l->(at_ l c=some v↔(c,v)∈l)
|[],_=>by simp[at_]
|x::l,h=>by
  rw[aH,Wn]at h;have d:=at_mem (c:=c) (v:=v) h.2;simp only[at_,XL]at d⊢;by_cases e:x.1=c
  ·simp only[e,beq_self_eq_true,Option.map_some,Option.some.injEq,We];constructor;. rintro rfl;exact .inl (by rw[<-e])
   ·rintro(rfl|a);. rfl
    ·have b:x.1<c:=h.1 _ a;rw[e]at b;exact absurd b (UInt8.lt_irrefl c)
  ·have f:(x.1==c)=false:=by simp[e]
   rw[f,d,We];constructor;. exact .inr
   ·rintro(rfl|a);. exact absurd rfl e
    ·exact a
theorem BS{r:Row}:∀{t:Bytes}{l:List PW}{m:List Fl}{d:List PW}{b:List Fl},aH m->bD r t l m=some (d,b)->aH b
|[],l,m,d,b,a,h=>by simp[bD]at h;exact h.2▸a
|c::t,l,m,d,b,a,h=>by
  simp only[bD]at h;split at h;. cases h
  ·exact BS (pv a) h
  ·split at h
   ·split at h;. cases h
    ·simp at h;exact h.2▸pv a
   ·simp at h;exact h.2▸pv a
theorem zS{r:Row}:∀{n:Nat}{l:List PW}{m:List Fl}{c:List PW}{b:List Fl},aH m->aM r n l m=some (c,b)->aH b
|0,l,m,c,b,a,h=>by simp[aM]at h;exact h.2▸a
|n+1,[],m,c,b,a,h=>by simp[aM]at h;exact h.2▸a
|n+1,x::l,m,c,b,a,h=>by
  simp only[aM]at h;split at h
  ·split at h;. simp at h;exact h.2▸a
   ·split at h;. cases h
    ·rename_i e;exact zS (BS a e) h
  ·simp at h;exact h.2▸a
theorem rC{r:Row}:∀{t:Bytes}{l:List PW}{m:List Fl}{l':List PW}{m':List Fl},bD r t l m=some (l',m')->l'.length<=l.length
|[],l,m,l',m',h=>by simp[bD]at h;rw[h.1];exact VN _
|c::t,l,m,l',m',h=>by
  simp only[bD]at h;split at h;. cases h
  ·exact rC h
  ·split at h
   ·split at h;. cases h
    ·simp at h;rw[<-h.1];simp
   ·simp at h;rw[h.1];exact VN _
theorem Dr(f:Fl):∀{l:List Fl},aH l->(bo f l).length=if(at_ l f.1).isSome then l.length else l.length+1
|[],_=>rfl
|x::l,h=>by
  have m:=h;rw[aH,Wn]at h;have k:=Dr f h.2;simp only[bo];split
  ·rename_i b
   have j:at_ (x::l) f.1=none:=by
    simp only[at_,Option.map_eq_none_iff,List.find?_eq_none];intro g a;rcases We.1 a with rfl|a;. simp only[beq_iff_eq];intro e;rw[e]at b;exact UInt8.lt_irrefl _ b
    ·have :=h.1 g a;simp only[beq_iff_eq];intro e;rw[e]at this;rw[cX]at*;omega
   rw[j];simp
  ·split;. rename_i i;simp[at_,i]
   ·rename_i d;have c:(x.1==f.1)=false:=beq_false_of_ne fun e=>d e.symm;have :at_ (x::l) f.1=at_ l f.1:=by simp only[at_,XL,c]
    rw[this,VM,k,VM];split<;>rfl
theorem D8:∀{l:List Fl}(k:Nat),aH l->(∀f∈l,k<=f.1.toNat)->k<=256->l.length+k<=256|[],k,_,_,b=>by simpa using b|x::l,k,h,a,_=>by rw[aH,Wn]at h;have e:=a x List.mem_cons_self;have d:=x.1.toNat_lt;have :=D8 (x.1.toNat+1) h.2 (fun f c=>by have :=h.1 f c;rw[cX]at this;omega) (by omega);rw[VM];omega
theorem Sg{l:List Fl}(h:aH l):l.length<=256:=by have :=D8 0 h (fun _ _=>Nat.zero_le _) (by decide);omega
theorem ug{r:Row}:∀(n k:Nat)(l:List PW)(m:List Fl),l.length<=n->l.length<=k->aM r n l m=aM r k l m
|0,0,l,m,_,_=>rfl
|0,k+1,[],m,_,_=>rfl
|n+1,0,[],m,_,_=>rfl
|0,k+1,x::l,m,h,_=>absurd h (by simp)
|n+1,0,x::l,m,_,h=>absurd h (by simp)
|n+1,k+1,[],m,_,_=>rfl
|n+1,k+1,x::l,m,c,b=>by
  simp only[aM];split
  ·split;. rfl
   ·cases a:bD r x.text.tail l m with|none=>rfl|some y=>have d:=rC (l':=y.1) (m':=y.2) a;simp only[VM]at c b;exact ug n k y.1 y.2 (by omega) (by omega)
  ·rfl
theorem Sf{a b:List Fl}(c:aH a)(d:aH b)(h:∀x,x∈a↔x∈b):a=b:=by
 have f:∀{l:List Fl},aH l->l.Nodup:=fun hl=>hl.imp fun{x y}i e=>by rw[e,cX]at i;omega
 exact((List.perm_ext_iff_of_nodup (f c) (f d)).2 h).eq_of_pairwise (fun x y _ _ h1 h2=>by rw[cX]at h1 h2;omega) c d
end Px
namespace Px
open Lx(Bytes)
structure au where
 line:Int
 gT:Bool
 now:Bool
 jB:Bool
 last:Bool deriving DecidableEq
abbrev jA:Bytes:=[37,105,102]
abbrev lf:Bytes:=[37,101,108,105,102]
abbrev lh:Bytes:=[37,101,108,115,101]
abbrev nV:Bytes:=[37,101,110,100,105,102]
def isDir:List PW->Bool|[]=>false|x::_=>!x.block&&(x.text==jA||x.text==lf||x.text==lh||x.text==nV)
def taken(o:List au):Bool:=match o.getLast? with|none=>true|some c=>c.now
def isTrue(s:Bytes):Bool:=s !=[]&&s !=[48]
def asked(X:Bytes->Bytes×Int)(word:Bytes)(a:Bytes)(c:au):Except Int au:=if c.last then .error 4 else let now:=c.gT&&!c.jB;if now&&(word==jA||word==lf)then if(X a).2≠0 then .error (X a).2 else .ok ⟨c.line,c.gT,isTrue (X a).1,c.jB||isTrue (X a).1,word==lh⟩else .ok ⟨c.line,c.gT,now,c.jB||now,word==lh⟩
def setLast(o:List au)(c:au):List au:=o.dropLast++[c]
def zj(X:Bytes->Bytes×Int)(word:Bytes)(a:Bytes)(o:List au):Except Int (List au):=match o.getLast? with|none=>.error 4|some c=>if word=nV then .ok o.dropLast else match asked X word a c with|.error e=>.error e|.ok b=>.ok (setLast o b)
def dir(X:Bytes->Bytes×Int)(l:List PW)(o:List au):Except Int (List au):=match l with|[]=>.error 4|x::r=>if(x.text=jA∨x.text=lf)/\r.length=1∨¬(x.text=jA∨x.text=lf)/\r.length=0 then if x.text=jA then if o.length<16 then zj X x.text ((r.map (·.text)).headD []) (o++[⟨x.line,taken o,false,false,false⟩])else .error 13 else zj X x.text ((r.map (·.text)).headD []) o else .error 4
abbrev cL:=List PW×Nat
def gw(l:List PW):Int:=(l.head?.map (·.line)).getD 0
def bG(out:List (List ag))(c:ag)(new:Bool):List (List ag):=if new then out++[[c]]else out.dropLast++[out.getLast?.getD []++[c]]
def eG(X:Bytes->Bytes×Int):List cL->List au->Nat->List (List ag)->Except (Int×Int) (List (List ag))
|[],o,_,out=>match o.getLast? with|none=>.ok out|some c=>.error (4,c.line)
|l::a,o,g,out=>if isDir l.1 then match dir X l.1 o with|.error e=>.error (e,gw l.1)|.ok b=>eG X a b g out else if taken o then match words l.1 with|.error e=>.error (e,gw l.1)|.ok c=>if l.2≠g∨out=[]then eG X a o l.2 (bG out c true)else eG X a o g (bG out c false)else eG X a o g out
def aP(l:Lx.Ln):cL:=(l.1.map dV,l.2)
def parse(X:Bytes->Bytes×Int)(env:Lx.Env)(s:Bytes):Except (Int×Int) (List (List ag)):=match Lx.split env s with|.error x=>.error (x.1,x.2)|.ok L=>eG X (L.map aP) [] 0 []
end Px
open Lx(Bytes)
open Go.Maps(has has_put_same has_put_other atKey_put_same atKey_put_other IsMap)
namespace Px
variable{H:Type}
abbrev key(c:UInt8):Lit:=.int .u8 c.toNat
theorem key_inj{b:UInt8}(h:key a=key b):a=b:=by
 have c:(a.toNat:Int)=b.toNat:=by injection h
 exact mn.2 (by omega)
theorem Bb(c:UInt8):WideAt.IsKeyLit (key c):=trivial
def cJ(D:DataW H)(m:List Fl):Prop:=∀c:UInt8,has D (key c)=(at_ m c).isSome/\∀v,at_ m c=some v->∀z,D.atKey (key c) z=.lit (.string v)
theorem cJ.start:cJ (.map []:DataW H) []:=fun _=>⟨rfl,fun v h=>by simp[at_]at h⟩
theorem cJ.put{D:DataW H}{m:List Fl}(h:cJ D m)(i:aH m)(b:IsMap D)(c:UInt8)(v:Bytes):cJ (D.put (key c) (.lit (.string v))) (bo (c,v) m):=by
 intro d;rw[yi _ _ i];by_cases e:c=d;. subst e;rw[if_pos rfl];refine⟨has_put_same b (Bb c) _,fun u a z=>?_⟩;rw[atKey_put_same b (Bb c)];injection a with a;dsimp only at a;rw[a]
 ·have f:key d≠key c:=fun q=>e (key_inj q).symm;rw[if_neg e,has_put_other f];exact⟨(h d).1,fun u a z=>by rw[atKey_put_other f];exact(h d).2 u a z⟩
structure dB(D:DataW H)(m:List Fl)(left:Lit->Bool)(acc:List Fl):Prop where
 nodup:acc.Nodup
 mem:∀f:Fl,f∈acc↔f∈m/\left (key f.1)=false
 sub:∀z,left z=true->has D z=true
theorem dB.start{D:DataW H}{m:List Fl}(h:cJ D m)(a:aH m):dB D m (has D) []:=⟨List.nodup_nil,fun f=>⟨fun q=>(List.not_mem_nil q).elim,fun⟨q,hl⟩=>by have :=(h f.1).1;rw[(at_mem a).2 q,hl]at this;exact absurd this (by simp)⟩,fun z b=>b⟩
theorem wj(a b:UInt8):(key a).sameKey (key b)=decide (a=b):=by
 by_cases e:a=b;. subst e;rw[decide_eq_true rfl];show decide _=true;simp
 ·rw[decide_eq_false e];exact Maps.sameKey_ne fun q=>e (key_inj q)
theorem dB.step{D:DataW H}{m:List Fl}{l:Lit->Bool}{n:List Fl}(i:dB D m l n)(h:cJ D m)(k:aH m){c:UInt8}{v:Bytes}(j:l (key c)=true)(C:∀z,D.atKey (key c) z=.lit (.string v)):dB D m (fun z=>l z&&!z.sameKey (key c)) (n++[(c,v)]):=by
 have t:(c,v)∈m:=by
  have o:=(h c).1;rw[i.sub _ j]at o;obtain⟨u,w⟩:=Option.isSome_iff_exists.1 o.symm;have p:=(h c).2 u w (.map []);rw[C]at p;have :v=u:=by injection p with h3;injection h3
  subst this;exact(at_mem k).1 w
 refine⟨?_,fun f=>?_,fun z x=>i.sub z (by simp only[Bool.and_eq_true]at x;exact x.1)⟩;. refine List.nodup_append.2 ⟨i.nodup,by simp,fun a A b r e=>?_⟩;simp only[VU]at r;subst r e;have :=((i.mem _).1 A).2;rw[j]at this;cases this
 ·rw[V_,VU,i.mem,wj];by_cases e:f.1=c
  ·constructor
   ·rintro(⟨_,q⟩|q);. rw[e,j]at q;cases q
    ·subst q;exact⟨t,by simp⟩
   ·rintro⟨q,_⟩;right;have y:=(at_mem k (c:=c) (v:=f.2)).2 (by rw[<-e];exact q);have d:=(at_mem k).2 t;rw[y]at d;injection d with d;exact Prod.ext e d
  ·have d:¬f=(c,v):=fun q=>e (by rw[q]);simp[e,d]
theorem dB.perm{D:DataW H}{m:List Fl}{c:Lit->Bool}{a:List Fl}(b:dB D m c a)(i:aH m)(d:∀z,c z=false):a.Perm m:=by
 have j:m.Nodup:=i.imp fun{x y}h e=>by rw[e,cX]at h;omega
 exact(List.perm_ext_iff_of_nodup b.nodup j).2 fun f=>by rw[b.mem];simp[d]
theorem Sh{a m:List Fl}(d:a.Perm m)(c:aH m)(i:a.Pairwise fun x y=>¬y.1<x.1):a=m:=by
 refine Sf ?_ c fun x=>d.mem_iff;have f:m.Pairwise (fun x y=>x.1≠y.1):=c.imp fun{x y}b e=>by rw[e]at b;exact UInt8.lt_irrefl _ b
 have h:a.Pairwise (fun x y=>x.1≠y.1):=(d.pairwise_iff (fun{x y}q=>q.symm)).2 f;exact(i.and h).imp fun{x y}⟨k,j⟩=>by rw[cX]at*;rw[ne_eq,mn]at j;omega
structure dP(P:Program)(k:TypeId)(R:Value->Option (DataW H×List MemPlace))(w:World)(M:Nat)(m:List Fl)(D:DataW H):Prop where
 own:w.ownsMap P k R M m.length D
 agree:cJ D m
 sorted:aH m
 size:Maps.size D=m.length
theorem tight{R:Value->Option (DataW H×List MemPlace)}{D:DataW H}(h:w.ownsMap P t R k n D):w.ownsMap P t R k (Maps.size D) D:=by obtain⟨es,a,b,F,c,rfl⟩:=h;refine⟨es,a,b,F,?_,rfl⟩;rw[Maps.size_eq,Go.length_sorted];simp
theorem dP.put{P:Program}{k:TypeId}{R:Value->Option (DataW H×List MemPlace)}{w d:World}{M:Nat}{m:List Fl}{D:DataW H}(h:dP P k R w M m D)(K:Maps.Keyed P k){c:UInt8}{v:Bytes}(e:d.ownsMap P k R M (m.length+1) (D.put (key c) (.lit (.string v)))):dP P k R d M (bo (c,v) m) (D.put (key c) (.lit (.string v))):=by
 have a:Maps.Tidy D:=h.own.tidy K;have b:Maps.size (D.put (key c) (.lit (.string v)))=(bo (c,v) m).length:=by rw[Maps.size_put a,Dr _ h.sorted,(h.agree c).1,h.size]
 exact⟨b▸tight e,h.agree.put h.sorted a.isMap c v,pv h.sorted,b⟩
theorem dP.start{P:Program}{k:TypeId}{R:Value->Option (DataW H×List MemPlace)}{w:World}{M:Nat}(h:w.ownsMap P k R M 0 (.map [])):dP P k R w M [] (.map []):=⟨h,cJ.start,List.Pairwise.nil,rfl⟩
theorem dP.few{R:Value->Option (DataW H×List MemPlace)}{m:List Fl}{D:DataW H}(h:dP P t R w k m D):m.length<=256:=Sg h.sorted
theorem dP.kept{R:Value->Option (DataW H×List MemPlace)}{m:List Fl}{D:DataW H}(h:dP P t R w k m D)(d:w'.heap[k]?=w.heap[k]?):dP P t R w' k m D:=by obtain⟨es,a,b,c⟩:=h.own;exact⟨⟨es,a,d.trans b,c⟩,h.agree,h.sorted,h.size⟩
theorem dP.lt{R:Value->Option (DataW H×List MemPlace)}{m:List Fl}{D:DataW H}(h:dP P t R w k m D):k<w.heap.size:=by obtain⟨es,b,a,-⟩:=h.own;exact(Array.getElem?_eq_some_iff.1 a).1
end Px
namespace Px
open Lx(Bytes)
theorem Pg:table.all (fun r=>r.others.all (·<128))=true:=by decide+kernel
theorem FU:table.all (fun r=>decide ((alts r).length<=2))=true:=by decide+kernel
theorem CS:table.all (fun r=>decide (r.others.length<=20)&&decide (r.name.length<=20)&&decide (r.flags.length<=20))=true:=by decide+kernel
end Px
end
section
open Lx(Bytes)
theorem mj(h:sl s=sl x):s=x:=ByteArray.ext (Array.toList_inj.1 h)
theorem aS(a:ByteArray):a.toList=sl a:=Lib.toList_data a
theorem nY(h:¬sl s=sl x):(s.toList==x.toList)=false:=by rw[beq_eq_false_iff_ne,aS,aS];exact h
theorem bP{cs:Array Value}(h:w.heap.size=g):ad (w.alloc (.cells cs t)) g t cs:=h▸ad.new w t cs
theorem fC{size:Nat}(i:P.underlying t=some (.slice T)){a:TypeId}(e:ad w g a F)(n c:Nat)(k:F.toList.length=n*size)(b:∀u∈F.toList,u.oneCell'=true)(hw:w'.heap=w.heap:=by rfl):Src P size t (.slice (some ⟨g,0,none⟩) n c) n F.toList w':=by
 refine Src.ofSlice w' i ⟨g,0,none⟩ n c F.toList k (fun j u h=>?_) b;have f:ad w' g a F:=by unfold ad;rw[hw];exact e
 have d:(⟨g,0,none⟩:Addr).add j=⟨g,j,none⟩:=by unfold Addr.add;split<;>simp_all
 rw[d,f.cell];simpa using h
def b9(w:World):Prop:=Lib.TabIs VI w "strings.asciiSpace" .u8 Lib.asciiSpaceTab
theorem b9.still(h:b9 w)(c:aa ab w w'):b9 w':=by unfold b9 Lib.TabIs World.var? at h⊢;cases b:VI.globalNamed "strings.asciiSpace" with|none=>rw[b]at h;cases h|some g=>rw[b]at h;simp only[Option.bind_some]at h⊢;cases a:w.heap[g]? with|none=>rw[a]at h;cases h|some o=>rw[c.block g (Array.getElem?_eq_some_iff.1 a).1 id];exact h
abbrev ah(b:Bytes):Value:=.string ⟨b.toArray⟩
def nO(r:Px.Row):List Value:=[ah r.name,ah r.others,ah r.flags,.int .i64 r.few,.int .i64 r.ay]
def eH(r:Px.Row):Value:=.agg #[ah r.name,ah r.others,ah r.flags,.int .i64 r.few,.int .i64 r.ay]
def df(l:List Px.Row):List Value:=l.flatMap nO
theorem DL:∀(l:List Px.Row)(i:Nat)(h:i<l.length),(df l)[i*5]?=some (ah l[i].name)/\(df l)[i*5+1]?=some (ah l[i].others)/\(df l)[i*5+2]?=some (ah l[i].flags)/\(df l)[i*5+3]?=some (.int .i64 l[i].few)/\(df l)[i*5+4]?=some (.int .i64 l[i].ay)|x::l,0,_=>⟨rfl,rfl,rfl,rfl,rfl⟩|x::l,i+1,h=>by have :=DL l i (by simpa using h);have e:df (x::l)=ah x.name::ah x.others::ah x.flags::.int .i64 x.few::.int .i64 x.ay::df l:=rfl;rw[e,show(i+1)*5=i*5+5 by omega];simpa using this
structure mE(w:World)(b o:Nat)(r:Px.Row):Prop where
 lt:b<w.heap.size
 c0:w.cell? ⟨b,o,none⟩=some (ah r.name)
 c1:w.cell? ⟨b,o+1,none⟩=some (ah r.others)
 c2:w.cell? ⟨b,o+2,none⟩=some (ah r.flags)
 c3:w.cell? ⟨b,o+3,none⟩=some (.int .i64 r.few)
 c4:w.cell? ⟨b,o+4,none⟩=some (.int .i64 r.ay)
theorem mE.aC{r:Px.Row}(h:mE w k n r)(b:aa S w w')(c:¬S k):mE w' k n r:=have a:∀i,w'.cell? ⟨k,i,none⟩=w.cell? ⟨k,i,none⟩:=fun d=>b.cell h.lt c;⟨VO h.lt b.size,(a _).trans h.c0,(a _).trans h.c1,(a _).trans h.c2,(a _).trans h.c3,(a _).trans h.c4⟩
theorem DN{l:List Px.Row}(h:ad w k t (df l).toArray)(i:Nat)(a:i<l.length):mE w k (i*5) l[i]:=by have c:=DL l i a;simp only[<-List.getElem?_toArray]at c;exact⟨h.lt,(h.cell _).trans c.1,(h.cell _).trans c.2.1,(h.cell _).trans c.2.2.1,(h.cell _).trans c.2.2.2.1,(h.cell _).trans c.2.2.2.2⟩
structure aU(w:World)(v:Value)(l:List Px.PW):Prop where
 at_:∃A c,v=.slice A l.length c/\l.length<=c/\c<=maxLen/\∀i,(h:i<l.length)->∃b off,A=some ⟨b,off,none⟩/\b<w.heap.size/\w.cell? ⟨b,off+i*3,none⟩=some (ah l[i].text)/\w.cell? ⟨b,off+i*3+1,none⟩=some (.int .i64 l[i].line)/\w.cell? ⟨b,off+i*3+2,none⟩=some (.bool l[i].block)
 small:∀x∈l,x.text.length<=maxLen
theorem aU.aC{l:List Px.PW}(h:aU w v l)(d:∀p:Addr,p.block<w.heap.size->w'.cell? p=w.cell? p)(r:w.heap.size<=w'.heap.size):aU w' v l:=by
 obtain⟨⟨A,c,rfl,e,f,j⟩,k⟩:=h;refine⟨⟨A,c,rfl,e,f,fun i hi=>?_⟩,k⟩;obtain⟨b,off,m,a,n,o,q⟩:=j i hi;refine⟨b,off,m,by omega,?_,?_,?_⟩;. rw[d _ a];exact n
 ·rw[d _ a];exact o
 ·rw[d _ a];exact q
theorem aU.still{l:List Px.PW}(h:aU w v l)(a:aa ab w w'):aU w' v l:=h.aC (fun p hp=>a.cell (p:=p) hp id) a.size
theorem aU.cons{x:Px.PW}{l:List Px.PW}(h:aU w v (x::l)):∃b off c,v=.slice (some ⟨b,off,none⟩) (l.length+1) (c+1)/\c+1<=maxLen/\l.length<=c/\b<w.heap.size/\w.cell? ⟨b,off,none⟩=some (ah x.text)/\w.cell? ⟨b,off+1,none⟩=some (.int .i64 x.line)/\w.cell? ⟨b,off+2,none⟩=some (.bool x.block)/\aU w (.slice (if c=0 then some ⟨b,off,none⟩else some ⟨b,off+3,none⟩) l.length c) l:=by obtain⟨⟨A,c,rfl,a,o,d⟩,p⟩:=h;obtain⟨b,off,rfl,f,t,u,z⟩:=d 0 (by simp);have q:∃n,c=n+1:=⟨c-1,by simp at a;omega⟩;obtain⟨c,rfl⟩:=q;simp at a;refine⟨b,off,c,rfl,o,a,f,by simpa using t,by simpa using u,by simpa using z,⟨_,_,rfl,a,by omega,fun i hi=>⟨b,off+3,if_neg (by omega),f,?_⟩⟩,fun y r=>p y (VT _ r)⟩;obtain⟨C,D,e,-,j,k,m⟩:=d (i+1) (by simpa using hi);injection e with e;injection e with e1 e2;subst e1 e2;rw[show off+(i+1)*3=off+3+i*3 by omega]at j k m;exact⟨j,k,m⟩
theorem aU.yU{x:Px.PW}{l:List Px.PW}(h:aU w v (x::l))(d:aa ab w w'):∃b off c,v=.slice (some ⟨b,off,none⟩) (l.length+1) (c+1)/\c+1<=maxLen/\l.length<=c/\b<w.heap.size/\w'.cell? ⟨b,off,none⟩=some (ah x.text)/\w'.cell? ⟨b,off+1,none⟩=some (.int .i64 x.line)/\w'.cell? ⟨b,off+2,none⟩=some (.bool x.block)/\aU w (.slice (if c=0 then some ⟨b,off,none⟩else some ⟨b,off+3,none⟩) l.length c) l:=by obtain⟨b,off,c,e,f,i,a,k,m,n,j⟩:=h.cons;exact⟨b,off,c,e,f,i,a,(d.cell (p:=⟨b,off,none⟩) a id).trans k,(d.cell (p:=⟨b,off+1,none⟩) a id).trans m,(d.cell (p:=⟨b,off+2,none⟩) a id).trans n,j⟩
theorem aU.cells{A:Option Addr}{l:List Px.PW}(h:aU w (.slice A k n) l)(i:Nat)(d:i<l.length):∃b off,A=some ⟨b,off,none⟩/\b<w.heap.size/\w.cell? ⟨b,off+i*3,none⟩=some (ah l[i].text)/\w.cell? ⟨b,off+i*3+1,none⟩=some (.int .i64 l[i].line)/\w.cell? ⟨b,off+i*3+2,none⟩=some (.bool l[i].block):=by obtain⟨⟨f,j,e,-,-,a⟩,-⟩:=h;obtain⟨b,off,c,rest⟩:=a i d;injection e with e1;exact⟨b,off,e1.trans c,rest⟩
theorem aU.nil(h:aU w v []):∃A c,v=.slice A 0 c:=by obtain⟨⟨A,c,rfl,-⟩,-⟩:=h;exact⟨A,c,rfl⟩
def fL(f:Px.Fl):List Value:=[.int .u8 f.1.toNat,ah f.2]
def bN(l:List Px.Fl):List Value:=l.flatMap fL
structure pV(w:World)(B:Nat)(v:Value)(c:Px.ag):Prop where
 at_:∃fv av,v=.agg #[ah c.name,fv,av,.int .i64 c.line]/\w.ownsRow B 125 2 fv c.flags.length (bN c.flags)/\w.ownsRow B 9 1 av c.args.length (c.args.map ah)
open Go.RowKit Go.Great
open Lx(Bytes)
theorem A.AG:(VI.info? 143).map (fun i=>(i.zero,i.size,i.bytes))=some (some (.agg #[.string ⟨#[]⟩,.string ⟨#[]⟩,.string ⟨#[]⟩,.int .i64 0,.int .i64 0]),5,64):=by kernel_rfl
def lK:Nat×Operand->Option (Nat×Value)|(i,.const v)=>some (i,v)|_=>none
def strip(t:TypeId)(o:Oper):Option (Nat×List (Nat×Value)):=match o.guard,o.dst,o.op with|none,some k,.build t' a=>if t'=t then(a.toList.mapM lK).map fun l=>(k,l)else none|_,_,_=>none
def DM(r:Px.Row):List (Nat×Value):=[(0,ah r.name),(1,ah r.others),(2,ah r.flags),(3,.int .i64 r.few),(4,.int .i64 r.ay)]
theorem yB(r:Px.Row):VI.built 143 (DM r)=some (nO r).toArray:=by obtain⟨a,b,c,d,e⟩:=r;kernel_rfl
theorem yV{a:Act}:∀{l:List (Nat×Operand)}{vs:List (Nat×Value)},l.mapM lK=some vs->l.map (fun x=>(x.1,a.eval x.2))=vs
|[],vs,h=>by simp at h;simp[h]
|(i,x)::l,vs,h=>by
  rw[List.mapM_cons]at h
  cases x with
  |const v=>cases b:l.mapM lK with|none=>simp[lK,b]at h|some u=>simp[lK,b]at h;rw[List.map_cons,yV b,<-h];rfl
  |_=>simp[lK]at h
theorem SN{o:Oper}{d:List (Nat×Value)}(h:strip t o=some (k,d)):o.guard=none/\o.dst=some k/\∃b,o.op=.build t b/\∀a:Act,(b.map fun(i,x)=>(i,a.eval x)).toList=d:=by
 unfold strip at h;split at h
 ·rename_i m n b f e j;split at h;. rename_i l;subst l;cases c:b.toList.mapM lK with|none=>simp[c]at h|some u=>simp[c]at h;obtain⟨rfl,rfl⟩:=h;refine⟨f,e,b,j,fun a=>?_⟩;rw[Array.toList_map];exact yV c
  ·cases h
 ·cases h
def vP:Nat->List Px.Row->Act->Act|_,[],a=>a|k,r::b,a=>vP (k+1) b (a.put (some k) (eH r))
def nU:Nat->List Px.Row->List (Nat×List (Nat×Value))|_,[]=>[]|k,r::a=>(k,DM r)::nU (k+1) a
theorem EW{f:Array Oper}{rest:List Oper}{w:World}{Q:Exit->Act->World->Prop}:∀(d:List Px.Row)(k:Nat)(l:List Oper)(a:Act),l.mapM (strip 143)=some (nU k d)->wpList VI f Q rest (vP k d a) w->wpList VI f Q (l++rest) a w
|[],k,l,a,h,hw=>by cases l with|nil=>exact hw|cons o l=>rw[List.mapM_cons]at h;cases b:strip 143 o with|none=>simp[b]at h|some x=>cases c:l.mapM (strip 143)<;>simp[b,c,nU]at h
|r::d,k,l,a,h,hw=>by
  cases l with
  |nil=>simp[nU]at h
  |cons o l=>
   rw[List.mapM_cons]at h
   cases b:strip 143 o with
   |none=>simp[b]at h
   |some x=>
    cases c:l.mapM (strip 143)with
    |none=>simp[b,c]at h
    |some u=>
     simp[b,c,nU]at h;obtain⟨rfl,rfl⟩:=h;obtain⟨j,i,n,m,e⟩:=SN b;rw[Wa];refine wpList_build j 143 n m ?_ ?_;. rw[e,yB];rfl
     ·rw[e,yB,i];exact EW d (k+1) l _ c hw
theorem Uf{c:Array Oper}{Q:Exit->Act->World->Prop}(b:List Px.Row)(n:Nat)(L rest:List Oper)(a:Act)(d:(L.take n).mapM (strip 143)=some (nU 1 b))(e:L.drop n=rest)(hw:wpList VI c Q rest (vP 1 b a) w):wpList VI c Q L a w:=by rw[<-List.take_append_drop n L,e];exact EW b 1 _ a d hw
theorem El(w:World):Calls VI 96 #[] w fun e w'=>e=.returned (.slice (some ⟨w.heap.size,0,none⟩) 65 65)/\w'=w.alloc (.cells (df Px.table).toArray 143):=by
 obtain⟨i0,c,d,b,f⟩:=info_parts A.AG;go_enter func96,ntmps96;refine wp_seq ?_;apply wp_region_lit;refine wpList_plain rfl fun K a=>BigFrame.wp_assign _ rfl (a _ _ (wpList_nil ?_));refine wp_seq ?_;apply wp_region_lit;refine Uf Px.table 65 _ _ _ (by kernel_rfl) (by rfl) ?_;refine wpList_buildSlice rfl 188 143 65 _ rfl (df Px.table).toArray i0 _ underlying188 c d (by rw[b];decide) (by rw[b];decide) (by rw[b];kernel_rfl) ?_;refine wpList_plain rfl fun K a=>BigFrame.wp_assign _ rfl (a _ _ (wpList_nil ?_));clear a K;refine wp_ret ?_;apply bodyPost_ret_by (v:=.slice (some ⟨w.heap.size,0,none⟩) 65 65);. kernel_rfl
 ·kernel_rfl
 ·exact⟨rfl,rfl⟩
end
end Go.Proofs.YtmddhediccmhbaaGreatDoor
