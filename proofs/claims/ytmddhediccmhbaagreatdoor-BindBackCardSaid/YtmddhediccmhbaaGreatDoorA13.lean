/- package format: modifiers. -/
import Derived.Lib.AtoiTie
import Derived.Lib.Bytes
import Derived.Lib.LastIndexByte
import Derived.Test.YtmddhediccmhbaaGreatDoorA11
import Derived.Test.YtmddhediccmhbaaGreatDoorA12
import Derived.Test.YtmddhediccmhbaaGreatDoorA03
set_option linter.all false
set_option maxHeartbeats 400000000
set_option maxRecDepth 100000
namespace Go.Proofs.YtmddhediccmhbaaGreatDoor
open Go.RowKit
open Go.Proofs.Tryz
open And renaming intro→VJ
open _root_.Array renaming getElem?_eq_some_iff→VV
open _root_.Array renaming length_toList→Wz
open Bool renaming noConfusion→WG
open _root_.ByteArray renaming size_extract→WM
open IntKind renaming i64→VL
open Lib renaming cellsOf→YM
open Lib renaming hid→VH
open Lib renaming trimPrefix→Yu
open List renaming concat_eq_append→W_
open List renaming eq_nil_of_length_eq_zero→VP
open List renaming length_append→VK
open List renaming length_map→V0
open List renaming length_singleton→VY
open List renaming mem_append→V_
open List renaming mem_append_left→Yf
open List renaming mem_singleton→VU
open List renaming not_mem_nil→V1
open List renaming pairwise_append→Yh
open Nat renaming le_refl→VN
open Nat renaming le_trans→VS
open Nat renaming lt_of_lt_of_le→VO
open Nat renaming mul_le_mul_right→V3
open Nat renaming zero_le→VQ
open Go.Proofs.Tryz renaming prog→VI
open Go.World renaming ownsRow_nil→Wg
variable {w w' U w1:World}{k n m i j d q g N:Nat}{v u z tx sv:Value}{e r c:Int}{s x y:ByteArray}{b:Bool}{t:TypeId}{S:Nat->Prop}{E:List Value}{p:List UInt8}
section
open Lx(Bytes)
theorem A.Uh(e l:Int)(w:World):(Instr.typeAssert (.iface 82 (.agg #[.int .i64 e,.int .i64 l])) 20 82 true).run VI w=.ok (.tuple #[.agg #[.int .i64 e,.int .i64 l],.bool true]) w:=by kernel_rfl
structure kj(w:World)(a b c:Nat)(e l:Int)(w':World):Prop where
 ca:ad w' a 34 #[.slice none 0 0]
 cb:ad w' b 30 #[.int .i64 e]
 cc:ad w' c 3 #[.int .i64 l]
 turns:aa (fun k=>k=a∨k=b∨k=c) w w'
def Fu(w:World)(a b c:Nat)(e l:Int)(ex:Exit)(d:Act)(f:World):Prop:=(ex=.normal∨ex=.ret)/\d.defers=[]/\kj w a b c e l f
theorem GD{l:Int}(b:ad w k 34 #[v])(c:ad w n 30 #[u])(d:ad w m 3 #[z])(a:aa ab w w1):kj w k n m e l (((w1.setCell ⟨k,0,none⟩ (.slice none 0 0)).setCell ⟨n,0,none⟩ (.int .i64 e)).setCell ⟨m,0,none⟩ (.int .i64 l)):=by
 have f:k≠n:=ad.fB b c (by decide);have h:k≠m:=ad.fB b d (by decide);have i:n≠m:=ad.fB c d (by decide);refine⟨?_,?_,?_,?_⟩;. exact(((a.blk b id).aj 0 _).an (p:=⟨n,0,none⟩) f _).an (p:=⟨m,0,none⟩) h _
 ·exact(((a.blk c id).an (p:=⟨k,0,none⟩) f.symm _).aj 0 _).an (p:=⟨m,0,none⟩) i _
 ·exact(((a.blk d id).an (p:=⟨k,0,none⟩) h.symm _).an (p:=⟨n,0,none⟩) i.symm _).aj 0 _
 ·exact(((a.mono fun _ _ e=>e.elim).setCell (p:=⟨k,0,none⟩) (.inl (.inl rfl)) _).setCell (p:=⟨n,0,none⟩) (.inl (.inr (.inl rfl))) _).setCell (p:=⟨m,0,none⟩) (.inl (.inr (.inr rfl))) _
theorem kj.later(h:kj w k n m e r w')(a:aa ab w' U):kj w k n m e r U:=⟨a.blk h.ca id,a.blk h.cb id,a.blk h.cc id,h.turns.trans a fun _ _ e=>e.elim⟩
theorem vD(w:World)(a b c:Nat)(e l:Int)(x y z:Value)(d:ad w a 34 #[x])(f:ad w b 30 #[y])(h:ad w c 3 #[z]):CallsD VI 25 #[.pointer (some ⟨a,0,none⟩),.pointer (some ⟨b,0,none⟩),.pointer (some ⟨c,0,none⟩)] (.panicking (og e l)) w fun m u j=>m=.returned (.tuple #[])/\u=.panicking [{v:=.iface 82 (.agg #[.int .i64 e,.int .i64 l]),recovered:=true}]/\kj w a b c e l j:=by
 have C:=A.Uh e l;refine callsD_of_wpS func25 rfl fun E cs i=>?_;apply wpS_seq;apply wpS_region;unfold og at i;simp[wpOpsS,go_sem,recoverD,i,ntmps25,Exit.thenS];refine wpS_of_wp ?_;clear i;refine Code.wp_mono (Q:=Fu w a b c e l) ?_ ?_;. rintro ex D j⟨t,r,q⟩;rcases t with rfl|rfl;all_goals exact⟨r,_,rfl,.tuple #[],by simp[results,results25],rfl,rfl,q⟩
 have n:=d.cell 0;have o:=f.cell 0;have p:=h.cell 0;simp at n o p;have F:=d.frozen 0;have fb:=f.frozen 0;have fc:=h.frozen 0;have I:=d.lt;have K:=f.lt;have L:=h.lt;have G:a≠b:=ad.fB d f (by decide);have H:a≠c:=ad.fB d h (by decide);have J:b≠c:=ad.fB f h (by decide);have k:=VH (fun(W:World)=>GD (w:=w) (w1:=W) (e:=e) (l:=l) d f h);clear d f h;refine sG (tmps':=#[.pointer (some ⟨a,0,none⟩),.pointer (some ⟨b,0,none⟩),.pointer (some ⟨c,0,none⟩),.iface 82 (.agg #[.int .i64 e,.int .i64 l]),undef,undef,.iface 82 (.agg #[.int .i64 e,.int .i64 l]),undef,undef,undef,undef,undef,undef,undef,undef,undef,undef,undef,undef,undef,undef,undef]) (by kernel_rfl) ?_;go_wp2_with fail;go_region;all_goals go_wp2_with fail;exact⟨.inl rfl,rfl,(k.out _ (aa.refl _ w)).later (((aa.refl _ _).alloc _).drewN 1)⟩
theorem PJ(w:World)(args:Array Value)(a b c:Nat)(j:args=#[.pointer (some ⟨a,0,none⟩),.pointer (some ⟨b,0,none⟩),.pointer (some ⟨c,0,none⟩)]):CallsD VI 25 args .returning w fun i n d=>i=.returned (.tuple #[])/\n=.returning/\aa ab w d:=by
 subst j;refine callsD_of_wpS func25 rfl fun h cs f=>?_;apply wpS_seq;apply wpS_region;simp[wpOpsS,go_sem,recoverD,f,ntmps25,Exit.thenS];refine wpS_of_wp ?_;refine Code.wp_mono (Q:=fun ex e d=>(ex=.normal∨ex=.ret)/\e.defers=[]/\aa ab w d) ?_ ?_;. rintro ex e d⟨l,k,m⟩;rcases l with rfl|rfl;all_goals refine⟨k,.returning,?_,.tuple #[],by simp[results,results25],rfl,rfl,m⟩;cases h;simp_all
 clear f;refine sG (tmps':=#[.pointer (some ⟨a,0,none⟩),.pointer (some ⟨b,0,none⟩),.pointer (some ⟨c,0,none⟩),.nilIface,undef,undef,.nilIface,undef,undef,undef,undef,undef,undef,undef,undef,undef,undef,undef,undef,undef,undef,undef]) (by kernel_rfl) ?_;go_wp2_with fail;exact aa.refl _ w
open Lx(Bytes)
abbrev CQ:=Px.ag×Value×Value
def lL(q:CQ):List Value:=[ah q.1.name,q.2.1,q.2.2,.int .i64 q.1.line]
def dH(l:List CQ):List Value:=l.flatMap lL
theorem y6(l:List CQ)(q:CQ):dH (l++[q])=dH l++lL q:=by simp[dH]
structure di(w:World)(B:Nat)(q:CQ):Prop where
 flags:w.ownsRow B 125 2 q.2.1 q.1.flags.length (bN q.1.flags)
 args:w.ownsRow B 9 1 q.2.2 q.1.args.length (q.1.args.map ah)
structure bB(w:World)(B:Nat)(gv:Value)(Z:List (Value×List CQ)):Prop where
 outer:w.ownsRow B 47 1 gv Z.length (Z.map (·.1))
 inner:∀z∈Z,w.ownsRow B 53 4 z.1 z.2.length (dH z.2)
 rows:∀z∈Z,∀q∈z.2,di w B q
 apart:Z.Pairwise fun a b=>∀k,a.1.ownBlock=some k->b.1.ownBlock≠some k
def sS(w:World)(b:Nat):Prop:=∃t cs,ad w b t cs/\47≠t/\53≠t/\125≠t/\9≠t
theorem bB.turns{B:Nat}{Z:List (Value×List CQ)}(h:bB w B v Z)(m:aa S w w')(l:∀b,b<w.heap.size->S b->sS w b):bB w' B v Z:=by
 refine⟨m.own h.outer fun g a e=>?_,fun z c=>m.own (h.inner z c) fun g a e=>?_,fun z c q hq=>⟨m.own (h.rows z c q hq).flags fun g a e=>?_,m.own (h.rows z c q hq).args fun g a e=>?_⟩,h.apart⟩;. obtain⟨t,n,d,f,i,j,k⟩:=l g (h.outer.lt g a).2 e;exact a_ h.outer d f a
 ·obtain⟨t,n,d,f,i,j,k⟩:=l g ((h.inner z c).lt g a).2 e;exact a_ (h.inner z c) d i a
 ·obtain⟨t,n,d,f,i,j,k⟩:=l g ((h.rows z c q hq).flags.lt g a).2 e;exact a_ (h.rows z c q hq).flags d j a
 ·obtain⟨t,n,d,f,i,j,k⟩:=l g ((h.rows z c q hq).args.lt g a).2 e;exact a_ (h.rows z c q hq).args d k a
theorem bB.still{B:Nat}{Z:List (Value×List CQ)}(h:bB w B v Z)(a:aa ab w w'):bB w' B v Z:=h.turns a fun _ _ e=>e.elim
theorem bB.bU{B:Nat}{Z:List (Value×List CQ)}(h:bB w B v Z)(hB:k<=B):bB w k v Z:=⟨dX h.outer hB,fun z a=>dX (h.inner z a) hB,fun z a q hq=>⟨dX (h.rows z a q hq).flags hB,dX (h.rows z a q hq).args hB⟩,h.apart⟩
theorem bB.nil(w:World)(B:Nat):bB w B (.slice none 0 0) []:=⟨Wg _ _ _ _,fun b a=>(V1 a).elim,fun b a=>(V1 a).elim,.nil⟩
theorem bB.begun{B:Nat}{Z:List (Value×List CQ)}(h:bB w B v Z)(l:w'.ownsRow B 47 1 u (Z.length+1) (Z.map (·.1)++[.slice none 0 0]))(d:w.grownBy w' v.ownBlock):bB w' B u (Z++[(.slice none 0 0,[])]):=by
 have i:aa (fun b=>v.ownBlock=some b) w w':=(aa.refl _ w).grown d fun _ _ e=>e;refine⟨by simpa using l,?_,?_,?_⟩
 ·intro z c;rcases V_.1 c with c|c;. exact i.own (h.inner z c) fun g d e=>bS (h.inner z c) h.outer (by decide) g d e
  ·rw[VU.1 c];exact Wg _ _ _ _
 ·intro z c q f;rcases V_.1 c with c|c;. exact⟨i.own (h.rows z c q f).flags fun g d e=>bS (h.rows z c q f).flags h.outer (by decide) g d e,i.own (h.rows z c q f).args fun g d e=>bS (h.rows z c q f).args h.outer (by decide) g d e⟩
  ·rw[VU.1 c]at f;exact(V1 f).elim
 ·refine Yh.2 ⟨h.apart,List.pairwise_singleton _ _,fun a _ b j k _ e=>?_⟩;rw[VU.1 j]at e;simp[Value.ownBlock]at e
theorem bB.last{B:Nat}{Z:List (Value×List CQ)}{z:Value×List CQ}(h:bB w B v (Z++[z])):∃g cp,v=.slice (some ⟨g,0,none⟩) (Z.length+1) cp/\B<=g/\g<w.heap.size/\w.cell? ⟨g,Z.length,none⟩=some z.1/\w.frozen? ⟨g,Z.length,none⟩=false:=by
 have a:=h.outer;rw[VK,VY]at a;rcases a.2 with⟨_,d⟩|⟨g,c,f,rfl,e,b,_⟩;. exact absurd d (by omega)
 ·refine⟨g,c,rfl,e,(VV.1 b).1,?_,by simp[World.frozen?,b]⟩;rw[a.cellAt _ (by omega)];simp
theorem bB.Qj{B:Nat}{Z:List (Value×List CQ)}{l:List CQ}{q:CQ}(h:bB w B (.slice (some ⟨g,0,none⟩) n m) (Z++[(v,l)]))(J:aa ab w w')(Q:di w' B q)(I:U.ownsRow B 53 4 u (l.length+1) (dH l++lL q))(M:w'.grownBy U v.ownBlock)(K:u.ownBlock=v.ownBlock∨∃N,u.ownBlock=some N/\w.heap.size<=N):bB (U.setCell ⟨g,Z.length,none⟩ u) B (.slice (some ⟨g,0,none⟩) n m) (Z++[(u,l++[q])]):=by
 have i:=h.still J;have r:aa (fun b=>v.ownBlock=some b) w' U:=(aa.refl _ w').grown M fun _ _ e=>e;have H:(v,l)∈Z++[(v,l)]:=by simp
 have C:=i.inner _ H;have P:n=Z.length+1:=by obtain⟨T,S,e,-⟩:=h.last;injection e
 have D:=r.own i.outer fun k c e=>bS C i.outer (by decide) k e c;have O:∀x:Value×List CQ,(Z++[x]).length=n:=fun x=>by rw[VK,VY,P]
 have o:aa (af g) U (U.setCell ⟨g,Z.length,none⟩ u):=(aa.refl (af g) U).setCell (p:=⟨g,_,none⟩) (.inl rfl) _;have p:(Value.slice (some ⟨g,0,none⟩) n m).ownBlock=some g:=rfl;have A:=Yh.1 h.apart;have E:∀j,di w' B j->di (U.setCell ⟨g,Z.length,none⟩ u) B j:=fun j d=>⟨o.own (r.own d.flags fun k c e=>bS d.flags C (by decide) k c e) fun k c e=>bS d.flags i.outer (by decide) k c (by rw[p];exact congrArg some e.symm),o.own (r.own d.args fun k c e=>bS d.args C (by decide) k c e) fun k c e=>bS d.args i.outer (by decide) k c (by rw[p];exact congrArg some e.symm)⟩;refine⟨?_,?_,?_,?_⟩
 ·rw[O]at D⊢;have :=iQ D Z.length u;have e:((Z++[(v,l)]).map (·.1)).set Z.length u=(Z++[(u,l++[q])]).map (·.1):=by rw[List.map_append,List.map_append,List.set_append_right _ _ (by simp)];simp
  rw[e]at this;exact this
 ·intro z f;rcases V_.1 f with f|f;. have G:=i.inner z (Yf _ f);refine o.own (r.own G fun k c e=>A.2.2 z f _ (VU.2 rfl) k c e) fun k c e=>bS G i.outer (by decide) k c (by rw[p];exact congrArg some e.symm)
  ·rw[VU.1 f];refine o.own (by rw[y6,VK,VY];exact I) fun k c e=>?_;have e:k=g:=e;subst e;exact bS I D (by decide) k c p
 ·intro z f j d;rcases V_.1 f with f|f;. exact E j (i.rows z (Yf _ f) j d)
  ·rw[VU.1 f]at d;rcases V_.1 d with d|d;. exact E j (i.rows _ H j d)
   ·rw[VU.1 d];exact E q Q
 ·refine Yh.2 ⟨A.1,List.pairwise_singleton _ _,fun a F b L k c e=>?_⟩;rw[VU.1 L]at e;rcases K with y|⟨N,y,V⟩;. exact A.2.2 a F _ (VU.2 rfl) k c (y▸e)
  ·have W:=((h.inner a (Yf _ F)).lt k c).2;have t:u.ownBlock=some k:=e;rw[y]at t;injection t with t;omega
def aq(Z:List (Value×List CQ)):List (List Px.ag):=Z.map fun z=>z.2.map (·.1)
theorem PT(Z:List (Value×List CQ))(gl a:Value)(l:List CQ)(q:CQ):aq (Z++[(a,l++[q])])=Px.bG (aq (Z++[(gl,l)])) q.1 false:=by simp[aq,Px.bG]
theorem Pq{B:Nat}{l:List Lx.W}(h:w.ownsRow B 98 3 v l.length (fo l))(j:∀x∈l,x.text.length<=maxLen):aU w v (l.map Px.dV):=by
 refine⟨?_,fun x k=>?_⟩
 ·rcases h.2 with⟨rfl,b⟩|⟨g,a,n,rfl,o,f,d,e,_⟩;. exact⟨none,0,by rw[V0,b],by rw[V0];omega,VQ _,fun i hi=>absurd hi (by rw[V0];omega)⟩
  ·refine⟨_,a,by rw[V0],by rw[V0];exact d,e,fun i hi=>⟨g,0,rfl,(VV.1 f).1,?_⟩⟩;rw[V0]at hi;have c:=xd l i hi;rw[Nat.zero_add,h.cellAt _ (by omega),h.cellAt _ (by omega),h.cellAt _ (by omega)];simpa[Px.dV]using c
 ·obtain⟨y,m,rfl⟩:=List.mem_map.1 k;exact j y m
open Lx(Bytes)
def ko(w:World)(K:Nat)(v:Value)(l:List Px.PW):Prop:=∃w0,aU w0 v l/\aa ab w0 w/\w0.heap.size<=K
def Fe(w:World)(K:Nat)(h f c:Value)(l:List Px.PW)(J:List Px.au->Prop)(Q:Except (Int×Int) (List (List Px.ag))->Prop)(e:Ending)(d:World):Prop:=(∃a,J a/\my w K h f c a e d)∨∃m,Q (.error (m,Px.gw l))/\e=.panicked (og m (Px.gw l))/\aa (fun b=>b=K∨c.ownBlock=some b) w d
abbrev Ff(a:World)(e d:Value)(l:List Px.PW)(o:List Px.au)(J:List Px.au->Prop)(Q:Except (Int×Int) (List (List Px.ag))->Prop):Prop:=∀(w:World)(K:Nat)(ov c:Value),aa (fun b=>a.heap.size<=b) a w->a.heap.size<=K->aR w K e d ov o->ko w K c l->Calls VI 27 #[.pointer (some ⟨K,0,none⟩),c] w (Fe w K e d ov l J Q)
structure pW(w0:World)(sv lv:Value)(J:List Px.cL->List Px.au->Nat->List (List Px.ag)->Prop)(Q:Except (Int×Int) (List (List Px.ag))->Prop):Prop where
 few:∀ls o g G,J ls o g G->o.length<=1000
 skip:∀l ls o g G,J (l::ls) o g G->Px.isDir l.1=false->Px.taken o=false->J ls o g G
 cmd:∀l ls o g G c,J (l::ls) o g G->Px.isDir l.1=false->Px.taken o=true->Px.words l.1=.ok c->(l.2≠g∨G=[]->J ls o l.2 (Px.bG G c true))/\(l.2=g->G≠[]->J ls o g (Px.bG G c false))
 bad:∀l ls o g G m,J (l::ls) o g G->Px.isDir l.1=false->Px.taken o=true->Px.words l.1=.error m->Q (.error (m,Px.gw l.1))
 spec:∀l ls o g G,J (l::ls) o g G->Px.isDir l.1=true->Ff w0 sv lv l.1 o (fun o'=>J ls o' g G) Q
 fin:∀g G,J [] [] g G->Q (.ok G)
 last:∀o c g G,J [] (o++[c]) g G->Q (.error (4,c.line))
structure Fit(L:List Lx.Ln):Prop where
 many:L.length<=1000
 each:∀l∈L,l.1≠[]/\l.1.length<=256/\∀x∈l.1,x.text.length<=maxLen
structure dt(w w1:World)(K:Nat)(sv lv:Value)(J:List Px.cL->List Px.au->Nat->List (List Px.ag)->Prop)(L:List Lx.Ln)(k g:Nat)(o:List Px.au)(Z:List (Value×List CQ))(ov gv:Value)(wr:World):Prop where
 le:k<=L.length
 turns:aa (af (w.heap.size+1)) w1 wr
 conds:aR wr K sv lv ov o
 cD:bB wr (K+1) gv Z
 box:ad wr (w.heap.size+1) 34 #[gv]
 inv:J ((L.map Px.aP).drop k) o g (aq Z)
 num:Z.length<=k/\∀z∈Z,z.2.length<=k
structure f_(w w1:World):Prop where
 a:ad w1 (w.heap.size+1) 34 #[.slice none 0 0]
 b:ad w1 (w.heap.size+1+1) 30 #[.int .i64 0]
 c:ad w1 (w.heap.size+1+1+1) 3 #[.int .i64 0]
 turns:aa ab w w1
def qg(w:World)(R:Except (Int×Int) (List (List Px.ag)))(e:Ending)(a:World):Prop:=aa ab w a/\match R with|.ok G=>∃gv Z,e=.returned (.tuple #[.agg #[gv],.int .i64 0,.int .i64 0])/\bB a w.heap.size gv Z/\aq Z=G|.error x=>e=.returned (.tuple #[.agg #[.slice none 0 0],.int .i64 x.1,.int .i64 x.2])
def kG(w:World)(K:Nat):World:={w with heap:=w.heap.extract 0 K}
theorem Hl(h:aa S w w'):aa S w (kG w' w.heap.size)/\aa ab (kG w' w.heap.size) w'/\(kG w' w.heap.size).heap.size=w.heap.size:=by
 have c:(kG w' w.heap.size).heap.size=w.heap.size:=by have :=h.size;simp[kG];omega
 have b:∀k,k<w.heap.size->(kG w' w.heap.size).heap[k]?=w'.heap[k]?:=fun k a=>by have :=h.size;simp[kG,Array.getElem?_extract];omega
 refine⟨⟨h.os,h.tape,h.output,by omega,fun k a d=>(b k a).trans (h.block k a d)⟩,⟨rfl,rfl,rfl,by rw[c];exact h.size,fun k a _=>(b k (by omega)).symm⟩,c⟩
theorem Nw{B:Nat}{A:Option Addr}{L:List Lx.Ln}(q:w.heap.size=k)(h:fp w B (.slice A n m) L E)(o:aa S w w')(j:∀b,S b->b<B)(r:Fit L):n=L.length/\∀i(a:i<L.length),∃b v,A=some ⟨b,0,none⟩/\b<w'.heap.size/\w'.cell? ⟨b,i*2,none⟩=some v/\w'.cell? ⟨b,i*2+1,none⟩=some (.int .i64 L[i].2)/\ko w' k v (L[i].1.map Px.dV):=by
 subst q;have f:fp w' B (.slice A n m) L E:=h.turns o (fun b c e=>by have :=l7 h.row b c;have :=j b e;omega) fun v u b c e=>by obtain⟨i,a,rfl⟩:=List.getElem_of_mem u;have :=l7 (h.words i a (by rw[<-h.len];exact a)) b c;have :=j b e;omega
 obtain⟨z,t2,F⟩:=Hl o;rcases f.row.2 with⟨e,p⟩|⟨g,C,D,e,c,t,_⟩;. injection e with e1 e2;exact⟨by rw[p];exact e2,fun i a=>by omega⟩
 ·injection e with e1 e2;subst e1 e2;refine⟨rfl,fun i a=>?_⟩;have d:i<E.length:=by rw[h.len];exact a
  have l:=uN E L i d a h.len;refine⟨g,E[i],rfl,(VV.1 t).1,?_,?_,kG w' w.heap.size,?_,t2,by omega⟩;. rw[f.row.cellAt _ (by omega)];exact l.1
  ·rw[f.row.cellAt _ (by omega)];exact l.2
  ·refine(Pq (z.own (h.words i d a) fun b c e=>?_) fun x y=>((r.each _ (List.getElem_mem a)).2.2 x y));have :=l7 (h.words i d a) b c;have :=j b e;omega
theorem ko.at_{l:List Px.PW}(h:ko w k v l):aU w v l:=by obtain⟨c,a,b,_⟩:=h;exact a.still b
theorem ko.still{l:List Px.PW}(h:ko w k v l)(d:aa ab w w'):ko w' k v l:=by obtain⟨e,a,b,c⟩:=h;exact⟨e,a,b.same d,c⟩
theorem S6{o:List Px.au}(h:aR w k v u z o)(b:o.length<=1000):Calls VI 28 #[.pointer (some ⟨k,0,none⟩)] w fun e a=>e=.returned (.bool (Px.taken o))/\aa ab w a:=by
 rcases List.eq_nil_or_concat o with rfl|⟨d,c,rfl⟩;. refine(wP h).mono ?_;rintro e a⟨rfl,n,rfl⟩;exact⟨rfl,(aa.refl _ w).drewN n⟩
 ·rw[W_]at h⊢;refine(Eo h (by rw[W_,VK]at b;omega)).mono ?_;rintro e a⟨rfl,n,rfl⟩;exact⟨by simp[Px.taken],(aa.refl _ w).drewN n⟩
theorem T_{l:List Px.PW}(h:Px.words l=.error e):e=9∨e=10:=by
 unfold Px.words at h;split at h;. injection h with h;exact .inr h.symm
 ·split at h;. injection h with h;exact .inr h.symm
  ·split at h;. injection h with h;exact .inr h.symm
   ·split at h;. injection h with h;exact .inl h.symm
    ·split at h;. injection h with h;exact .inl h.symm
     ·cases h
theorem qL{L:List Lx.Ln}(a:k<L.length):(L.map Px.aP).drop k=(L[k].1.map Px.dV,L[k].2)::(L.map Px.aP).drop (k+1):=by rw[List.drop_eq_getElem_cons (by simpa using a)];simp[Px.aP]
theorem Jh{o:List Px.au}(h:aR w k v u z o):∀b,b<w.heap.size->(b=k∨z.ownBlock=some b)->sS w b:=by
 rintro b-(rfl|a);. exact⟨_,_,h.blk,by decide,by decide,by decide,by decide⟩
 ·rcases h.own.2 with⟨rfl,_⟩|⟨g,d,e,rfl,_,c,_⟩;. simp[Value.ownBlock]at a
  ·have :g=b:=by simpa[Value.ownBlock]using a
   subst this;exact⟨_,_,c,by decide,by decide,by decide,by decide⟩
theorem z_(h:ad w k 34 #[v]):sS w k:=⟨_,_,h,by decide,by decide,by decide,by decide⟩
section
variable{w w1 wr:World}{K:Nat}{sv lv:Value}{J:List Px.cL->List Px.au->Nat->List (List Px.ag)->Prop}{Q:Except (Int×Int) (List (List Px.ag))->Prop}{L:List Lx.Ln}{k g:Nat}{o:List Px.au}{Z:List (Value×List CQ)}{ov gv:Value}
theorem dt.still(h:dt w w1 K sv lv J L k g o Z ov gv wr){b:World}(a:aa ab wr b):dt w w1 K sv lv J L k g o Z ov gv b:=⟨h.le,h.turns.trans a fun _ _ e=>e.elim,h.conds.still a,h.cD.still a,a.blk h.box id,h.inv,h.num⟩
theorem dt.skip(h:dt w w1 K sv lv J L k g o Z ov gv wr)(e:pW w sv lv J Q)(c:k<L.length)(f:Px.isDir (L[k].1.map Px.dV)=false)(i:Px.taken o=false){d:World}(hw:aa ab wr d):dt w w1 K sv lv J L (k+1) g o Z ov gv d:=by have a:=h.still hw;have b:=h.inv;rw[qL c]at b;exact⟨c,a.turns,a.conds,a.cD,a.box,e.skip _ _ _ _ _ b f i,by have :=h.num.1;omega,fun z j=>by have :=h.num.2 z j;omega⟩
theorem dt.dir(h:dt w w1 K sv lv J L k g o Z ov gv wr)(n:w1.heap.size=K)(q:w.heap.size+1<K)(j:k<L.length){c:List Px.au}(l:J ((L.map Px.aP).drop (k+1)) c g (aq Z))(f:aa ab wr w')(i:aR U K sv lv v c)(hw:aa (fun b=>b=K∨ov.ownBlock=some b) w' U):dt w w1 K sv lv J L (k+1) g c Z v gv U:=by
 have a:=h.still f
 have d:∀b,(b=K∨ov.ownBlock=some b)->K<=b:=fun b e=>by
  rcases e with e|e;. omega
  ·have :=(h.conds.own.lt b e).1;omega
 refine⟨j,a.turns.trans hw fun b p e=>?_,i,a.cD.turns hw (Jh a.conds),hw.blk a.box fun e=>?_,l,by have :=h.num.1;omega,fun z m=>by have :=h.num.2 z m;omega⟩;. have :=d b e;omega
 ·have :=d _ e;omega
structure mC(w w1:World)(K:Nat)(sv lv:Value)(J:List Px.cL->List Px.au->Nat->List (List Px.ag)->Prop)(L:List Lx.Ln)(k g:Nat)(o:List Px.au)(Z:List (Value×List CQ))(gl:Value)(l:List CQ)(ov gv:Value)(q:CQ)(cb:Nat)(wr:World):Prop where
 lt:k<L.length
 turns:aa (af (w.heap.size+1)) w1 wr
 conds:aR wr K sv lv ov o
 cD:bB wr (K+1) gv (Z++[(gl,l)])
 box:ad wr (w.heap.size+1) 34 #[gv]
 cmd:ad wr cb 53 #[ah q.1.name,q.2.1,q.2.2,.int .i64 q.1.line]
 rows:di wr (K+1) q
 inv:J ((L.map Px.aP).drop (k+1)) o g (Px.bG (aq (Z++[(gl,l)])) q.1 false)
 num:Z.length<=k/\(∀z∈Z,z.2.length<=k)/\l.length<=k
theorem Qk(Z:List (Value×List CQ))(a:Value)(c:Px.ag):Px.bG (aq (Z++[(a,[])])) c false=Px.bG (aq Z) c true:=by simp[Px.bG,aq]
theorem dt.N2(h:dt w w1 K sv lv J L k g o Z ov gv wr)(i:pW w sv lv J Q)(f:k<L.length)(m:Px.isDir (L[k].1.map Px.dV)=false)(u:Px.taken o=true){q:CQ}(r:Px.words (L[k].1.map Px.dV)=.ok q.1)(p:L[k].2=g)(d:Z.length≠0)(hw:aa ab wr w')(j:ad w' n 53 #[ah q.1.name,q.2.1,q.2.2,.int .i64 q.1.line])(t:di w' (K+1) q):∃b a l,Z=b++[(a,l)]/\mC w w1 K sv lv J L k g o b a l ov gv q n w':=by
 have c:=h.still hw;rcases List.eq_nil_or_concat Z with rfl|⟨b,⟨a,l⟩,rfl⟩;. exact absurd rfl d
 ·rw[W_]at*;refine⟨b,a,l,rfl,f,c.turns,c.conds,c.cD,c.box,j,t,?_,?_,?_,?_⟩;. have e:=h.inv;rw[qL f]at e;exact(i.cmd _ _ _ _ _ _ e m u r).2 p (by simp[aq])
  ·have :=h.num.1;rw[VK,VY]at this;omega
  ·exact fun z d=>h.num.2 z (Yf _ d)
  ·exact h.num.2 (a,l) (by simp)
theorem dt.N0(h:dt w w1 K sv lv J L k g o Z ov gv wr)(D:pW w sv lv J Q)(M:w1.heap.size=K)(N:w.heap.size+1<K)(y:k<L.length)(E:Px.isDir (L[k].1.map Px.dV)=false)(I:Px.taken o=true){q:CQ}(G:Px.words (L[k].1.map Px.dV)=.ok q.1)(f:L[k].2≠g∨Z.length=0){w2:World}(hw:aa ab wr w')(p:ad w' m 53 #[ah q.1.name,q.2.1,q.2.2,.int .i64 q.1.line])(j:di w' (K+1) q){gv':Value}(H:w2.ownsRow (K+1) 47 1 gv' (Z.length+1) (Z.map (·.1)++[.slice none 0 0]))(u:w'.grownBy w2 gv.ownBlock):mC w w1 K sv lv J L k L[k].2 o Z (.slice none 0 0) [] ov gv' q m (w2.setCell ⟨w.heap.size+1,0,none⟩ gv'):=by
 have a:=h.still hw;have d:aa (fun b=>gv.ownBlock=some b) w' w2:=(aa.refl _ w').grown u fun _ _ e=>e;have i:aa (af (w.heap.size+1)) w2 (w2.setCell ⟨w.heap.size+1,0,none⟩ gv'):=(aa.refl (af (w.heap.size+1)) w2).setCell (p:=⟨w.heap.size+1,0,none⟩) (.inl rfl) _;have r:∀b,gv.ownBlock=some b->K+1<=b:=fun b e=>(h.cD.outer.lt b e).1;have l:ad w2 (w.heap.size+1) 34 #[gv]:=d.blk a.box fun e=>by have :=r _ e;omega
 have t:∀{base:Nat}{e:TypeId}{A n:Nat}{v:Value}{C:List Value},w2.ownsRow base e A v n C->e≠34->(w2.setCell ⟨w.heap.size+1,0,none⟩ gv').ownsRow base e A v n C:=fun z F=>i.own z fun b c e=>by have e:b=w.heap.size+1:=e;subst e;exact a_ z l F c
 refine⟨y,?_,⟨?_,?_⟩,?_,?_,?_,⟨?_,?_⟩,?_,h.num.1,h.num.2,VQ _⟩;. refine(a.turns.trans d fun b c e=>?_).same i;have :=r b e;omega
 ·exact i.blk (d.blk a.conds.blk fun e=>by have :=r _ e;omega) fun e=>by have :K=w.heap.size+1:=e;omega
 ·exact t (d.own a.conds.own fun b c e=>bS a.conds.own a.cD.outer (by decide) b c e) (by decide)
 ·exact(a.cD.begun H u).turns i fun b c e=>by have e:b=w.heap.size+1:=e;subst e;exact z_ l
 ·exact l.aj 0 gv'
 ·refine i.blk (d.blk p fun e=>a_ a.cD.outer p (by decide) e) fun e=>?_;have e:m=w.heap.size+1:=e;subst e;exact ad.fB p a.box (by decide) rfl
 ·exact t (d.own j.flags fun b c e=>bS j.flags a.cD.outer (by decide) b c e) (by decide)
 ·exact t (d.own j.args fun b c e=>bS j.args a.cD.outer (by decide) b c e) (by decide)
 ·have x:=h.inv;rw[qL y]at x;rw[Qk]
  exact(D.cmd _ _ _ _ _ _ x E I G).1 (by
   rcases f with f|f;. exact .inl f
   ·exact .inr (by rw[VP f];rfl))
theorem mC.push{Z:List (Value×List CQ)}{gl':Value}{l:List CQ}{q:CQ}(h:mC w w1 K sv lv J L k g o Z v l ov (.slice (some ⟨m,0,none⟩) i j) q n wr)(F:w1.heap.size=K)(H:w.heap.size+1<K){w2:World}(hw:aa ab wr w')(D:w2.ownsRow (K+1) 53 4 gl' (l.length+1) (dH l++lL q))(r:w'.grownBy w2 v.ownBlock)(C:gl'.ownBlock=v.ownBlock∨∃N,gl'.ownBlock=some N/\wr.heap.size<=N):dt w w1 K sv lv J L (k+1) g o (Z++[(gl',l++[q])]) ov (.slice (some ⟨m,0,none⟩) i j) (w2.setCell ⟨m,Z.length,none⟩ gl'):=by
 have A:=h.cD.Qj hw ⟨hw.own h.rows.flags fun _ _=>id,hw.own h.rows.args fun _ _=>id⟩ D r C;have E:aa (fun b=>v.ownBlock=some b) w' w2:=(aa.refl _ w').grown r fun _ _ e=>e;have t:=h.cD.inner (v,l) (by simp);have y:=h.cD.outer;have p:(Value.slice (some ⟨m,0,none⟩) i j).ownBlock=some m:=rfl;have G:=(y.lt m p).1;have c:aa (fun b=>v.ownBlock=some b∨b=m) wr (w2.setCell ⟨m,Z.length,none⟩ gl'):=(((hw.mono fun _ _ e=>e.elim).same (E.mono fun _ _ e=>.inl e))).setCell (p:=⟨m,_,none⟩) (.inl (.inr rfl)) _
 have f:∀b,(v.ownBlock=some b∨b=m)->K+1<=b:=fun b e=>by
  rcases e with e|e;. exact(t.lt b e).1
  ·omega
 refine⟨h.lt,h.turns.trans c fun b d e=>?_,⟨c.blk h.conds.blk fun e=>?_,c.own h.conds.own fun b d e=>?_⟩,A,c.blk h.box fun e=>?_,?_,?_,?_⟩;. have :=f b e;omega
 ·have :=f _ e;omega
 ·rcases e with e|e;. exact bS h.conds.own t (by decide) b d e
  ·subst e;exact bS h.conds.own y (by decide) b d p
 ·have :=f _ e;omega
 ·rw[PT (gl:=v)];exact h.inv
 ·have :=h.num.1;rw[VK,VY];omega
 ·intro z a;rcases V_.1 a with a|a;. have :=h.num.2.1 z a;omega
  ·rw[VU.1 a,VK,VY];have :=h.num.2.2;omega
structure xX(w w1:World)(w':World):Prop where
 box:f_ w w1
 turns:aa (af (w.heap.size+1)) w1 w'
theorem Td(a:f_ w w')(d:aa (af (w.heap.size+1)) w' U)(c:kj U (w.heap.size+1) (w.heap.size+1+1) (w.heap.size+1+1+1) e r w1):aa ab w w1:=by
 refine(a.turns.trans d fun b a e=>?_).trans c.turns fun b a e=>?_;. have :b=w.heap.size+1:=e;omega
 ·rcases e with e|e|e<;>omega
end
end
def Fa(w:World)(i n:Nat)(e:Ending)(a:World):Prop:=(∃(r:Nat)(b:Bool),(r=0∨i<r/\r<=n)/\e=.returned (.tuple #[.int .i64 (r:Nat),.bool b]))/\aa ab w a
def Fy(w:World)(i n:Nat)(e:Ending)(a:World):Prop:=(∃(r:Nat)(b:Bool),i<r/\r<=n/\e=.returned (.tuple #[.int .i64 (r:Nat),.bool b]))/\aa ab w a
def xr(w:World)(e:Ending)(a:World):Prop:=(∃b:Bool,e=.returned (.bool b))/\aa ab w a
theorem GM(hs:s.size<=100000)(V:k<s.size)(c:Int):Calls VI 208 #[.string s,.int .i64 (k:Nat),.int .u8 c] w (Fa w k s.size):=by
 have O:VL.wrap ((k:Int)+1)=((k+1:Nat):Int):=ak (by omega);generalize W:k+1=d at*;have P:VL.wrap ((d:Int)+1)=((d+1:Nat):Int):=ak (by omega);go_enter func208,ntmps208;go_upto_region 2 with fail;go_cut[9](fun N f=>∃n:Bool,N=.bool n/\(n=true->d<s.size)/\w=f)
 case first=>
  by_cases o:d<s.size
  ·have m:(d:Int)<(s.size:Int):=by omega
   have C:(0:Int)<=(d:Int):=by omega
   generalize u:s[d]=x at*;go_wp2_with fail;all_goals go_meet;exact⟨_,rfl,fun _=>o,rfl⟩
  ·have m:¬(d:Int)<(s.size:Int):=by omega
   go_wp2_with fail;go_meet;exact⟨_,rfl,fun e=>WG e,rfl⟩
 case rest=>
  obtain⟨n,rfl,H,rfl⟩:=hcut;go_upto_if 30 with fail;go_cut[8](fun p f=>∃a:Nat,d<=a/\a<=s.size/\p=.int .i64 (a:Nat)/\w=f)
  case first=>
   cases n;. go_wp2_with fail;go_meet;exact⟨d,VN _,by omega,rfl,rfl⟩
   ·have o:=H rfl;go_wp2_with fail;go_meet;exact⟨d+1,by omega,by omega,rfl,rfl⟩
  case rest=>
   obtain⟨F,S,G,rfl,rfl⟩:=hcut;go_wp2_with fail;go_loopg[8,11](s.size-F)(fun g p l wr=>∃(a:Nat)(b:Bool),g=s.size-a/\F<=a/\a<=s.size/\p=.int .i64 (a:Nat)/\l=.bool b/\w=wr);case atStart=>exact⟨F,false,rfl,VN _,G,rfl,rfl,rfl⟩
   case round=>
    obtain⟨a,b,rfl,T,o,rfl,rfl,rfl⟩:=hrel;go_upto_region 6 with fail;go_cut[48]from 34 to 95(fun L f=>∃t:Bool,L=.bool t/\(t=true->a<s.size)/\w=f)
    case first=>
     by_cases r:a<s.size
     ·have m:(a:Int)<(s.size:Int):=by omega
      have C:(0:Int)<=(a:Int):=by omega
      generalize u:s[a]=x at*;cases E:((x.toNat:Int)!=93);all_goals go_wp2_with fail;all_goals go_meet;exact⟨_,rfl,fun _=>r,rfl⟩
     ·have m:¬(a:Int)<(s.size:Int):=by omega
      go_wp2_with fail;go_meet;exact⟨_,rfl,fun e=>WG e,rfl⟩
    case rest=>
     obtain⟨t,rfl,i,rfl⟩:=hcut;have q1:VL.wrap ((a:Int)+1)=((a+1:Nat):Int):=ak (by omega);have q2:VL.wrap ((a:Int)+2)=((a+2:Nat):Int):=ak (by omega);have q3:VL.wrap ((a:Int)+3)=((a+3:Nat):Int):=ak (by omega);generalize X:a+1=j at*;generalize Y:a+2=h at*;generalize Z:a+3=A at*
     cases t with
     |false=>
      clear i;by_cases U:a<s.size
      ·have K:¬(s.size:Int)<=(a:Int):=by omega
       go_wp2_with fail;go_ret2;exact⟨⟨j,_,.inr ⟨by omega,by omega⟩,rfl⟩,aa.refl _ _⟩
      ·have K:(s.size:Int)<=(a:Int):=by omega
       go_wp2_with fail;go_ret2;exact⟨⟨0,_,.inl rfl,rfl⟩,aa.refl _ _⟩
     |true=>
      have r:=i rfl;have m:(a:Int)<(s.size:Int):=by omega
      have C:(0:Int)<=(a:Int):=by omega
      clear i;generalize u:s[a]=x at*;go_upto_region 7 with fail;go_cut[67]from 34 to 95(fun M f=>∃t:Bool,M=.bool t/\(t=true->h<s.size)/\w=f)
      case first=>
       by_cases q:h<s.size
       ·have D:(h:Int)<(s.size:Int):=by omega
        have J:(0:Int)<=(h:Int):=by omega
        have Q:j<s.size:=by omega
        have p5:(j:Int)<(s.size:Int):=by omega
        have p6:(0:Int)<=(j:Int):=by omega
        generalize hy:s[j]=y at*;generalize I:s[h]=z at*;cases E:((y.toNat:Int)==45);all_goals go_wp2_with fail;all_goals go_meet;exact⟨_,rfl,fun _=>q,rfl⟩
       ·have D:¬(h:Int)<(s.size:Int):=by omega
        go_wp2_with fail;go_meet;exact⟨_,rfl,fun e=>WG e,rfl⟩
      case rest=>
       obtain⟨t,rfl,i,rfl⟩:=hcut
       cases t with
       |true=>
        have q:=i rfl;have D:(h:Int)<(s.size:Int):=by omega
        have J:(0:Int)<=(h:Int):=by omega
        clear i;generalize I:s[h]=z at*;go_upto_region 8 with fail;go_cut[11]from 34 to 95(fun l f=>∃t:Bool,l=.bool t/\w=f)
        case first=>
         cases b;. cases u1:decide ((x.toNat:Int)<=c);all_goals go_wp2_with fail;all_goals go_meet;exact⟨_,rfl,rfl⟩
         ·go_wp2_with fail;go_meet;exact⟨_,rfl,rfl⟩
        case rest=>
         obtain⟨t,rfl,rfl⟩:=hcut;go_wp2_with fail;go_roundg(s.size-A);case measure=>omega
         case rel=>exact⟨A,_,rfl,by omega,by omega,rfl,rfl,rfl⟩
       |false=>
        clear i;go_upto_region 10 with fail;go_cut[11]from 34 to 95(fun l f=>∃t:Bool,l=.bool t/\w=f);case first=>cases b;all_goals go_wp2_with fail;all_goals go_meet;exact⟨_,rfl,rfl⟩
        case rest=>
         obtain⟨t,rfl,rfl⟩:=hcut;go_wp2_with fail;go_roundg(s.size-j);case measure=>omega
         case rel=>exact⟨j,_,rfl,by omega,by omega,rfl,rfl,rfl⟩
theorem PG(m:s.size<=100000)(d:k<s.size)(c:Int):Calls VI 189 #[.string s,.int .i64 (k:Nat),.int .u8 c] w (Fy w k s.size):=by
 have t:k<s.size:=d;have C:(k:Int)<(s.size:Int):=by omega
 have D:(0:Int)<=(k:Int):=by omega
 have F:VL.wrap ((k:Int)+1)=((k+1:Nat):Int):=ak (by omega);have G:VL.wrap ((k:Int)+2)=((k+2:Nat):Int):=ak (by omega);have i:=VH (GM (w:=w) m d c);generalize j:k+1=a at*;generalize l:k+2=i2 at*;generalize z:s[k]=x at*;have o:=VH (VJ j l);clear d;go_enter func189,ntmps189
 cases I:((x.toNat:Int)==63)with
 |true=>go_wp2_with fail;go_ret2;exact⟨⟨a,_,by omega,by omega,rfl⟩,aa.refl _ _⟩
 |false=>
  cases J:((x.toNat:Int)==91)with
  |true=>
   go_wp2_with fail;refine i.out.mono ?_;rintro e H⟨⟨r,b,u,rfl⟩,h⟩;have f:=VH h;clear h;by_cases p:r=0
   ·have g:¬(0:Int)<(r:Int):=by omega
    go_wp2_with fail;go_quiet(fail);go_wp2_with fail;go_ret2;exact⟨⟨a,_,by omega,by omega,rfl⟩,f.out.drewN _⟩
   ·have g:(0:Int)<(r:Int):=by omega
    go_wp2_with fail;go_ret2;exact⟨⟨r,_,by omega,by omega,rfl⟩,f.out⟩
  |false=>
   cases K:((x.toNat:Int)==92)with
   |true=>
    by_cases q:a<s.size
    ·have n:(a:Int)<(s.size:Int):=by omega
     have E:(0:Int)<=(a:Int):=by omega
     generalize A:s[a]=y at*;go_wp2_with fail;go_quiet(fail);go_wp2_with fail;go_ret2;exact⟨⟨i2,_,by omega,by omega,rfl⟩,(aa.refl _ w).drewN _⟩
    ·have n:¬(a:Int)<(s.size:Int):=by omega
     go_wp2_with fail;go_quiet(fail);go_wp2_with fail;go_ret2;exact⟨⟨a,_,by omega,by omega,rfl⟩,(aa.refl _ w).drewN _⟩
   |false=>go_wp2_with fail;go_quiet(fail);go_wp2_with fail;go_ret2;exact⟨⟨a,_,by omega,by omega,rfl⟩,(aa.refl _ w).drewN _⟩
def fu(P n a f k:Nat):Nat:=((P+1-a)*(n+1)+(n-f))*(n+1)+(n-k)
theorem Oj{f:Nat}(h:m<i)(e:i<=k+1)(l:j<=n)(o:q<=n):fu k n i j q<fu k n m f d:=by
 unfold fu;have a:(k+1-i)*(n+1)+(n-j)+1<=(k+1-m)*(n+1)+(n-f):=by have b:(k+1-i+1)*(n+1)<=(k+1-m)*(n+1):=V3 _ (by omega);rw[Nat.add_mul,Nat.one_mul]at b;omega
 have c:=V3 (n+1) a;rw[Nat.add_mul,Nat.one_mul]at c;omega
theorem Cs{f:Nat}(h:f<j)(c:j<=n)(e:d<=n):fu k n m j d<fu k n m f i:=by
 unfold fu;have a:(k+1-m)*(n+1)+(n-j)+1<=(k+1-m)*(n+1)+(n-f):=by omega
 have b:=V3 (n+1) a;rw[Nat.add_mul,Nat.one_mul]at b;omega
theorem Oi{f:Nat}(h:i<j)(a:j<=n):fu k n m f j<fu k n m f i:=by unfold fu;omega
theorem NT(D:x.size<=100000)(hs:s.size<=100000):Calls VI 181 #[.string x,.string s] w (xr w):=by
 obtain⟨P,A⟩:∃P,x.size=P:=⟨_,rfl⟩;obtain⟨n,hn⟩:∃n,s.size=n:=⟨_,rfl⟩;go_enter func181,ntmps181;go_wp2_with fail;go_loopg[5,6,7,8,9,10](fu P n 0 0 0)(fun g K L M N _ _ wr=>∃(i k a f:Nat)(c:Int),g=fu P n a f k/\i<=P/\k<=n/\f<=k/\a<=i+1/\c=(a:Int)-1/\K=.int .i64 (i:Nat)/\L=.int .i64 (k:Nat)/\M=.int .i64 c/\N=.int .i64 (f:Nat)/\aa ab w wr);case atStart=>exact⟨0,0,0,0,-1,rfl,VQ _,VQ _,VN _,VQ _,rfl,rfl,rfl,rfl,rfl,aa.refl _ _⟩
 case round=>
  obtain⟨i,k,a,f,c,rfl,T,p,S,ae,G,rfl,rfl,rfl,rfl,m⟩:=hrel;have h:=VH m;have af:c+1=(a:Int):=by omega
  clear m G;by_cases Z:k<n
  ·have Y:k<s.size:=by omega
   have H:(k:Int)<(s.size:Int):=by omega
   have p2:(0:Int)<=(k:Int):=by omega
   have q1:VL.wrap ((i:Int)+1)=((i+1:Nat):Int):=ak (by omega);have q2:VL.wrap ((k:Int)+1)=((k+1:Nat):Int):=ak (by omega);have q3:VL.wrap ((f:Int)+1)=((f+1:Nat):Int):=ak (by omega);generalize hx:s[k]=O at*;generalize U:i+1=o at*;generalize X:k+1=u at*;generalize Q:f+1=d at*;by_cases V:i<P
   ·have C:i<x.size:=by omega
    have I:(i:Int)<(x.size:Int):=by omega
    have J:(0:Int)<=(i:Int):=by omega
    have t:=VH (fun W=>PG (w:=W) D C (O.toNat:Int));rw[A]at t;generalize hy:x[i]=y at*
    cases y1:((y.toNat:Int)==42)with
    |true=>
     go_wp2_with fail;go_roundg(fu P n (o+1) k k);case measure=>exact Oj (by omega) (by omega) p p
     case rel=>exact⟨o,k,o+1,k,(o:Int),rfl,by omega,p,VN _,VN _,by omega,rfl,rfl,rfl,rfl,h.out⟩
    |false=>
     go_wp2_with fail;refine(t.out _).mono ?_;rintro e z⟨⟨r,b,ad,E,rfl⟩,m⟩;have l:=VH (h.out.same m);clear m
     cases b with
     |true=>
      go_wp2_with fail;go_roundg(fu P n a f u);case measure=>exact Oi (by omega) (by omega)
      case rel=>exact⟨r,u,a,f,c,rfl,E,by omega,by omega,by omega,by omega,rfl,rfl,rfl,rfl,l.out⟩
     |false=>
      by_cases q:c<0;. go_wp2_with fail;go_ret;exact⟨⟨_,rfl⟩,l.out⟩
      ·obtain⟨j,rfl⟩:∃j:Nat,c=(j:Int):=⟨c.toNat,by omega⟩;have F:¬(j:Int)<0:=q;go_wp2_with fail;go_roundg(fu P n a d d);case measure=>exact Cs (by omega) (by omega) (by omega)
       case rel=>exact⟨j,d,a,d,_,rfl,by omega,by omega,VN _,by omega,by omega,rfl,rfl,rfl,rfl,l.out⟩
   ·have I:¬(i:Int)<(x.size:Int):=by omega
    by_cases q:c<0;. go_wp2_with fail;go_ret;exact⟨⟨_,rfl⟩,h.out⟩
    ·obtain⟨j,rfl⟩:∃j:Nat,c=(j:Int):=⟨c.toNat,by omega⟩;have F:¬(j:Int)<0:=q;go_wp2_with fail;go_roundg(fu P n a d d);case measure=>exact Cs (by omega) (by omega) (by omega)
     case rel=>exact⟨j,d,a,d,_,rfl,by omega,by omega,VN _,by omega,by omega,rfl,rfl,rfl,rfl,h.out⟩
  ·have H:¬(k:Int)<(s.size:Int):=by omega
   have J:(0:Int)<=(i:Int):=by omega
   have p5:(i:Int)<=(x.size:Int):=by omega
   go_wp2_with fail;refine(Tryz.strings_Trim_one _ 42 (by decide) _ (by rw[WM];omega)).mono ?_;rintro e z⟨rfl,hw⟩
   have l:=VH (show aa ab w z from by
    rcases hw with rfl|rfl;. exact h.out
    ·exact h.out.drewN 1);clear hw;go_wp2_with fail;go_ret;exact⟨⟨_,rfl⟩,l.out⟩
theorem G9(i:x.size<=100000)(j:y.size<=100000):Calls VI 173 #[.string s,.string x,.string y] w (xr w):=by
 have d:=VH (NT (w:=w) i j)
 cases g0:s.toList==([61,61]:List UInt8)with
 |true=>go_enter func173,ntmps173;go_wp2_with fail;go_ret;exact⟨⟨_,rfl⟩,aa.refl _ _⟩
 |false=>
  cases g1:s.toList==([33,61]:List UInt8)with
  |true=>go_enter func173,ntmps173;go_wp2_with fail;go_ret;exact⟨⟨_,rfl⟩,aa.refl _ _⟩
  |false=>
   cases k:s.toList==([60]:List UInt8)with
   |true=>go_enter func173,ntmps173;go_wp2_with fail;go_ret;exact⟨⟨_,rfl⟩,aa.refl _ _⟩
   |false=>
    cases g3:s.toList==([62]:List UInt8)with
    |true=>go_enter func173,ntmps173;go_wp2_with fail;go_ret;exact⟨⟨_,rfl⟩,aa.refl _ _⟩
    |false=>
     cases g4:s.toList==([60,61]:List UInt8)with
     |true=>go_enter func173,ntmps173;go_wp2_with fail;go_ret;exact⟨⟨_,rfl⟩,aa.refl _ _⟩
     |false=>
      cases l:s.toList==([62,61]:List UInt8)with
      |true=>go_enter func173,ntmps173;go_wp2_with fail;go_ret;exact⟨⟨_,rfl⟩,aa.refl _ _⟩
      |false=>
       cases g6:s.toList==([124,124]:List UInt8)with
       |true=>
        go_enter func173,ntmps173;go_wp2_with fail;refine(lq _ _).mono ?_;rintro e b⟨⟨a,rfl⟩,rfl⟩;cases a;. skip;go_wp2_with fail;refine(lq _ _).mono ?_;rintro e b⟨⟨h,rfl⟩,rfl⟩;go_wp2_with fail;go_ret;exact⟨⟨_,rfl⟩,aa.refl _ _⟩
        ·skip;go_wp2_with fail;go_ret;exact⟨⟨_,rfl⟩,aa.refl _ _⟩
       |false=>
        cases m:s.toList==([38,38]:List UInt8)with
        |true=>
         go_enter func173,ntmps173;go_wp2_with fail;refine(lq _ _).mono ?_;rintro e b⟨⟨a,rfl⟩,rfl⟩;cases a;. skip;go_wp2_with fail;go_ret;exact⟨⟨_,rfl⟩,aa.refl _ _⟩
         ·skip;go_wp2_with fail;refine(lq _ _).mono ?_;rintro e b⟨⟨h,rfl⟩,rfl⟩;go_wp2_with fail;go_ret;exact⟨⟨_,rfl⟩,aa.refl _ _⟩
        |false=>go_enter func173,ntmps173;go_wp2_with fail;refine d.out.mono ?_;rintro e b⟨⟨a,rfl⟩,c⟩;have f:=VH c;clear c;go_wp2_with fail;go_ret;exact⟨⟨_,rfl⟩,f.out⟩
structure i_(w:World):Prop where
 mx:∃m,w.cell? ⟨4,0,none⟩=some (.int .i64 m)
 Ek:∃t p,w.cell? ⟨6,0,none⟩=some (.iface t p)
 pB:∃t p,w.cell? ⟨5,0,none⟩=some (.iface t p)
 size:20<=w.heap.size
theorem i_.aC(h:i_ w)(c:aa S w w')(j:∀b,b<20->¬S b):i_ w':=by have k:∀g:Nat,g<20->w'.cell? ⟨g,0,none⟩=w.cell? ⟨g,0,none⟩:=fun g a=>c.cell (p:=⟨g,0,none⟩) (VO a h.size) (j g a);obtain⟨⟨m,d⟩,⟨t,p,e⟩,⟨n,l,f⟩,i⟩:=h;exact⟨⟨m,(k _ (by decide)).trans d⟩,⟨t,p,(k _ (by decide)).trans e⟩,⟨n,l,(k _ (by decide)).trans f⟩,VS i c.size⟩
theorem i_.still(h:i_ w)(a:aa ab w w'):i_ w':=h.aC a fun _ _=>id
theorem yE{t:TypeId}(h:w'=w∨∃u,w'=Lib.bytesWorld w k u):aa ab w w':=by
 rcases h with rfl|⟨u,rfl⟩;. exact aa.refl _ _
 ·unfold Lib.bytesWorld World.freeze;rw[if_neg (by decide)];refine⟨rfl,rfl,rfl,by simp,fun b a _=>?_⟩;show((w.drew.alloc _).heap.modify w.heap.size _)[b]?=w.heap[b]?;rw[Array.getElem?_modify,if_neg (by omega)];exact Below.heap_alloc w.drew _ b a
theorem gG{b:Func}{p d u:Tmp}(h:b.results=#[.cell p t,.tmp d,.tmp u])(tmps:Array Value)(P:Program)(w:World)(a:Addr)(v:Value)(c:tmps.getD p undef=.pointer (some a))(e:(loadVar t a).run P w=.ok v w):(results b tmps).run P w=.ok (.tuple #[v,tmps.getD d undef,tmps.getD u undef]) w:=by simp only[results,h];simp only[Array.getD_eq_getD_getElem?]at c;simp[c,asAddr,e]
theorem gy(w:World)(g:Nat)(v0 f v2 v3 v4:Value)(h:ad w g 283 #[v0,f,v2,v3,v4]):(loadVar 283 ⟨g,0,none⟩).run VI w=.ok (.agg #[v0,f,v2,v3,v4]) w:=by have a:=h.cell 0;have b:=h.cell 1;have c:=h.cell 2;have d:=h.cell 3;have e:=h.cell 4;clear h;simp at a b c d e;simp[go_sem,a,b,c,d,e]
def Cq(c n:Int)(d:Bool)(a b:ByteArray):Value:=.agg #[.int .u8 c,.int .i64 n,.bool d,.string a,.string b]
structure lC(m:Nat)(c n:Int)(a b:ByteArray):Prop where
 n1:-1000000<=n/\n<=1000000
 a1:a.size<=m
 b1:b.size<=m
 one:c=115->1<=a.size
def Fj(w:World)(m:Nat)(e:Ending)(f:World):Prop:=aa ab w f/\∃(c n:Int)(d:Bool)(a b rest:ByteArray)(ok:Bool),e=.returned (.tuple #[Cq c n d a b,.string rest,.bool ok])/\rest.size<=m/\(ok=true->lC m c n a b)
theorem yj{l:List UInt8}{v:Int}(d:l.length<=3)(h:Lib.atoiAll l=.ok v):-1000<=v/\v<=1000:=by
 have key:∀r:List UInt8,r.length<=3->∀u,Lib.parseMag r=.ok u->u<1000:=by
  intro r b u a;rw[Lib.parseMag_short r (by omega)]at a
  cases hd:Lib.decNat r with
  |none=>rw[hd]at a;cases a
  |some m=>
   rw[hd]at a;have f:m=u:=by injection a
   subst f;unfold Lib.decNat at hd;split at hd;. cases hd
   ·have :=Lib.decFrom_lt r 0 m hd;have i:10^r.length<=10^3:=Nat.pow_le_pow_right (by decide) b;have e:(10:Nat)^3=1000:=by decide
    omega
 unfold Lib.atoiAll at h;split at h;. cases h
 ·rename_i c r;have b:r.length<=3:=by simp at d;omega
  split at h;. cases h
  ·cases h
  ·rename_i u a
   have j:u<1000:=by
    refine key _ ?_ u a;split;. exact b
    ·exact d
   dsimp only at h;split at h;. cases h
   ·split at h;. cases h
    ·injection h with h;split at h<;>omega
theorem tJ(s p:ByteArray):(⟨(Yu s.data.toList p.data.toList).toArray⟩:ByteArray).size<=s.size:=by
 show(Yu s.data.toList p.data.toList).toArray.size<=s.data.size;rw[List.size_toArray];unfold Yu;split;. rw[List.length_drop,Wz];omega
 ·rw[Wz];omega
theorem Ec(b:ByteArray):∀(k:Nat)(s x:ByteArray),x∈Lib.splitB b 0 k s->x.size<=s.size:=by
 intro k
 induction k with
 |zero=>intro s x h;rw[Lib.splitB_zero]at h;rw[VU.1 h];exact VN _
 |succ k a=>
  intro s x h;unfold Lib.splitB at h;split at h;. rw[VU.1 h];exact VN _
  ·rcases List.mem_cons.1 h with h|h;. rw[h];exact jm _ _ _
   ·exact VS (a _ _ h) (jm _ _ _)
theorem Sn{W:World}{L:List ByteArray}(j:Nat)(a:j<L.length):(W.alloc (.cells (YM L N) t)).cell? ⟨W.heap.size,j,none⟩=some (.string L[j]):=by rw[(ad.new W t (YM L N)).cell j];unfold YM;simp only[List.getElem?_toArray];rw[List.getElem?_append_left (by simpa using a)];simp[a]
theorem mN(h:ad w g t #[v,u,z,tx,sv])(v0 a v2 v3 v4:Value):ad (((((w.setCell ⟨g,0,none⟩ v0).setCell ⟨g,1,none⟩ a).setCell ⟨g,2,none⟩ v2).setCell ⟨g,3,none⟩ v3).setCell ⟨g,4,none⟩ v4) g t #[v0,a,v2,v3,v4]:=((((h.aj 0 v0).aj 1 a).aj 2 v2).aj 3 v3).aj 4 v4
theorem nX(h:aa ab w w')(a:w.heap.size<=g)(v0 b v2 v3 v4:Value):aa ab w (((((w'.setCell ⟨g,0,none⟩ v0).setCell ⟨g,1,none⟩ b).setCell ⟨g,2,none⟩ v2).setCell ⟨g,3,none⟩ v3).setCell ⟨g,4,none⟩ v4):=((((h.setCell (p:=⟨g,0,none⟩) (.inr a) v0).setCell (p:=⟨g,1,none⟩) (.inr a) b).setCell (p:=⟨g,2,none⟩) (.inr a) v2).setCell (p:=⟨g,3,none⟩) (.inr a) v3).setCell (p:=⟨g,4,none⟩) (.inr a) v4
theorem ad.drew{w:World}{g:Nat}{t:TypeId}{a:Array Value}(h:ad w g t a):ad w.drew g t a:=h.drewN 1
theorem aa.drew{S:Nat->Prop}{w a:World}(h:aa S w a):aa S w a.drew:=h.drewN 1
theorem cell_far{p q:Addr}(h:p.block≠q.block)(v:Value):(w.setCell p v).cell? q=w.cell? q:=World.cell?_of_block (Below.heap_setCell w p v q.block fun e=>h e.symm)
structure du(w W:World)(R X:Nat)(c n:Int)(bl:Bool)(a b:ByteArray):Prop where
 r:ad W R 283 #[.int .u8 0,.int .i64 0,.bool false,.string ⟨#[]⟩,.string ⟨#[]⟩]
 x:ad W X 283 #[.int .u8 c,.int .i64 n,.bool bl,.string a,.string b]
 ne:R≠X
 rl:w.heap.size<=R
 xl:w.heap.size<=X
 turns:aa ab w W
theorem du.still{W:World}{R:Nat}(h:du w W R k e c b s y)(a:aa ab W w'):du w w' R k e c b s y:=⟨a.blk h.r id,a.blk h.x id,h.ne,h.rl,h.xl,h.turns.same a⟩
theorem du.cells{W:World}{R:Nat}(h:du w W R k e c b s y):(W.cell? ⟨k,0,none⟩=some (.int .u8 e)/\W.cell? ⟨k,1,none⟩=some (.int .i64 c)/\W.cell? ⟨k,2,none⟩=some (.bool b)/\W.cell? ⟨k,3,none⟩=some (.string s)/\W.cell? ⟨k,4,none⟩=some (.string y))/\(W.cell? ⟨R,0,none⟩=some (.int .u8 0)/\W.cell? ⟨R,1,none⟩=some (.int .i64 0)/\W.cell? ⟨R,2,none⟩=some (.bool false)/\W.cell? ⟨R,3,none⟩=some (.string ⟨#[]⟩)/\W.cell? ⟨R,4,none⟩=some (.string ⟨#[]⟩))/\(∀i,W.frozen? ⟨k,i,none⟩=false)/\(∀i,W.frozen? ⟨R,i,none⟩=false)/\R<W.heap.size/\k<W.heap.size:=⟨⟨h.x.cell 0,h.x.cell 1,h.x.cell 2,h.x.cell 3,h.x.cell 4⟩,⟨h.r.cell 0,h.r.cell 1,h.r.cell 2,h.r.cell 3,h.r.cell 4⟩,fun i=>h.x.frozen i,fun i=>h.r.frozen i,h.r.lt,h.x.lt⟩
theorem du.j_{W:World}{R:Nat}(h:du w W R k e c b s y)(v:Int):du w (W.setCell ⟨k,1,none⟩ (.int .i64 v)) R k e v b s y:=⟨h.r.an (p:=⟨k,1,none⟩) h.ne _,h.x.aj 1 _,h.ne,h.rl,h.xl,h.turns.setCell (p:=⟨k,1,none⟩) (.inr h.xl) _⟩
theorem du.pG{W:World}{R:Nat}(h:du w W R k e c b s y)(v:Bool):du w (W.setCell ⟨k,2,none⟩ (.bool v)) R k e c v s y:=⟨h.r.an (p:=⟨k,2,none⟩) h.ne _,h.x.aj 2 _,h.ne,h.rl,h.xl,h.turns.setCell (p:=⟨k,2,none⟩) (.inr h.xl) _⟩
theorem du.wk{W:World}{R:Nat}(h:du w W R k e c b s y)(v:ByteArray):du w (W.setCell ⟨k,3,none⟩ (.string v)) R k e c b v y:=⟨h.r.an (p:=⟨k,3,none⟩) h.ne _,h.x.aj 3 _,h.ne,h.rl,h.xl,h.turns.setCell (p:=⟨k,3,none⟩) (.inr h.xl) _⟩
theorem du.Ru{W:World}{R:Nat}(h:du w W R k e c b s y)(v:ByteArray):du w (W.setCell ⟨k,4,none⟩ (.string v)) R k e c b s v:=⟨h.r.an (p:=⟨k,4,none⟩) h.ne _,h.x.aj 4 _,h.ne,h.rl,h.xl,h.turns.setCell (p:=⟨k,4,none⟩) (.inr h.xl) _⟩
theorem lQ{W:World}{R:Nat}(h:du w W R k e c b s x)(v0 a v2 v3 v4:Value):∃d,(((((W.setCell ⟨R,0,none⟩ v0).setCell ⟨R,1,none⟩ a).setCell ⟨R,2,none⟩ v2).setCell ⟨R,3,none⟩ v3).setCell ⟨R,4,none⟩ v4).drew=d/\ad d R 283 #[v0,a,v2,v3,v4]/\aa ab w d:=⟨_,rfl,(mN h.r v0 a v2 v3 v4).drew,(nX h.turns h.rl v0 a v2 v3 v4).drew⟩
theorem jX(h:(e==r)=true)(a:r≠115):¬e=115:=by rw[beq_iff_eq]at h;omega
theorem Ts(w:World)(c:Int):du w ((w.alloc (.cells #[.int .u8 0,.int .i64 0,.bool false,.string ⟨#[]⟩,.string ⟨#[]⟩] 283)).alloc (.cells #[.int .u8 c,.int .i64 0,.bool false,.string ⟨#[]⟩,.string ⟨#[]⟩] 283)) w.heap.size (w.heap.size+1) c 0 false ⟨#[]⟩ ⟨#[]⟩:=by
 have e:(w.alloc (.cells #[.int .u8 0,.int .i64 0,.bool false,.string ⟨#[]⟩,.string ⟨#[]⟩] 283)).heap.size=w.heap.size+1:=by simp
 refine⟨(ad.new w _ _).alloc _,?_,by omega,VN _,by omega,((aa.refl _ w).alloc _).alloc _⟩;rw[<-e];exact ad.new _ _ _
theorem qO(h:(s.toList==([]:List UInt8))=false):0<s.size:=by
 rcases Nat.eq_zero_or_pos s.size with e|e
 ·exfalso;have :s.toList=[]:=by rw[show s.toList=s.data.toList from Lib.toList_data s];exact VP (by rw[Wz];exact e)
  rw[this]at h;cases h
 ·exact e
theorem I0(hV:i_ w)(hs:s.size<=100000):Calls VI 200 #[.string s] w (Fj w s.size):=by
 cases h0:s.toList==([]:List UInt8)with
 |true=>have HB:=VH (ad.new w 283 #[.int .u8 0,.int .i64 0,.bool false,.string ⟨#[]⟩,.string ⟨#[]⟩]);go_enter func200,ntmps200;go_wp2_with fail;refine bodyPost_ret (gG results200 _ _ _ ⟨w.heap.size,0,none⟩ _ rfl (gy _ _ _ _ _ _ _ HB.out)) rfl ?_;exact⟨(aa.refl _ w).alloc _,0,0,false,⟨#[]⟩,⟨#[]⟩,⟨#[]⟩,false,rfl,VQ _,fun e=>WG e⟩
 |false=>
  have aZ:=qO h0;have p1:(0:Int)<(s.size:Int):=by omega
  have a_:(1:Int)<=(s.size:Int):=by omega
  generalize hx:s[0]=x at*;go_enter func200,ntmps200;go_upto_region 6 with fail;have h2:=Ts w (x.toNat:Int);generalize aM:(w.alloc (.cells #[.int .u8 0,.int .i64 0,.bool false,.string ⟨#[]⟩,.string ⟨#[]⟩] 283)).alloc (.cells #[.int .u8 (x.toNat:Int),.int .i64 0,.bool false,.string ⟨#[]⟩,.string ⟨#[]⟩] 283)=U at*;generalize aw:w.heap.size=R at*;generalize ax:R+1=X at*;have ao:(s.extract 1 s.size).size<=s.size:=jm s 1 s.size;generalize a1:s.extract 1 s.size=s1 at*;generalize hc:(x.toNat:Int)=c at*;have V:=VH h2;have aT:=VH (VJ aw ax);have aX:=h2.ne;obtain⟨⟨E,F,H,I,J⟩,⟨q,z,A,C,D⟩,f,d,o,p⟩:=h2.cells;have O:=d 0;have P:=d 1;have Q:=d 2;have S:=d 3;have T:=d 4;have g1:=f 1;have g2:=f 2;have g3:=f 3;have g4:=f 4;have HV:=VH (hV.still h2.turns);clear h2 aw ax f d aM hx;cases aC:(c==98);case' false=>cases aD:(c==100)
  case' false=>cases aE:(c==110)
  case' false=>cases aF:(c==119)
  case' false=>cases aG:(c==117)
  case' false=>cases aH:(c==108)
  case' false=>cases aI:(c==69)
  case' false=>
   cases aJ:(c==61);case' false=>cases aK:(c==112)
   case false=>
    by_cases c9:c=115
    ·have aL:(c==115)=true:=beq_iff_eq.2 c9;subst c9
     cases h1:s1.toList==([]:List UInt8)with
     |true=>go_wp2_with fail;refine bodyPost_ret (gG results200 _ _ _ ⟨R,0,none⟩ _ rfl (gy _ _ _ _ _ _ _ (mN V.out.r _ _ _ _ _))) rfl ?_;exact⟨nX V.out.turns V.out.rl _ _ _ _ _,0,0,false,⟨#[]⟩,⟨#[]⟩,⟨#[]⟩,false,rfl,VQ _,fun e=>WG e⟩
     |false=>
      have aY:=qO h1;have q1:(1:Int)<=(s1.size:Int):=by omega
      obtain⟨m,hm⟩:=HV.out.mx;have a6:(s1.extract 0 1).size=1:=by rw[WM];omega
      have an:(s1.extract 1 s1.size).size<=s.size:=VS (jm _ _ _) ao;have ar:=VH (fun W(h:aa ab U W)=>Tryz.strings_SplitN (s1.extract 1 s1.size) (s1.extract 0 1) 3 m W (by omega) ((h.cell (p:=⟨4,0,none⟩) (VO (by decide) HV.out.size) id).trans hm) (by omega) (by decide) (by decide));have aj:=VH (Ec (s1.extract 0 1) (min 3 ((s1.extract 1 s1.size).size+1)-1) (s1.extract 1 s1.size));have aP:=Lib.splitB_length_le (s1.extract 0 1) 0 (min 3 ((s1.extract 1 s1.size).size+1)-1) (s1.extract 1 s1.size);have aq:=VH (fun(W:World)j h=>Sn (W:=W) (N:=min 3 ((s1.extract 1 s1.size).size+1)) (t:=9) (L:=Lib.splitB (s1.extract 0 1) 0 (min 3 ((s1.extract 1 s1.size).size+1)-1) (s1.extract 1 s1.size)) j h);have aU:min 3 ((s1.extract 1 s1.size).size+1)<=3:=Nat.min_le_left _ _;generalize Lib.splitB (s1.extract 0 1) 0 (min 3 ((s1.extract 1 s1.size).size+1)-1) (s1.extract 1 s1.size)=L at*;generalize min 3 ((s1.extract 1 s1.size).size+1)=N at*;clear hm;have aA:L.length<=3:=by omega
      have aO:L.length<=N∨N=0:=by omega
      go_upto_region 26 with fail;go_region_with(go_at_call 227;refine(ar.out _ (by first|exact aa.refl _ _|exact(aa.refl _ _).drewN _)).mono ?_;rintro e w4⟨rfl,Z⟩)
      all_goals
       have M:(∀j(h:j<L.length),((U.alloc (.cells (YM L N) 9)).drew).cell? ⟨U.heap.size,j,none⟩=some (.string L[j]))/\du w ((U.alloc (.cells (YM L N) 9)).drew) R X 115 0 false ⟨#[]⟩ ⟨#[]⟩/\U.heap.size<((U.alloc (.cells (YM L N) 9)).drew).heap.size/\X<U.heap.size/\R<U.heap.size:=⟨fun j h=>aq.out U j h,V.out.still (((aa.refl ab U).alloc _).drew),by simp,p,o⟩;clear Z ar aq E F H I J q z A C D O P Q S T g1 g2 g3 g4 o p;generalize(U.alloc (.cells (YM L N) 9)).drew=w5 at*;generalize U.heap.size=G at*;obtain⟨hC,l,hG,aW,aV⟩:=M;obtain⟨⟨E,F,H,I,J⟩,⟨q,z,A,C,D⟩,f,d,o,p⟩:=l.cells;have O:=d 0;have P:=d 1;have Q:=d 2;have S:=d 3;have T:=d 4;have g3:=f 3;have g4:=f 4;have i:=VH l;clear l f d;by_cases az:L.length<3
       ·have q5:((L.length:Nat):Int)<3:=by omega
        go_wp2_with fail;refine bodyPost_ret (gG results200 _ _ _ ⟨R,0,none⟩ _ rfl (gy _ _ _ _ _ _ _ (mN i.out.r _ _ _ _ _))) rfl ?_;exact⟨nX i.out.turns i.out.rl _ _ _ _ _,0,0,false,⟨#[]⟩,⟨#[]⟩,⟨#[]⟩,false,rfl,VQ _,fun e=>WG e⟩
       ·obtain⟨a,b,af,rfl⟩:∃a b af,L=[a,b,af]:=by match L,az,aA with|[a,b,af],_,_=>exact⟨a,b,af,rfl⟩|[],h,_=>exact absurd (by decide) h|[_],h,_=>exact absurd (by simp) h|[_,_],h,_=>exact absurd (by simp) h|_::_::_::_::_,_,h=>simp at h
        have c0:=hC 0 (by simp);have c1:=hC 1 (by simp);have c2:=hC 2 (by simp);simp only[List.getElem_cons_zero,List.getElem_cons_succ]at c0 c1 c2;have ha:=aj.out a (by simp);have hb:=aj.out b (by simp);have hr:=aj.out af (by simp);have ai:=VH (VJ (VS ha an) (VJ (VS hb an) (VS hr an)));clear hC az aA aP aO ha hb hr;simp only[List.length_cons,List.length_nil,Nat.zero_add,Nat.reduceAdd]at*;cases ha:a.toList==([]:List UInt8)with|true=>go_wp2_with fail;refine bodyPost_ret (gG results200 _ _ _ ⟨R,0,none⟩ _ rfl (gy _ _ _ _ _ _ _ (mN i.out.r _ _ _ _ _))) rfl ?_;exact⟨nX i.out.turns i.out.rl _ _ _ _ _,0,0,false,⟨#[]⟩,⟨#[]⟩,⟨#[]⟩,false,rfl,VQ _,fun e=>WG e⟩|false=>have aB:=VH (qO ha);go_upto_region 29 with fail;go_region;all_goals have h7:du w (((w5.setCell ⟨X,3,none⟩ (.string a)).setCell ⟨X,4,none⟩ (.string b)).drew) R X 115 0 false a b/\(((w5.setCell ⟨X,3,none⟩ (.string a)).setCell ⟨X,4,none⟩ (.string b)).drew).cell? ⟨G,2,none⟩=some (.string af)/\G<(((w5.setCell ⟨X,3,none⟩ (.string a)).setCell ⟨X,4,none⟩ (.string b)).drew).heap.size:=⟨((i.out.wk a).Ru b).still (aa.drew (aa.refl _ _)),by rw[World.cell?_drew,cell_far (by dsimp only;omega),cell_far (by dsimp only;omega)];exact c2,by simp;omega⟩;generalize((w5.setCell ⟨X,3,none⟩ (.string a)).setCell ⟨X,4,none⟩ (.string b)).drew=w7 at*;obtain⟨h7,c2,hG⟩:=h7;clear E F H I J q z A C D O P Q S T g3 g4 o p c0 c1;obtain⟨⟨E,F,H,I,J⟩,⟨q,z,A,C,D⟩,f,d,o,p⟩:=h7.cells;have O:=d 0;have P:=d 1;have Q:=d 2;have S:=d 3;have T:=d 4;have H7:=VH h7;clear h7 f d;go_upto_region 30 with fail;go_region;all_goals obtain⟨w8,n,h8⟩:=lQ H7.out (.int .u8 115) (.int .i64 0) (.bool false) (.string a) (.string b);rw[n];have H8:=VH h8;clear h8 n;go_wp2_with fail;refine bodyPost_ret (gG results200 _ _ _ ⟨R,0,none⟩ _ rfl (gy _ _ _ _ _ _ _ H8.out.1)) rfl ?_;exact⟨H8.out.2,115,0,false,a,b,af,true,rfl,ai.out.2.2,fun _=>⟨by decide,ai.out.1,ai.out.2.1,fun _=>aB.out⟩⟩
    ·have aL:(c==115)=false:=beq_eq_false_iff_ne.2 c9;clear c9;go_wp2_with fail;refine bodyPost_ret (gG results200 _ _ _ ⟨R,0,none⟩ _ rfl (gy _ _ _ _ _ _ _ (mN V.out.r _ _ _ _ _))) rfl ?_;exact⟨nX V.out.turns V.out.rl _ _ _ _ _,0,0,false,⟨#[]⟩,⟨#[]⟩,⟨#[]⟩,false,rfl,VQ _,fun e=>WG e⟩
   all_goals
    have HN:=VH (show¬c=115 from by first|exact jX aJ (by decide)|exact jX aK (by decide));have HC:=VH (fun W=>Tryz.strings_CutPrefix s1 ⟨#[45]⟩ W);have aR:=tJ s1 ⟨#[45]⟩;generalize aQ:(⟨(Yu s1.data.toList (⟨#[45]⟩:ByteArray).data.toList).toArray⟩:ByteArray)=s2 at*;generalize Lib.hasPrefix s1.data.toList (⟨#[45]⟩:ByteArray).data.toList=K at*;clear aQ;go_upto_region 16 with fail;go_wp2_with fail;refine(HC.out _).mono ?_;rintro e w2⟨rfl,rfl⟩;go_upto_region 17 with fail;have h3:=V.out.pG K;have au:=VH (hV.still h3.turns);generalize w2.setCell ⟨X,2,none⟩ (.bool K)=w3 at*;have H3:=VH h3;clear E F H I J q z A C D O P Q S T g1 g2 g3 g4 o p;obtain⟨⟨E,F,H,I,J⟩,⟨q,z,A,C,D⟩,f,d,o,p⟩:=h3.cells;have O:=d 0;have P:=d 1;have Q:=d 2;have S:=d 3;have T:=d 4;have g1:=f 1;clear h3 f d;go_wp2_with fail;go_loopg[6]s2.size(fun g s6 wr=>∃k:Nat,g=s2.size-k/\k<=s2.size/\s6=.int .i64 (k:Nat)/\w3=wr);case atStart=>exact⟨0,rfl,VQ _,rfl,rfl⟩
    case round=>
     obtain⟨k,rfl,hk,rfl,rfl⟩:=hrel;go_upto_region 18 with fail;go_cut[54]from 39 to 56(fun aS wx=>∃t:Bool,aS=.bool t/\(t=true->k<s2.size)/\w3=wx)
     case first=>
      by_cases ay:k<s2.size
      ·have q1:(k:Int)<(s2.size:Int):=by omega
       have q2:(0:Int)<=(k:Int):=by omega
       generalize hy:s2[k]=y at*;cases d1:decide ((48:Int)<=(y.toNat:Int));all_goals go_wp2_with fail;all_goals go_meet;exact⟨_,rfl,fun _=>ay,rfl⟩
      ·have q1:¬(k:Int)<(s2.size:Int):=by omega
       go_wp2_with fail;go_meet;exact⟨_,rfl,fun e=>WG e,rfl⟩
     case rest=>
      obtain⟨t,rfl,ht,rfl⟩:=hcut
      cases t with
      |true=>
       have ay:=ht rfl;have e1:VL.wrap ((k:Int)+1)=((k+1:Nat):Int):=ak (by omega);clear ht;go_wp2_with fail;go_roundg(s2.size-(k+1));case measure=>omega
       case rel=>exact⟨k+1,rfl,by omega,rfl,rfl⟩
      |false=>
       clear ht;have q2:(0:Int)<=(k:Int):=by omega
       have q3:(k:Int)<=(s2.size:Int):=by omega
       have HZ:=VH (VS (jm s2 k s2.size) (VS aR ao));have a8:(s2.extract 0 k).size=k:=by rw[WM];omega
       generalize a7:s2.extract 0 k=u at*;obtain⟨⟨tp,pp,ah⟩,⟨tr,pr,ag⟩⟩:=VJ au.out.Ek au.out.pB
       cases ae:Lib.atoiAll u.data.toList with
       |ok v=>
        have HA:=VH (Tryz.strconv_Atoi_ok u (by omega) v ae);have av:=VH (fun(h3:k<=3)=>yj (l:=u.data.toList) (by have :u.data.toList.length=u.size:=Wz;omega) ae);clear ae;go_wp2_with fail;refine(HA.out _).mono ?_;rintro e w4⟨rfl,Z⟩;have Y:=VH (H3.out.still (yE (t:=0) Z));clear Z ah ag;clear E F H I J q z A C D O P Q S T g1 o p;obtain⟨⟨E,F,H,I,J⟩,⟨q,z,A,C,D⟩,f,d,o,p⟩:=Y.out.cells;have g1:=f 1;clear f d;go_upto_region 22 with fail;have M:=Y.out.j_ v;generalize w4.setCell ⟨X,1,none⟩ (.int .i64 v)=w5 at*;have H5:=VH M;clear E F H I J q z A C D g1 o p Y;obtain⟨⟨E,F,H,I,J⟩,⟨q,z,A,C,D⟩,f,d,o,p⟩:=M.cells;have O:=d 0;have P:=d 1;have Q:=d 2;have S:=d 3;have T:=d 4;clear M f d;by_cases al:k<=3
        ·have q4:(k:Int)<=3:=by omega
         go_region;obtain⟨w6,n,l⟩:=lQ H5.out (.int .u8 c) (.int .i64 v) (.bool K) (.string ⟨#[]⟩) (.string ⟨#[]⟩);rw[n];have i:=VH l;clear l n;go_wp2_with fail;refine bodyPost_ret (gG results200 _ _ _ ⟨R,0,none⟩ _ rfl (gy _ _ _ _ _ _ _ i.out.1)) rfl ?_;exact⟨i.out.2,c,v,K,⟨#[]⟩,⟨#[]⟩,s2.extract k s2.size,true,rfl,HZ.out,fun _=>⟨by have :=av.out al;omega,VQ _,VQ _,fun e=>absurd e HN.out⟩⟩
        ·have q4:¬(k:Int)<=3:=by omega
         go_region;obtain⟨w6,n,l⟩:=lQ H5.out (.int .u8 c) (.int .i64 v) (.bool K) (.string ⟨#[]⟩) (.string ⟨#[]⟩);rw[n];have i:=VH l;clear l n;go_wp2_with fail;refine bodyPost_ret (gG results200 _ _ _ ⟨R,0,none⟩ _ rfl (gy _ _ _ _ _ _ _ i.out.1)) rfl ?_;exact⟨i.out.2,c,v,K,⟨#[]⟩,⟨#[]⟩,s2.extract k s2.size,false,rfl,HZ.out,fun e=>WG e⟩
       |range=>
        have HA:=VH (Tryz.strconv_Atoi_range u (by omega) ae _ w3 ag (.inr ⟨_,_,rfl⟩));generalize Lib.atoiSat u.data.toList=v at*;clear ae ah ag;go_wp2_with fail;refine HA.out.mono ?_;rintro e w4⟨N,rfl,_,_,Z⟩;have Y:=VH (H3.out.still (aa.eO Z fun b hb aN=>absurd hb (by omega)));clear Z;clear E F H I J q z A C D O P Q S T g1 o p;obtain⟨⟨E,F,H,I,J⟩,⟨q,z,A,C,D⟩,f,d,o,p⟩:=Y.out.cells;have g1:=f 1;clear f d;go_upto_region 22 with fail;have M:=Y.out.j_ v;generalize w4.setCell ⟨X,1,none⟩ (.int .i64 v)=w5 at*;have H5:=VH M;clear E F H I J q z A C D g1 o p Y;obtain⟨⟨E,F,H,I,J⟩,⟨q,z,A,C,D⟩,f,d,o,p⟩:=M.cells;have O:=d 0;have P:=d 1;have Q:=d 2;have S:=d 3;have T:=d 4;clear M f d;by_cases al:k<=3;case' pos=>have q4:(k:Int)<=3:=by omega
        case' neg=>have q4:¬(k:Int)<=3:=by omega
        all_goals go_region;obtain⟨w6,n,l⟩:=lQ H5.out (.int .u8 c) (.int .i64 v) (.bool K) (.string ⟨#[]⟩) (.string ⟨#[]⟩);rw[n];have i:=VH l;clear l n;go_wp2_with fail;refine bodyPost_ret (gG results200 _ _ _ ⟨R,0,none⟩ _ rfl (gy _ _ _ _ _ _ _ i.out.1)) rfl ?_;exact⟨i.out.2,c,v,K,⟨#[]⟩,⟨#[]⟩,s2.extract k s2.size,false,rfl,HZ.out,fun e=>WG e⟩
       |_=>
        have HA:=VH (Tryz.strconv_Atoi_syntax u (by omega) ae _ w3 ah (.inr ⟨_,_,rfl⟩));have av:=VH (fun(_:k<=3)=>show(-1000:Int)<=0/\(0:Int)<=1000 from by decide);clear ae ah ag;go_wp2_with fail;refine HA.out.mono ?_;rintro e w4⟨N,rfl,_,_,Z⟩;have Y:=VH (H3.out.still (aa.eO Z fun b hb aN=>absurd hb (by omega)));clear Z;clear E F H I J q z A C D O P Q S T g1 o p;obtain⟨⟨E,F,H,I,J⟩,⟨q,z,A,C,D⟩,f,d,o,p⟩:=Y.out.cells;have g1:=f 1;clear f d;go_upto_region 22 with fail;have M:=Y.out.j_ 0;generalize w4.setCell ⟨X,1,none⟩ (.int .i64 0)=w5 at*;have H5:=VH M;clear E F H I J q z A C D g1 o p Y;obtain⟨⟨E,F,H,I,J⟩,⟨q,z,A,C,D⟩,f,d,o,p⟩:=M.cells;have O:=d 0;have P:=d 1;have Q:=d 2;have S:=d 3;have T:=d 4;clear M f d;by_cases al:k<=3;case' pos=>have q4:(k:Int)<=3:=by omega
        case' neg=>have q4:¬(k:Int)<=3:=by omega
        all_goals go_region;obtain⟨w6,n,l⟩:=lQ H5.out (.int .u8 c) (.int .i64 0) (.bool K) (.string ⟨#[]⟩) (.string ⟨#[]⟩);rw[n];have i:=VH l;clear l n;go_wp2_with fail;refine bodyPost_ret (gG results200 _ _ _ ⟨R,0,none⟩ _ rfl (gy _ _ _ _ _ _ _ i.out.1)) rfl ?_;exact⟨i.out.2,c,0,K,⟨#[]⟩,⟨#[]⟩,s2.extract k s2.size,false,rfl,HZ.out,fun e=>WG e⟩
  all_goals have HN:=VH (show¬c=115 from by first|exact jX aC (by decide)|exact jX aD (by decide)|exact jX aE (by decide)|exact jX aF (by decide)|exact jX aG (by decide)|exact jX aH (by decide)|exact jX aI (by decide));go_wp2_with fail;refine bodyPost_ret (gG results200 _ _ _ ⟨R,0,none⟩ _ rfl (gy _ _ _ _ _ _ _ (mN V.out.r _ _ _ _ _))) rfl ?_;exact⟨nX V.out.turns V.out.rl _ _ _ _ _,c,0,false,⟨#[]⟩,⟨#[]⟩,s1,true,rfl,ao,fun _=>⟨by decide,VQ _,VQ _,fun e=>absurd e HN.out⟩⟩
structure Md where
 c:Int
 n:Int
 bl:Bool
 a:ByteArray
 b:ByteArray
def rF(x:Md):List Value:=[.int .u8 x.c,.int .i64 x.n,.bool x.bl,.string x.a,.string x.b]
def dJ(l:List Md):List Value:=l.flatMap rF
theorem NU(a b:List Md):dJ (a++b)=dJ a++dJ b:=by simp[dJ]
theorem NV(x:Md):dJ [x]=rF x:=by simp[dJ]
theorem Co:∀l:List Md,(dJ l).length=l.length*5|[]=>rfl|x::l=>by have e:dJ (x::l)=rF x++dJ l:=rfl;rw[e,VK,Co l,List.length_cons];show 5+_=_;omega
theorem Cn:∀(l:List Md)(i:Nat)(h:i<l.length),(dJ l)[i*5]?=some (.int .u8 l[i].c)/\(dJ l)[i*5+1]?=some (.int .i64 l[i].n)/\(dJ l)[i*5+2]?=some (.bool l[i].bl)/\(dJ l)[i*5+3]?=some (.string l[i].a)/\(dJ l)[i*5+4]?=some (.string l[i].b)|x::l,0,_=>⟨rfl,rfl,rfl,rfl,rfl⟩|x::l,i+1,h=>by have :=Cn l i (by simpa using h);have e:dJ (x::l)=.int .u8 x.c::.int .i64 x.n::.bool x.bl::.string x.a::.string x.b::dJ l:=rfl;rw[e,show(i+1)*5=i*5+5 by omega];simpa using this
theorem A.J4:(VI.info? 283).map (fun i=>(i.zero,i.size,i.bytes))=some (some (.agg #[.int .u8 0,.int .i64 0,.bool false,.string ⟨#[]⟩,.string ⟨#[]⟩]),5,56):=by kernel_rfl
theorem St(h:ad w g 283 #[.int .u8 e,.int .i64 r,.bool b,.string s,.string x]):Src VI 5 279 (.slice (some ⟨g,0,none⟩) 1 1) 1 [.int .u8 e,.int .i64 r,.bool b,.string s,.string x] w:=by
 refine Src.ofSlice _ underlying279 ⟨_,0,none⟩ 1 1 _ rfl (fun j u c=>?_) (by simp[Value.oneCell']);have a:(⟨g,0,none⟩:Addr).add j=⟨g,j,none⟩:=by unfold Addr.add;split<;>simp_all
 rw[a,h.cell j,<-c];simp
structure iE(w:World)(n:Nat)(L:List Md)(v:Value)(wr:World):Prop where
 own:wr.ownsRow w.heap.size 283 5 v L.length (dJ L)
 turns:aa ab w wr
 fit:∀x∈L,lC n x.c x.n x.a x.b
theorem iE.sl{L:List Md}(h:iE w k L v w'):∃A m c,v=.slice A m c/\L.length=m:=by obtain⟨A,c,e⟩:=aE h.own;exact⟨A,_,c,e,rfl⟩
theorem iE.row{L:List Md}(h:iE w k L v w')(b:aa ab w' U)(a:L.length=n):U.ownsRow w.heap.size 283 5 v n (dJ L):=by subst a;exact b.own h.own fun _ _=>id
theorem iE.push{w2:World}{L:List Md}{A:Option Addr}{u:Md}(h:iE w k L v w')(f:L.length=m)(r:lC k u.c u.n u.a u.b)(p:aa ab w' U)(o:w2.ownsRow w.heap.size 283 5 (.slice A (m+1) i) (m+1) (dJ L++rF u))(j:U.grownBy w2 v.ownBlock):iE w k (L++[u]) (.slice A (m+1) i) w2:=by
 subst f;refine⟨by rw[VK,NU,NV];exact o,?_,fun x d=>?_⟩;. refine(h.turns.same p).grown j fun b t e=>?_;have :=h.own.lt b e;omega
 ·rcases V_.1 d with d|d;. exact h.fit x d
  ·rw[VU.1 d];exact r
def Fq(w:World)(n:Nat)(v:Value)(a:World):Prop:=∃lv L rest,v=.tuple #[lv,.string rest]/\L.length<=n/\rest.size<=n/\iE w n L lv a
theorem Oc(F:i_ w)(W:s.size<=100000):Calls VI 187 #[.string s] w (Fx ab w (Fq w s.size)):=by
 obtain⟨i0,U,X,Y,Z⟩:=info_parts A.J4;obtain⟨n,I⟩:∃n,s.size=n:=⟨_,rfl⟩;rw[I]at W⊢;have P:=VH F;clear F;go_enter func187,ntmps187;go_wp2_with fail;go_loopg[0,4,5,6,7]n(fun g s0 s4 _ _ _ wr=>∃(t:ByteArray)(L:List Md),g=t.size/\L.length+t.size<=n/\s0=.string t/\iE w n L s4 wr);case atStart=>exact⟨s,[],I.symm,by simp;omega,rfl,Wg _ _ _ _,aa.refl _ _,fun _ h=>by cases h⟩
 case round=>
  obtain⟨t,L,rfl,S,rfl,x⟩:=hrel;obtain⟨N,m,c0,rfl,C⟩:=x.sl;have j:=VH x;have o:=VH C;rw[C]at S;have ag:=x.turns.size;clear x C;go_wp2_with fail;refine(I0 (P.out.still j.out.turns) (s:=t) (by omega)).mono ?_;rintro e l⟨D,c,k,i,a,b,r,ok,rfl,hr,K⟩;have u:=VH D;have O:=VH K;have hz:=D.size;clear D K;simp only[Cq]
  cases ok with
  |false=>go_wp2_with(go_at_call 142;refine(eF _ _).mono ?_;rintro E M⟨rfl,rfl⟩);exact⟨rfl,(j.out.turns.same u.out).alloc _,.inl ⟨_,rfl⟩⟩
  |true=>
   cases V:r.toList==([]:List UInt8)with
   |true=>go_wp2_with(go_at_call 142;refine(eF _ _).mono ?_;rintro E M⟨rfl,rfl⟩);exact⟨rfl,(j.out.turns.same u.out).alloc _,.inl ⟨_,rfl⟩⟩
   |false=>
    have af:=qO V;have q1:(1:Int)<=(r.size:Int):=by omega
    have q0:(0:Int)<(r.size:Int):=by omega
    go_upto_region 4 with(go_at_call 142;refine(gB _ _).mono ?_;rintro E M⟨rfl,rfl⟩);have d:ad (l.alloc (.cells #[.int .u8 c,.int .i64 k,.bool i,.string a,.string b] 283)) l.heap.size 283 #[.int .u8 c,.int .i64 k,.bool i,.string a,.string b]/\aa ab wr (l.alloc (.cells #[.int .u8 c,.int .i64 k,.bool i,.string a,.string b] 283)):=⟨ad.new _ _ _,u.out.alloc _⟩;generalize l.alloc (.cells #[.int .u8 c,.int .i64 k,.bool i,.string a,.string b] 283)=w2 at*;generalize l.heap.size=G at*;have g0:=d.1.cell 0;have g1:=d.1.cell 1;have Q:=d.1.cell 2;have g3:=d.1.cell 3;have g4:=d.1.cell 4;have gl:=d.1.lt;have f:=VH d.2;have ah:=d.2.size;have q:=VH (O.out trivial);simp at g0 g1 Q g3 g4;clear d u;generalize hy:r[0]=y at*;have z:=VH (show(r.extract 1 r.size).size=r.size-1 from by rw[WM];omega);go_region_law(refine iw _ (by rfl) _ _ _ _ (by rfl) w.heap.size 283 i0 _ 5 56 underlying279 U X Y Z (by rfl) (.slice N m c0) m (dJ L) (by rfl) (by exact j.out.row (by first|exact f.out.alloc _|exact(f.out.drewN _).alloc _|exact((f.out.drewN 1).drewN _).alloc _) o.out) _ 1 [.int .u8 c,.int .i64 k,.bool i,.string a,.string b] (by rfl) (by exact St (ad.new w2 _ _)) (by simp only[maxLen];omega) (by omega) (by simp;omega) ?_;intro A1 ae w6 J H T;have p:=VH (j.out.push (u:=⟨c,k,i,a,b⟩) o.out (show lC n c k a b from⟨q.out.n1,VS q.out.a1 (by omega),VS q.out.b1 (by omega),q.out.one⟩) (by first|exact f.out.alloc _|exact(f.out.drewN _).alloc _|exact((f.out.drewN 1).drewN _).alloc _) J H);clear J H T)
    all_goals
     cases y1:((y.toNat:Int)==58)with
     |true=>go_wp2_with fail;refine bodyPost_ret (results_tmp2 rfl _ _ _) rfl ?_;exact⟨p.out.turns,.inr ⟨_,rfl,_,_,_,rfl,by rw[VK,o.out];simp;omega,by rw[z.out];omega,p.out⟩⟩
     |false=>
      cases y2:((y.toNat:Int)==59)with
      |true=>
       go_wp2_with fail;go_roundg((r.extract 1 r.size).size);case measure=>rw[z.out];omega
       case rel=>exact⟨_,_,rfl,by rw[VK,o.out,z.out];simp;omega,rfl,p.out⟩
      |false=>go_wp2_with fail;exact⟨rfl,p.out.turns,.inl ⟨_,rfl⟩⟩
def gh(w:World):Prop:=Lib.TabIs VI w "internal/strconv.uint64pow10" .u64 Lib.pow10Tab
theorem A.sw:VI.globalNamed "internal/strconv.uint64pow10" =some 9:=by kernel_rfl
theorem gh.lt(h:gh w):9<w.heap.size:=by
 unfold gh Lib.TabIs World.var? at h;rw[A.sw]at h;rcases Nat.lt_or_ge 9 w.heap.size with a|a;. exact a
 ·simp only[Option.bind_some]at h;rw[Array.getElem?_eq_none a]at h;cases h
theorem gh.aC(h:gh w)(d:aa S w w')(c:∀b,b<20->¬S b):gh w':=by have a:=h.lt;unfold gh Lib.TabIs World.var? at h⊢;rw[A.sw]at h⊢;simp only[Option.bind_some]at h⊢;rw[d.block _ a (c _ (by decide))];exact h
theorem Kw(s:ByteArray)(c:Int):-1<=Lib.lastIndexByte s c/\Lib.lastIndexByte s c<(s.size:Int):=by rcases Lib.lastIndexByte_spec s c with⟨e,_⟩|⟨i,a,e,_⟩;all_goals omega
theorem Ol{a b:Int}(c:0<=a)(f:a<=100000)(d:-100000<=b)(e:b<=100000):-10000000000<=a*b/\a*b<=10000000000:=by have h:=Int.mul_le_mul_of_nonneg_left e c;have i2:=Int.mul_le_mul_of_nonneg_left d c;omega
theorem oE(h:Below w.heap.size w w'):aa ab w w':=aa.eO h fun b a c=>absurd a (by omega)
theorem ur(h:∃k a,w'=Go.Sort.grow (w.drewN k) a):aa ab w w':=by obtain⟨k,a,rfl⟩:=h;refine⟨rfl,rfl,rfl,by simp[Go.Sort.grow],fun b c _=>?_⟩;simp only[Go.Sort.grow];rw[Array.getElem?_append_left (by simpa using c)];rfl
def iG(w:World)(g:Nat)(l:List UInt8):Prop:=∃(cs:Array Value)(t:TypeId)(a hi:Nat),w.heap[g]?=some (.cells cs t (a,hi))/\(∀j(h:j<l.length),cs[j]?=some (.int .u8 (l[j].toNat:Int)))/\l.length<=a
theorem iG.lt(h:iG w g p):g<w.heap.size:=by obtain⟨b,t,d,c,a,_,_⟩:=h;exact(VV.1 a).1
theorem iG.cell(h:iG w g p)(j:Nat)(f:j<p.length):w.cell? ⟨g,j,none⟩=some (.int .u8 (p[j].toNat:Int)):=by obtain⟨b,t,k,e,c,d,_⟩:=h;rw[cell_of_row w g j b t (k,e) c];exact d j f
theorem iG.frozen(h:iG w g p)(e:k<p.length):w.frozen? ⟨g,k,none⟩=false:=by obtain⟨b,t,f,d,a,_,c⟩:=h;simp[World.frozen?,a];omega
theorem iG.set{w:World}{g:Nat}{l:List UInt8}(h:iG w g l)(i:Nat)(y:UInt8):iG (w.setCell ⟨g,i,none⟩ (.int .u8 (y.toNat:Int))) g (l.set i y):=by
 obtain⟨a,t,p,m,c,d,f⟩:=h;refine⟨a.setIfInBounds i (.int .u8 (y.toNat:Int)),t,p,m,by simp[World.setCell,Array.getElem?_modify,c],fun j n=>?_,by rw[List.length_set];exact f⟩;have o:j<l.length:=by simpa using n
 have b:=d j o;have k:j<a.size:=(VV.1 b).1;by_cases e:i=j;. subst e;rw[Array.getElem?_setIfInBounds_self_of_lt k];simp
 ·rw[Array.getElem?_setIfInBounds_ne e,b];rw[List.getElem_set_ne e]
theorem TD(w:World)(s:ByteArray)(t:TypeId)(a:Nat):iG (w.drew.alloc (.cells (bytesRow s a) t ((bytesRow s a).size,(bytesRow s a).size+1))) w.heap.size s.data.toList/\s.data.toList.length=s.size/\aa ab w (w.drew.alloc (.cells (bytesRow s a) t ((bytesRow s a).size,(bytesRow s a).size+1))):=by
 have b:s.data.toList.length=s.size:=Wz;refine⟨⟨_,_,_,_,heap_alloc_new w.drew _,fun j c=>?_,?_⟩,b,(aa.drew (aa.refl ab w)).alloc _⟩
 ·have d:j<s.data.size:=by rw[<-Wz];exact c
  rw[bytesRow_at s a j d];simp
 ·rw[b];unfold bytesRow;simp
def E5(v:Value)(_:World):Prop:=∃t:ByteArray,v=.string t
theorem FX(hV:i_ w)(hU:gh w){v:ByteArray}(hv:v.size<=8192)(J:lC 8192 e r s x):Calls VI 188 #[.agg #[.int .u8 e,.int .i64 r,.bool b,.string s,.string x],.string v] w (Fx ab w E5):=by
 obtain⟨S,hS,aA,aB⟩:∃S:Int,Lib.lastIndexByte v 47=S/\-1<=S/\S<(v.size:Int):=⟨_,rfl,Kw v 47⟩;have HL:=VH (fun W=>Tryz.strings_LastIndexByte v 47 (by omega) W);rw[hS]at HL;clear hS;obtain⟨hn,ha,U,ai⟩:=J;have HO:=VH ai;have E:=VH (VJ hV hU);clear hV hU ai;have d:=VH (show aa ab w (w.alloc (.cells #[.int .u8 e,.int .i64 r,.bool b,.string s,.string x] 283))from(aa.refl _ w).alloc _);have z:=VH (ad.new w 283 #[.int .u8 e,.int .i64 r,.bool b,.string s,.string x]);go_enter func188,ntmps188;go_upto_region 1 with fail;generalize w.alloc (.cells #[.int .u8 e,.int .i64 r,.bool b,.string s,.string x] 283)=w1 at*;generalize hG:w.heap.size=G at*;have x0:=z.out.cell 0;have Y:=z.out.cell 1;have Z:=z.out.cell 2;have x3:=z.out.cell 3;have x4:=z.out.cell 4;have gl:=z.out.lt;simp at x0 Y Z x3 x4;clear hG;go_wp2_with fail;refine(HL.out _).mono ?_;rintro p c⟨rfl,rfl⟩
 cases g0:(e==(61:Int))with
 |true=>cases b with|true=>go_wp2_with fail;refine(Hm _ v (by omega) r hn).mono ?_;rintro p A⟨⟨t,_,rfl⟩,a⟩;have f:=VH a;clear a;go_wp2_with fail;go_ret;exact⟨d.out.same f.out,.inr ⟨_,rfl,_,rfl⟩⟩|false=>go_wp2_with fail;refine(Hi _ v (by omega) r hn.2).mono ?_;rintro p A⟨⟨t,_,rfl⟩,a⟩;have f:=VH a;clear a;go_wp2_with fail;go_ret;exact⟨d.out.same f.out,.inr ⟨_,rfl,_,rfl⟩⟩
 |false=>
  cases g1:(e==(112:Int))with
  |true=>
   have al:=VH (fun W=>yS W v (by omega));have ar:=VH Z;go_upto_region 8 with fail
   go_region_with(
    first
    |(go_at_call 205;refine(al.out _).mono ?_;rintro p A⟨⟨k,V,rfl⟩,a⟩;have f:=VH (show aa ab c A from by first|exact a|exact((aa.refl _ _).drewN 1).same a);obtain⟨q,hq⟩:∃q:Nat,max (0:Int) (r-(k:Int))=(q:Int):=⟨(max (0:Int) (r-(k:Int))).toNat,by omega⟩;have N:VL.wrap (r-(k:Int))=r-(k:Int):=IntWalk.i64_in _ (by omega);have Y:=(f.out.cell (p:=⟨G,1,none⟩) gl id).trans Y;have aJ:q<=1000000:=by omega
      clear a)
    |(go_at_call 204;refine(Tryz.strings_Repeat ⟨#[32]⟩ q _ (by omega) (by show 1*q<=_;omega)).mono ?_;rintro p L⟨rfl,a⟩;have u:=VH (show aa ab c L from by first|exact f.out.same (oE a)|exact(f.out.drewN 1).same (oE a));have Z:=(u.out.cell (p:=⟨G,2,none⟩) gl id).trans ar.out;clear a))
   all_goals
    have aE:(⟨(Lib.repeatL (⟨#[32]⟩:ByteArray).data.toList q).toArray⟩:ByteArray).size<=1000000:=by show(Lib.repeatL (⟨#[32]⟩:ByteArray).data.toList q).toArray.size<=_;rw[List.size_toArray,Lib.repeatL_length];show q*1<=_;omega
    generalize(⟨(Lib.repeatL (⟨#[32]⟩:ByteArray).data.toList q).toArray⟩:ByteArray)=K at*;have aF:((K.size:Int)+(v.size:Int))<=9223372036854775807:=by omega
    have aG:((v.size:Int)+(K.size:Int))<=9223372036854775807:=by omega
    have aH:K.size+v.size<=9223372036854775807:=by omega
    have aI:v.size+K.size<=9223372036854775807:=by omega
    cases b;all_goals go_wp2_with fail;go_ret;first|exact⟨d.out.same u.out,.inr ⟨_,rfl,_,rfl⟩⟩|exact⟨(d.out.same u.out).drewN 1,.inr ⟨_,rfl,_,rfl⟩⟩
  |false=>
   cases g2:(e==(115:Int))with
   |true=>
    have hc:=beq_iff_eq.1 g2;have H:=HO.out hc;obtain⟨m,J⟩:=E.out.1.mx;have HM:=VH (fun W(h:aa ab c W)=>((d.out.same h).cell (p:=⟨4,0,none⟩) (VO (by decide) E.out.1.size) id).trans J);have aj:=VH (fun W(h:aa ab c W)=>Tryz.strings_Count_any v s m W (by omega) (HM.out W h) H);have au:=Lib.countB_le s H v.size v (VN _);have aw:Lib.countB v s*x.size<=67108864:=Nat.mul_le_mul (show Lib.countB v s<=8192 by omega) U;have aq:=VH (fun W(h:aa ab c W)=>Tryz.strings_ReplaceAll v s x m W (by omega) (HM.out W h) H (by omega));generalize Lib.countB v s=M at*;obtain⟨D,hD⟩:∃D:Int,(x.size:Int)-(s.size:Int)=D:=⟨_,rfl⟩;have ah:=Ol (a:=(M:Int)) (b:=D) (by omega) (by omega) (by omega) (by omega);obtain⟨P,O⟩:∃P:Int,(M:Int)*D=P:=⟨_,rfl⟩;rw[O]at ah;obtain⟨Q,hQ⟩:∃Q:Int,P+(v.size:Int)=Q:=⟨_,rfl⟩;have N:VL.wrap ((x.size:Int)-(s.size:Int))=D:=ak (by omega);have e2:VL.wrap ((M:Int)*D)=P:=by rw[O];exact IntWalk.i64_in _ (by omega)
    have e3:VL.wrap (P+(v.size:Int))=Q:=ak (by omega);clear hD O hQ ah J au aw H;have an:=VH (fun k=>aj.out (c.drewN k) ((aa.refl _ c).drewN k));go_upto_region 13 with fail;go_quiet((go_at_call 206;exact Calls.quiet_of_same (an.out _)));cases hq:decide (8192<Q)with|true=>go_wp2_with fail;exact⟨rfl,d.out.drewN _,.inl ⟨_,rfl⟩⟩|false=>go_wp2_with fail;refine(aq.out _ ((aa.refl _ c).drewN _)).mono ?_;rintro p L⟨rfl,a⟩;have u:=VH (show aa ab c L from((aa.refl _ c).drewN _).same (oE a));clear a;generalize(⟨(Lib.replaceAll v.data.toList s.data.toList x.data.toList).toArray⟩:ByteArray)=rt at*;go_wp2_with fail;go_ret;exact⟨d.out.same u.out,.inr ⟨_,rfl,_,rfl⟩⟩
   |false=>
    cases g3:(e==(98:Int))with
    |true=>
     have N:VL.wrap (S+1)=S+1:=IntWalk.i64_in _ (by omega);have X:0<=S+1:=by omega
     have q2:S+1<=(v.size:Int):=by omega
     go_wp2_with fail;go_ret;exact⟨d.out,.inr ⟨_,rfl,_,rfl⟩⟩
    |false=>
     cases g4:(e==(100:Int))with
     |true=>
      cases s1:(S==-1)with
      |true=>go_wp2_with fail;go_ret;exact⟨d.out,.inr ⟨_,rfl,_,rfl⟩⟩
      |false=>
       cases s2:(S==0)with
       |true=>go_wp2_with fail;go_ret;exact⟨d.out,.inr ⟨_,rfl,_,rfl⟩⟩
       |false=>
        have s3:=beq_eq_false_iff_ne.1 s1;have X:0<=S:=by omega
        have q2:S<=(v.size:Int):=by omega
        clear s3;go_wp2_with fail;go_ret;exact⟨d.out,.inr ⟨_,rfl,_,rfl⟩⟩
     |false=>
      cases g5:(e==(110:Int))with
      |true=>go_wp2_with fail;refine(Tryz.strconv_Itoa _ (by omega) (by omega) _ (E.out.2.aC d.out fun _ _=>id)).mono ?_;rintro p A⟨rfl,a⟩;have f:=VH (ur a);clear a;go_wp2_with fail;go_ret;exact⟨d.out.same f.out,.inr ⟨_,rfl,_,rfl⟩⟩
      |false=>
       cases g6:(e==(119:Int))with
       |true=>go_wp2_with fail;refine(yS _ v (by omega)).mono ?_;rintro p A⟨⟨k,V,rfl⟩,a⟩;have f:=VH (d.out.same a);clear a;go_wp2_with fail;refine(Tryz.strconv_Itoa _ (by omega) (by omega) _ (E.out.2.aC f.out fun _ _=>id)).mono ?_;rintro p L⟨rfl,a⟩;have u:=VH (f.out.same (ur a));clear a;go_wp2_with fail;go_ret;exact⟨u.out,.inr ⟨_,rfl,_,rfl⟩⟩
       |false=>
        cases g7:(e==(117:Int))with
        |true=>
         have aC:=run_bytes_of_string c 9 102 5 v underlying9 underlying102 underlying5;have ax:=TD c v 5 (grownCap c v.size 0 5);generalize grownCap c v.size 0 5=F at*;generalize c.drew.alloc (.cells (bytesRow v F) 5 ((bytesRow v F).size,(bytesRow v F).size+1))=A at*;obtain⟨n,hl,ag⟩:=ax;have ae:=VH (VJ n ag);have ay:v.data.toList.length=v.size:=Wz;generalize v.data.toList=l0 at*;generalize af:c.heap.size=C at*;have ao:=VH af;clear n ag af;go_wp2_with fail;go_loopg[8,9,100]v.size(fun g _ _ az wr=>∃(k:Nat)(l:List UInt8),g=v.size-k/\k<=v.size/\az=.int .i64 (k:Nat)/\l.length=v.size/\iG wr C l/\aa ab c wr);case atStart=>exact⟨0,l0,rfl,VQ _,rfl,ay,ae.out.1,ae.out.2⟩
         case round=>
          obtain⟨k,l,rfl,V,rfl,I,n,T⟩:=hrel;have o:=VH (VJ n T);by_cases av:k<v.size
          ·have X:(k:Int)<(v.size:Int):=by omega
           have q2:(0:Int)<=(k:Int):=by omega
           have hc:=n.cell k (by omega);have hf:=n.frozen (show k<l.length by omega);have aD:=n.lt;have e9:VL.wrap ((k:Int)+1)=((k+1:Nat):Int):=ak (by omega);generalize l[k]=i at*;clear n T;have hx:=i.toNat_lt;by_cases h1:(97:Int)<=(i.toNat:Int)
           ·have d1:decide ((97:Int)<=(i.toNat:Int))=true:=decide_eq_true h1;by_cases h2:(i.toNat:Int)<=122
            ·have d2:decide ((i.toNat:Int)<=122)=true:=decide_eq_true h2;have N:IntKind.u8.wrap ((i.toNat:Int)-97)=((i.toNat-97:Nat):Int):=by rw[IntKind.wrap_u8'];omega
             have e2:IntKind.u8.wrap (((i.toNat-97:Nat):Int)+65)=((UInt8.ofNat (i.toNat-97+65)).toNat:Int):=by rw[IntKind.wrap_u8',UInt8.toNat_ofNat'];omega
             generalize UInt8.ofNat (i.toNat-97+65)=y at*;go_wp2_with fail;go_roundg(v.size-(k+1));case measure=>omega
             case rel=>exact⟨k+1,l.set k y,rfl,by omega,rfl,by rw[List.length_set];exact I,o.out.1.set k y,o.out.2.setCell (p:=⟨C,k,none⟩) (.inr (by rw[ao.out];exact VN _)) _⟩
            ·have d2:decide ((i.toNat:Int)<=122)=false:=decide_eq_false h2;go_wp2_with fail;go_roundg(v.size-(k+1));case measure=>omega
             case rel=>exact⟨k+1,l,rfl,by omega,rfl,I,o.out.1,o.out.2⟩
           ·have d1:decide ((97:Int)<=(i.toNat:Int))=false:=decide_eq_false h1;go_wp2_with fail;go_roundg(v.size-(k+1));case measure=>omega
            case rel=>exact⟨k+1,l,rfl,by omega,rfl,I,o.out.1,o.out.2⟩
          ·obtain rfl:k=v.size:=by omega
           have X:¬(v.size:Int)<(v.size:Int):=by omega
           have U:=run_convert_bytes_back wr 102 9 5 ⟨C,0,none⟩ F l underlying102 underlying5 underlying9 (fun j hj=>by rw[show(⟨C,0,none⟩:Addr).add j=⟨C,j,none⟩from by unfold Addr.add;split<;>simp_all];exact o.out.1.cell j hj);rw[I]at U;clear n T av V;go_wp2_with fail;go_ret;exact⟨d.out.same o.out.2,.inr ⟨_,rfl,_,rfl⟩⟩
        |false=>go_wp2_with fail;go_ret;exact⟨d.out,.inr ⟨_,rfl,_,rfl⟩⟩
end Go.Proofs.YtmddhediccmhbaaGreatDoor
