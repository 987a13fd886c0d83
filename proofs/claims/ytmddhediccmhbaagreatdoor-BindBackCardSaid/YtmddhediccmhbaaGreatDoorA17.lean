/- parse.Parse. -/
import Derived.Test.YtmddhediccmhbaaGreatDoorA13
set_option linter.all false
set_option maxHeartbeats 400000000
set_option maxRecDepth 100000
namespace Go.Proofs.YtmddhediccmhbaaGreatDoor
open Go.RowKit
open Go.Proofs.Tryz
open And renaming intro→VJ
open Instr renaming typeAssert→XA
open Lib renaming hid→VH
open Nat renaming lt_of_lt_of_le→VO
open Go.Proofs.Tryz renaming prog→VI
variable {w w' U w1:World}{k n m i j g:Nat}{v u z tx sv lv:Value}{e r:Int}{s:ByteArray}{E:List Value}{O:Option Addr}
section
open Lx(Bytes)
theorem f_.err(h:f_ w w')(e:Int)(l:Nat)(W:World:=(((((w'.setCell ⟨w.heap.size+1+1,0,none⟩ (.int .i64 e)).setCell ⟨w.heap.size+1+1+1,0,none⟩ (.int .i64 l)).setCell ⟨w.heap.size+1,0,none⟩ (.slice none 0 0)).setCell ⟨w.heap.size+1+1,0,none⟩ (.int .i64 e)).setCell ⟨w.heap.size+1+1+1,0,none⟩ (.int .i64 l)).drew)(hW:W=(((((w'.setCell ⟨w.heap.size+1+1,0,none⟩ (.int .i64 e)).setCell ⟨w.heap.size+1+1+1,0,none⟩ (.int .i64 l)).setCell ⟨w.heap.size+1,0,none⟩ (.slice none 0 0)).setCell ⟨w.heap.size+1+1,0,none⟩ (.int .i64 e)).setCell ⟨w.heap.size+1+1+1,0,none⟩ (.int .i64 l)).drew:=by rfl):W.cell? ⟨w.heap.size+1,0,none⟩=some (.slice none 0 0)/\W.cell? ⟨w.heap.size+1+1,0,none⟩=some (.int .i64 e)/\W.cell? ⟨w.heap.size+1+1+1,0,none⟩=some (.int .i64 l)/\aa ab w W:=by
 subst hW;have i:w.heap.size+1≠w.heap.size+1+1:=by omega
 have j:w.heap.size+1≠w.heap.size+1+1+1:=by omega
 have d:w.heap.size+1+1≠w.heap.size+1+1+1:=by omega
 refine⟨?_,?_,?_,?_⟩;. exact((((((h.a.an (p:=⟨_,0,none⟩) i _).an (p:=⟨_,0,none⟩) j _).aj 0 _).an (p:=⟨_,0,none⟩) i _).an (p:=⟨_,0,none⟩) j _).drewN 1).cell 0
 ·exact((((((h.b.aj 0 _).an (p:=⟨_,0,none⟩) d _).an (p:=⟨_,0,none⟩) i.symm _).aj 0 _).an (p:=⟨_,0,none⟩) d _).drewN 1).cell 0
 ·exact((((((h.c.an (p:=⟨_,0,none⟩) d.symm _).aj 0 _).an (p:=⟨_,0,none⟩) j.symm _).an (p:=⟨_,0,none⟩) d.symm _).aj 0 _).drewN 1).cell 0
 ·exact(((((h.turns.setCell (p:=⟨_,0,none⟩) (.inr (by dsimp only;omega)) _).setCell (p:=⟨_,0,none⟩) (.inr (by dsimp only;omega)) _).setCell (p:=⟨_,0,none⟩) (.inr (by dsimp only;omega)) _).setCell (p:=⟨_,0,none⟩) (.inr (by dsimp only;omega)) _).setCell (p:=⟨_,0,none⟩) (.inr (by dsimp only;omega)) _).drewN 1
theorem SD{J:List Px.cL->List Px.au->Nat->List (List Px.ag)->Prop}{L:List Lx.Ln}{p q r t:Obj}(d:f_ w w')(F:aa ab ((((w.alloc p).alloc q).alloc r).alloc t) w')(M:ad w' w.heap.size 46 #[u,tx])(j:fp w' ((((w.alloc p).alloc q).alloc r).alloc t).heap.size (.slice O k n) L E)(G:Fit L)(C:J (L.map Px.aP) [] 0 []):∃K,K=w'.heap.size/\∀h,((w'.setCell ⟨w.heap.size+1+1,0,none⟩ (.int .i64 0)).setCell ⟨w.heap.size+1+1+1,0,none⟩ (.int .i64 0))=h->f_ w h/\h.heap.size=K/\w.heap.size+1<K/\(∀wr,aa (af (w.heap.size+1)) h wr->∀i(o:i<L.length),∃b v,O=some ⟨b,0,none⟩/\b<wr.heap.size/\wr.cell? ⟨b,i*2,none⟩=some v/\wr.cell? ⟨b,i*2+1,none⟩=some (.int .i64 L[i].2)/\ko wr K v (L[i].1.map Px.dV))/\dt w h K u tx J L 0 0 [] [] (.slice none 0 0) (.slice none 0 0) (h.alloc (.cells #[u,tx,.slice none 0 0] 87)):=by
 refine⟨_,rfl,?_⟩;rintro h rfl;have P:((((w.alloc p).alloc q).alloc r).alloc t).heap.size=w.heap.size+4:=by simp[go_sem]
 have l:((w'.setCell ⟨w.heap.size+1+1,0,none⟩ (.int .i64 0)).setCell ⟨w.heap.size+1+1+1,0,none⟩ (.int .i64 0)).heap.size=w'.heap.size:=by simp[World.setCell]
 have Q:w.heap.size+1≠w.heap.size+1+1:=by omega
 have S:w.heap.size+1≠w.heap.size+1+1+1:=by omega
 have y:w.heap.size+1+1≠w.heap.size+1+1+1:=by omega
 have N:w.heap.size+4<=w'.heap.size:=by have :=F.size;omega
 have m:aa (fun b=>b=w.heap.size+1+1∨b=w.heap.size+1+1+1) w' ((w'.setCell ⟨w.heap.size+1+1,0,none⟩ (.int .i64 0)).setCell ⟨w.heap.size+1+1+1,0,none⟩ (.int .i64 0)):=((aa.refl _ w').setCell (p:=⟨_,0,none⟩) (.inl (.inl rfl)) _).setCell (p:=⟨_,0,none⟩) (.inl (.inr rfl)) _;have x:f_ w ((w'.setCell ⟨w.heap.size+1+1,0,none⟩ (.int .i64 0)).setCell ⟨w.heap.size+1+1+1,0,none⟩ (.int .i64 0)):=by refine⟨m.blk d.a fun e=>?_,(d.b.aj 0 _).an (p:=⟨_,0,none⟩) y _,(d.c.an (p:=⟨_,0,none⟩) y.symm _).aj 0 _,d.turns.trans m fun b d e=>?_⟩;all_goals rcases e with e|e<;>omega
 refine⟨x,l,by omega,fun wr ht=>?_,?_⟩
 ·refine(Nw l (j.turns m (fun b d e=>?_) fun v H b d e=>?_) ht (fun b e=>by have :b=w.heap.size+1:=e;omega) G).2;. have :=l7 j.row b d;rcases e with e|e<;>omega
  ·obtain⟨i,o,rfl⟩:=List.getElem_of_mem H;have :=l7 (j.words i o (by rw[<-j.len];exact o)) b d;rcases e with e|e<;>omega
 ·exact⟨Nat.zero_le _,(aa.refl _ _).alloc _,⟨bP l,World.ownsRow_nil _ _ _ _⟩,bB.nil _ _,x.a.alloc _,C,Nat.zero_le _,fun z I=>(List.not_mem_nil I).elim⟩
theorem tC(a:f_ w w')(d:aa (af (w.heap.size+1)) w' U):ad U (w.heap.size+1+1) 30 #[.int .i64 0]/\ad U (w.heap.size+1+1+1) 3 #[.int .i64 0]:=⟨d.blk a.b fun e=>by have :w.heap.size+1+1=w.heap.size+1:=e;omega,d.blk a.c fun e=>by have :w.heap.size+1+1+1=w.heap.size+1:=e;omega⟩
theorem Tc{wr:World}{J:List Px.cL->List Px.au->Nat->List (List Px.ag)->Prop}{L:List Lx.Ln}{o:List Px.au}{Z:List (Value×List CQ)}(d:f_ w w')(h:dt w w' k v u J L n g o Z z tx wr)(l:w'.heap.size=k)(m:w.heap.size+1<k)(a:aa ab wr U)(c:aa (fun b=>b=k∨z.ownBlock=some b) U w1):aa (af (w.heap.size+1)) w' w1/\ad w1 (w.heap.size+1) 34 #[tx]/\ad w1 (w.heap.size+1+1) 30 #[.int .i64 0]/\ad w1 (w.heap.size+1+1+1) 3 #[.int .i64 0]:=by
 have i:∀b,(b=k∨z.ownBlock=some b)->k<=b:=fun b e=>by
  rcases e with e|e;. omega
  ·have :=(h.conds.own.lt b e).1;omega
 have j:aa (af (w.heap.size+1)) w' w1:=(h.turns.trans a fun _ _ e=>e.elim).trans c fun b d e=>by have :=i b e;omega
 refine⟨j,c.blk (a.blk h.box id) fun e=>?_,tC d j⟩;have :=i _ e;omega
theorem wS{wr:World}{J:List Px.cL->List Px.au->Nat->List (List Px.ag)->Prop}{L:List Lx.Ln}{o:List Px.au}{Z:List (Value×List CQ)}(c:f_ w w')(h:dt w w' k v u J L n g o Z z tx wr)(a:aa ab wr U):aa (af (w.heap.size+1)) w' U/\ad U (w.heap.size+1) 34 #[tx]/\ad U (w.heap.size+1+1) 30 #[.int .i64 0]/\ad U (w.heap.size+1+1+1) 3 #[.int .i64 0]:=have b:aa (af (w.heap.size+1)) w' U:=h.turns.trans a fun _ _ e=>e.elim;⟨b,a.blk h.box id,tC c b⟩
theorem wR{Q:Except (Int×Int) (List (List Px.ag))->Prop}(b:f_ w w')(d:aa (af (w.heap.size+1)) w' U)(c:kj U (w.heap.size+1) (w.heap.size+1+1) (w.heap.size+1+1+1) e r w1)(a:Q (.error (e,r))):∃R,Q R/\qg w R (.returned (.tuple #[.agg #[.slice none 0 0],.int .i64 e,.int .i64 r])) w1:=⟨_,a,Td b d c,rfl⟩
theorem GS{B:Nat}{c:Px.ag}(h:pV w B v c):∃d fc a b,v=.agg #[ah c.name,.slice d c.flags.length fc,.slice a c.args.length b,.int .i64 c.line]/\di w B (c,.slice d c.flags.length fc,.slice a c.args.length b):=by obtain⟨l,k,e,i,j⟩:=h.at_;obtain⟨d,fc,rfl⟩:=aE i;obtain⟨a,b,rfl⟩:=aE j;exact⟨d,fc,a,b,e,i,j⟩
theorem A.J1:(VI.info? 47).map (fun i=>(i.zero,i.size,i.bytes))=some (some (.slice none 0 0),1,24):=by kernel_rfl
theorem A.JZ:(VI.info? 53).map (fun i=>(i.zero,i.size,i.bytes))=some (some (.agg #[.string ⟨#[]⟩,.slice none 0 0,.slice none 0 0,.int .i64 0]),4,72):=by kernel_rfl
theorem F_{wr:World}{J:List Px.cL->List Px.au->Nat->List (List Px.ag)->Prop}{L:List Lx.Ln}{o:List Px.au}{Z:List (Value×List CQ)}{q:CQ}(h:dt w w' k u z J L n g o Z tx sv wr)(c:aa ab wr U)(i:aa ab U w1)(j:ad w1 wr.heap.size 90 #[v,lv])(e:di w1 U.heap.size q):∃a b,a=w1.alloc (.cells #[ah q.1.name,q.2.1,q.2.2,.int .i64 q.1.line] 53)/\b=w1.heap.size/\aa ab wr a/\ad a wr.heap.size 90 #[v,lv]/\ad a b 53 #[ah q.1.name,q.2.1,q.2.2,.int .i64 q.1.line]/\di a (k+1) q:=by have d:k+1<=U.heap.size:=VO h.conds.blk.lt c.size;have t5:=(aa.refl ab w1).alloc (.cells #[ah q.1.name,q.2.1,q.2.2,.int .i64 q.1.line] 53);exact⟨_,_,rfl,rfl,(c.same i).alloc _,j.alloc _,ad.new _ _ _,dX (t5.own e.flags fun _ _=>id) d,dX (t5.own e.args fun _ _=>id) d⟩
theorem Jz{wr w2:World}{J:List Px.cL->List Px.au->Nat->List (List Px.ag)->Prop}{L:List Lx.Ln}{o:List Px.au}{Z:List (Value×List CQ)}(h:dt w w' k u z J L m g o Z tx sv wr)(i:w'.heap.size=k)(j:w.heap.size+1<k)(d:aa ab wr U)(c:ad U n 90 #[v,lv])(b:U.grownBy w2 sv.ownBlock):ad w2 (w.heap.size+1) 34 #[sv]/\ad w2 n 90 #[v,lv]:=by have a:=h.still d;refine⟨a.box.grown b fun e=>?_,c.grown b fun e=>a_ a.cD.outer c (by decide) e.symm⟩;have :=(h.cD.outer.lt _ e.symm).1;omega
theorem Ak{row:Option Nat}(_:w'.grownBy U row)(a:aa ab w w'):aa ab w w':=a
theorem Ph{B:Nat}(h:w.ownsRow B 47 1 (.slice (some ⟨g,0,none⟩) k n) k E)(i:Nat)(j:i<k):w.cell? ⟨g,i,none⟩=E[i]?/\w.frozen? ⟨g,i,none⟩=false:=by
 refine⟨h.cellAt _ (by omega),?_⟩;rcases h.2 with⟨e,_⟩|⟨d,b,c,e,_,a,_⟩;. injection e with e1;cases e1
 ·injection e with e1;injection e1 with e1;injection e1 with e1;subst e1;simp[World.frozen?,a]
theorem Qi{wr w2:World}{J:List Px.cL->List Px.au->Nat->List (List Px.ag)->Prop}{L:List Lx.Ln}{o:List Px.au}{Z:List (Value×List CQ)}{l:List CQ}{q:CQ}(h:mC w w' k v u J L n g o Z tx l z (.slice (some ⟨m,0,none⟩) (Z.length+1) i) q j wr)(C:w'.heap.size=k)(E:w.heap.size+1<k)(c:aa ab wr U)(p:U.grownBy w2 tx.ownBlock):ad w2 (w.heap.size+1) 34 #[.slice (some ⟨m,0,none⟩) (Z.length+1) i]/\w2.cell? ⟨m,Z.length,none⟩=some tx/\w2.frozen? ⟨m,Z.length,none⟩=false:=by have r:=h.cD.inner (tx,l) (by simp);have y:aa (fun b=>tx.ownBlock=some b) U w2:=(aa.refl _ U).grown p fun _ _ e=>e;have a:=h.cD.outer;rw[List.length_append,List.length_singleton]at a;have x:=y.own (c.own a fun _ _=>id) fun b t e=>bS r a (by decide) b e t;have d:=Ph x Z.length (by omega);refine⟨(c.blk h.box id).grown p fun e=>?_,by rw[d.1];simp,d.2⟩;have :=(r.lt _ e.symm).1;omega
theorem Ie{wr:World}{J:List Px.cL->List Px.au->Nat->List (List Px.ag)->Prop}{L:List Lx.Ln}{o:List Px.au}{Z:List (Value×List CQ)}(a:f_ w w')(h:dt w w' k v u J L n g o Z z tx wr)(q:w.heap.size+1<k)(c:aa ab (((wr.setCell ⟨w.heap.size+1,0,none⟩ tx).setCell ⟨w.heap.size+1+1,0,none⟩ (.int .i64 0)).setCell ⟨w.heap.size+1+1+1,0,none⟩ (.int .i64 0)) U):U.cell? ⟨w.heap.size+1,0,none⟩=some tx/\U.cell? ⟨w.heap.size+1+1,0,none⟩=some (.int .i64 0)/\U.cell? ⟨w.heap.size+1+1+1,0,none⟩=some (.int .i64 0)/\qg w (.ok (aq Z)) (.returned (.tuple #[.agg #[tx],.int .i64 0,.int .i64 0])) U:=by
 have l:w.heap.size+1≠w.heap.size+1+1:=by omega
 have m:w.heap.size+1≠w.heap.size+1+1+1:=by omega
 have p:w.heap.size+1+1≠w.heap.size+1+1+1:=by omega
 obtain⟨i,j⟩:=tC a h.turns;have d:aa (fun b=>b=w.heap.size+1∨b=w.heap.size+1+1∨b=w.heap.size+1+1+1) wr U:=((((aa.refl _ wr).setCell (p:=⟨_,0,none⟩) (.inl (.inl rfl)) _).setCell (p:=⟨_,0,none⟩) (.inl (.inr (.inl rfl))) _).setCell (p:=⟨_,0,none⟩) (.inl (.inr (.inr rfl))) _).trans c fun _ _ e=>e.elim;refine⟨(c.blk (((h.box.aj 0 tx).an (p:=⟨_,0,none⟩) l _).an (p:=⟨_,0,none⟩) m _) id).cell 0,(c.blk (((i.an (p:=⟨_,0,none⟩) l.symm _).aj 0 _).an (p:=⟨_,0,none⟩) p _) id).cell 0,(c.blk (((j.an (p:=⟨_,0,none⟩) m.symm _).an (p:=⟨_,0,none⟩) p.symm _).aj 0 _) id).cell 0,?_,tx,Z,rfl,?_,rfl⟩
 ·refine((a.turns.trans h.turns fun b a e=>?_).trans d fun b a e=>?_);. have :b=w.heap.size+1:=e;omega
  ·rcases e with e|e|e<;>omega
 ·refine(h.cD.turns d fun b _ e=>?_).bU (by omega);rcases e with rfl|rfl|rfl;. exact z_ h.box
  ·exact⟨_,_,i,by decide,by decide,by decide,by decide⟩
  ·exact⟨_,_,j,by decide,by decide,by decide,by decide⟩
theorem Kr{x:Px.PW}{l:List Px.PW}(h:aU w v (x::l))(a:Px.isDir (x::l)=true):Calls VI 26 #[v] w fun e w'=>e=.returned (.iface 92 v)/\w'=w:=by have :=Be h;rw[a]at this;exact this
theorem Kq{x:Px.PW}{l:List Px.PW}(h:aU w v (x::l))(a:Px.isDir (x::l)=false):Calls VI 26 #[v] w fun e w'=>e=.returned (.iface 94 v)/\w'=w:=by have :=Be h;rw[a]at this;exact this
theorem C7{ev:Value}{es:List (ByteArray×ByteArray)}(ds:b9 w)(b3:eh w w.heap.size ev es)(J:List Px.cL->List Px.au->Nat->List (List Px.ag)->Prop)(Q:Except (Int×Int) (List (List Px.ag))->Prop)(U:pW w sv lv J Q)(dc:∀x,Lx.split (aB es) (sl s)=.error x->Q (.error (x.1,x.2)))(dd:∀L,Lx.split (aB es) (sl s)=.ok L->Fit L/\J (L.map Px.aP) [] 0 []):Calls VI 9 #[.string s,.agg #[sv,lv],ev] w (fun e w'=>∃R,Q R/\qg w R e w'):=by
 have hn:∀(fn:Fn)(first cq:Array Value)(w:World),(Instr.makeFunc fn first cq).run VI w=.ok (.func fn first cq) w:=fun _ _ _ _=>rfl;have b':=VH (fun(W:World)(ht:aa ab w W)=>Eb (s:=s) (Iv (b3.aC fun p O=>ht.cell O id) ht.size));obtain⟨eA,ec,rfl,-⟩:=b3.at_;clear b3;go_enter_defers func9,ntmps9;go_wp2_with fail;refine(b'.out _ (by exact((((aa.refl _ w).alloc _).alloc _).alloc _).alloc _)).mono ?_;intro e w1 O;obtain⟨al,O⟩:=O
 have N:f_ w w1:=by
  refine⟨al.blk ?_ id,al.blk ?_ id,al.blk ?_ id,((((aa.refl ab w).alloc _).alloc _).alloc _).alloc _|>.same al⟩;. exact ad.alloc (ad.alloc (bP (by simp[go_sem])) _) _
  ·exact ad.alloc (bP (by simp[go_sem])) _
  ·exact bP (by simp[go_sem])
 have r0:=N.a.cell 0;have r1:=N.b.cell 0;have r2:=N.c.cell 0;have f0:=N.a.frozen 0;have f1:=N.b.frozen 0;have f2:=N.c.frozen 0;simp at r0 r1 r2;have HB:=VH N
 cases ar:Lx.split (aB es) (sl s)with
 |error x=>
  rw[ar]at O;subst O;have hy:=(Lx.wI ar).1.1;have hC:=(Lx.wI ar).1.2;have hx:(x.1 !=0)=true:=by simp;omega
  have HX:=VH (dc x ar);clear al N ar;go_wp2_with fail;go_region;all_goals go_wp2_with fail;have hE:=HB.out.err x.1 x.2;obtain⟨e0,e1,e2,e3⟩:=hE;simp[bodyPostD,Leaves,results,results9,go_sem,e0,e1,e2];exact⟨_,HX.out,e3,rfl⟩
 |ok L=>
  rw[ar]at O;obtain⟨ov,vs,rfl,hL⟩:=O;obtain⟨b5,cx⟩:=dd L ar;have sc:=(al.blk (ad.alloc (ad.alloc (ad.alloc (ad.new w 46 #[sv,lv]) _) _) _) id);have s0:=sc.cell 0;have s1:=sc.cell 1;have fv:=sc.lt;simp at s0 s1;obtain⟨oA,oc,rfl⟩:=aE hL.row;have HS:=VH (SD N al sc hL b5 cx);clear al N cx hL ar sc dd dc b';go_upto_block 0 with fail;obtain⟨K,hK,b0⟩:=HS.out;rw[<-hK];generalize e6:((w1.setCell ⟨w.heap.size+1+1,0,none⟩ (.int .i64 0)).setCell ⟨w.heap.size+1+1+1,0,none⟩ (.int .i64 0))=w2 at b0⊢;obtain⟨cz,dh,a',dq,hrel⟩:=b0 w2 rfl;clear b0;have HL:=VH dq;have H:=VH cz;have HF:=VH b5;have HR:=VH hrel;have ee:=VH ds;have bb:=VH dh;clear hK dh HS dq hrel cz b5 e6 f0 f1 f2 r0 r1 r2 s0 s1 fv HB ds;have hF:∀v W,(XA (.iface 92 v) 20 92 true).run VI W=.ok (.tuple #[v,.bool true]) W:=fun v W=>by kernel_rfl
  have hG:∀v W,(XA (.iface 94 v) 20 92 true).run VI W=.ok (.tuple #[.slice none 0 0,.bool false]) W:=fun v W=>by kernel_rfl
  have hN:∀v W,(XA (.iface 94 v) 20 94 true).run VI W=.ok (.tuple #[v,.bool true]) W:=fun v W=>by kernel_rfl
  go_wp2_with fail;go_loopw[38,11](fun i g wr=>∃(k G:Nat)(o:List Px.au)(Z:List (Value×List CQ))(ov gv:Value),i=.int .i64 k/\g=.int .i64 G/\dt w w2 K sv lv J L k G o Z ov gv wr)(fun i _ _=>L.length-(intOf i).toNat);case atStart=>exact⟨0,0,_,_,_,_,rfl,rfl,HR.out⟩
  case round=>
   obtain⟨k,G,o,Z,ov,gv,rfl,rfl,d⟩:=hrel;have hk:=d.le;by_cases a8:k<L.length
   ·obtain⟨a7,v,hA,hb,y0,y1,P⟩:=HL.out wr d.turns k a8;subst hA;have b4:=HF.out.each _ (List.getElem_mem a8);obtain⟨x,l,bd⟩:∃x l,L[k].1.map Px.dV=x::l:=by cases h:L[k].1 with|nil=>exact absurd h b4.1|cons y r=>exact⟨_,_,rfl⟩
    have dp:(x::l).length<=256:=by rw[<-bd,List.length_map];exact b4.2.1
    have bm:Px.gw (L[k].1.map Px.dV)=x.line:=by rw[bd];rfl
    rw[bd]at P;obtain⟨bw,ow,cw,rfl,f',ga,c',x0,x1,x2,-⟩:=P.at_.cons;clear x0 x2;have hi:=d.inv;rw[qL a8,bd]at hi;have HX:=VH (VJ bd (VJ dp bm));have eX:=d.num.1;have hl:=HF.out.many;clear b4 bd dp bm
    cases hd:Px.isDir (x::l)with
    |true=>
     have bc:=VH (fun(W:World)(ht:aa ab wr W)=>Kr (P.at_.still ht) hd);have dv:aa (fun a7=>w.heap.size<=a7) w wr:=(H.out.turns.mono fun _ _ e=>e.elim).trans d.turns fun a7 hb e=>by have :a7=w.heap.size+1:=e;show w.heap.size<=a7;omega
     have ea:=VH (fun(W:World)(ht:aa ab wr W)=>(U.spec _ _ _ _ _ hi hd) W K ov _ (dv.trans ht fun _ _ e=>e.elim) (by omega) (d.conds.still ht) (P.still ht));have j:=VH d;clear d hd hi P dv;go_wp2_with(go_at_call 26;refine(bc.out _ ((aa.refl _ wr).alloc _)).mono ?_;rintro e w'⟨rfl,rfl⟩);refine(ea.out _ ((aa.refl _ wr).alloc _)).mono ?_;rintro e w3(⟨o',hJ,rfl,fl,n,ht,ej⟩|⟨m,hQ,rfl,ht⟩)
     ·have H3:=VH (VJ n (VJ ht hJ));clear n ht ej hJ;go_wp2_with fail;go_roundw;case rel=>exact⟨k+1,G,o',Z,fl,gv,by go_num,rfl,j.out.dir bb.out a' a8 H3.out.2.2 ((aa.refl _ wr).alloc _) H3.out.1 H3.out.2.1⟩
      case measure=>simp[intOf];omega
     ·have H3:=VH ht;have a1:=VH hQ;clear ht hQ;go_wp2_with fail;have q:=VH (Tc H.out j.out bb.out a' ((aa.refl _ wr).alloc _) H3.out);refine leaves_cons (f:=25) (args:=#[.pointer (some ⟨w.heap.size+1,0,none⟩),.pointer (some ⟨w.heap.size+1+1,0,none⟩),.pointer (some ⟨w.heap.size+1+1+1,0,none⟩)]) (by simp) (by simp[go_sem]) ?_;refine(vD _ _ _ _ _ _ _ _ _ q.out.2.1 q.out.2.2.1 q.out.2.2.2).mono ?_;rintro e u w4⟨rfl,rfl,n⟩;have I:=n.ca.cell 0;have E:=n.cb.cell 0;have M:=n.cc.cell 0;simp at I E M;simp[Leaves,settle,results,results9,go_sem,I,E,M];exact wR H.out q.out.1 n a1.out
    |false=>
     have bc:=VH (fun(W:World)(ht:aa ab wr W)=>Kq (P.at_.still ht) hd);have a6:=VH (fun(W:World)(ht:aa ab wr W)=>S6 (d.conds.still ht) (U.few _ _ _ _ hi));have b6:aa ab w wr:=H.out.turns.trans d.turns fun a7 hb e=>by have :a7=w.heap.size+1:=e;omega
     have bl:=VH (fun(W:World)(ht:aa ab wr W)=>Ub (ee.out.still (b6.same ht)) _ (x::l) (P.at_.still ht) (by have :=HX.out.2.1;omega));have fy:=VH b6;clear b6
     cases S:Px.taken o with
     |false=>
      have j:=VH (VJ d (VJ hd S));clear d hd hi P;rw[S]at a6;clear S;go_wp2_with(first|(go_at_call 26;refine(bc.out _ ((aa.refl _ wr).alloc _)).mono ?_;rintro e w'⟨rfl,rfl⟩)|(go_at_call 28;refine(a6.out _ ((aa.refl _ wr).alloc _)).mono ?_;rintro e w3⟨rfl,ht⟩;have T3:=VH (((aa.refl ab wr).alloc _).same ht);have bs:=VH (ht.blk (ad.new wr _ _) id);clear ht));go_roundw;case rel=>exact⟨k+1,G,o,Z,ov,gv,by go_num,rfl,j.out.1.skip U a8 (by rw[HX.out.1];exact j.out.2.1) j.out.2.2 T3.out⟩
      case measure=>simp[intOf];omega
     |true=>
      cases av:Px.words (x::l)with
      |error m=>
       have hj:(m !=0)=true:=by rcases T_ av with rfl|rfl<;>decide
       have a1:=VH (U.bad _ _ _ _ _ _ hi hd S av);have j:=VH (VJ d (VJ hd (VJ S av)));clear d hd hi P;rw[S]at a6;rw[av]at bl;clear S av;have ef:=VH x1;go_wp2_with(first|(go_at_call 26;refine(bc.out _ ((aa.refl _ wr).alloc _)).mono ?_;rintro e w'⟨rfl,rfl⟩)|(go_at_call 28;refine(a6.out _ ((aa.refl _ wr).alloc _)).mono ?_;rintro e w3⟨rfl,ht⟩;have T3:=VH (((aa.refl ab wr).alloc _).same ht);have bs:=VH (ht.blk (ad.new wr _ _) id);clear ht)|(go_at_call 29;refine(bl.out _ T3.out).mono ?_;rintro e w4⟨ht,rfl⟩;simp only[E2];have T4:=VH (T3.out.same ht);have x1:=(T4.out.cell (p:=⟨bw,ow+1,none⟩) c' id).trans ef.out;have fX:=VO c' T4.out.size;clear ht));have q:=VH (wS H.out j.out.1 (T4.out.alloc (.cells #[.string ⟨#[]⟩,.slice none 0 0,.slice none 0 0,.int .i64 0] 53)));refine leaves_cons (f:=25) (args:=#[.pointer (some ⟨w.heap.size+1,0,none⟩),.pointer (some ⟨w.heap.size+1+1,0,none⟩),.pointer (some ⟨w.heap.size+1+1+1,0,none⟩)]) (by simp) (by simp[go_sem]) ?_;refine(vD _ _ _ _ _ _ _ _ _ q.out.2.1 q.out.2.2.1 q.out.2.2.2).mono ?_;rintro e u t⟨rfl,rfl,n⟩;have I:=n.ca.cell 0;have E:=n.cb.cell 0;have M:=n.cc.cell 0;simp at I E M;simp[Leaves,settle,results,results9,go_sem,I,E,M];exact wR H.out q.out.1 n a1.out
      |ok z=>
       have j:=VH (VJ d (VJ hd (VJ S av)));clear d hd hi P;rw[S]at a6;rw[av]at bl;clear S av;go_upto_region 20 with(first|(go_at_call 26;refine(bc.out _ ((aa.refl _ wr).alloc _)).mono ?_;rintro e w'⟨rfl,rfl⟩)|(go_at_call 28;refine(a6.out _ ((aa.refl _ wr).alloc _)).mono ?_;rintro e w3⟨rfl,ht⟩;have T3:=VH (((aa.refl ab wr).alloc _).same ht);have bs:=VH (ht.blk (ad.new wr _ _) id);clear ht)|(go_at_call 29;refine(bl.out _ T3.out).mono ?_;rintro e w4⟨ht,cv,rfl,db⟩;have T4:=VH ht;have cn:=VH (ht.blk bs.out id);obtain⟨fA,fc,aA,ac,rfl,hq⟩:=GS db;have HQ:=VH hq;clear ht db hq));obtain⟨t,E,dz,da,F⟩:=F_ j.out.1 T3.out T4.out cn.out HQ.out;rw[<-dz,<-da];have ai:=VH F;have dk:=F.2.1.cell 1;have ez:=F.2.1.lt;have cT:=(F.1.blk j.out.1.box id).cell 0;have ek:=(F.1.blk j.out.1.box id).frozen 0;have en:=(F.1.blk j.out.1.box id).lt;simp at dk cT;obtain⟨gA,gc,rfl⟩:=aE j.out.1.cD.outer;obtain⟨ig,ey,fe,ff,fi⟩:=info_parts A.J1;have hv:=eX;have cj:=VH (fun(W:World)(ht:aa ab t W)=>(j.out.1.still (F.1.same ht)).cD.outer);have ch:=VH (fun(W W2:World)(ht:aa ab t W)=>Jz (w2:=W2) j.out.1 bb.out a' (F.1.same ht) (ht.blk F.2.1 id));have b2:=VO j.out.1.conds.blk.lt F.1.size;clear T4 T3 cn bs HQ dz da F x1 y0 y1 a6 bc bl;generalize d':Z.length=zn at*;have b1:=VH d';generalize de:L[k].2=lg at*;have bA:=VH de;clear d' de;go_cut[38,80]from 38 to 104(fun b7 fs wx=>b7=.int .i64 k/\fs=.bool (decide (¬lg=G∨zn=0))/\wx=t)
       case first=>
        by_cases hg:lg=G
        ·have e1:((lg:Int)!=(G:Int))=false:=by simp[hg]
         by_cases hz:zn=0
         ·have e2:((zn:Int)==0)=true:=by simp[hz]
          go_wp2_with fail;go_meet;exact⟨rfl,by rw[decide_eq_true (.inr hz)],rfl⟩
         ·have e2:((zn:Int)==0)=false:=by simp[hz]
          go_wp2_with fail;go_meet;exact⟨rfl,by rw[decide_eq_false (by omega)],rfl⟩
        ·have e1:((lg:Int)!=(G:Int))=true:=by simp;omega
         go_wp2_with fail;go_meet;exact⟨rfl,by rw[decide_eq_true (.inl hg)],rfl⟩
       case rest=>
        obtain⟨rfl,rfl,e5⟩:=hcut;rw[e5];clear e5;go_upto_if 80 with fail;go_cut[11,38]from 38 to 104(fun fr b7 wx=>∃(g':Nat)(Z':List (Value×List CQ))(gl:Value)(l':List CQ)(bt:Value),fr=.int .i64 g'/\b7=.int .i64 k/\mC w w2 K sv lv J L k g' o Z' gl l' ov bt (z,.slice fA z.flags.length fc,.slice aA z.args.length ac) E wx)
        case first=>
         by_cases n:¬lg=G∨zn=0;. rw[decide_eq_true n];have HC:=VH n;clear n;have HM:=VH (fun(W W2:World)(bt:Value)(ht:aa ab t W)=>j.out.1.N0 (w2:=W2) (gv':=bt) (q:=(z,.slice fA z.flags.length fc,.slice aA z.args.length ac)) U bb.out a' a8 (by rw[HX.out.1];exact j.out.2.1) j.out.2.2.1 (by rw[HX.out.1];exact j.out.2.2.2) (by rw[bA.out,b1.out];exact HC.out) (ai.out.1.same ht) (ht.blk ai.out.2.2.1 id) ⟨ht.own ai.out.2.2.2.flags fun _ _=>id,ht.own ai.out.2.2.2.args fun _ _=>id⟩);rw[bA.out,b1.out]at HM;go_upto_region 21 with fail;refine wp_region_noPanic ?_;go_region_law(refine iw _ (by rfl) _ _ _ _ (by rfl) (K+1) 47 ig _ 1 24 underlying32 ey fe ff fi (by rfl) (.slice gA zn gc) zn (Z.map (·.1)) (by rfl) (by exact cj.out _ (by first|exact(aa.refl _ t).alloc _|exact((aa.refl _ t).drewN _).alloc _|exact(((aa.refl _ t).drewN 1).drewN _).alloc _)) _ 1 [.slice none 0 0] (by rfl) (by first|exact fC underlying32 (ad.new t _ _) 1 1 rfl (by intro u hu;simp at hu;rcases hu with rfl;rfl)) (by simp only[maxLen];omega) (by omega) (by simp;omega) ?_;intro A1 eg w6 bn X bx;have Y:=ch.out _ w6 (by first|exact(aa.refl _ t).alloc _|exact((aa.refl _ t).drewN _).alloc _|exact(((aa.refl _ t).drewN 1).drewN _).alloc _) X;have k0:=Y.1.cell 0;have k1:=Y.1.frozen 0;have k2:=Y.2.cell 1;have T:=VH (VJ (Ak X (by first|exact(aa.refl _ t).alloc _|exact((aa.refl _ t).drewN _).alloc _|exact(((aa.refl _ t).drewN 1).drewN _).alloc _)) (VJ bn X));clear bn X bx Y);all_goals apply NoPanic.normal;go_wp2_with fail;go_meet;exact⟨lg,Z,_,_,_,rfl,rfl,HM.out _ _ _ T.out.1 T.out.2.1 T.out.2.2⟩
         ·rw[decide_eq_false n];have HC:=VH n;clear n;go_wp2_with fail;go_meet;obtain⟨Z',gl,l',hz,hm⟩:=j.out.1.N2 (q:=(z,.slice fA z.flags.length fc,.slice aA z.args.length ac)) U a8 (by rw[HX.out.1];exact j.out.2.1) j.out.2.2.1 (by rw[HX.out.1];exact j.out.2.2.2) (by rw[bA.out];have :=HC.out;omega) (by rw[b1.out];have :=HC.out;omega) ai.out.1 ai.out.2.2.1 ai.out.2.2.2;exact⟨G,Z',gl,l',_,rfl,rfl,hm⟩
        case rest=>
         obtain⟨g',Z',gl,l',bt,rfl,rfl,C⟩:=hcut;obtain⟨gb,cp,rfl,ha,hf,et,hh⟩:=C.cD.last;obtain⟨lA,lc,e⟩:=aE (C.cD.inner (gl,l') (by simp));dsimp only at e et;subst e;obtain⟨ic,eu,e9,e',fa⟩:=info_parts A.JZ;have q0:=C.box.cell 0;have qf:=C.box.frozen 0;have ql:=C.box.lt;obtain⟨d0,d1,d2,d3,-,-,-,-⟩:=kM C.cmd;have dl:=C.cmd.lt;simp at q0;have ho:=C.num.1;have hs:=C.num.2.2;have eb:=VH (fun(W:World)(ht:aa ab wc W)=>ht.own (C.cD.inner _ (List.mem_append_right _ (List.mem_singleton.2 rfl))) fun _ _=>id);have ed:=VH (fun(W W2:World)(ht:aa ab wc W)=>Qi (w2:=W2) C bb.out a' ht);have HM:=VH (fun(W W2:World)(gl':Value)(ht:aa ab wc W)=>C.push (w2:=W2) (gl':=gl') bb.out a' ht);have fK:=VO b2 (Nat.le_refl _);have fR:=C.conds.blk.lt;clear C dk cT ek ez en cj ch ai;generalize fk:Z'.length+1=zs at*;have e7:((zs:Int)-1)=(Z'.length:Int):=by omega
         have e8:Z'.length<zs:=by omega
         generalize Z'.length=hR at*;generalize bm:l'.length=ln at*;have fx:=VH bm;clear fk bm;go_upto_region 23 with fail;refine wp_region_noPanic ?_;go_region_law(refine iw _ (by rfl) _ _ _ _ (by rfl) (K+1) 53 ic _ 4 72 underlying47 eu e9 e' fa (by rfl) (.slice lA ln lc) ln (dH l') (by rfl) (by exact eb.out _ (by first|exact(aa.refl _ wc).alloc _|exact((aa.refl _ wc).drewN _).alloc _|exact(((aa.refl _ wc).drewN 1).drewN _).alloc _)) _ 1 [ah z.name,.slice fA z.flags.length fc,.slice aA z.args.length ac,.int .i64 z.line] (by rfl) (by first|exact fC underlying47 (ad.new wc _ _) 1 1 rfl (by intro u hu;simp at hu;rcases hu with rfl|rfl|rfl|rfl<;>rfl)) (by simp only[maxLen];omega) (by omega) (by simp;omega) ?_;intro A1 eg w6 bn X bx;have Y:=ed.out _ w6 (by first|exact(aa.refl _ wc).alloc _|exact((aa.refl _ wc).drewN _).alloc _|exact(((aa.refl _ wc).drewN 1).drewN _).alloc _) X;have k0:=Y.1.cell 0;have k1:=Y.2.1;have k2:=Y.2.2;have T:=VH (VJ (Ak X (by first|exact(aa.refl _ wc).alloc _|exact((aa.refl _ wc).drewN _).alloc _|exact(((aa.refl _ wc).drewN 1).drewN _).alloc _)) (VJ bn (VJ X bx)));clear bn X bx Y)
         all_goals
          apply NoPanic.normal;go_wp2_with fail;go_roundw;case rel=>exact⟨k+1,g',o,_,ov,_,by go_num,rfl,HM.out _ _ _ T.out.1 T.out.2.1 T.out.2.2.1 (T.out.2.2.2.imp id fun e=>⟨_,e,T.out.1.size⟩)⟩
          case measure=>simp[intOf];omega
   ·obtain rfl:k=L.length:=by omega
    have hr:=d.inv;rw[List.drop_eq_nil_of_le (by simp)]at hr;have ep:=U.few _ _ _ _ hr;obtain⟨gA,gc,rfl⟩:=aE d.cD.outer;rcases List.eq_nil_or_concat o with rfl|⟨o',z,rfl⟩;. obtain⟨cA,fz,rfl⟩:=aE d.conds.own;have a1:=VH (U.fin _ _ hr);obtain⟨c0,c1,c2,-⟩:=dY d.conds.blk;have b2:=d.conds.blk.lt;have q:=VH (wS H.out d (aa.refl _ wr));have r0:=q.out.2.1.cell 0;have r1:=q.out.2.2.1.cell 0;have r2:=q.out.2.2.2.cell 0;have f0:=q.out.2.1.frozen 0;have f1:=q.out.2.2.1.frozen 0;have f2:=q.out.2.2.2.frozen 0;simp at r0 r1 r2 c2;have j:=VH d;clear d hr;go_wp2_with fail;refine leaves_cons (f:=25) (args:=#[.pointer (some ⟨w.heap.size+1,0,none⟩),.pointer (some ⟨w.heap.size+1+1,0,none⟩),.pointer (some ⟨w.heap.size+1+1+1,0,none⟩)]) (by simp) (by simp[go_sem]) ?_;refine(PJ _ _ (w.heap.size+1) (w.heap.size+1+1) (w.heap.size+1+1+1) rfl).mono ?_;rintro e u w4⟨rfl,rfl,n⟩;obtain⟨I,E,M,O⟩:=Ie H.out j.out a' n;simp[Leaves,settle,results,results9,go_sem,I,E,M];exact⟨_,a1.out,O⟩
    ·rw[List.concat_eq_append]at*;have a1:=VH (U.last _ _ _ _ hr);obtain⟨c0,c1,c2,-⟩:=dY d.conds.blk;obtain⟨cg,cp,rfl,gf,gz,d0,-,-,-,-,-⟩:=d.conds.last;have b2:=d.conds.blk.lt;have q:=VH (wS H.out d (aa.refl _ wr));rw[List.length_append,List.length_singleton]at ep;have j:=VH d;clear d hr;generalize e4:o'.length+1=os at*;have e7:((os:Int)-1)=(o'.length:Int):=by omega
     have e8:o'.length<os:=by omega
     generalize o'.length=hD at*;clear e4;go_wp2_with fail;refine leaves_cons (f:=25) (args:=#[.pointer (some ⟨w.heap.size+1,0,none⟩),.pointer (some ⟨w.heap.size+1+1,0,none⟩),.pointer (some ⟨w.heap.size+1+1+1,0,none⟩)]) (by simp) (by simp[go_sem]) ?_;refine(vD _ _ _ _ _ _ _ _ _ q.out.2.1 q.out.2.2.1 q.out.2.2.2).mono ?_;rintro e u w4⟨rfl,rfl,n⟩;have I:=n.ca.cell 0;have E:=n.cb.cell 0;have M:=n.cc.cell 0;simp at I E M;simp[Leaves,settle,results,results9,go_sem,I,E,M];exact wR H.out q.out.1 n a1.out
end
end Go.Proofs.YtmddhediccmhbaaGreatDoor
