/- BindBack. -/
import Derived.JoinedOf
import Derived.OpenShut
import Derived.Deep.Slices
import Derived.Deep.Fields
import Derived.Deep.Strs
import Derived.Test.YtmddhediccmhbaaGreatDoorA25
set_option linter.all false
set_option maxHeartbeats 400000000
set_option maxRecDepth 100000
namespace Go.Proofs.YtmddhediccmhbaaGreatDoor
open Go.RowKit
open Go.Proofs.Tryz
open And renaming intro→VJ
open DataW renaming trod→X7
open Lib renaming hid→VH
open List renaming getElem_mem→VZ
open List renaming length_map→V0
open Nat renaming lt_of_lt_of_le→VO
open Nat renaming zero_le→VQ
open Go.Proofs.Tryz renaming prog→VI
variable {w:World}{k n:Nat}{v:Value}{e:Int}{s:ByteArray}{E:List Value}{O:Option Addr}
section
open Lx(Bytes)
structure xJ(w:World)(v:Value)(l:List lF):Prop where
 at_:∃A c,v=.slice A l.length c/\(0<l.length->∃b off,A=some ⟨b,off,none⟩/\b<w.heap.size/\∀i,(hi:i<l.length)->∀j,j<7->w.cell? ⟨b,off+i*7+j,none⟩=(rN l[i])[j]?)
 ok:∀q∈l,q.tb.size<=maxLen/\(Lit.int .i64 q.c).wf=true/\(Lit.int .i64 q.m).wf=true/\q.nt.size<=maxLen
 few:l.length<=maxLen
def CL(q:lF)(G:List (List Px.ag)):Bx.Bd:=⟨sl q.tb,⟨q.c,q.m⟩,q.r,sl q.nt,G⟩
theorem O0(q:lF)(G:List (List Px.ag))(x:Value):b_ (CL q G) x=.agg #[.string q.tb,.int .i64 q.c,.int .i64 q.m,.bool q.r,.string q.nt,x]:=rfl
theorem FQ{T:List Bx.Bd}{b:Bx.Bd}(h:∀x∈T,Px.dm x.list)(c:Px.dm b.list):∀x∈kx T b e,Px.dm x.list:=by
 unfold kx;split
 ·intro x a;rcases Bx.Qs a with rfl|a;. exact c.strip
  ·exact h x a
 ·exact h
theorem FR{T:List Bx.Bd}{b:Bx.Bd}:(kx T b e).length<=T.length+1:=by
 unfold kx;split;. exact Du T _
 ·exact Nat.le_succ _
theorem Nl(a:500<s.size):(s.extract 0 500).size<=500:=by simp[ByteArray.size_extract];omega
theorem dQ.aC{w d:World}{B:Nat}{v:Value}{L:List BG}(h:dQ w B v L){S:Nat->Prop}(c:aa S w d)(a:∀b,S b->b<B):dQ d B v L:=⟨c.own h.own fun g k e=>by have :=(h.own.lt g k).1;have :=a g e;omega,fun x l=>by obtain⟨Z,i,j⟩:=h.each x l;exact⟨Z,i.aC c a,j⟩⟩
theorem dQ.at_{B:Nat}{L:List BG}(h:dQ w B (.slice O L.length n) L)(b:k<L.length):∃g,O=some ⟨g,0,none⟩/\g<w.heap.size/\w.cell? ⟨g,k*6,none⟩=some (ah L[k].1.table)/\w.cell? ⟨g,k*6+1,none⟩=some (.int .i64 L[k].1.key.code)/\w.cell? ⟨g,k*6+2,none⟩=some (.int .i64 L[k].1.key.aw)/\w.cell? ⟨g,k*6+3,none⟩=some (.bool L[k].1.rep)/\w.cell? ⟨g,k*6+4,none⟩=some (ah L[k].1.note)/\w.cell? ⟨g,k*6+5,none⟩=some (kN L[k])/\∃Z,aD w B (kN L[k]) Z/\aq Z=L[k].1.list:=by
 have c:∀g:Nat,O=some ⟨g,0,none⟩->∀j,j<6->w.cell? ⟨g,k*6+j,none⟩=(dE L[k])[j]?:=fun g e j i=>by subst e;rw[h.own.cellAt _ (by omega),qv L k j b i]
 rcases h.own.2 with⟨e,o⟩|⟨g,l,m,e,p,d,_⟩;. omega
 ·injection e with e1 e2 e3;subst e1;have a:=c g rfl;exact⟨g,rfl,(Array.getElem?_eq_some_iff.1 d).1,a 0 (by decide),a 1 (by decide),a 2 (by decide),a 3 (by decide),a 4 (by decide),a 5 (by decide),h.each _ (VZ b)⟩
theorem Cm{L:List BG}{T:List Bx.Bd}(h:L.map (·.1)=T)(a:k<L.length)(b:k<T.length):L[k].1=T[k]:=by subst h;simp
theorem Gc(dc:b9 w)(HT:∀d,dD d){B:Nat}(hF:FE w B)(eu:∀t:ByteArray,gL w t){I:List lF}(h:xJ w v I):Calls VI 3 #[v] w fun e w'=>e=.returned (.bool true)/\aa ab w w':=by
 obtain⟨A,hv,rfl,hc⟩:=h.at_;have HC:=VH (VJ hc h.ok);have av:=VH (fun W(ht:aa ab w W)=>dc.still ht);have dk:=VH (VJ HT (fun W(ht:aa ab w W)=>hF.still ht));have fz:=VH eu;have hE:(I.length:Int)<=9223372036854775807:=by have :=h.few;unfold maxLen at this;omega
 have dz:=VH (Gm dc);clear h hc dc hF HT eu;go_enter func3,ntmps3;go_wp2_with fail;refine dz.out.mono ?_;rintro e w1⟨rfl,e8⟩;have T1:=VH e8;clear e8 dz;go_wp2_with fail;refine(Eu w1).mono ?_;rintro e w2⟨P,M,rfl,e',hP,hM,e9⟩;have H2:=VH (VJ e' (VJ (T1.out.same e9) (VJ (show w.heap.size<=P from Nat.le_trans T1.out.size hP) (show w.heap.size<=M from Nat.le_trans T1.out.size hM))));clear e' hP hM e9 T1;go_wp2_with fail;refine(Eu w2).mono ?_;rintro e w3⟨P',n,rfl,fa,g',ef,dd⟩;have gA:M<w2.heap.size:=by obtain⟨bn,D,p⟩:=H2.out.1.cI;exact p.map.lt
 have Q:=VH (VJ (H2.out.1.still dd) (VJ fa (VJ (H2.out.2.1.same dd) (VJ H2.out.2.2.2 (show M<P'/\M<n/\w2.heap.size<=n from⟨by omega,by omega,ef⟩)))));clear fa g' ef dd gA H2;go_wp2_with fail;go_loopw[6](fun i wr=>∃(k:Nat)(T:List Bx.Bd),i=.int .i64 k/\k<=I.length/\k<=60/\bY wr P M T/\(∀b∈T,Px.dm b.list)/\T.length<=k/\aa (af M) w3 wr)(fun i _=>I.length-(intOf i).toNat);case atStart=>exact⟨0,[],rfl,VQ _,VQ _,Q.out.1,fun _ h=>(List.not_mem_nil h).elim,Nat.le_refl _,aa.refl _ _⟩
 case round=>
  obtain⟨k,T,rfl,hk,hD,fe,ey,e0,ht⟩:=hrel;have C:=VH (VJ fe (VJ ey (VJ e0 ht)));have bw:=VH (show aa ab w wr from Q.out.2.2.1.trans ht fun b F e=>by have e:b=M:=e;have :=Q.out.2.2.2.1;omega);clear fe ey e0 ht;by_cases hl:k<I.length/\k<60
  ·obtain⟨a1,hf⟩:=hl;obtain⟨b,off,rfl,F,et⟩:=HC.out.1 (by omega);have J:=fun j hj=>(bw.out.cell (p:=⟨b,off+k*7+j,none⟩) F id).trans (et k a1 j hj);have cA:=HC.out.2 _ (VZ a1);generalize I[k]=q at J cA;have q0:wr.cell? ⟨b,off+k*7,none⟩=some (.int .i64 q.kind):=J 0 (by decide);have q1:wr.cell? ⟨b,off+k*7+1,none⟩=some (.string q.tb):=J 1 (by decide);have q2:wr.cell? ⟨b,off+k*7+2,none⟩=some (.int .i64 q.c):=J 2 (by decide);have q3:wr.cell? ⟨b,off+k*7+3,none⟩=some (.int .i64 q.m):=J 3 (by decide);have q4:wr.cell? ⟨b,off+k*7+4,none⟩=some (.bool q.r):=J 4 (by decide);have q5:wr.cell? ⟨b,off+k*7+5,none⟩=some (.string q.nt):=J 5 (by decide);have q6:wr.cell? ⟨b,off+k*7+6,none⟩=some (.string q.tx):=J 6 (by decide);have hd:b<wr.heap.size:=VO F bw.out.size;have bs:=VH cA;have eX:(k:Int)<I.length:=by omega
   have hh:(k:Int)<60:=by omega
   clear J cA et;go_upto_region 10 with fail;have B4:=VH (ad.new wr 29 #[.int .i64 q.kind,.string q.tb,.int .i64 q.c,.int .i64 q.m,.bool q.r,.string q.nt,.string q.tx]);have T4:=VH ((aa.refl ab wr).alloc (.cells #[.int .i64 q.kind,.string q.tb,.int .i64 q.c,.int .i64 q.m,.bool q.r,.string q.nt,.string q.tx] 29));clear q0 q1 q2 q3 q4 q5 q6 hd F;generalize wr.alloc (.cells #[.int .i64 q.kind,.string q.tb,.int .i64 q.c,.int .i64 q.m,.bool q.r,.string q.nt,.string q.tx] 29)=w4 at*;generalize e1:wr.heap.size=o at*;have ga:=VH e1;clear e1;obtain⟨x0,x1,x2,x3,x4,x5,x6,xf,xz⟩:=rO B4.out;refine Or.elim (Classical.em (500<q.tx.size)) (fun bA=>?_) (fun bA=>?_);have ch:(500:Int)<q.tx.size:=by omega
   go_upto_region 12 with fail;have U:=VH (VJ (show ad _ o 29 #[.int .i64 q.kind,.string q.tb,.int .i64 q.c,.int .i64 q.m,.bool q.r,.string q.nt,.string (q.tx.extract 0 500)]from B4.out.aj 6 (.string (q.tx.extract 0 500))) (VJ (Nl bA) (T4.out.setCell (p:=⟨o,6,none⟩) (.inr (by have :=ga.out;show wr.heap.size<=o;omega)) (.string (q.tx.extract 0 500)))));clear x0 x1 x2 x3 x4 x5 x6 xf xz ch bA;generalize w4.setCell ⟨o,6,none⟩ (.string (q.tx.extract 0 500))=w5 at*;generalize q.tx.extract 0 500=fs at*;rotate_left;have ch:¬(500:Int)<q.tx.size:=by omega
   go_upto_region 12 with fail;have U:=VH (VJ B4.out (VJ (show q.tx.size<=500 by omega) T4.out));clear x0 x1 x2 x3 x4 x5 x6 xf xz ch bA;generalize w4=w5 at U⊢;generalize q.tx=fs at U⊢;rotate_left
   all_goals
    clear B4 T4;obtain⟨x0,x1,x2,x3,x4,x5,x6,-,xz⟩:=rO U.out.1;have aA:=VH (bw.out.same U.out.2.2);have gb:=VH (C.out.1.still U.out.2.2);have HM:=VH (Gk (w:=w5) (av.out _ aA.out) dk.out.1 (dk.out.2 _ aA.out) q.kind q.c q.m q.r q.tb q.nt fs U.out.2.1);go_wp2_with fail;refine HM.out.mono ?_;rintro e w6⟨Ag,cp,Z,rfl,hg,cx,O⟩;have a7:=VH (aA.out.same O);have fK:=VH cx;have ar:=VH (tw (gb.out.still O) (av.out _ a7.out) (CL q (aq Z)) hg.rd rfl cx.zN ⟨bs.out.1,bs.out.2.1,bs.out.2.2.1⟩ bs.out.2.2.2);have gf:=VH (U.out.2.2.same O);rw[O0]at ar;clear x0 x1 x2 x3 x4 x5 x6 xz HM hg cx O;go_wp2_with fail;refine ar.out.mono ?_;rintro e w7⟨rfl,fi,z⟩;have H7:=VH (VJ fi z);clear fi z ar;go_wp2_with fail;go_roundw;case rel=>exact⟨k+1,_,by go_num,a1,hf,H7.out.1,FQ C.out.2.1 fK.out,Nat.le_trans FR (Nat.succ_le_succ C.out.2.2.1),(C.out.2.2.2.same (gf.out.mono fun _ _ e=>e.elim)).same H7.out.2⟩
    case measure=>simp[intOf];omega
  ·have bx:=VH (show T.length<=60 by have :=C.out.2.2.1;omega);refine Or.elim (Classical.em (k<I.length)) (fun a1=>?_) (fun a1=>?_);have eX:(k:Int)<I.length:=by omega
   have hh:¬(k:Int)<60:=by omega
   go_wp2_with fail;rotate_left;have eX:¬(k:Int)<I.length:=by omega
   go_wp2_with fail;rotate_left
   all_goals
    generalize hi:wr=wa at*;clear hi;refine(yd C.out.1).mono ?_;rintro e w5⟨Ag,cp,L,rfl,da,b1,de⟩;have HB:=VH (show Bx.aH T/\∀b∈T,Bx.ly b from by obtain⟨bn,D,p⟩:=C.out.1.cI;exact⟨p.sorted,fun b F=>⟨p.bz b F,C.out.2.1 b F⟩⟩);have aA:=VH (bw.out.same de);have cc:=VH ((Q.out.2.1.Im C.out.2.2.2 (fun e=>by have e:P'=M:=e;have :=Q.out.2.2.2.2;omega) (fun e=>by have e:n=M:=e;have :=Q.out.2.2.2.2;omega)).still de);have b2:L.length=T.length:=by rw[<-b1,V0]
    have b7:=VH (Tk (av.out _ aA.out) da (by rw[b1];exact fun b F=>ly.PK (HB.out.2 b F)) (by have :=bx.out;omega));have dq:=VH (VJ da b1);have f':=VH (show n<w5.heap.size/\w.heap.size<=n from⟨by obtain⟨bn,D,p⟩:=cc.out.cI;exact p.map.lt,by have :=Q.out.2.2.2;omega⟩);have fX:=VH (show n<wa.heap.size from by obtain⟨bn,D,p⟩:=Q.out.2.1.cI;exact VO p.map.lt C.out.2.2.2.size);clear da de;rw[b2]at b7;rw[b2];go_wp2_with fail;refine b7.out.mono ?_;rintro e w6⟨u,rfl,hu,O⟩;rw[b1]at hu;have a7:=VH (aA.out.same O);have cg:=VH (cc.out.still O);have fR:=VH (dq.out.1.still O);have eb:=VH hu;clear hu O b7 aA cc;go_wp2_with fail;refine Or.elim (Classical.em ((Bx.print T).length<=65536)) (fun b0=>?_) (fun b0=>?_);rotate_left;have db:Lx.split (aB []) (sl u)=.error (2,0):=by rw[eb.out];show Lx.split [] _=_;rw[Lx.split,if_pos (by omega)]
    have cT:=C8 (s:=u) (sv:=.slice none 0 0) (lv:=.slice none 0 0) (av.out _ a7.out) (vd w6 _) fN (fun L' hL=>by rw[db]at hL;cases hL);rw[show Px.parse fN (aB []) (sl u)=.error (2,0)by rw[Px.parse,db];rfl]at cT;refine cT.mono ?_;rintro e w7⟨z,rfl⟩;have gn:=VH (a7.out.same z);clear z cT db b0;go_wp2_with fail;go_ret;exact⟨rfl,gn.out.alloc _⟩;obtain⟨L2,G',f1,f2,f3,f4,f5⟩:=Pj HB.out.2 (by have :=bx.out;omega) b0;refine(vy (av.out _ a7.out) eb.out f1 f2 f3 f4).mono ?_;rintro e w7⟨a6,a8,Z,rfl,hG,hp,z⟩;have a1:=Nx (C:=T.map Bx.o5) (by rw[hp,f5,List.map_map];rfl);obtain⟨bl,ej⟩:=a1;rw[V0]at bl;have HZ:=VH ej;have TA:=(aa.refl ab w7).alloc (.cells #[.slice a6 Z.length a8] 34);have dp:=VH ((aD.of hG).still TA);have ec:=VH ((a7.out.same z).same TA);have d':=VH ((cg.out.still z).still TA);have ds:=VH ((fR.out.still z).still TA);have B8:=VH (ad.new w7 34 #[.slice a6 Z.length a8]);have HK:=VH (show n<w7.heap.size/\n<w6.heap.size from⟨by obtain⟨bn,D,p⟩:=(cg.out.still z).cI;exact p.map.lt,by obtain⟨bn,D,p⟩:=cg.out.cI;exact p.map.lt⟩);clear hG hp z TA f1 f2 f3 f4 f5 ej b0;rw[bl]at B8 dp d' ec ds⊢;go_upto_region 15 with fail;generalize w7.alloc (.cells #[.slice a6 T.length a8] 34)=w8 at*;generalize w7.heap.size=K at*;have k0:w8.cell? ⟨K,0,none⟩=some (.slice a6 T.length a8):=B8.out.cell 0;have kz:=B8.out.lt;go_wp2_with fail;have hy:=bx.out;go_loopw[12](fun i wr=>∃l:Nat,i=.int .i64 l/\l<=T.length/\bY wr P' n (T.take l)/\aa (af n) w8 wr)(fun i _=>T.length-(intOf i).toNat);case atStart=>exact⟨0,rfl,VQ _,by rw[List.take_zero];exact d'.out,aa.refl _ _⟩
    case round=>
     clear k0 kz;obtain⟨l,rfl,hz,fk,y⟩:=hrel;have HS:=VH (VJ fk y);have k0:wr.cell? ⟨K,0,none⟩=some (.slice a6 T.length a8):=(y.blk B8.out (fun e=>by have e:K=n:=e;have :=HK.out.1;omega)).cell 0;have kz:K<wr.heap.size:=VO B8.out.lt y.size;have bt:=VH (show aa ab w wr from ec.out.trans y fun b F e=>by have e:b=n:=e;have :=f'.out.2;omega);clear fk y;by_cases X:l<T.length
     ·obtain⟨q,e4,c'⟩:=HZ.out l (by rw[bl];exact X) (by rw[V0];exact X);rw[List.getElem_map]at c';have G:aD wr w6.heap.size (.slice a6 Z.length a8) Z:=by rw[bl];exact dp.out.aC HS.out.2 fun b e=>by have e:b=n:=e;have :=HK.out.2;omega
      obtain⟨g,off,hA,hg,ep,b',o',c2,fr,ha,p0,p1,p2,p3,b5,b4⟩:=G.row (k:=l) (by rw[bl];exact X) e4;subst hA;rw[fr]at ep;obtain⟨e6,e5⟩:=Nu (HB.out.2 _ (VZ X)) c';have bb:=VH (HB.out.2 _ (VZ X));obtain⟨fA,fc,ez,-⟩:=b5.at_;obtain⟨rA,rc,ek⟩:=aE b4;rw[ez]at p1 b5;rw[ek]at p2 b4;have ca:=VH (Ew (av.out _ bt.out) e6 (fun t _ _=>(fz.out t).still bt.out) b5 b4);rw[e5]at ca
      have fx:=VH (show∀E,E=0->kx (T.take l) T[l] E=T.take (l+1)from fun E e=>by
       subst e;have e2:Bx.eo T[l]=T[l]:=by unfold Bx.eo;rw[bb.out.bz.bare]
       rw[tj,e2,Bx.Qq HB.out.1 X]);have fy:=VH (ym (T:=T.take l) bb.out.bz (by rw[List.length_take];have :=bx.out;omega));simp only[ah]at p0 ca;clear e6 e5 b5 b4 ez ek G e4 c' fr;generalize(⟨q.1.name.toArray⟩:ByteArray)=nm at*;generalize q.1.line=ln at*;generalize q.1.flags.length=fl at*;generalize q.1.args.length=al at*;generalize eg:T[l]=bk at*;obtain⟨t0,c0,m0,r0,H,en⟩:∃(t0:ByteArray)(c0 m0:Int)(r0:Bool)(H:ByteArray),∀x,b_ bk x=.agg #[.string t0,.int .i64 c0,.int .i64 m0,.bool r0,.string H,x]:=⟨_,_,_,_,_,fun _=>rfl⟩;have bc:=VH en;have hs:=VH eg;clear en eg;have b6:(l:Int)<T.length:=by omega
      go_wp2_with fail;refine ca.out.mono ?_;rintro e a'⟨gv,Z2,rfl,cz,e3,ai⟩;obtain⟨A2,c3,rfl⟩:=aE cz.outer;rw[bc.out];have TB:=(aa.refl ab a').alloc (.cells #[.string t0,.int .i64 c0,.int .i64 m0,.bool r0,.string H,.slice A2 Z2.length c3] 36);have fv:=VH (ad.new a' 36 #[.string t0,.int .i64 c0,.int .i64 m0,.bool r0,.string H,.slice A2 Z2.length c3]);have S:=VH (ai.same TB);have ar:=VH (tw (HS.out.1.still (ai.same TB)) (av.out _ (bt.out.same (ai.same TB))) bk ((cz.still TB).rd) (by rw[e3]) bb.out.bz.list bb.out.bz.ok (by have :=bb.out.bz.note;omega));rw[bc.out,fy.out,fx.out _ rfl]at ar;clear k0 kz p0 p1 p2 p3 ep hg ha cz e3 ai TB;go_upto_region 25 with fail;generalize a'.alloc (.cells #[.string t0,.int .i64 c0,.int .i64 m0,.bool r0,.string H,.slice A2 Z2.length c3] 36)=hn at*;generalize a'.heap.size=pb at*;obtain⟨x0,x1,x2,x3,x4,x5,-,xz⟩:=bM fv.out;go_wp2_with fail;refine ar.out.mono ?_;rintro e ho⟨rfl,ff,bm⟩;have dh:=VH (VJ ff bm);clear x0 x1 x2 x3 x4 x5 xz ff bm ar;go_wp2_with fail;go_roundw;case rel=>exact⟨l+1,by go_num,X,dh.out.1,(HS.out.2.same (S.out.mono fun _ _ e=>e.elim)).same dh.out.2⟩
      case measure=>simp[intOf];omega
     ·have ea:=VH (show bY wr P' n T from by have :=HS.out.1;rwa[List.take_of_length_le (by omega)]at this);have dv:=VH (ds.out.aC HS.out.2 fun b e=>by have e:b=n:=e;have :=fX.out;omega);have b6:¬(l:Int)<T.length:=by omega
      clear HS X;go_wp2_with fail;refine(yd ea.out).mono ?_;rintro e a'⟨hr,hx,L9,rfl,e7,cj,ai⟩;have cn:L9.length=T.length:=by rw[<-cj,V0]
      have HL:=VH (VJ (dv.out.still ai) (VJ dq.out.2 (VJ e7 cj)));have gl:=VH (bt.out.same ai);clear e7 cj ai dv ea k0 kz b6;rw[cn];go_wp2_with fail;go_loopw[16](fun i wr=>∃a:Nat,i=.int .i64 a/\a<=T.length/\aa ab a' wr)(fun i _=>T.length-(intOf i).toNat);case atStart=>exact⟨0,rfl,VQ _,aa.refl _ _⟩
      case round=>
       obtain⟨a,rfl,hC,y⟩:=hrel;by_cases Y:a<T.length
       ·obtain⟨g,hA,hg,m0,m1,m2,m3,m4,m5,Zm,cq,cw⟩:=(HL.out.1.still y).at_ (k:=a) (by rw[b2];exact Y);obtain⟨g9,gz,G,H,n1,n2,n3,n4,n5,Zn,cv,b3⟩:=(HL.out.2.2.1.still y).at_ (k:=a) (by rw[cn];exact Y);have ex:=Cm HL.out.2.1 (k:=a) (by rw[b2];exact Y) Y;have ee:=Cm HL.out.2.2.2 (k:=a) (by rw[cn];exact Y) Y;have eA:=(HB.out.2 _ (VZ Y)).fit.few;subst hA gz;rw[ex]at m0 m1 m2 m3 m4 cw;rw[ee]at H n1 n2 n3 n4 b3;have bd:=VH (fun W(ht:aa ab wr W)=>Gl (b:=T[a]) ((cv.rd).still ht) ((cq.rd).still ht) (b3.trans cw.symm) (by rw[b3];exact eA));generalize L[a]=x at m5 cq bd;generalize L9[a]=x9 at n5 cv bd;obtain⟨xb,xA,xn,xc⟩:=x;obtain⟨yb,yA,yn,yc⟩:=x9;simp only[kN]at m5 n5 bd;have bc:=VH (show∀x,b_ T[a] x=.agg #[.string ⟨T[a].table.toArray⟩,.int .i64 T[a].key.code,.int .i64 T[a].key.aw,.bool T[a].rep,.string ⟨T[a].note.toArray⟩,x]from fun _=>rfl);simp only[bc.out]at bd;simp only[ah]at m0 m4 H n4;clear bc ex ee eA cq cw cv b3;generalize(⟨T[a].table.toArray⟩:ByteArray)=v0 at*;generalize(⟨T[a].note.toArray⟩:ByteArray)=v4 at*;generalize T[a].key.code=vc at*;generalize T[a].key.aw=vm at*;generalize T[a].rep=vr at*;have cb:=VH y;clear y;have b6:(a:Int)<T.length:=by omega
        go_upto_region 33 with fail;go_region_with(first|(go_at_call 13;refine(OG _ v0 v4 vc vm vr xA xn xc).mono ?_;rintro e hn⟨rfl,N⟩;have H:=(N.cell (p:=⟨g9,_,none⟩) G id).trans H;have n1:=(N.cell (p:=⟨g9,_,none⟩) G id).trans n1;have n2:=(N.cell (p:=⟨g9,_,none⟩) G id).trans n2;have n3:=(N.cell (p:=⟨g9,_,none⟩) G id).trans n3;have n4:=(N.cell (p:=⟨g9,_,none⟩) G id).trans n4;have n5:=(N.cell (p:=⟨g9,_,none⟩) G id).trans n5;have nz:=VO G N.size;have S:=VH N;clear N)|(go_at_call 12;refine(bd.out _ (by first|exact S.out|exact((aa.refl ab wr).drewN 1).same S.out|exact(((aa.refl ab wr).drewN 1).same S.out).drewN 1|exact S.out.drewN 1)).mono ?_;rintro e ho⟨rfl,bm⟩;have ed:=VH bm;clear bm))
        all_goals
         go_wp2_with fail;go_roundw;case rel=>exact⟨a+1,by go_num,Y,(cb.out.same (by first|exact S.out|exact((aa.refl ab wr).drewN 1).same S.out)).same (by first|exact ed.out|exact((aa.refl ab _).drewN 1).same ed.out)⟩
         case measure=>simp[intOf];omega
       ·have b6:¬(a:Int)<T.length:=by omega
        have cb:=VH y;clear y;go_wp2_with fail;go_ret;exact⟨rfl,gl.out.same cb.out⟩
end
section
open Go.ChangeShapes Go.WideShapes Go.ChangeAt Go.RowKit Go.Deep
theorem Dx{α:Type}(P:Nat->α->Prop):∀n,(∀i,i<n->∃x,P i x)->∃l:List α,l.length=n/\∀i(h:i<l.length),P i l[i]
|0,_=>⟨[],rfl,fun i h=>absurd h (by simp)⟩
|n+1,h=>by
  obtain⟨l,a,c⟩:=Dx P n fun i hi=>h i (by omega);obtain⟨x,d⟩:=h n (by omega);refine⟨l++[x],by simp[a],fun i hi=>?_⟩;by_cases b:i<l.length;. rw[List.getElem_append_left b];exact c i b
  ·have :i=l.length:=by simp at hi;omega
   subst this;simpa[a]using d
theorem FP{W:World}{a:Addr}(e:k=0)(c:W.cell? (a.add k)=some v):∃b off,a=⟨b,off,none⟩/\b<W.heap.size:=by
 subst e;obtain⟨b,off,d⟩:=a;have i:d=none:=by cases d with|none=>rfl|some j=>simp[Addr.add,World.cell?]at c;split at c<;>simp at c
 subst i;refine⟨b,off,rfl,?_⟩;simp only[Addr.add_lit]at c;unfold World.cell? at c;split at c;. rename_i h;exact(Array.getElem?_eq_some_iff.1 h).1
 ·cases c
section
variable{H:Type}{enc:TypeId×Value->H}{W:World}
theorem O1{x:DataW H×List MemPlace}(h:X7 enc VI W 0 (fun _=>true) true k 29 E=some x):∃q:lF,E=(rN q).toList/\q.tb.size<=maxLen/\(Lit.int .i64 q.c).wf=true/\(Lit.int .i64 q.m).wf=true/\q.nt.size<=maxLen:=by
 obtain⟨ys,b,-,-,I,N,a⟩:=DataW.trod_struct underlying29 h;have K:VI.cellsOf 29=7:=by kernel_rfl
 have G:VI.cellsOf 3=1:=by kernel_rfl
 have M:VI.cellsOf 9=1:=by kernel_rfl
 have hB:VI.cellsOf 4=1:=by kernel_rfl
 have L:VI.cellsOf 27=2:=by kernel_rfl
 rw[K]at I;match E,I,ys,N with|[c0,c1,c2,c3,c4,c5,c6],_,[y0,y1,y2,y3,y4,y5],_=>have r:X7 enc VI W 0 (fun _=>true) true b 3 (([c0,c1,c2,c3,c4,c5,c6].drop 0).take (VI.cellsOf 3))=some y0:=a 0 _ rfl;have t:X7 enc VI W 0 (fun _=>true) true b 9 (([c0,c1,c2,c3,c4,c5,c6].drop 1).take (VI.cellsOf 9))=some y1:=a 1 _ rfl;have u:X7 enc VI W 0 (fun _=>true) true b 27 (([c0,c1,c2,c3,c4,c5,c6].drop 2).take (VI.cellsOf 27))=some y2:=a 2 _ rfl;have w:X7 enc VI W 0 (fun _=>true) true b 4 (([c0,c1,c2,c3,c4,c5,c6].drop 4).take (VI.cellsOf 4))=some y3:=a 3 _ rfl;have y:X7 enc VI W 0 (fun _=>true) true b 9 (([c0,c1,c2,c3,c4,c5,c6].drop 5).take (VI.cellsOf 9))=some y4:=a 4 _ rfl;have z:X7 enc VI W 0 (fun _=>true) true b 9 (([c0,c1,c2,c3,c4,c5,c6].drop 6).take (VI.cellsOf 9))=some y5:=a 5 _ rfl;rw[G]at r;rw[M]at t y z;rw[hB]at w;rw[L]at u;simp only[List.drop_zero,List.drop_succ_cons,List.take_succ_cons,List.take_zero]at r t u w y z;obtain⟨z0,z1,n,-,-,C,F⟩:=trod_struct2 underlying27 u;rw[G]at C F;simp only[List.drop_zero,List.drop_succ_cons,List.take_succ_cons,List.take_zero]at C F;obtain⟨O,d,-,w0⟩:=DataW.trod_int underlying3 r;obtain⟨P,i,-,Y⟩:=DataW.trod_int underlying3 C;obtain⟨Q,j,-,Z⟩:=DataW.trod_int underlying3 F;obtain⟨s1,e,-,U⟩:=DataW.trod_string underlying9 t;obtain⟨J,l,-⟩:=DataW.trod_bool underlying4 w;obtain⟨S,o,-,X⟩:=DataW.trod_string underlying9 y;obtain⟨T,p,-⟩:=DataW.trod_string underlying9 z;injection d with d;injection e with e;injection i with i;injection j with j;injection l with l;injection o with o;injection p with p;subst d e i j l o p;exact⟨⟨O,s1,P,Q,J,S,T⟩,rfl,U,Y,Z,X⟩
theorem O6{d:DataW H}{p:List MemPlace}(P:Value.okWide VI W .any k 22 v)(h:DataW.Trod enc VI W 0 (fun _=>true) true 22 v d p):∃l,xJ W v l:=by
 have F:VI.cellsOf 29=7:=by kernel_rfl
 obtain⟨U,K⟩:=h;obtain⟨A,w,y,rfl⟩:=okWide_slice underlying22 P;rcases open_slice underlying22 K with⟨e,-⟩|⟨a,len,S,Q,n,D,Pl,e,X,Y,I,N,-,x⟩;. simp[Value.cells]at e;obtain⟨rfl,rfl,rfl⟩:=e;exact⟨[],⟨_,_,rfl,fun h=>absurd h (by decide)⟩,fun q o=>(List.not_mem_nil o).elim,by decide⟩
 ·simp[Value.cells]at e;obtain⟨rfl,rfl,rfl⟩:=e;have Z:w<=Q:=by rw[N];split<;>omega
  rw[F]at x;have J:∀i,i<w->∃q:lF,(∀j,j<7->W.cell? (a.add (i*7+j))=(rN q)[j]?)/\q.tb.size<=maxLen/\(Lit.int .i64 q.c).wf=true/\(Lit.int .i64 q.m).wf=true/\q.nt.size<=maxLen:=by intro i r;obtain⟨T,C,E⟩:=x i (by omega);obtain⟨q,rfl,o⟩:=O1 E;obtain⟨-,-,G⟩:=World.cells?_some C;refine⟨q,fun j t=>?_,o⟩;have :=G j (by simpa[rN]using t);rw[Go.Deep.add_add]at this;simpa using this
  obtain⟨l,L,u⟩:=Dx _ w J;subst L;refine⟨l,⟨some a,y,rfl,fun O=>?_⟩,fun q o=>?_,by unfold maxLen at I⊢;omega⟩;. have z:=(u 0 O).1 0 (by decide);obtain⟨b,off,rfl,M⟩:=FP rfl (z.trans rfl);refine⟨b,off,rfl,M,fun i r j t=>?_⟩;have :=(u i r).1 j t;rw[Addr.add_lit,<-Nat.add_assoc]at this;exact this
  ·obtain⟨i,r,rfl⟩:=List.getElem_of_mem o;exact(u i r).2
end
end
end Go.Proofs.YtmddhediccmhbaaGreatDoor
