/- a directive. -/
import Derived.Test.YtmddhediccmhbaaGreatDoorA15
set_option linter.all false
set_option maxHeartbeats 400000000
set_option maxRecDepth 100000
namespace Go.Proofs.YtmddhediccmhbaaGreatDoor
open Go.RowKit
open Go.Proofs.Tryz
open Lib renaming hid→VH
open List renaming concat_eq_append→W_
open List renaming length_append→VK
open List renaming length_singleton→VY
open Nat renaming lt_of_lt_of_le→VO
open Go.Proofs.Tryz renaming prog→VI
open Value renaming slice→Wr
variable {w w' U:World}{k n m i j g:Nat}{v u z:Value}{e r:Int}{B:Bool}{O:Option Addr}
section
open Lx(Bytes)
theorem ia(a:Int)(h:w.cell? ⟨k,0,none⟩=some (.int .i64 e))(c:k<w.heap.size):Calls VI 52 #[.bool false,.int .i64 a,.pointer (some ⟨k,0,none⟩)] w fun b w'=>b=.panicked (og a e)/\w=w':=by go_enter func52,ntmps52;go_wp2_with fail;exact⟨rfl,rfl,rfl⟩
theorem S5{o:List Px.au}(h:aR w k v u z o)(a:o.length<=1000):Calls VI 28 #[.pointer (some ⟨k,0,none⟩)] w fun e b=>e=.returned (.bool (Px.taken o))/\∃n,b=w.drewN n:=by
 rcases List.eq_nil_or_concat o with rfl|⟨d,c,rfl⟩;. exact wP h
 ·rw[W_]at h⊢;refine(Eo h (by rw[W_,VK]at a;omega)).mono ?_;rintro e b⟨rfl,a⟩;exact⟨by simp[Px.taken],a⟩
def jG(w:World)(K:Nat)(c:Value)(line:Int)(e:Ending)(d:World):Prop:=(∃a:List Px.au,a.length<=16/\my w K (.slice none 0 0) (.slice none 0 0) c a e d)∨∃m,e=.panicked (og m line)/\aa (fun b=>b=K∨c.ownBlock=some b) w d
structure fG(w:World)(K:Nat)(ov:Value)(line:Int)(o1:List Px.au)(ov1:Value)(wx:World):Prop where
 conds:aR wx K (.slice none 0 0) (.slice none 0 0) ov1 o1
 few:o1.length<=16
 turns:aa (fun b=>b=K∨ov.ownBlock=some b) w wx
 at_:ov1.ownBlock=ov.ownBlock∨∃b,ov1.ownBlock=some b/\w.heap.size<=b
 line:ad wx w.heap.size 3 #[.int .i64 line]
theorem fG.iz{line:Int}{d:List Px.au}(h:fG w k v line d u w')(c:aa (fun b=>u.ownBlock=some b) w' U):jG w k v line (.panicked (og r line)) U:=by
 refine .inr ⟨r,rfl,h.turns.trans c fun b i e=>?_⟩;rcases h.at_ with a|⟨f,a,j⟩;. exact .inr (a▸e)
 ·rw[a]at e;injection e with e;omega
theorem fG.done{line:Int}{d c:List Px.au}(h:fG w k v line d u w')(i:aa (fun b=>u.ownBlock=some b) w' U)(f:aR U k (.slice none 0 0) (.slice none 0 0) u c)(n:c.length=d.length):jG w k v line (.returned (.tuple #[])) U:=by
 refine .inl ⟨c,by have :=h.few;omega,rfl,u,f,h.turns.trans i fun b l e=>?_,h.at_⟩;rcases h.at_ with a|⟨j,a,m⟩;. exact .inr (a▸e)
 ·rw[a]at e;injection e with e;omega
theorem aR.put{o:List Px.au}{c:Px.au}(h:aR w k (.slice none 0 0) (.slice none 0 0) (.slice (some ⟨g,0,none⟩) (n+1) m) (o++[c]))(d:o.length=n)(e:k+1<=g):(∀v,aR (w.setCell ⟨g,n*5+4,none⟩ (.bool v)) k (.slice none 0 0) (.slice none 0 0) (.slice (some ⟨g,0,none⟩) (n+1) m) (o++[⟨c.line,c.gT,c.now,c.jB,v⟩]))/\(∀v,aR (w.setCell ⟨g,n*5+2,none⟩ (.bool v)) k (.slice none 0 0) (.slice none 0 0) (.slice (some ⟨g,0,none⟩) (n+1) m) (o++[⟨c.line,c.gT,v,c.jB,c.last⟩]))/\∀v,aR (w.setCell ⟨g,n*5+3,none⟩ (.bool v)) k (.slice none 0 0) (.slice none 0 0) (.slice (some ⟨g,0,none⟩) (n+1) m) (o++[⟨c.line,c.gT,c.now,v,c.last⟩]):=by
 subst d;have b:k≠g:=by omega
 have a:=h.own;rw[VK,VY,lI]at a;refine⟨fun v=>⟨h.blk.an (p:=⟨g,_,none⟩) b _,?_⟩,fun v=>⟨h.blk.an (p:=⟨g,_,none⟩) b _,?_⟩,fun v=>⟨h.blk.an (p:=⟨g,_,none⟩) b _,?_⟩⟩;all_goals rw[VK,VY,lI]
 ·have :=iQ a (o.length*5+4) (.bool v);rw[set_tail]at this;exact this
 ·have :=iQ a (o.length*5+2) (.bool v);rw[set_tail]at this;exact this
 ·have :=iQ a (o.length*5+3) (.bool v);rw[set_tail]at this;exact this
theorem fG.two{line:Int}{o:List Px.au}{c e:Px.au}(h:fG w k v line (o++[c]) (.slice (some ⟨g,0,none⟩) (n+1) m) w')(d:o.length=n)(a:k+1<=g)(i:aa (fun b=>(Wr (some ⟨g,0,none⟩) (n+1) m).ownBlock=some b) w' U)(f:aR U k (.slice none 0 0) (.slice none 0 0) (.slice (some ⟨g,0,none⟩) (n+1) m) (o++[e]))(v2 v3:Bool):jG w k v line (.returned (.tuple #[])) ((U.setCell ⟨g,n*5+2,none⟩ (.bool v2)).setCell ⟨g,n*5+3,none⟩ (.bool v3)):=h.done ((i.setCell (p:=⟨g,n*5+2,none⟩) (.inl rfl) (.bool v2)).setCell (p:=⟨g,n*5+3,none⟩) (.inl rfl) (.bool v3)) ((((f.put d a).2.1 v2).put d a).2.2 v3) (by simp)
theorem fG.three{line:Int}{o:List Px.au}{c:Px.au}(h:fG w k v line (o++[c]) (.slice (some ⟨g,0,none⟩) (n+1) m) w')(e:o.length=n)(d:k+1<=g)(a:Nat)(v4 v2 v3:Bool):jG w k v line (.returned (.tuple #[])) ((((w'.drewN a).setCell ⟨g,n*5+4,none⟩ (.bool v4)).setCell ⟨g,n*5+2,none⟩ (.bool v2)).setCell ⟨g,n*5+3,none⟩ (.bool v3)):=h.two e d (((aa.refl (fun b=>(Wr (some ⟨g,0,none⟩) (n+1) m).ownBlock=some b) w').drewN a).setCell (p:=⟨g,n*5+4,none⟩) (.inl rfl) (.bool v4)) (((h.conds.still ((aa.refl ab w').drewN a)).put e d).1 v4) v2 v3
theorem N3{a:Option Addr}{line:Int}{o:List Px.au}(q:o.length=n)(x:n<16)(d:aa ab w w')(c:U.ownsRow (k+1) 100 5 (.slice a (n+1) i) (n+1) (iK o++[.int .i64 line,.bool B,.bool false,.bool false,.bool false]))(r:ad U k 87 #[.slice none 0 0,.slice none 0 0,.slice O n m])(h:aa (fun b=>(Wr O n m).ownBlock=some b) w' U)(l:(Wr a (n+1) i).ownBlock=(Wr O n m).ownBlock∨(Wr a (n+1) i).ownBlock=some j)(f:w.heap.size<=j)(t:ad U w.heap.size 3 #[.int .i64 line])(y:k<w.heap.size):fG w k (.slice O n m) line (o++[⟨line,B,false,false,false⟩]) (.slice a (n+1) i) (U.setCell ⟨k,2,none⟩ (.slice a (n+1) i)):=by
 subst q;refine⟨⟨r.aj 2 _,?_⟩,by rw[VK,VY];omega,?_,?_,t.an (p:=⟨k,2,none⟩) (by dsimp only;omega) _⟩;. rw[VK,VY,lI];refine((aa.refl (af k) U).setCell (p:=⟨k,2,none⟩) (.inl rfl) _).own c fun g p e=>?_;have :=(c.lt g p).1;have u:g=k:=e;omega
 ·exact((d.mono (S':=fun b=>b=k∨(Wr O o.length m).ownBlock=some b) fun _ _ e=>e.elim).same (h.mono fun b _ e=>.inr e)).setCell (p:=⟨k,2,none⟩) (.inl (.inl rfl)) _
 ·rcases l with e|e;. exact .inl e
  ·exact .inr ⟨_,e,f⟩
theorem uF{o:List Px.au}(h:o≠[]):∃a c,o=a++[c]:=by
 rcases List.eq_nil_or_concat o with e|⟨a,c,e⟩;. exact absurd e h
 ·exact⟨a,c,by rw[e,W_]⟩
theorem aR.pop{o:List Px.au}{c:Px.au}(h:aR w k (.slice none 0 0) (.slice none 0 0) (.slice (some ⟨g,0,none⟩) (n+1) m) (o++[c]))(u:o.length=n)(z:k+1<=g):aR (w.setCell ⟨k,2,none⟩ (.slice (some ⟨g,0,none⟩) n m)) k (.slice none 0 0) (.slice none 0 0) (.slice (some ⟨g,0,none⟩) n m) o:=by
 subst u;refine⟨h.blk.aj 2 _,?_⟩;have d:=h.own;rw[VK,VY,lI]at d;refine((aa.refl (af k) w).setCell (p:=⟨k,2,none⟩) (.inl rfl) _).own (S:=af k) ?_ fun b a e=>?_
 ·rcases d.2 with⟨e,l⟩|⟨j,f,i,e,a,t,x,p,q,r⟩;. exact absurd l (by omega)
  ·refine⟨lJ o,.inr ⟨j,f,i,?_,a,t,by omega,p,q,?_⟩⟩;. injection e with e1 e2 e3;rw[e1,e3]
   ·have :=congrArg (List.take (o.length*5)) r;rw[List.take_left' (lJ o),List.take_take,Nat.min_eq_left (by omega)]at this;exact this
 ·have y:g=b:=by simpa[Value.ownBlock]using a
  have e2:b=k:=e;omega
theorem H_(HT:∀d,dD d){B:Nat}(hF:FE w' B)(bf:B<=k){o:List Px.au}{x:Px.PW}{l:List Px.PW}(h:aR w' k (.slice none 0 0) (.slice none 0 0) v o)(aM:o.length<=16)(hd:aU w u (x::l))(M:aa ab w w')(aV:w.heap.size<=k)(hx:x.text=Px.jA)(bp:l.length<=256):Calls VI 27 #[.pointer (some ⟨k,0,none⟩),u] w' (jG w' k v x.line):=by
 obtain⟨b,off,cw,rfl,bl,av,m,O,x1,x2,aj⟩:=hd.cons;have bk:b<k:=by omega
 have O:=(M.cell (p:=⟨b,off,none⟩) m id).trans O;have x1:=(M.cell (p:=⟨b,off+1,none⟩) m id).trans x1
 have HY:=VH (fun(hl:l.length=1)=>show∃y:ByteArray,w'.cell? ⟨b,off+3,none⟩=some (.string y)from by
  obtain⟨y,rfl⟩:∃y,l=[y]:=by match l,hl with|[y],_=>exact⟨y,rfl⟩
  rw[if_neg (by simp at av;omega)]at aj;obtain⟨C,bx,ba,f,-,-,ai,y0,-,-,-⟩:=aj.cons;injection f with f;injection f with f;injection f with e1 e2;subst e1 e2;exact⟨_,(M.cell (p:=⟨b,off+3,none⟩) m id).trans y0⟩);have m:b<w'.heap.size:=VO m M.size;rw[hx]at O;simp only[ah]at O;obtain⟨q,r,rfl⟩:=aE h.own;obtain⟨c0,c1,c2,L⟩:=dY h.blk;have aO:=h.blk.lt;have H:=VH h;have aF:=VH (fun W(ht:aa (fun b=>k<=b) w' W)=>hF.aC ht fun b m hK=>by omega);have aL:=VH HT;have j:=VH (show fG w' k (.slice q o.length r) x.line o (.slice q o.length r) ((w'.alloc (.cells #[.int .i64 x.line] 3)).drew)from⟨h.still (((aa.refl ab w').alloc _).drewN 1),aM,(((aa.refl _ w').alloc _).drewN 1),.inl rfl,(ad.new w' _ _).drewN 1⟩);have I:=VH (((aa.refl ab w').alloc (.cells #[.int .i64 x.line] 3)).drewN 1);change Hid (aa ab w' (w'.alloc (.cells #[.int .i64 x.line] 3)).drew)at I;generalize aT:l.length=ll at*;clear h hd aj x2 av M aV hx aT hF HT;go_enter func27,ntmps27;go_wp2_with fail;go_region;generalize(w'.alloc (.cells #[.int .i64 x.line] 3)).drew=a at*;clear c0 c1 c2 L O x1;obtain⟨c0,c1,c2,L⟩:=dY j.out.conds.blk;have Z:a.cell? ⟨w'.heap.size,0,none⟩=some (.int .i64 x.line):=j.out.line.cell 0;have N:=j.out.line.lt;have aP:=j.out.conds.blk.lt;by_cases hq:ll=1
 ·subst hq;obtain⟨y,y0⟩:=HY.out rfl;have y1:=(I.out.cell (p:=⟨b,off+3,none⟩) m id).trans y0;clear y0;by_cases hs:o.length<16
  ·obtain⟨i0,aS,a7,aB,a8⟩:=info_parts A.AD;have a1:((o.length:Nat):Int)<16:=by omega
   have aK:=VH (fun(W:World)(ht:aa ab a W)=>S5 (j.out.conds.still ht) (by omega));have aJ:=VH (fun(W:World)(ht:aa ab a W)=>(j.out.conds.still ht).own);have aH:=VH (fun(W:World)(ht:aa ab a W)=>ht.blk j.out.conds.blk id);have aI:=VH (fun(W:World)(ht:aa ab a W)=>ht.blk j.out.line id);have aX:Hid (some k≠(Wr q o.length r).ownBlock):=VH fun e=>by have :=(H.out.own.lt _ e.symm).1;omega
   have aY:Hid (some w'.heap.size≠(Wr q o.length r).ownBlock):=VH fun e=>by have :=(H.out.own.lt _ e.symm).2;omega
   have bs:=I.out.size;generalize az:o.length=n at*;have ak:=VH az;generalize a6:Px.taken o=tk at*;clear az a6;have bg:∀n' o',((a.drewN n').alloc o').cell? ⟨k,2,none⟩=some (.slice q n r):=fun n' o'=>((((aa.refl ab a).drewN n').alloc o').cell (p:=⟨k,2,none⟩) aP id).trans c2;go_upto_region 6 with(go_at_call 52;refine(cZ _ _ _).mono ?_;rintro t p⟨rfl,rfl⟩);go_cut[7](fun s7 wx=>s7=.bool true/\∃A1 K tk,fG w' k (.slice q n r) x.line (o++[⟨x.line,tk,false,false,false⟩]) (.slice A1 (n+1) K) wx);case first=>go_region_law(first|(refine iw _ (by rfl) _ _ _ _ (by rfl) (k+1) 100 i0 _ 5 16 underlying85 aS a7 aB a8 (by rfl) (.slice q n r) n (iK o) (by rfl) (by exact aJ.out _ (by first|exact(aa.refl _ a).alloc _|exact((aa.refl _ a).drewN _).alloc _|exact(((aa.refl _ a).drewN 1).drewN _).alloc _)) _ 1 [.int .i64 x.line,.bool tk,.bool false,.bool false,.bool false] (by rfl) (by first|exact fC underlying85 (ad.new a _ _) 1 1 rfl (by intro bz hu;simp at hu;rcases hu with rfl|rfl|rfl|rfl|rfl<;>rfl)) (by simp only[maxLen];omega) (by omega) (by simp;omega) ?_;intro A1 K w2 ay X ao;have Y:=(aH.out _ (by first|exact(aa.refl _ a).alloc _|exact((aa.refl _ a).drewN _).alloc _|exact(((aa.refl _ a).drewN 1).drewN _).alloc _)).grown X aX.out;have kl:=(aI.out _ (by first|exact(aa.refl _ a).alloc _|exact((aa.refl _ a).drewN _).alloc _|exact(((aa.refl _ a).drewN 1).drewN _).alloc _)).grown X aY.out;have k2:=Y.cell 2;have kf:=Y.frozen 2;have an:=aa.grown (S:=fun b=>(Wr q n r).ownBlock=some b) (w:=a) (by first|exact(aa.refl _ a).alloc _|exact((aa.refl _ a).drewN _).alloc _|exact(((aa.refl _ a).drewN 1).drewN _).alloc _) X (fun _ _ e=>e);have HN:=VH (N3 ak.out hs I.out ay Y an ao (by simp;omega) kl aO);clear ay X ao Y an kl)|(go_simp;go_at_call 28;refine(aK.out _ (by first|exact aa.refl _ a|exact(aa.refl _ a).drewN 1)).mono ?_;rintro e p⟨rfl,nd,rfl⟩));all_goals go_wp2_with fail;go_meet;exact⟨rfl,_,_,_,HN.out⟩
   case rest=>
    obtain⟨rfl,A1,K,ae,i⟩:=hcut;have HM:=VH i;have F:=VH (ak.out);generalize hc:(⟨x.line,ae,false,false,false⟩:Px.au)=c at i;have HC:=VH hc;clear hc;obtain⟨g,cp,e1,V,bm,P,Q,S,T,U,D⟩:=i.conds.last;rw[F.out]at e1 P Q S T U;injection e1 with e1 e2 e3;subst e1 e3;clear e2;clear c0 c1 c2 L Z N;obtain⟨c0,c1,c2,L⟩:=dY i.conds.blk;have Z:wc.cell? ⟨w'.heap.size,0,none⟩=some (.int .i64 x.line):=i.line.cell 0;have N:=i.line.lt;have bj:=i.conds.blk.lt;have f2:=D (n*5+2);have f3:=D (n*5+3);have f4:=D (n*5+4);have E:=VH i;have aN:=i.few;rw[VK,VY,F.out]at aN
    have aW:¬(b=k∨(Wr q n r).ownBlock=some b):=by
     rintro(e|e);. omega
     ·have :=(H.out.own.lt _ e).1;omega
    have y2:=((i.turns.cell (p:=⟨b,off+3,none⟩) m aW).trans (I.out.cell (p:=⟨b,off+3,none⟩) m id).symm).trans y1;have aq:b<wc.heap.size:=VO m i.turns.size;clear y1;have aB:(((n+1:Nat):Int)-1)=(n:Int):=by omega
    clear HM i;clear D;go_upto_region 8 with(go_at_call 52;refine(cZ _ _ _).mono ?_;rintro t p⟨rfl,rfl⟩);go_quiet(fail);obtain⟨ln,ar,nw,ws,la⟩:=c;obtain⟨rfl,rfl,rfl,rfl,rfl⟩:x.line=ln/\ae=ar/\false=nw/\false=ws/\false=la:=by simpa using HC.out
    dsimp only at*;by_cases aw:ae=true
    ·subst aw;go_upto_region 15 with(go_at_call 52;refine(cZ _ _ _).mono ?_;rintro t p⟨rfl,rfl⟩);have G:=((((E.out.conds.still ((aa.refl ab wc).drewN nq)).put F.out V).1 false).put F.out V).2.1 true;have z:=(((aa.refl (fun b=>(Wr (some ⟨g,0,none⟩) (n+1) K).ownBlock=some b) wc).drewN nq).setCell (p:=⟨g,n*5+4,none⟩) (.inl rfl) (.bool false)).setCell (p:=⟨g,n*5+2,none⟩) (.inl rfl) (.bool true);generalize(((wc.drewN nq).setCell ⟨g,n*5+4,none⟩ (.bool false)).setCell ⟨g,n*5+2,none⟩ (.bool true))=w4 at G z⊢
     have aZ:∀C,C<g->¬((Wr (some ⟨g,0,none⟩) (n+1) K).ownBlock=some C):=fun C ai e=>by
      have e2:g=C:=by injection e
      omega
     have y4:=(z.cell (p:=⟨b,off+3,none⟩) aq (aZ b (by omega))).trans y2;have bu:=VO aq z.size;obtain⟨bb,bc,bd,-⟩:=dY G.blk;have bh:=G.blk.lt
     have aG:=VH (aF.out w4 ((E.out.turns.mono fun C ai e=>by
      rcases e with e|e;. omega
      ·have :=(H.out.own.lt _ e).1;omega).same (z.mono fun C ai e=>by
      have e2:g=C:=by injection e
      omega)));have al:=z.cell (p:=⟨w'.heap.size,0,none⟩) N (fun e=>a_ E.out.conds.own E.out.line (by decide) (by rw[e]));have l4:=al.trans Z;have aD:=VO N z.size;have af:=VH (And.intro G z);clear G z P Q S T U f2 f3 f4 c0 c1 c2 L y2 al Z N;go_region_with(go_at_call 53;refine(zE aL.out (aG.out.still (by first|exact aa.refl _ w4|exact(aa.refl _ w4).drewN 1)) _).mono ?_;rintro e w5⟨aA,tx,ke,rfl⟩;have H5:=VH aA;clear aA)
     all_goals
      have J:=((aa.refl ab w4).drewN 1).same H5.out;have C5:=af.out.1.still J;have l5:=(J.cell (p:=⟨w'.heap.size,0,none⟩) aD id).trans l4;have bw:=VO aD J.size;obtain⟨g',a',f,-,bn,P,Q,S,T,U,D⟩:=C5.last;obtain rfl:g=g':=by injection f with f;injection f with f;injection f
      rw[F.out]at P Q S T U;have f2:=D (n*5+2);have f3:=D (n*5+3);have ag:=VH (And.intro C5 J);clear C5 J D f l4;by_cases ax:ke=0;. subst ax;go_wp2_with(first|(go_at_call 52;refine(cZ _ _ _).mono ?_;rintro t p⟨rfl,rfl⟩)|(go_at_call 54;refine(lq _ _).mono ?_;rintro t p⟨⟨bt,rfl⟩,rfl⟩));all_goals go_end0;exact E.out.two F.out V (af.out.2.same (ag.out.2.mono fun _ _ e=>e.elim)) ag.out.1 _ _
      ·have bo:(ke==0)=false:=by simpa using ax
       go_wp2_with fail;refine(ia _ (by assumption) (by assumption)).mono ?_;rintro t p⟨rfl,rfl⟩;try go_wp2_with fail
       exact⟨rfl,E.out.iz (af.out.2.same (ag.out.2.mono fun _ _ e=>e.elim))⟩
    ·have aQ:ae=false:=by simpa using aw
     subst aQ;all_goals go_wp2_with(go_at_call 52;refine(cZ _ _ _).mono ?_;rintro t p⟨rfl,rfl⟩);go_end0;exact E.out.three F.out V _ _ _ _
  ·have a1:decide (((o.length:Nat):Int)<16)=false:=decide_eq_false (by omega);go_upto_region 5 with(go_at_call 52;refine(cZ _ _ _).mono ?_;rintro t p⟨rfl,rfl⟩);go_wp2_with fail;refine(ia _ (by assumption) (by assumption)).mono ?_;rintro t p⟨rfl,rfl⟩;try go_wp2_with fail
   exact⟨rfl,j.out.iz (aa.refl _ _)⟩
 ·have bq:(((ll:Int)+1)==2)=false:=by simp;omega
  have br:¬((ll:Int)+1)=2:=by omega
  go_wp2_with fail;refine(ia _ (by assumption) (by assumption)).mono ?_;rintro t p⟨rfl,rfl⟩;try go_wp2_with fail
  exact⟨rfl,j.out.iz (aa.refl _ _)⟩
theorem Hx(HT:∀d,dD d){B:Nat}(hF:FE w' B)(aI:B<=k){o:List Px.au}{x:Px.PW}{l:List Px.PW}(h:aR w' k (.slice none 0 0) (.slice none 0 0) v o)(aw:o.length<=16)(hd:aU w u (x::l))(F:aa ab w w')(az:w.heap.size<=k)(hx:x.text=Px.lf)(aS:l.length<=256):Calls VI 27 #[.pointer (some ⟨k,0,none⟩),u] w' (jG w' k v x.line):=by
 obtain⟨b,off,cw,rfl,aN,ag,q,G,x1,x2,Z⟩:=hd.cons;have aM:b<k:=by omega
 have G:=(F.cell (p:=⟨b,off,none⟩) q id).trans G;have x1:=(F.cell (p:=⟨b,off+1,none⟩) q id).trans x1
 have HY:=VH (fun(hl:l.length=1)=>show∃y:ByteArray,w'.cell? ⟨b,off+3,none⟩=some (.string y)from by
  obtain⟨y,rfl⟩:∃y,l=[y]:=by match l,hl with|[y],_=>exact⟨y,rfl⟩
  rw[if_neg (by simp at ag;omega)]at Z;obtain⟨p,a1,aD,a,-,-,X,Q,-,-,-⟩:=Z.cons;injection a with a;injection a with a;injection a with e1 e2;subst e1 e2;exact⟨_,(F.cell (p:=⟨b,off+3,none⟩) q id).trans Q⟩);have q:b<w'.heap.size:=VO q F.size;rw[hx]at G;simp only[ah]at G;obtain⟨A0,E,rfl⟩:=aE h.own;obtain⟨c0,c1,c2,V⟩:=dY h.blk;have aK:=h.blk.lt;have H:=VH h;have ao:=VH (fun W(ht:aa (fun b=>k<=b) w' W)=>hF.aC ht fun b q hK=>by omega);have av:=VH HT;have z:=VH (show fG w' k (.slice A0 o.length E) x.line o (.slice A0 o.length E) ((w'.alloc (.cells #[.int .i64 x.line] 3)).drew)from⟨h.still (((aa.refl ab w').alloc _).drewN 1),aw,(((aa.refl _ w').alloc _).drewN 1),.inl rfl,(ad.new w' _ _).drewN 1⟩);have T1:=VH (((aa.refl ab w').alloc (.cells #[.int .i64 x.line] 3)).drewN 1);change Hid (aa ab w' (w'.alloc (.cells #[.int .i64 x.line] 3)).drew)at T1;generalize ay:l.length=ll at*;clear h hd Z x2 ag F az hx ay hF HT;go_enter func27,ntmps27;go_wp2_with fail;go_region;generalize(w'.alloc (.cells #[.int .i64 x.line] 3)).drew=A at*;clear c0 c1 c2 V G x1;obtain⟨c0,c1,c2,V⟩:=dY z.out.conds.blk;have l0:A.cell? ⟨w'.heap.size,0,none⟩=some (.int .i64 x.line):=z.out.line.cell 0;have lz:=z.out.line.lt;have aL:=z.out.conds.blk.lt;by_cases hq:ll=1
 ·subst hq;obtain⟨y,Q⟩:=HY.out rfl;have y1:=(T1.out.cell (p:=⟨b,off+3,none⟩) q id).trans Q;clear Q;by_cases Y:o=[]
  ·subst Y;simp only[List.length_nil]at*;go_upto_region 7 with(go_at_call 52;refine(cZ _ _ _).mono ?_;rintro f i⟨rfl,rfl⟩);go_wp2_with fail;refine(ia _ (by assumption) (by assumption)).mono ?_;rintro f i⟨rfl,rfl⟩;try go_wp2_with fail
   exact⟨rfl,z.out.iz (aa.refl _ _)⟩
  ·obtain⟨o,c,rfl⟩:=uF Y;rw[VK,VY]at*;generalize ak:o.length=n at*;have t:=VH ak;clear ak Y;have N:=z.out;obtain⟨g,cp,e1,O,aO,I,J,K,L,M,r⟩:=N.conds.last;rw[t.out]at e1 I J K L M;injection e1 with e1 e2 e3;subst e1 e3;clear e2;have f2:=r (n*5+2);have f3:=r (n*5+3);have f4:=r (n*5+4);have j:=VH N;have ax:=N.few;rw[VK,VY,t.out]at ax
   have aT:¬(b=k∨(Wr (some ⟨g,0,none⟩) (n+1) E).ownBlock=some b):=by
    rintro(e|e);. omega
    ·have :=(H.out.own.lt _ e).1;omega
   have y2:=y1;have af:b<A.heap.size:=VO q N.turns.size;clear y1;have aX:(((n+1:Nat):Int)-1)=(n:Int):=by omega
   clear r;go_upto_region 8 with(go_at_call 52;refine(cZ _ _ _).mono ?_;rintro f i⟨rfl,rfl⟩);go_quiet(fail);obtain⟨ln,ar,nw,ws,la⟩:=c;dsimp only at*
   cases la with
   |true=>
    go_upto_region 11 with fail;go_wp2_with fail;refine(ia _ (by assumption) (by assumption)).mono ?_;rintro f i⟨rfl,rfl⟩;try go_wp2_with fail
    exact⟨rfl,j.out.iz ((aa.refl _ A).drewN _)⟩
   |false=>
    by_cases ai:ar=true/\ws=false
    ·obtain⟨rfl,rfl⟩:=ai;go_upto_region 15 with(go_at_call 52;refine(cZ _ _ _).mono ?_;rintro f i⟨rfl,rfl⟩);have C:=((((j.out.conds.still ((aa.refl ab A).drewN nq)).put t.out O).1 false).put t.out O).2.1 true;have m:=(((aa.refl (fun b=>(Wr (some ⟨g,0,none⟩) (n+1) E).ownBlock=some b) A).drewN nq).setCell (p:=⟨g,n*5+4,none⟩) (.inl rfl) (.bool false)).setCell (p:=⟨g,n*5+2,none⟩) (.inl rfl) (.bool true);generalize(((A.drewN nq).setCell ⟨g,n*5+4,none⟩ (.bool false)).setCell ⟨g,n*5+2,none⟩ (.bool true))=P at C m⊢
     have aA:∀p,p<g->¬((Wr (some ⟨g,0,none⟩) (n+1) E).ownBlock=some p):=fun p X e=>by
      have e2:g=p:=by injection e
      omega
     have y4:=(m.cell (p:=⟨b,off+3,none⟩) af (aA b (by omega))).trans y2;have aY:=VO af m.size;obtain⟨aF,aG,aH,-⟩:=dY C.blk;have aJ:=C.blk.lt
     have aq:=VH (ao.out P ((j.out.turns.mono fun p X e=>by
      rcases e with e|e;. omega
      ·have :=(H.out.own.lt _ e).1;omega).same (m.mono fun p X e=>by
      have e2:g=p:=by injection e
      omega)));have ae:=m.cell (p:=⟨w'.heap.size,0,none⟩) lz (fun e=>a_ j.out.conds.own j.out.line (by decide) (by rw[e]));have l4:=ae.trans l0;have an:=VO lz m.size;have T:=VH (And.intro C m);clear C m I J K L M f2 f3 f4 c0 c1 c2 V y2 ae l0 lz;go_region_with(go_at_call 53;refine(zE av.out (aq.out.still (by first|exact aa.refl _ P|exact(aa.refl _ P).drewN 1)) _).mono ?_;rintro e w5⟨al,tx,ke,rfl⟩;have H5:=VH al;clear al)
     all_goals
      have D:=((aa.refl ab P).drewN 1).same H5.out;have S:=T.out.1.still D;have l5:=(D.cell (p:=⟨w'.heap.size,0,none⟩) an id).trans l4;have aZ:=VO an D.size;obtain⟨g',aB,a,-,aP,I,J,K,L,M,r⟩:=S.last;obtain rfl:g=g':=by injection a with a;injection a with a;injection a
      rw[t.out]at I J K L M;have f2:=r (n*5+2);have f3:=r (n*5+3);have U:=VH (And.intro S D);clear S D r a l4;by_cases aj:ke=0;. subst aj;go_wp2_with(first|(go_at_call 52;refine(cZ _ _ _).mono ?_;rintro f i⟨rfl,rfl⟩)|(go_at_call 54;refine(lq _ _).mono ?_;rintro f i⟨⟨bt,rfl⟩,rfl⟩));all_goals go_end0;exact j.out.two t.out O (T.out.2.same (U.out.2.mono fun _ _ e=>e.elim)) U.out.1 _ _
      ·have aQ:(ke==0)=false:=by simpa using aj
       go_wp2_with fail;refine(ia _ (by assumption) (by assumption)).mono ?_;rintro f i⟨rfl,rfl⟩;try go_wp2_with fail
       exact⟨rfl,j.out.iz (T.out.2.same (U.out.2.mono fun _ _ e=>e.elim))⟩
    ·cases ar<;>cases ws<;>first|exact absurd ⟨rfl,rfl⟩ ai|skip
     all_goals go_wp2_with(go_at_call 52;refine(cZ _ _ _).mono ?_;rintro f i⟨rfl,rfl⟩);go_end0;exact j.out.three t.out O _ _ _ _
 ·have aV:(((ll:Int)+1)==2)=false:=by simp;omega
  have aW:¬((ll:Int)+1)=2:=by omega
  go_wp2_with fail;refine(ia _ (by assumption) (by assumption)).mono ?_;rintro f i⟨rfl,rfl⟩;try go_wp2_with fail
  exact⟨rfl,z.out.iz (aa.refl _ _)⟩
theorem Hy{o:List Px.au}{x:Px.PW}{l:List Px.PW}(h:aR w' k (.slice none 0 0) (.slice none 0 0) v o)(Q:o.length<=16)(E:aU w u (x::l))(j:aa ab w w')(W:w.heap.size<=k)(G:x.text=Px.lh)(ak:l.length<=256):Calls VI 27 #[.pointer (some ⟨k,0,none⟩),u] w' (jG w' k v x.line):=by
 obtain⟨b,off,cw,rfl,ai,T,m,f,y,x2,Y⟩:=E.cons;have ag:b<k:=by omega
 have f:=(j.cell (p:=⟨b,off,none⟩) m id).trans f;have y:=(j.cell (p:=⟨b,off+1,none⟩) m id).trans y;have m:b<w'.heap.size:=VO m j.size;rw[G]at f;simp only[ah]at f;obtain⟨z,C,rfl⟩:=aE h.own;obtain⟨c0,c1,c2,D⟩:=dY h.blk;have ae:=h.blk.lt;have H:=VH h;have a:=VH (show fG w' k (.slice z o.length C) x.line o (.slice z o.length C) ((w'.alloc (.cells #[.int .i64 x.line] 3)).drew)from⟨h.still (((aa.refl ab w').alloc _).drewN 1),Q,(((aa.refl _ w').alloc _).drewN 1),.inl rfl,(ad.new w' _ _).drewN 1⟩);have J:=VH (((aa.refl ab w').alloc (.cells #[.int .i64 x.line] 3)).drewN 1);change Hid (aa ab w' (w'.alloc (.cells #[.int .i64 x.line] 3)).drew)at J;generalize V:l.length=ll at*;clear h E Y x2 T j W G V;go_enter func27,ntmps27;go_wp2_with fail;go_region;generalize(w'.alloc (.cells #[.int .i64 x.line] 3)).drew=I at*;clear c0 c1 c2 D f y;obtain⟨c0,c1,c2,D⟩:=dY a.out.conds.blk;have l0:I.cell? ⟨w'.heap.size,0,none⟩=some (.int .i64 x.line):=a.out.line.cell 0;have lz:=a.out.line.lt;have af:=a.out.conds.blk.lt;by_cases X:ll=0
 ·subst X;by_cases t:o=[]
  ·subst t;simp only[List.length_nil]at*;go_upto_region 7 with(go_at_call 52;refine(cZ _ _ _).mono ?_;rintro d e⟨rfl,rfl⟩);go_wp2_with fail;refine(ia _ (by assumption) (by assumption)).mono ?_;rintro d e⟨rfl,rfl⟩;try go_wp2_with fail
   exact⟨rfl,a.out.iz (aa.refl _ _)⟩
  ·obtain⟨o,c,rfl⟩:=uF t;rw[VK,VY]at*;generalize F:o.length=n at*;have q:=VH F;clear F t;have r:=a.out;obtain⟨g,cp,i,U,aj,L,M,N,O,P,p⟩:=r.conds.last;rw[q.out]at i L M N O P;injection i with i e2 e3;subst i e3;clear e2;have f2:=p (n*5+2);have f3:=p (n*5+3);have f4:=p (n*5+4);have A:=VH r;have S:=r.few;rw[VK,VY,q.out]at S;have ao:(((n+1:Nat):Int)-1)=(n:Int):=by omega
   clear p;go_upto_region 8 with(go_at_call 52;refine(cZ _ _ _).mono ?_;rintro d e⟨rfl,rfl⟩);go_quiet(fail);obtain⟨ln,K,nw,ws,Z⟩:=c;dsimp only at*
   cases Z with
   |true=>
    go_upto_region 11 with fail;go_wp2_with fail;refine(ia _ (by assumption) (by assumption)).mono ?_;rintro d e⟨rfl,rfl⟩;try go_wp2_with fail
    exact⟨rfl,A.out.iz ((aa.refl _ I).drewN _)⟩
   |false=>cases K<;>cases ws;all_goals go_wp2_with(go_at_call 52;refine(cZ _ _ _).mono ?_;rintro d e⟨rfl,rfl⟩);go_end0;exact A.out.three q.out U _ _ _ _
 ·have al:(((ll:Int)+1)==1)=false:=by simp;omega
  have an:¬((ll:Int)+1)=1:=by omega
  go_wp2_with fail;refine(ia _ (by assumption) (by assumption)).mono ?_;rintro d e⟨rfl,rfl⟩;try go_wp2_with fail
  exact⟨rfl,a.out.iz (aa.refl _ _)⟩
theorem Hz{o:List Px.au}{x:Px.PW}{l:List Px.PW}(h:aR w' k (.slice none 0 0) (.slice none 0 0) v o)(T:o.length<=16)(G:aU w u (x::l))(d:aa ab w w')(Y:w.heap.size<=k)(K:x.text=Px.nV)(av:l.length<=256):Calls VI 27 #[.pointer (some ⟨k,0,none⟩),u] w' (jG w' k v x.line):=by
 obtain⟨b,off,cw,rfl,al,V,j,m,D,x2,ae⟩:=G.cons;have ak:b<k:=by omega
 have m:=(d.cell (p:=⟨b,off,none⟩) j id).trans m;have D:=(d.cell (p:=⟨b,off+1,none⟩) j id).trans D;have j:b<w'.heap.size:=VO j d.size;rw[K]at m;simp only[ah]at m;obtain⟨E,p,rfl⟩:=aE h.own;obtain⟨c0,c1,c2,F⟩:=dY h.blk;have ai:=h.blk.lt;have H:=VH h;have a:=VH (show fG w' k (.slice E o.length p) x.line o (.slice E o.length p) ((w'.alloc (.cells #[.int .i64 x.line] 3)).drew)from⟨h.still (((aa.refl ab w').alloc _).drewN 1),T,(((aa.refl _ w').alloc _).drewN 1),.inl rfl,(ad.new w' _ _).drewN 1⟩);have L:=VH (((aa.refl ab w').alloc (.cells #[.int .i64 x.line] 3)).drewN 1);change Hid (aa ab w' (w'.alloc (.cells #[.int .i64 x.line] 3)).drew)at L;generalize X:l.length=ll at*;clear h G ae x2 V d Y K X;go_enter func27,ntmps27;go_wp2_with fail;go_region;generalize(w'.alloc (.cells #[.int .i64 x.line] 3)).drew=C at*;clear c0 c1 c2 F m D;obtain⟨c0,c1,c2,F⟩:=dY a.out.conds.blk;have l0:C.cell? ⟨w'.heap.size,0,none⟩=some (.int .i64 x.line):=a.out.line.cell 0;have lz:=a.out.line.lt;have aj:=a.out.conds.blk.lt;by_cases Z:ll=0
 ·subst Z;by_cases z:o=[]
  ·subst z;simp only[List.length_nil]at*;go_upto_region 7 with(go_at_call 52;refine(cZ _ _ _).mono ?_;rintro t A⟨rfl,rfl⟩);go_wp2_with fail;refine(ia _ (by assumption) (by assumption)).mono ?_;rintro t A⟨rfl,rfl⟩;try go_wp2_with fail
   exact⟨rfl,a.out.iz (aa.refl _ _)⟩
  ·obtain⟨o,c,rfl⟩:=uF z;rw[VK,VY]at*;generalize J:o.length=n at*;have f:=VH J;clear J z;have y:=a.out;obtain⟨g,cp,i,W,ar,M,N,O,P,Q,q⟩:=y.conds.last;rw[f.out]at i M N O P Q;injection i with i e2 e3;subst i e3;clear e2;have f2:=q (n*5+2);have f3:=q (n*5+3);have f4:=q (n*5+4);have r:=VH y;have U:=y.few;rw[VK,VY,f.out]at U;have az:(((n+1:Nat):Int)-1)=(n:Int):=by omega
   clear q;go_upto_region 8 with(go_at_call 52;refine(cZ _ _ _).mono ?_;rintro t A⟨rfl,rfl⟩);go_quiet(fail)
   have an:n+1<=p:=by
    have I:=r.out.conds.own;rw[VK,VY,f.out]at I;rcases I.2 with⟨e,d⟩|⟨g',af,ag,e,j,aq,S,-⟩;. exact absurd d (by omega)
    ·injection e with i e2 e3;rw[e3];exact S
   have ao:(n:Int)<=(p:Int):=by omega
   have ay:IntKind.i64.wrap (n:Int)=n:=IntWalk.i64_in _ (by omega);go_upto_region 10 with fail;go_region;all_goals go_wp2_with fail;go_end0;exact .inl ⟨o,by have :=f.out;omega,rfl,_,(r.out.conds.still ((aa.refl ab C).drewN _)).pop f.out W,(r.out.turns.same (((aa.refl ab C).drewN _).mono fun _ _ e=>e.elim)).setCell (p:=⟨k,2,none⟩) (.inl (.inl rfl)) _,.inl rfl⟩
 ·have aw:(((ll:Int)+1)==1)=false:=by simp;omega
  have ax:¬((ll:Int)+1)=1:=by omega
  go_wp2_with fail;refine(ia _ (by assumption) (by assumption)).mono ?_;rintro t A⟨rfl,rfl⟩;try go_wp2_with fail
  exact⟨rfl,a.out.iz (aa.refl _ _)⟩
theorem Hw(m:∀d,dD d){B:Nat}(p:FE w' B)(n:B<=k){o:List Px.au}{l:List Px.PW}(h:aR w' k (.slice none 0 0) (.slice none 0 0) v o)(b:o.length<=16)(c:aU w u l)(a:aa ab w w')(i:w.heap.size<=k)(j:Px.isDir l=true)(q:l.length<=256):Calls VI 27 #[.pointer (some ⟨k,0,none⟩),u] w' (jG w' k v (Px.gw l)):=by
 cases l with
 |nil=>cases j
 |cons x l=>
  have f:l.length<=256:=by simp at q;omega
  simp only[Px.isDir,Bool.and_eq_true,Bool.or_eq_true,beq_iff_eq]at j;rcases j.2 with((e|e)|e)|e;. exact H_ m p n h b c a i e f
  ·exact Hx m p n h b c a i e f
  ·exact Hy h b c a i e f
  ·exact Hz h b c a i e f
end
end Go.Proofs.YtmddhediccmhbaaGreatDoor
